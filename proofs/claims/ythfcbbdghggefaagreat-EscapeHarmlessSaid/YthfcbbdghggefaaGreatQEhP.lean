/-
  What is written of scalars is harmless, plain Lean: of its bytes none is one of four, and each & begins one of five. No program is named here.
-/
import Derived.Test.YthfcbbdghggefaaGreatQEsH
import Derived.Laws.Cover4
namespace Go.Proofs.YthfcbbdghggefaaGreat
open Go.Proofs Go.Um Go.RowKit
def encL (z : Int) : List UInt8 := (Utf8.encode z).data.toList
theorem runes_from (ns : List Int) : ∀ s : ByteArray, (ns.foldl (fun r n => r ++ Utf8.encode n) s).data.toList = s.data.toList ++ ns.flatMap encL := by
  induction ns with
  | nil => intro s; simp
  | cons n ns ih =>
    intro s
    rw [List.foldl_cons, ih, List.flatMap_cons, ← List.append_assoc]
    congr 1
theorem runes_list (ns : List Int) : (runesBytes ns).data.toList = ns.flatMap encL := by
  unfold runesBytes
  rw [runes_from]
  rfl
def fiveH : List (List UInt8) := [[38, 97, 109, 112, 59], [38, 108, 116, 59], [38, 103, 116, 59], [38, 113, 117, 111, 116, 59], [38, 35, 51, 57, 59]]
def fineU (b : UInt8) : Bool := b != 60 && b != 62 && b != 34 && b != 39
def harmB : List UInt8 → Bool
  | [] => true
  | b :: t => fineU b && (b != 38 || fiveH.any fun h => h.isPrefixOf (b :: t)) && harmB t
theorem harm_app {l r : List UInt8} (h : ∀ b ∈ l, fineU b = true ∧ b ≠ 38) (hr : harmB r = true) : harmB (l ++ r) = true := by
  induction l with
  | nil => exact hr
  | cons b t ih =>
    have hb := h b (List.mem_cons_self ..)
    rw [List.cons_append, harmB, ih fun c hc => h c (List.mem_cons_of_mem _ hc), hb.1]
    simp [hb.2]
theorem ent_harm {z : Int} (hz : z ∈ fiveP) {r : List UInt8} (hr : harmB r = true) : harmB ((escF z).flatMap encL ++ r) = true := by
  simp only [fiveP, List.mem_cons, List.not_mem_nil, or_false] at hz
  have e38 : (escF 38).flatMap encL = [38, 97, 109, 112, 59] := by decide +kernel
  have e60 : (escF 60).flatMap encL = [38, 108, 116, 59] := by decide +kernel
  have e62 : (escF 62).flatMap encL = [38, 103, 116, 59] := by decide +kernel
  have e34 : (escF 34).flatMap encL = [38, 113, 117, 111, 116, 59] := by decide +kernel
  have e39 : (escF 39).flatMap encL = [38, 35, 51, 57, 59] := by decide +kernel
  rcases hz with rfl | rfl | rfl | rfl | rfl
  · rw [e38]; simp [harmB, hr, fineU, fiveH, List.isPrefixOf]
  · rw [e60]; simp [harmB, hr, fineU, fiveH, List.isPrefixOf]
  · rw [e62]; simp [harmB, hr, fineU, fiveH, List.isPrefixOf]
  · rw [e34]; simp [harmB, hr, fineU, fiveH, List.isPrefixOf]
  · rw [e39]; simp [harmB, hr, fineU, fiveH, List.isPrefixOf]
theorem u8_ne {n k : Nat} (hn : n < 256) (hk : k < 256) (h : n ≠ k) : UInt8.ofNat n ≠ UInt8.ofNat k := fun he => h (by
  have := congrArg UInt8.toNat he
  simpa [UInt8.toNat_ofNat', Nat.mod_eq_of_lt hn, Nat.mod_eq_of_lt hk] using this)
theorem fine_of {n : Nat} (hn : n < 256) (h : n ≠ 60 ∧ n ≠ 62 ∧ n ≠ 34 ∧ n ≠ 39 ∧ n ≠ 38) : fineU (UInt8.ofNat n) = true ∧ UInt8.ofNat n ≠ 38 := by
  refine ⟨?_, u8_ne hn (show 38 < 256 by omega) h.2.2.2.2⟩
  have h1 := u8_ne hn (show 60 < 256 by omega) h.1
  have h2 := u8_ne hn (show 62 < 256 by omega) h.2.1
  have h3 := u8_ne hn (show 34 < 256 by omega) h.2.2.1
  have h4 := u8_ne hn (show 39 < 256 by omega) h.2.2.2.1
  unfold fineU
  rw [Bool.and_eq_true, Bool.and_eq_true, Bool.and_eq_true]
  exact ⟨⟨⟨bne_iff_ne.2 h1, bne_iff_ne.2 h2⟩, bne_iff_ne.2 h3⟩, bne_iff_ne.2 h4⟩
theorem enc_fine {z : Int} (hz : scalP z) (h : z ∉ fiveP) : ∀ b ∈ encL z, fineU b = true ∧ b ≠ 38 := by
  simp only [fiveP, List.mem_cons, List.not_mem_nil, or_false, not_or] at h
  unfold scalP at hz
  have hv : Utf8.valid z = true := by
    unfold Utf8.valid
    simp only [Bool.or_eq_true, Bool.and_eq_true, decide_eq_true_eq]
    omega
  intro b hb
  unfold encL Utf8.encode at hb
  simp only [hv, if_true] at hb
  split at hb
  · change b ∈ [_] at hb
    simp only [List.mem_cons, List.not_mem_nil, or_false] at hb
    subst hb
    exact fine_of (by omega) (by omega)
  · split at hb
    · change b ∈ [_, _] at hb
      simp only [List.mem_cons, List.not_mem_nil, or_false] at hb
      rcases hb with rfl | rfl <;> exact fine_of (by omega) (by omega)
    · split at hb
      · change b ∈ [_, _, _] at hb
        simp only [List.mem_cons, List.not_mem_nil, or_false] at hb
        rcases hb with rfl | rfl | rfl <;> exact fine_of (by omega) (by omega)
      · change b ∈ [_, _, _, _] at hb
        simp only [List.mem_cons, List.not_mem_nil, or_false] at hb
        rcases hb with rfl | rfl | rfl | rfl <;> exact fine_of (by omega) (by omega)
theorem harm_html : ∀ x : List Int, (∀ z ∈ x, scalP z) → harmB ((htmlF x).flatMap encL) = true
  | [], _ => rfl
  | z :: x, hx => by
    have ih := harm_html x fun y hy => hx y (List.mem_cons_of_mem _ hy)
    have e : (htmlF (z :: x)).flatMap encL = (escF z).flatMap encL ++ (htmlF x).flatMap encL := by
      unfold htmlF
      rw [List.flatMap_cons, List.flatMap_append]
    rw [e]
    by_cases h5 : z ∈ fiveP
    · exact ent_harm h5 ih
    · have he : escF z = [z] := by
        simp only [fiveP, List.mem_cons, List.not_mem_nil, or_false, not_or] at h5
        unfold escF entF
        rw [if_neg h5.1, if_neg h5.2.1, if_neg h5.2.2.1, if_neg h5.2.2.2.1, if_neg h5.2.2.2.2, if_pos rfl]
      rw [he, List.flatMap_cons, List.flatMap_nil, List.append_nil]
      exact harm_app (enc_fine (hx z (List.mem_cons_self ..)) h5) ih
theorem harm_at : ∀ {l : List UInt8}, harmB l = true → ∀ {i : Nat} {b : UInt8}, l[i]? = some b → fineU b = true ∧ (b = 38 → ∃ h ∈ fiveH, h.isPrefixOf (l.drop i) = true)
  | [], _, i, b, hb => by simp at hb
  | c :: t, h, 0, b, hb => by
    simp at hb
    subst hb
    rw [harmB, Bool.and_eq_true, Bool.and_eq_true] at h
    refine ⟨h.1.1, fun he => ?_⟩
    have h2 := h.1.2
    rw [he] at h2
    simp only [bne_self_eq_false, Bool.false_or, List.any_eq_true] at h2
    rw [he]
    exact h2
  | c :: t, h, i + 1, b, hb => by
    rw [harmB, Bool.and_eq_true] at h
    have := harm_at h.2 (i := i) (b := b) (by simpa using hb)
    simpa using this
/-- a text begins with another one. -/
def begB (s h : ByteArray) : Bool := decide (h.size ≤ s.size) && ((s.extract 0 h.size).toList == h.toList)
theorem beg_iff {s : ByteArray} {i : Nat} {h : ByteArray} (hp : h.data.toList.isPrefixOf (s.data.toList.drop i) = true) : begB (s.extract i s.size) h = true := by
  have h1 := List.isPrefixOf_iff_prefix.1 hp
  have e1 : (s.extract i s.size).data.toList = s.data.toList.drop i := by
    rw [ByteArray.data_extract, Array.toList_extract]
    simp [List.extract]
    exact List.take_of_length_le (by simp)
  have h2 := h1.length_le
  rw [← e1] at h1 h2
  have e2 : ((s.extract i s.size).extract 0 h.size).data.toList = ((s.extract i s.size).data.toList).take h.size := by
    rw [ByteArray.data_extract, Array.toList_extract]
    simp [List.extract]
  unfold begB
  rw [Bool.and_eq_true]
  have e3 : (s.extract i s.size).extract 0 h.size = h := by
    apply ByteArray.ext
    apply Array.ext'
    rw [e2]
    exact (List.prefix_iff_eq_take.1 h1).symm
  exact ⟨decide_eq_true h2, by rw [e3, beq_self_eq_true]⟩
theorem harm_text {x : List Int} (hx : ∀ z ∈ x, scalP z) {S : ByteArray} (hS : S = runesBytes (htmlF x)) {i : Nat} (hi : i < S.size) {z : Int} (hz : z = ((S[i]'hi).toNat : Int)) : z ≠ 60 ∧ z ≠ 62 ∧ z ≠ 34 ∧ z ≠ 39 ∧ (z = 38 → begB (S.extract i S.size) ⟨#[38, 97, 109, 112, 59]⟩ = true ∨ begB (S.extract i S.size) ⟨#[38, 108, 116, 59]⟩ = true ∨ begB (S.extract i S.size) ⟨#[38, 103, 116, 59]⟩ = true ∨ begB (S.extract i S.size) ⟨#[38, 113, 117, 111, 116, 59]⟩ = true ∨ begB (S.extract i S.size) ⟨#[38, 35, 51, 57, 59]⟩ = true) := by
  have hl : S.data.toList = (htmlF x).flatMap encL := by rw [hS, runes_list]
  have hb : S.data.toList[i]? = some (S[i]'hi) := by
    rw [Array.getElem?_toList]
    exact Array.getElem?_eq_getElem (show i < S.data.size from hi)
  have hh := harm_html x hx
  rw [← hl] at hh
  obtain ⟨h1, h2⟩ := harm_at hh hb
  generalize S[i]'hi = b at *
  have key : ∀ n : Nat, n < 256 → b ≠ UInt8.ofNat n → z ≠ n := fun n hn hne he => hne (by
    apply UInt8.toNat_inj.1
    rw [UInt8.toNat_ofNat', Nat.mod_eq_of_lt hn]
    omega)
  unfold fineU at h1
  simp only [Bool.and_eq_true, bne_iff_ne] at h1
  refine ⟨key 60 (by omega) h1.1.1.1, key 62 (by omega) h1.1.1.2, key 34 (by omega) h1.1.2, key 39 (by omega) h1.2, fun he => ?_⟩
  obtain ⟨h, hm, hp⟩ := h2 (by
    apply UInt8.toNat_inj.1
    change b.toNat = 38
    omega)
  simp only [fiveH, List.mem_cons, List.not_mem_nil, or_false] at hm
  rcases hm with rfl | rfl | rfl | rfl | rfl
  · exact .inl (beg_iff hp)
  · exact .inr (.inl (beg_iff hp))
  · exact .inr (.inr (.inl (beg_iff hp)))
  · exact .inr (.inr (.inr (.inl (beg_iff hp))))
  · exact .inr (.inr (.inr (.inr (beg_iff hp))))
end Go.Proofs.YthfcbbdghggefaaGreat
