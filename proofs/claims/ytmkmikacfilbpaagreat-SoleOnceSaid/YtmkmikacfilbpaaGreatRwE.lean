/-
  Words sorted by the library: slices.SortFunc with word.Compare.
-/
import Derived.Test.YtmkmikacfilbpaaGreatRwD
import Derived.Shelf.SlSortCmp.Whole1
import Derived.Test.YtmkmikacfilbpaaGreatShelf
namespace Go.Um
open Go.RowKit Go.Sort Go.Proofs
theorem cmpW_le_trans {a b c : List Int} (h1 : cmpW a b ≤ 0) (h2 : cmpW b c ≤ 0) : cmpW a c ≤ 0 := by
  rcases Int.lt_or_eq_of_le h1 with h | h
  · rcases Int.lt_or_eq_of_le h2 with h' | h'
    · exact Int.le_of_lt (cmpW_trans h h')
    · rw [← cmpW_eq h']; exact h1
  · rw [cmpW_eq h]; exact h2
theorem row_sort {α : Type} [Inhabited α] {enc : α → Value} {w : World} {g n m : Nat} {e : TypeId} {f : Nat → Value} {os : Array Obj} (d : Array α) (hd : d.size = m) (h : w.rowIs g e m f) : (sortWorld enc w g 0 n d os).rowIs g e m fun i => enc d[i]! := by
  obtain ⟨c, hb, hc, _⟩ := h
  have hg : g < w.heap.size := (Array.getElem?_eq_some_iff.1 hb).1
  refine ⟨putCells enc 0 d c, ?_, by simp [putCells, hc], fun i hi => ?_⟩
  · unfold sortWorld
    rw [heap_grow_old _ _ (by simpa using hg)]
    simp [putRow, mapBlock, Sort.ahead, Array.getElem?_modify, hb, onCells]
  · simp [putCells, hc, hd, hi]
theorem grown_sort {α : Type} [Inhabited α] {enc : α → Value} {w : World} {g n : Nat} {os : Array Obj} (d : Array α) : w.grownBy (sortWorld enc w g 0 n d os) (some g) := by
  refine ⟨rfl, rfl, rfl, by simp [sortWorld], fun k hk hne => ?_⟩
  unfold sortWorld
  rw [heap_grow_old _ _ (by simpa using hk)]
  have : g ≠ k := fun e => hne (by rw [e])
  simp [putRow, mapBlock, Sort.ahead, Array.getElem?_modify, this]
theorem perm_in {α : Type} [Inhabited α] {d d' : Array α} (h : PermIn 0 d.size d d') : d'.toList.Perm d.toList := by
  obtain ⟨h1, _, h3⟩ := h
  have e1 : d'.extract 0 d.size = d' := by rw [← h1]; simp
  have e2 : d.extract 0 d.size = d := by simp
  rwa [e1, e2] at h3
/-- a word with the value that holds it. -/
def WT (w : World) (G : Nat) : Type := { p : Value × List Int // nwordR.rel w (Fresh (G + 1) w) [p.1] p.2 }
theorem nword_nil (w : World) (S : Nat → Prop) : nwordR.rel w S [.slice none 0 0] [] := ⟨list_nil _ _ _, fun n c h => by injection h with h; injection h with _ _ h; exact h.symm⟩
instance {w : World} {G : Nat} : Inhabited (WT w G) := ⟨⟨(.slice none 0 0, []), nword_nil _ _⟩⟩
def encT {w : World} {G : Nat} (p : WT w G) : Value := p.1.1
def wordT {w : World} {G : Nat} (p : WT w G) : List Int := p.1.2
def cfT {w : World} {G : Nat} (p q : WT w G) : Int := cmpW (wordT p) (wordT q)
theorem encT_one {w : World} {G : Nat} (p : WT w G) : (encT p).oneCell' = true := by
  obtain ⟨A, c, h, _, _⟩ := list_form p.2.1
  unfold encT
  rw [h]
  rfl
theorem cfT_swo {w : World} {G : Nat} : SWO (ltOf (cfT (w := w) (G := G))) where
  irrefl x := by unfold ltOf cfT; rw [cmpW_refl]; rfl
  trans x y z h1 h2 := by
    unfold ltOf cfT at *
    rw [decide_eq_true_eq] at *
    exact cmpW_trans h1 h2
  ntrans x y z h1 h2 := by
    unfold ltOf cfT at *
    rw [decide_eq_false_iff_not] at *
    have f1 := cmpW_flip (wordT x) (wordT y)
    have f2 := cmpW_flip (wordT y) (wordT z)
    have f3 := cmpW_flip (wordT x) (wordT z)
    have := cmpW_le_trans (a := wordT z) (b := wordT y) (c := wordT x) (by omega) (by omega)
    omega
end Go.Um
namespace Go.Proofs.YtmkmikacfilbpaaGreat
open Go.RowKit Go.Um Go.Proofs Go.Sort
theorem sortW_calls (G n : Nat) (f : Nat → Value) (ms : List (List Int)) (w : World) (hR : w.rowIs G 27 n f) (hm : ms.length = n) (hn : n ≤ 1000000000) (hel : ∀ i m, ms[i]? = some m → nwordR.rel w (Fresh (G + 1) w) [f i] m) :
    Calls Tryz.prog 94 #[.slice (some ⟨G, 0, none⟩) n n, .func (.func 95) #[] #[]] w fun e w' => e = .returned (.tuple #[]) ∧ ∃ (f' : Nat → Value) (ms' : List (List Int)), ms'.Perm ms ∧ ms'.Pairwise (fun a b => cmpW a b ≤ 0) ∧ w'.rowIs G 27 n f' ∧
      (∀ i m, ms'[i]? = some m → nwordR.rel w' (Fresh (G + 1) w') [f' i] m) ∧ w.grownBy w' (some G) := by
  have eg : ∀ args w, (callFunc 95 args).run Tryz.prog w = .ok (.enter 95 args) w := enters_of Tryz.func95 (by kernel_rfl) rfl
  have hG := hR.lt
  have hmk : ∀ i, ∃ t : WT w G, i < n → t.1 = (f i, ms.getD i []) := fun i => by
    by_cases hi : i < n
    · exact ⟨⟨(f i, ms.getD i []), hel i (ms.getD i []) (by rw [List.getD_eq_getElem?_getD, List.getElem?_eq_getElem (by omega)]; rfl)⟩, fun _ => rfl⟩
    · exact ⟨default, fun h => absurd h hi⟩
  obtain ⟨d, hd⟩ : ∃ d : Array (WT w G), d = ((List.range n).map fun i => (hmk i).choose).toArray := ⟨_, rfl⟩
  have hds : d.size = n := by rw [hd]; simp
  have hdi : ∀ i, i < n → (d[i]!).1 = (f i, ms.getD i []) := fun i hi => by
    have e : d[i]! = (hmk i).choose := by
      rw [getElem!_pos d i (by omega)]
      simp [hd]
    rw [e]
    exact (hmk i).choose_spec hi
  have hmap : d.toList.map wordT = ms := by
    apply List.ext_getElem?
    intro i
    by_cases hi : i < n
    · rw [List.getElem?_map, Array.getElem?_toList, Array.getElem?_eq_getElem (by omega), List.getElem?_eq_getElem (by omega)]
      have := hdi i hi
      rw [getElem!_pos d i (by omega)] at this
      show some (d[i]).1.2 = _
      rw [this]
      simp [List.getD_eq_getElem?_getD, List.getElem?_eq_getElem (show i < ms.length by omega)]
    · rw [List.getElem?_eq_none (by simp; omega), List.getElem?_eq_none (by omega)]
  have hH : Holds encT w G 0 d := fun j hj => by
    have e : encT d[j]! = f j := by unfold encT; rw [hdi j (by omega)]
    rw [Nat.zero_add, e]
    exact ⟨hR.cell (by omega), hR.frozen _⟩
  have hcmp : CmpLays1 Tryz.prog 95 #[] encT cfT G 0 d.size w := fun m os dk hs x y => by
    have hg := grown_sort (enc := encT) (w := w) (g := G) (n := m) (os := os) dk
    have hr : ∀ z : WT w G, wordR.rel (sortWorld encT w G 0 m dk os) (Fresh (G + 1) w) [encT z] (wordT z) := fun z => wordR.mono (fun p hp => World.cell?_of_block (hg.block _ hp.2 (fun e => by injection e with e; have := hp.1; omega))) (fun _ h => h) z.2.1
    refine (Compare_calls (wordT x) (wordT y) (encT x) (encT y) _ _ _ (hr x) (hr y)).mono ?_
    rintro e w' ⟨rfl, q, rfl⟩
    exact ⟨rfl, q, #[], by rw [grow_empty]⟩
  have hcon := Any.slices_SortFunc Tryz.sortWords encT encT_one cfT cfT_swo 95 #[] G 0 n d w eg hcmp hH hG (by omega)
  rw [hds] at hcon
  refine (show Calls Tryz.prog 94 _ _ _ from hcon).mono ?_
  rintro e w' ⟨rfl, d', q, os, hp, hs, rfl⟩
  rw [← hds] at hp
  have hd's : d'.size = n := hp.1.trans hds
  have hg := grown_sort (enc := encT) (w := w) (g := G) (n := q) (os := os) d'
  refine ⟨rfl, fun i => encT d'[i]!, d'.toList.map wordT, ?_, ?_, row_sort d' hd's hR, fun i m hi => ?_, hg⟩
  · rw [← hmap]; exact (perm_in hp).map _
  · rw [List.pairwise_iff_getElem]
    intro i j hi hj hij
    simp only [List.length_map, Array.length_toList] at hi hj
    have h1 := hs i j (Nat.zero_le _) hij (by omega)
    rw [getElem!_pos d' i hi, getElem!_pos d' j hj] at h1
    unfold ltOf cfT at h1
    rw [decide_eq_false_iff_not] at h1
    simp only [List.getElem_map, Array.getElem_toList]
    have := cmpW_flip (wordT d'[i]) (wordT d'[j])
    omega
  · have hil := (List.getElem?_eq_some_iff.1 hi).1
    simp only [List.length_map, Array.length_toList] at hil
    rw [List.getElem?_map, Array.getElem?_toList, Array.getElem?_eq_getElem hil] at hi
    injection hi with hi
    subst hi
    show nwordR.rel _ _ [encT d'[i]!] _
    rw [getElem!_pos d' i hil]
    exact nwordR.mono (fun p hp => World.cell?_of_block (hg.block _ hp.2 (fun e => by injection e with e; have := hp.1; omega))) (fun b hb => ⟨hb.1, Nat.lt_of_lt_of_le hb.2 hg.size⟩) d'[i].2
end Go.Proofs.YtmkmikacfilbpaaGreat
