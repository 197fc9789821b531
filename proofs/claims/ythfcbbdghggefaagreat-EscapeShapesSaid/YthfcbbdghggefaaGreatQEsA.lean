/-
  The machines that escape bytes, plain Lean: what they relate any bytes to. No program is named here.
-/
import Derived.Test.YthfcbbdghggefaaGreatQCdB
import Derived.Test.YthfcbbdghggefaaGreatQEsP
namespace Go.Proofs.YthfcbbdghggefaaGreat
open Go.Proofs Go.Um Go.RowKit
/-- the bytes of which four bits are a digit, or a letter. -/
def nibL (drop base : Int) : List Span := if drop = 4 then (if base = 48 then [⟨0, 159⟩] else [⟨160, 255⟩]) else (List.range 16).map fun (j : Nat) => if base = 48 then ⟨16 * (j : Int), 16 * (j : Int) + 9⟩ else ⟨16 * (j : Int) + 10, 16 * (j : Int) + 15⟩
def hexS (up lo : Int) : List Span := meetF (minusF (meetF (nibL 4 up) (nibL 0 lo)) plainP) allB
def hexT (base drop : Int) : Term := ⟨base, drop, 4, 0, 0, [⟨0, 0, 21, 0⟩]⟩
def hexR (up lo : Int) : Rule := ⟨0, 0, [hexS up lo], 1, [constT 37, hexT up 4, hexT lo 0]⟩
def urlD : Desc := ⟨1, 1, 1, 0, ⟨0, 0, [plainP], 1, [copyT 0 0]⟩ :: [hexR 48 48, hexR 48 55, hexR 55 48, hexR 55 55], [⟨0, [], []⟩]⟩
/-- one rule that reads one symbol. -/
def oneRule (z : Int) (u : List Int) (r : Rule) : Bool := decide (r.src = 0) && decide (r.dst = 0) && decide (r.eat = 1) && (match r.guards with | [g] => hasB g z | _ => false) && decide (writesV r.out [z] = u)
theorem run_one {d : Desc} {x : List Int} (hx : symX x) {a : Nat} {z : Int} {t u w : List Int} (hr : d.rules.any (oneRule z u) = true) (ha : x.drop a = z :: t) (h : Run d x (a + 1) 0 w) : Run d x a 0 (u ++ w) := by
  obtain ⟨r, hm, hr⟩ := List.any_eq_true.1 hr
  unfold oneRule at hr
  simp only [Bool.and_eq_true, decide_eq_true_eq] at hr
  obtain ⟨⟨⟨⟨h1, h2⟩, h3⟩, h4⟩, h5⟩ := hr
  obtain ⟨g, hg⟩ : ∃ g, r.guards = [g] := by
    match hq : r.guards, h4 with
    | [g], _ => exact ⟨g, rfl⟩
  rw [hg] at h4
  refine .step r hm h1 ((fitsX_iff hx _ a).2 ?_) (u := w) ?_ ?_
  · rw [hg, ha]
    simpa [fitL] using h4
  · rw [h2, h3]
    exact h
  · unfold winF
    rw [hg, ha, show (z :: t).take [g].length = [z] from rfl, h5]
theorem url_rule (z : Int) (hz : 0 ≤ z ∧ z ≤ 255) : urlD.rules.any (oneRule z (urlB z)) = true :=
  all_bytes (p := fun z => urlD.rules.any (oneRule z (urlB z))) (by decide +kernel) z hz
theorem url_of {x : List Int} (hx : byteL x) : ∀ (y : List Int) (a : Nat), y = x.drop a → a ≤ x.length → Run urlD x a 0 (urlF y)
  | [], a, ha, hal => by
    have hl : x.length - a = 0 := by rw [← List.length_drop, ← ha]; rfl
    exact .fin ⟨0, [], []⟩ (by simp [urlD]) rfl (by simpa using hl.symm) ⟨by simp, by simp⟩ rfl
  | z :: y, a, ha, hal => by
    have hz := hx z (List.mem_of_mem_drop (ha ▸ (by simp) : z ∈ x.drop a))
    have hl : (z :: y).length = x.length - a := by rw [ha, List.length_drop]
    exact run_one hx.sym (url_rule z hz) ha.symm (url_of hx y (a + 1) (by rw [← List.drop_drop, ← ha]; rfl) (by simp at hl; omega))
theorem url_run {x : List Int} (hx : byteL x) : Run urlD x 0 0 (urlF x) := url_of hx x 0 (by simp) (Nat.zero_le _)
theorem where_url : (whereF urlD).1 = 0 := by decide +kernel
theorem sole_url : outerS (optsD urlD) 0 (optsD urlD) = none := by decide +kernel
/-! what turns back. -/
def kindsP : List (Span × Int) := [(⟨48, 57⟩, 0), (⟨65, 70⟩, 9), (⟨97, 102⟩, 9)]
def pctP : List Span := [⟨37, 37⟩]
def hexP : List Span := [⟨48, 57⟩, ⟨65, 70⟩, ⟨97, 102⟩]
def notHexP : List Span := minusF allB hexP
def unT (i k : Int) : Term := ⟨0, 0, 21, 0, 16 * i + k, [⟨2, 0, 4, 0⟩, ⟨1, 0, 4, 4⟩]⟩
def unR (p q : Span × Int) : Rule := ⟨0, 0, [pctP, [p.1], [q.1]], 3, [unT p.2 q.2]⟩
def unurlRs : List Rule := kindsP.flatMap (fun p => kindsP.map fun q => unR p q) ++ [⟨0, 0, [pctP, hexP, notHexP], 1, [copyT 0 0]⟩, ⟨0, 0, [pctP, notHexP], 1, [copyT 0 0]⟩, ⟨0, 0, [minusF allB pctP], 1, [copyT 0 0]⟩]
def unurlD : Desc := ⟨1, 1, 1, 0, unurlRs, [⟨0, [], []⟩, ⟨0, [pctP], [copyT 0 0]⟩, ⟨0, [pctP, hexP], [copyT 0 0, copyT 1 0]⟩]⟩
theorem where_unurl : (whereF unurlD).1 = 0 := by decide +kernel
theorem sole_unurl : outerS (optsD unurlD) 0 (optsD unurlD) = none := by decide +kernel
theorem not_pct (z : Int) (hz : 0 ≤ z ∧ z ≤ 255) (h : z ≠ 37) : unurlD.rules.any (oneRule z [z]) = true := by
  have := all_bytes (p := fun z => z == 37 || unurlD.rules.any (oneRule z [z])) (by decide +kernel) z hz
  rw [Bool.or_eq_true] at this
  exact this.resolve_left (by simpa using h)
/-- one rule, of so many guards. -/
theorem run_rule {d : Desc} {x : List Int} (hx : symX x) {a : Nat} {w : List Int} (r : Rule) (hm : r ∈ d.rules) (h1 : r.src = 0) (h2 : r.dst = 0) (hf : fitL r.guards (x.drop a) = true) (h : Run d x (a + r.eat.toNat) 0 w) {u : List Int} (hu : writesV r.out ((x.drop a).take r.guards.length) = u) : Run d x a 0 (u ++ w) := by
  refine .step r hm h1 ((fitsX_iff hx _ a).2 hf) (u := w) ?_ ?_
  · rw [h2]; exact h
  · unfold winF; rw [hu]
theorem run_final {d : Desc} {x : List Int} (hx : symX x) {a : Nat} (f : Final) (hm : f ∈ d.finals) (h1 : f.src = 0) (hl : f.guards.length = x.length - a) (hf : fitL f.guards (x.drop a) = true) {u : List Int} (hu : writesV f.out (x.drop a) = u) : Run d x a 0 u := by
  refine .fin f hm h1 hl ((fitsX_iff hx _ a).2 hf) ?_
  unfold winF
  rw [hl, ← List.length_drop, List.take_length, hu]
def hexB (b : Int) : Bool := hasB hexP b
theorem hexB_iff (b : Int) : hexB b = true ↔ 0 ≤ hexV b := by
  unfold hexB hexP hexV
  simp [hasB]
  omega
theorem notHex_iff (b : Int) (hb : 0 ≤ b ∧ b ≤ 255) : hasB notHexP b = !hexB b := by
  have := all_bytes (p := fun b => hasB notHexP b == !hexB b) (by decide +kernel) b hb
  simpa using this
theorem hex_kind (b : Int) (h : 0 ≤ hexV b) : ∃ p ∈ kindsP, hasB [p.1] b = true ∧ hexV b = b % 16 + p.2 := by
  unfold hexV at h ⊢
  unfold kindsP
  by_cases c1 : 48 ≤ b ∧ b ≤ 57
  · exact ⟨(⟨48, 57⟩, 0), by simp, by simp [hasB]; omega, by rw [if_pos c1]; show b - 48 = b % 16 + 0; omega⟩
  · rw [if_neg c1] at h ⊢
    by_cases c2 : 65 ≤ b ∧ b ≤ 70
    · exact ⟨(⟨65, 70⟩, 9), by simp, by simp [hasB]; omega, by rw [if_pos c2]; show b - 55 = b % 16 + 9; omega⟩
    · rw [if_neg c2] at h ⊢
      by_cases c3 : 97 ≤ b ∧ b ≤ 102
      · exact ⟨(⟨97, 102⟩, 9), by simp, by simp [hasB]; omega, by rw [if_pos c3]; show b - 87 = b % 16 + 9; omega⟩
      · rw [if_neg c3] at h
        omega
theorem hexV_lt (b : Int) : hexV b ≤ 15 := by unfold hexV; repeat' split <;> omega
theorem writes_un (p q : Span × Int) (b c : Int) (h : 0 ≤ 16 * p.2 + q.2 + c % 16 + b % 16 * 16 ∧ 16 * p.2 + q.2 + c % 16 + b % 16 * 16 < 2097152) : writesV [unT p.2 q.2] [37, b, c] = [16 * (b % 16 + p.2) + (c % 16 + q.2)] := by
  simp [writesV, unT, tvalF, valF, outerT, sumV, pw]
  omega
theorem unurl_of {x : List Int} (hx : byteL x) : ∀ (n : Nat) (y : List Int) (a : Nat), y.length ≤ n → y = x.drop a → a ≤ x.length → Run unurlD x a 0 (unurlF y) := by
  intro n
  induction n with
  | zero =>
    intro y a hn ha hal
    obtain rfl := List.eq_nil_of_length_eq_zero (Nat.le_zero.1 hn)
    have hl : x.length - a = 0 := by rw [← List.length_drop, ← ha]; rfl
    exact run_final hx.sym ⟨0, [], []⟩ (by simp [unurlD]) rfl (by simpa using hl.symm) rfl rfl
  | succ n ih =>
    intro y a hn ha hal
    have hyb : byteL y := ha ▸ hx.drop a
    have hl : y.length = x.length - a := by rw [ha, List.length_drop]
    have hd : ∀ k, x.drop (a + k) = y.drop k := fun k => by rw [ha, List.drop_drop]
    match y, hyb with
    | [], _ =>
      exact run_final hx.sym ⟨0, [], []⟩ (by simp [unurlD]) rfl (by simpa using hl) rfl rfl
    | [z], hyb =>
      have hz := hyb z (by simp)
      by_cases hp : z = 37
      · subst hp
        exact run_final hx.sym ⟨0, [pctP], [copyT 0 0]⟩ (by simp [unurlD]) rfl hl (by rw [← ha]; decide) (by rw [← ha]; decide)
      · exact run_one hx.sym (not_pct z hz hp) ha.symm (ih [] (a + 1) (by simp) (by rw [hd]; rfl) (by simp at hl; omega))
    | [z, b], hyb =>
      have hz := hyb z (by simp)
      have hb := hyb b (by simp)
      have h1 : Run unurlD x (a + 1) 0 [b] := ih [b] (a + 1) (by simp at hn; simp; omega) (by rw [hd]; rfl) (by simp at hl; omega)
      by_cases hp : z = 37
      · subst hp
        by_cases hh : hexB b = true
        · exact run_final hx.sym ⟨0, [pctP, hexP], [copyT 0 0, copyT 1 0]⟩ (by simp [unurlD]) rfl hl (by rw [← ha]; unfold fitL fitL fitL; rw [show hasB hexP b = true from hh]; decide) (by rw [← ha]; simp [writesV, copyT, tvalF, valF, outerT, sumV, pw]; rw [Int.emod_eq_of_lt (by omega) (by omega)]; rfl)
        · refine run_rule hx.sym ⟨0, 0, [pctP, notHexP], 1, [copyT 0 0]⟩ (by simp [unurlD, unurlRs]) rfl rfl (by rw [← ha]; unfold fitL fitL fitL; rw [notHex_iff b hb]; simp [hh]; decide) h1 (u := [37]) (by rw [← ha]; simp [writesV, copyT, tvalF, valF, outerT, sumV, pw])
      · exact run_one hx.sym (not_pct z hz hp) ha.symm h1
    | z :: b :: c :: t, hyb =>
      have hz := hyb z (by simp)
      have hb := hyb b (by simp)
      have hc := hyb c (by simp)
      have h1 : Run unurlD x (a + 1) 0 (unurlF (b :: c :: t)) := ih _ (a + 1) (by simp at hn ⊢; omega) (by rw [hd]; rfl) (by simp at hl; omega)
      by_cases hp : z = 37
      · subst hp
        by_cases hh : 0 ≤ hexV b
        · by_cases hk : 0 ≤ hexV c
          · have h3 : Run unurlD x (a + 3) 0 (unurlF t) := ih _ (a + 3) (by simp at hn ⊢; omega) (by rw [hd]; rfl) (by simp at hl; omega)
            obtain ⟨p, hp1, hp2, hp3⟩ := hex_kind b hh
            obtain ⟨q, hq1, hq2, hq3⟩ := hex_kind c hk
            have hvb := hexV_lt b
            have hvc := hexV_lt c
            unfold unurlF
            rw [if_pos ⟨rfl, hh, hk⟩]
            refine run_rule hx.sym (unR p q) ?_ rfl rfl ?_ h3 (u := [16 * hexV b + hexV c]) ?_
            · unfold unurlD unurlRs
              exact List.mem_append.2 (.inl (List.mem_flatMap.2 ⟨p, hp1, List.mem_map.2 ⟨q, hq1, rfl⟩⟩))
            · rw [← ha]
              show fitL [pctP, [p.1], [q.1]] _ = true
              unfold fitL fitL fitL fitL
              rw [hp2, hq2]
              decide
            · rw [← ha, hp3, hq3]
              exact writes_un p q b c (by omega)
          · unfold unurlF
            rw [if_neg (fun h => hk h.2.2)]
            refine run_rule hx.sym ⟨0, 0, [pctP, hexP, notHexP], 1, [copyT 0 0]⟩ (by simp [unurlD, unurlRs]) rfl rfl ?_ h1 (u := [37]) (by rw [← ha]; simp [writesV, copyT, tvalF, valF, outerT, sumV, pw])
            rw [← ha]
            unfold fitL fitL fitL fitL
            rw [show hasB hexP b = true from (hexB_iff b).2 hh, notHex_iff c hc, Bool.eq_false_iff.2 (fun h => hk ((hexB_iff c).1 h))]
            decide
        · unfold unurlF
          rw [if_neg (fun h => hh h.2.1)]
          refine run_rule hx.sym ⟨0, 0, [pctP, notHexP], 1, [copyT 0 0]⟩ (by simp [unurlD, unurlRs]) rfl rfl ?_ h1 (u := [37]) (by rw [← ha]; simp [writesV, copyT, tvalF, valF, outerT, sumV, pw])
          rw [← ha]
          unfold fitL fitL fitL
          rw [notHex_iff b hb, Bool.eq_false_iff.2 (fun h => hh ((hexB_iff b).1 h))]
          decide
      · unfold unurlF
        rw [if_neg (fun h => hp h.1)]
        exact run_one hx.sym (not_pct z hz hp) ha.symm h1
theorem unurl_run {x : List Int} (hx : byteL x) : Run unurlD x 0 0 (unurlF x) := unurl_of hx x.length x 0 (Nat.le_refl _) (by simp) (Nat.zero_le _)
end Go.Proofs.YthfcbbdghggefaaGreat
