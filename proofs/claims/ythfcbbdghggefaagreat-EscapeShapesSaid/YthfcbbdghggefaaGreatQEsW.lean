/-
  What the machines that escape bytes are asked, and answer; the document's examples.
-/
import Derived.Test.YthfcbbdghggefaaGreatQCdK
import Derived.Test.YthfcbbdghggefaaGreatQCdE
import Derived.Test.YthfcbbdghggefaaGreatQEsE
import Derived.Test.YthfcbbdghggefaaGreatQEsV
import Derived.Laws.Cover4
import Derived.Lib.SlBytesConst
import Derived.Lib.SmallJoins
namespace Go.Proofs.YthfcbbdghggefaaGreat
open Go.RowKit Go.Um Go.Proofs
theorem low' {w w1 w2 : World} (h : Below w.heap.size w w1) (h2 : Below w1.heap.size w1 w2) : Below w.heap.size w w2 := h.trans (h2.mono h.size)
theorem rel_up {α : Type} {r : RepOf α} {w : World} {b : Nat} {cs : List Value} {x : α} (h : r.rel w (Fresh b w) cs x) : r.rel w (upto w.heap.size) cs x := r.mono (fun _ _ => rfl) (fun _ hb => hb.2) h
set_option maxHeartbeats 1000000 in
set_option maxRecDepth 100000 in
theorem esym_calls (b : List Int) (v : Value) (w : World) (h : bytesR.rel w (upto w.heap.size) [v] b) (hl : b.length ≤ 1000000) :
    Calls Tryz.prog 63 #[v] w fun e w' => ∃ u, e = .returned u ∧ OwnW 21 w' w.heap.size u b ∧ Below w.heap.size w w' := by
  obtain ⟨inf, hi0, hz0, hz1, hz2⟩ := info_parts infoRn
  obtain ⟨A, c, rfl, hc, hm⟩ := list_form h
  unfold maxLen at hm
  have HA := hid h
  clear h
  go_enter Tryz.func63, Tryz.ntmps63
  go_wp2_with fail
  go_loopw [3, 4] (fun vo vi wr => ∃ k : Nat, k ≤ b.length ∧ vi = .int .i64 k ∧ (∃ vo', vo' = vo ∧ OwnW 21 wr w.heap.size vo' (b.take k)) ∧ Below w.heap.size w wr) (fun _ vi _ => b.length - (intOf vi).toNat)
  case atStart => exact ⟨0, Nat.zero_le _, rfl, ⟨_, rfl, OwnW.nil⟩, Below.refl _ _⟩
  case round =>
    obtain ⟨wo, hwo⟩ : ∃ wo, wo = wr := ⟨_, rfl⟩
    subst hwo
    obtain ⟨k, hk, rfl, ⟨vo, rfl, ho⟩, hB⟩ := hrel
    obtain ⟨Ao, co, rfl, hco, hmo⟩ := list_form (ho.rel (S := fun _ => True) (fun _ _ => trivial)).1
    unfold maxLen at hmo
    have hs1 := hB.size
    by_cases hlt : k < b.length
    · obtain ⟨x, hx⟩ := at_lt hlt
      have hlt' : (k : Int) < b.length := by omega
      obtain ⟨b3, o3, y3, rfl, hb3, ⟨hv1, hv2, hv3⟩, hcz3⟩ := list_at1 rfl HA.out hx
      simp only [List.cons.injEq, and_true] at hv1
      subst hv1
      have c3d := (hB.cell (p := ⟨b3, o3 + k, none⟩) hb3).trans (by simpa [byteR] using hcz3)
      have hHO := hid ho
      have HB := hid hB
      have HX := hid hx
      clear ho hB hx hcz3
      go_wp2_with (at_builtin; refine Hid.out ?_)
      refine hid ?_
      have hdl : (b.take k).length ≤ 1000000 := by rw [List.length_take]; omega
      refine wpList_append_own _ rfl _ _ 37 rfl w.heap.size 21 inf _ 1 4 Tryz.underlying37 hi0 hz0 hz1 hz2 rfl (by decide) _ _ _ rfl (hHO.out.1.alloc _) ⟨wo.heap.size, 0, none⟩ 1 1 [.int .i32 x] rfl rfl (news_at (w := wo) (cs := #[_]) rfl) (by simp [Value.oneCell']) (by unfold maxLen; omega) (by omega) (by simp; omega) ?_
      intro v' w6 hown6 hg6 hn6
      have hrow : ∀ g, (Value.slice Ao (b.take k).length co).ownBlock = some g → w.heap.size ≤ g := fun g hg' => (hHO.out.1.lt g hg').1
      have hbE : Below w.heap.size w w6 := (HB.out.alloc hs1 _).grown hg6 (by simp; omega) (fun g hg' => hrow g hg')
      have hE : b.take (k + 1) = b.take k ++ [x] := by rw [List.take_add_one, HX.out]; rfl
      have HN : Hid (OwnW 21 w6 w.heap.size v' (b.take (k + 1))) := hid ⟨by rw [hE, List.length_append, encW_append]; exact hown6, fun y hy => by
        rw [hE] at hy
        rcases List.mem_append.1 hy with hy | hy
        · exact hHO.out.2 y hy
        · simp at hy
          subst hy
          exact ⟨by omega, by omega⟩⟩
      have HBE := hid hbE
      clear hown6 hg6 hn6 hrow hbE hE
      go_wp2_with fail
      refine ⟨⟨k + 1, by omega, by push_cast; rfl, ⟨v', rfl, HN.out⟩, HBE.out⟩, ?_⟩
      simp [intOf]
      omega
    · have hke : k = b.length := by omega
      subst hke
      have HO : Hid (OwnW 21 wo w.heap.size (.slice Ao b.length co) b) := hid (by simpa using ho)
      have HB := hid hB
      have hlt' : ¬ (b.length : Int) < b.length := by omega
      clear ho hB
      go_wp2_with fail
      go_ret
      exact ⟨_, rfl, by simpa using HO.out, HB.out⟩
theorem url_post (w : World) : Calls Tryz.prog 34 #[] w fun e w' => ∃ vr vf, e = .returned (.agg #[.int .i64 1, .int .i64 1, .int .i64 1, .int .i64 0, vr, vf]) ∧ (listR ruleR).rel w' (Fresh w.heap.size w') [vr] urlD.rules ∧ (listR finalR).rel w' (Fresh w.heap.size w') [vf] urlD.finals ∧ Below w.heap.size w w' := Url_calls w
theorem unurl_post (w : World) : Calls Tryz.prog 35 #[] w fun e w' => ∃ vr vf, e = .returned (.agg #[.int .i64 1, .int .i64 1, .int .i64 1, .int .i64 0, vr, vf]) ∧ (listR ruleR).rel w' (Fresh w.heap.size w') [vr] unurlD.rules ∧ (listR finalR).rel w' (Fresh w.heap.size w') [vf] unurlD.finals ∧ Below w.heap.size w w' := Unurl_calls w
/-- a literal's bytes, marked as a string's. -/
theorem lit_bytes {w : World} {C : Array Value} {L : List Int} {ty : TypeId} {fr : Nat × Nat} (hC : C.toList = L.map (Value.int .u8)) (hL : byteL L) (hl : L.length ≤ 1000) : bytesR.rel (w.alloc (.cells C ty fr)) (upto (w.alloc (.cells C ty fr)).heap.size) [.slice (some ⟨w.heap.size, 0, none⟩) L.length L.length] L := by
  refine ⟨_, _, _, rfl, rfl, Nat.le_refl _, by unfold maxLen; omega, .inr ⟨w.heap.size, 0, rfl, by show _ < _; simp, fun i x hx => ⟨[.int .u8 x], ⟨rfl, hL x (List.mem_of_getElem? hx)⟩, fun j u hu => ?_⟩⟩⟩
  match j, hu with
  | 0, hu =>
    simp at hu
    subst hu
    rw [show (0 : Nat) + i * byteR.width + 0 = i by show 0 + i * 1 + 0 = i; omega, World.cell?_alloc_mark, ← Array.getElem?_toList, hC, List.getElem?_map, hx]
    rfl
  | j + 1, hu => simp at hu
theorem conv_word {w : World} {S : Nat → Prop} {A : Option Addr} {n c : Nat} {x : Int} {l : List Int} (h : wordR.rel w S [.slice A n c] (x :: l)) (hn : n = (x :: l).length) : (convert 37 9 (.slice A n c)).run Tryz.prog w = .ok (.string (runesBytes (x :: l))) w := by
  obtain ⟨b, o, rfl, _, _, _⟩ := rune_at h (i := 0) (x := x) rfl
  have h1 := run_convert_runes (P := Tryz.prog) w 37 9 21 ⟨b, o, none⟩ n c (x :: l) (by omega) Tryz.underlying37 Tryz.underlying21 Tryz.underlying9 (fun j hj => by
    obtain ⟨z, hz⟩ := at_lt hj
    rw [List.getD_eq_getElem?_getD, hz]
    exact (word_news h j (.int .i32 z) (by unfold encW; rw [List.getElem?_map, hz]; rfl)).2)
  rw [h1, hn, List.take_length]
theorem url_out {x : List Int} (hx : byteL x) (hl : x.length ≤ 1024) (most : Int) (hm : 1 ≤ most ∧ most ≤ 100000) (v u vx : Value) (w : World) (hv : (listR ruleR).rel w (upto w.heap.size) [v] urlD.rules) (hu : (listR finalR).rel w (upto w.heap.size) [u] urlD.finals) (hw : wordR.rel w (upto w.heap.size) [vx] x) :
    Calls Tryz.prog 16 #[.agg #[.int .i64 1, .int .i64 1, .int .i64 1, .int .i64 0, v, u], vx, .int .i64 most] w (Answers w [urlF x]) :=
  (Outputs_calls urlD x most v u vx w hv hu hw hm.2).mono fun _ _ h => out_one (d := urlD) sole_url where_url hl (bytes_dom hx) hm.1 (url_run hx) h
theorem unurl_out {x : List Int} (hx : byteL x) (hl : x.length ≤ 1024) (most : Int) (hm : 1 ≤ most ∧ most ≤ 100000) (v u vx : Value) (w : World) (hv : (listR ruleR).rel w (upto w.heap.size) [v] unurlD.rules) (hu : (listR finalR).rel w (upto w.heap.size) [u] unurlD.finals) (hw : wordR.rel w (upto w.heap.size) [vx] x) :
    Calls Tryz.prog 16 #[.agg #[.int .i64 1, .int .i64 1, .int .i64 1, .int .i64 0, v, u], vx, .int .i64 most] w (Answers w [unurlF x]) :=
  (Outputs_calls unurlD x most v u vx w hv hu hw hm.2).mono fun _ _ h => out_one (d := unurlD) sole_unurl where_unurl hl (bytes_dom hx) hm.1 (unurl_run hx) h
set_option maxHeartbeats 2000000 in
set_option maxRecDepth 100000 in
theorem eawake_calls (w : World) : Calls Tryz.prog 25 #[] w fun e w' => e = .returned (.bool true) ∧ Below w.heap.size w w' := by
  have HU := hid fun W => url_post W
  have HN := hid fun W => unurl_post W
  have HOU := hid fun v u vx W hv hu hw => url_out (x := [97, 32, 98, 47]) (by intro z hz; simp at hz; omega) (by simp) 2 ⟨by omega, by omega⟩ v u vx W hv hu hw
  have HON := hid fun v u vx W hv hu hw => unurl_out (x := [37, 50, 102, 37, 122, 122, 37, 52]) (by intro z hz; simp at hz; omega) (by simp) 2 ⟨by omega, by omega⟩ v u vx W hv hu hw
  rw [show urlF [97, 32, 98, 47] = [97, 37, 50, 48, 98, 37, 50, 70] by decide +kernel] at HOU
  rw [show unurlF [37, 50, 102, 37, 122, 122, 37, 52] = [47, 37, 122, 122, 37, 52] by decide +kernel] at HON
  have HSY := hid fun b v W h hl => esym_calls b v W h hl
  go_enter Tryz.func25, Tryz.ntmps25
  go_wp2_with fail
  refine (HU.out _).mono ?_
  rintro e w1 ⟨v1, u1, rfl, hv1, hu1, hB1⟩
  have HV1 := hid (rel_up hv1)
  have HU1 := hid (rel_up hu1)
  have HB1 := hid hB1
  clear hv1 hu1 hB1
  have hcv1 : (convert 31 31 (.slice (some ⟨w1.heap.size, 0, none⟩) 4 4)).run Tryz.prog (w1.alloc (.cells #[.int .u8 97, .int .u8 32, .int .u8 98, .int .u8 47] 5)) = .ok (.slice (some ⟨w1.heap.size, 0, none⟩) 4 4) (w1.alloc (.cells #[.int .u8 97, .int .u8 32, .int .u8 98, .int .u8 47] 5 (4, 4 + 1))) := Lib.run_convert_bytes_const w1 31 5 #[.int .u8 97, .int .u8 32, .int .u8 98, .int .u8 47] 4 4 Tryz.underlying31 Tryz.underlying5
  have hA1 : Below w1.heap.size w1 (w1.alloc (.cells #[.int .u8 97, .int .u8 32, .int .u8 98, .int .u8 47] 5 (4, 4 + 1))) := (Below.refl _ w1).alloc (Nat.le_refl _) _
  have HSY1 := hid (HSY.out [97, 32, 98, 47] _ _ (lit_bytes (w := w1) (C := #[.int .u8 97, .int .u8 32, .int .u8 98, .int .u8 47]) (ty := 5) (fr := (4, 4 + 1)) rfl (by intro z hz; simp at hz; omega) (by simp)) (by simp))
  have HVA1 := hid ((listR ruleR).below HV1.out hA1 hA1.size)
  have HUA1 := hid ((listR finalR).below HU1.out hA1 hA1.size)
  have HBA1 := hid (HB1.out.trans (hA1.mono HB1.out.size))
  clear hA1
  go_wp2_with fail
  clear hcv1
  refine HSY1.out.mono ?_
  rintro e s1 ⟨q1, rfl, hq1, hBs1⟩
  have HVS1 := hid ((listR ruleR).below HVA1.out hBs1 hBs1.size)
  have HUS1 := hid ((listR finalR).below HUA1.out hBs1 hBs1.size)
  have HWS1 := hid (rel_up (hq1.fresh (Nat.le_refl _))).1
  have HBS1 := hid (low' HBA1.out hBs1)
  clear hq1 hBs1
  go_wp2_with fail
  refine (HOU.out _ _ _ _ HVS1.out HUS1.out HWS1.out).mono ?_
  rintro e o1 ⟨hBo1, R1, d1, rfl, hr1⟩
  have HBO1 := hid (low' HBS1.out hBo1)
  have HR1 := hid (rel_up hr1)
  have HBO01 := hid hBo1
  clear hBo1 hr1
  go_wp2_with fail
  refine (HN.out _).mono ?_
  rintro e w2 ⟨v2, u2, rfl, hv2, hu2, hB2⟩
  have HV2 := hid (rel_up hv2)
  have HU2 := hid (rel_up hu2)
  have HB2 := hid (low' HBO1.out hB2)
  have HO12 := hid hB2
  clear hv2 hu2 hB2
  have hcv2 : (convert 31 31 (.slice (some ⟨w2.heap.size, 0, none⟩) 8 8)).run Tryz.prog (w2.alloc (.cells #[.int .u8 37, .int .u8 50, .int .u8 102, .int .u8 37, .int .u8 122, .int .u8 122, .int .u8 37, .int .u8 52] 5)) = .ok (.slice (some ⟨w2.heap.size, 0, none⟩) 8 8) (w2.alloc (.cells #[.int .u8 37, .int .u8 50, .int .u8 102, .int .u8 37, .int .u8 122, .int .u8 122, .int .u8 37, .int .u8 52] 5 (8, 8 + 1))) := Lib.run_convert_bytes_const w2 31 5 #[.int .u8 37, .int .u8 50, .int .u8 102, .int .u8 37, .int .u8 122, .int .u8 122, .int .u8 37, .int .u8 52] 8 8 Tryz.underlying31 Tryz.underlying5
  have hA2 : Below w2.heap.size w2 (w2.alloc (.cells #[.int .u8 37, .int .u8 50, .int .u8 102, .int .u8 37, .int .u8 122, .int .u8 122, .int .u8 37, .int .u8 52] 5 (8, 8 + 1))) := (Below.refl _ w2).alloc (Nat.le_refl _) _
  have HSY2 := hid (HSY.out [37, 50, 102, 37, 122, 122, 37, 52] _ _ (lit_bytes (w := w2) (C := #[.int .u8 37, .int .u8 50, .int .u8 102, .int .u8 37, .int .u8 122, .int .u8 122, .int .u8 37, .int .u8 52]) (ty := 5) (fr := (8, 8 + 1)) rfl (by intro z hz; simp at hz; omega) (by simp)) (by simp))
  have HVA2 := hid ((listR ruleR).below HV2.out hA2 hA2.size)
  have HUA2 := hid ((listR finalR).below HU2.out hA2 hA2.size)
  have HBA2 := hid (HB2.out.trans (hA2.mono HB2.out.size))
  clear hA2
  go_wp2_with fail
  clear hcv2
  refine HSY2.out.mono ?_
  rintro e s2 ⟨q2, rfl, hq2, hBs2⟩
  have HVS2 := hid ((listR ruleR).below HVA2.out hBs2 hBs2.size)
  have HUS2 := hid ((listR finalR).below HUA2.out hBs2 hBs2.size)
  have HWS2 := hid (rel_up (hq2.fresh (Nat.le_refl _))).1
  have HBS2 := hid (low' HBA2.out hBs2)
  have HS2 := hid hBs2
  clear hq2 hBs2
  go_wp2_with fail
  refine (HON.out _ _ _ _ HVS2.out HUS2.out HWS2.out).mono ?_
  rintro e o2 ⟨hBo2, R2, d2, rfl, hr2⟩
  have HBO2 := hid (low' HBS2.out hBo2)
  have HR2 := hid (rel_up hr2)
  have HBO02 := hid hBo2
  clear hBo2 hr2
  have hB12 : Below o1.heap.size o1 o2 := (HO12.out.trans ((((Below.refl _ w2).alloc (Nat.le_refl _) (.cells #[.int .u8 37, .int .u8 50, .int .u8 102, .int .u8 37, .int .u8 122, .int .u8 122, .int .u8 37, .int .u8 52] 5 (8, 8 + 1))).trans (HS2.out.mono (by simp))).mono HO12.out.size)).trans (HBO02.out.mono (by have := HO12.out.size; have := HS2.out.size; simp at this; omega))
  have hr1 := (listR nwordR).below HR1.out hB12 hB12.size
  obtain ⟨G1, P1, y1, rfl, hG1, hy1, hcy1⟩ := list_at1 (i := 0) (x := [97, 37, 50, 48, 98, 37, 50, 70]) rfl hr1 rfl
  obtain ⟨A1, c1, rfl, hc1, hm1⟩ := list_form hy1.1
  have cv1 := conv_word hy1.1 rfl
  obtain ⟨G2, P2, y2, rfl, hG2, hy2, hcy2⟩ := list_at1 (i := 0) (x := [47, 37, 122, 122, 37, 52]) rfl HR2.out rfl
  obtain ⟨A2, c2, rfl, hc2, hm2⟩ := list_form hy2.1
  have cv2 := conv_word hy2.1 rfl
  rw [show runesBytes [97, 37, 50, 48, 98, 37, 50, 70] = ⟨#[97, 37, 50, 48, 98, 37, 50, 70]⟩ by decide +kernel] at cv1
  rw [show runesBytes [47, 37, 122, 122, 37, 52] = ⟨#[47, 37, 122, 122, 37, 52]⟩ by decide +kernel] at cv2
  simp only [List.length_cons, List.length_nil, Nat.zero_add, Nat.add_zero, Nat.reduceAdd] at hcy1 hcy2 cv1 cv2 ⊢
  clear hr1 hy1 hy2 hB12
  go_wp2_with fail
  go_ret
  exact ⟨rfl, HBO2.out⟩
end Go.Proofs.YthfcbbdghggefaaGreat
