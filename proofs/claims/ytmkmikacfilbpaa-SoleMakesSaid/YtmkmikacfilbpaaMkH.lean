/-
  Terms copied: desc.terms.
-/
import Derived.Test.YtmkmikacfilbpaaMkG
namespace Go.Proofs.Ytmkmikacfilbpaa
open Go.RowKit Go.Um Go.Proofs
theorem infoTm : (Try.prog.info? 47).map (fun i => (i.zero, i.size, i.bytes)) = some (some (.agg #[.int .i64 0, .int .i64 0, .int .i64 0, .int .i64 0, .int .i64 0, .slice none 0 0]), 6, 64) := by kernel_rfl
def CopT (w wr : World) (ts : List Term) (vo : Value) (k : Nat) : Prop := FL 47 termR wr w.heap.size w.heap.size vo (ts.take k) ∧ Below w.heap.size w wr
set_option maxHeartbeats 2000000 in
set_option maxRecDepth 100000 in
theorem terms_calls (ts : List Term) (v : Value) (w : World) (h : (listR termR).rel w (upto w.heap.size) [v] ts) (hne : ∀ t ∈ ts, t.parts ≠ [] ∧ t.parts.length ≤ 1000000) (hl : ts.length ≤ 1000000) :
    Calls Try.prog 24 #[v] w fun e w' => ∃ u, e = .returned u ∧ FL 47 termR w' w.heap.size w.heap.size u ts ∧ Below w.heap.size w w' := by
  have HC := hid fun l v W h1 h2 h3 => cloneP_calls l v W h1 h2 h3
  obtain ⟨A, c, rfl, hc, hm⟩ := list_form h
  unfold maxLen at hm
  obtain ⟨inf, hi0, hz0, hz1, hz2⟩ := info_parts infoTm
  have HNE := hid hne
  clear hne
  have hcA := cellA
  have hfA := froA
  go_enter Try.func24, Try.ntmps24
  go_wp2_with fail
  go_loopw [3, 8] (fun vo vi wr => ∃ k : Nat, k ≤ ts.length ∧ vi = .int .i64 k ∧ CopT w wr ts vo k) (fun _ vi _ => ts.length - (intOf vi).toNat)
  case atStart => exact ⟨0, Nat.zero_le _, rfl, OwnR.nil, Below.refl _ _⟩
  case round =>
    obtain ⟨k, hk, rfl, hF, hB⟩ := hrel
    obtain ⟨wo, hwo⟩ : ∃ wo, wo = wr := ⟨_, rfl⟩
    subst hwo
    obtain ⟨L, hL⟩ : ∃ L, L = ts.take k := ⟨_, rfl⟩
    rw [← hL] at hF
    have HF := hid hF
    have HB := hid hB
    have hs := hB.size
    have hLl : L.length ≤ 1000000 := by rw [hL, List.length_take]; omega
    obtain ⟨Ao, co, rfl⟩ := hF.len
    by_cases hlt : k < ts.length
    · obtain ⟨⟨tb, td, tt, tu, tsm, ps⟩, hx⟩ := at_lt hlt
      have hlt' : (k : Int) < ts.length := by omega
      obtain ⟨hp1, hp2⟩ := HNE.out _ (List.mem_of_getElem? hx)
      dsimp only at hp1 hp2
      have hr := (listR termR).mono (below_cells hB) (fun _ h => h) h
      obtain ⟨b1, o1, pv, rfl, hb1, t0, t1, t2, t3, t4, t5, hi64, hpr⟩ := term_at hr hx
      dsimp only at t0 t1 t2 t3 t4 t5 hi64 hpr
      obtain ⟨A3, c3, rfl, _, _⟩ := list_form hpr
      have hb1l : b1 < wo.heap.size := Nat.lt_of_lt_of_le hb1 hs
      have hBa : Below wo.heap.size wo (wo.alloc (.cells #[.int .i64 tb, .int .i64 td, .int .i64 tt, .int .i64 tu, .int .i64 tsm, .slice A3 ps.length c3] 47)) := (Below.refl _ wo).alloc (Nat.le_refl _) _
      have hpw : (listR partR).rel (wo.alloc (.cells #[.int .i64 tb, .int .i64 td, .int .i64 tt, .int .i64 tu, .int .i64 tsm, .slice A3 ps.length c3] 47)) (upto (wo.alloc (.cells #[.int .i64 tb, .int .i64 td, .int .i64 tt, .int .i64 tu, .int .i64 tsm, .slice A3 ps.length c3] 47)).heap.size) [.slice A3 ps.length c3] ps := (listR partR).below ((listR partR).mono (fun _ _ => rfl) (fun b hb => Nat.lt_of_lt_of_le hb hs) hpr) hBa hBa.size
      have hX0 := heap_alloc_new wo (.cells #[.int .i64 tb, .int .i64 td, .int .i64 tt, .int .i64 tu, .int .i64 tsm, .slice A3 ps.length c3] 47)
      have hSN : Hid (ts.take (k + 1) = L ++ [⟨tb, td, tt, tu, tsm, ps⟩]) := hid (by rw [List.take_add_one, hx, hL]; rfl)
      have HLe := hid hL
      have HI := hid hi64
      have HCC := hid (HC.out ps _ _ hpw hp1 hp2)
      clear hF hB hlt hr hpr hpw hx hL hi64
      go_wp2_with fail
      refine HCC.out.mono ?_
      rintro e w2 ⟨u2, rfl, h2, hB2⟩
      have hX2 := (hB2.block wo.heap.size (by simp)).trans hX0
      have hXl := heapLtM hX2
      have hB2w : Below wo.heap.size wo w2 := hBa.trans (hB2.mono hBa.size)
      obtain ⟨A9, c9, rfl, _, _⟩ := list_form h2
      obtain ⟨x0, x1, x2, x3, x4, x5⟩ := six9 hX2
      obtain ⟨f0, f1, f2, f3, f4, f5⟩ := fro6 hX2
      clear hX0 t0 t1 t2 t3 t4 t5
      go_wp2_with (at_builtin; refine Hid.out ?_)
      refine hid ?_
      have hBs : Below wo.heap.size wo (w2.setCell ⟨wo.heap.size, 5, none⟩ (.slice A9 ps.length c9)) := hB2w.setCell (p := ⟨wo.heap.size, 5, none⟩) (Nat.le_refl _) _
      have hB2a : Below wo.heap.size wo ((w2.setCell ⟨wo.heap.size, 5, none⟩ (.slice A9 ps.length c9)).alloc (.cells #[.int .i64 tb, .int .i64 td, .int .i64 tt, .int .i64 tu, .int .i64 tsm, .slice A9 ps.length c9] 47)) := hBs.alloc hBs.size _
      have hps : (listR partR).rel ((w2.setCell ⟨wo.heap.size, 5, none⟩ (.slice A9 ps.length c9)).alloc (.cells #[.int .i64 tb, .int .i64 td, .int .i64 tt, .int .i64 tu, .int .i64 tsm, .slice A9 ps.length c9] 47)) (Els ((w2.setCell ⟨wo.heap.size, 5, none⟩ (.slice A9 ps.length c9)).alloc (.cells #[.int .i64 tb, .int .i64 td, .int .i64 tt, .int .i64 tu, .int .i64 tsm, .slice A9 ps.length c9] 47)) w.heap.size (.slice Ao L.length co)) [.slice A9 ps.length c9] ps :=
        (listR partR).mono (fun p hp => by
          have h8 := hp.1
          simp at h8
          rw [show ((w2.setCell ⟨wo.heap.size, 5, none⟩ (.slice A9 ps.length c9)).alloc (.cells #[.int .i64 tb, .int .i64 td, .int .i64 tt, .int .i64 tu, .int .i64 tsm, .slice A9 ps.length c9] 47)).cell? p = (w2.setCell ⟨wo.heap.size, 5, none⟩ (.slice A9 ps.length c9)).cell? p from World.cell?_of_block (Below.heap_alloc _ _ _ (by have := hp.2; simpa using this))]
          exact World.cell?_of_block (heap_setCell_other _ _ _ _ (by simp only; omega))) (fun b hb => ⟨by have := hb.1; simp at this; omega, by have := hb.2; simp; omega, fun he => by have := HF.out.own_lt b he; have := hb.1; simp at this; omega⟩) h2
      show wpList _ _ _ _ _ _
      refine wpList_append_fl (r := termR) (v := .slice Ao L.length co) (xs := L) (by rfl) _ _ 40 (by rfl) inf _ 64 Try.underlying40 hi0 hz0 hz1 hz2 rfl (by decide) (by rfl) HF.out hB2a (Nat.le_trans hs hB2a.size) ⟨w2.heap.size, 0, none⟩ 1 ⟨tb, td, tt, tu, tsm, ps⟩ [.int .i64 tb, .int .i64 td, .int .i64 tt, .int .i64 tu, .int .i64 tsm, .slice A9 ps.length c9] (by rfl) ⟨_, rfl, HI.out, hps⟩
        (news_at (w := (w2.setCell ⟨wo.heap.size, 5, none⟩ (.slice A9 ps.length c9))) (cs := #[_, _, _, _, _, _]) (by simp)) (by simp [Value.oneCell']) (by unfold maxLen; omega) (by omega) ?_
      intro v' w3 hF3 hB3
      have HF3 := hid hF3
      have HB3 := hid ((HB.out.trans (hB2a.mono hs)).trans hB3)
      clear hF3 hB3
      have HE : Hid (∃ j' : Nat, j' ≤ ts.length ∧ Value.int .i64 ((k : Int) + 1) = .int .i64 j' ∧ CopT w w3 ts v' j') := hid ⟨k + 1, by omega, by push_cast; rfl, by rw [hSN.out]; exact HF3.out, HB3.out⟩
      go_wp2_with fail
      first
        | (refine ⟨HE.out, ?_⟩; simp [intOf]; omega)
        | (go_simp; refine ⟨by simpa using HE.out, ?_⟩; simp [intOf]; omega)
    · obtain rfl : k = ts.length := by omega
      rw [List.take_length] at hL
      have HL := hid hL
      clear hF hB hlt hL
      go_wp2_with fail
      go_ret
      exact ⟨_, rfl, by rw [← HL.out]; exact HF.out, HB.out⟩
end Go.Proofs.Ytmkmikacfilbpaa
