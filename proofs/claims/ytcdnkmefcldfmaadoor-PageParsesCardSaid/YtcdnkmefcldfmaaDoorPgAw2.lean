/-
  The document's example: awake returns true.
-/
import Derived.Test.YtcdnkmefcldfmaaDoorPgAw
namespace Go.Proofs.YtcdnkmefcldfmaaDoor
open Go.RowKit Go.Um

theorem printV_dB : printV dB = .tuple #[.string ⟨wantB.toArray⟩, .int .i64 0] := by
  unfold printV
  rw [print_dB, if_neg (by decide)]
set_option maxHeartbeats 4000000 in
set_option maxRecDepth 100000 in
theorem awake_calls (w : World) (hv : Vars w.heap.size w) : Calls Tryd.prog 9 #[] w fun e w' => e = .returned (.bool true) ∧ Below w.heap.size w w' := by
  have HV := hid hv
  clear hv
  go_enter Tryd.func9, Tryd.ntmps9
  go_wp2_with fail
  refine (DSame_calls _).mono ?_
  rintro e w1 ⟨vr, vf, rfl, hr, hf, hb1⟩
  have HP := hid (Print_calls dB vr vf w1 hr hf dB_ok.1 ((HV.out.on hb1).more hb1.size))
  rw [printV_dB] at HP
  go_wp2_with fail
  refine HP.out.mono ?_
  rintro e w2 ⟨rfl, hb2⟩
  have HQ := hid (Parse_calls ⟨wantB.toArray⟩ (by decide) w2 ((HV.out.on (hb1.trans (hb2.mono hb1.size))).more (Nat.le_trans hb1.size hb2.size)))
  go_wp2_with fail
  refine HQ.out.mono ?_
  rintro e w3 ⟨hb3, hm⟩
  rw [parse_dB] at hm
  obtain ⟨vr', vf', rfl, hr', hf', _⟩ := hm
  obtain ⟨A, c, rfl, _, _⟩ := list_form hr'
  obtain ⟨A', c', rfl, _, _⟩ := list_form hf'
  have hbE := hb1.trans ((hb2.mono hb1.size).trans (hb3.mono (Nat.le_trans hb1.size hb2.size)))
  clear hr hf hr' hf' HP HQ
  go_wp2_with fail
  go_ret
  exact ⟨rfl, hbE.alloc hbE.size _⟩
end Go.Proofs.YtcdnkmefcldfmaaDoor
