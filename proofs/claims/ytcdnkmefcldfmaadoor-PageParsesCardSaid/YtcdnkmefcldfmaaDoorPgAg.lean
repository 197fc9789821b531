/-
  The law PageAgain, walked.
-/
import Derived.Test.YtcdnkmefcldfmaaDoorPgAw2
namespace Go.Proofs.YtcdnkmefcldfmaaDoor
open Go.RowKit Go.Um

theorem parse_big {m n k : Nat} {d : Desc} {s : By} (h : parseF m n d s = .inr k) (hm : s.length < m) : k ≤ n + s.length := by
  induction m generalizing n d s with
  | zero => omega
  | succ m ih =>
    unfold parseF at h
    split at h
    · cases h
    · split at h
      · cases h; omega
      · rename_i l r hc
        obtain ⟨_, _, hl⟩ := cutL_some hc
        split at h
        · cases h; omega
        · have := ih h (by omega); omega
theorem bytes_back (s : ByteArray) : (⟨s.data.toList.toArray⟩ : ByteArray) = s := by cases s; simp
set_option maxHeartbeats 4000000 in
set_option maxRecDepth 100000 in
theorem again_calls (s : ByteArray) (hs : s.size ≤ 9223372036854775807) (w : World) (hv : Vars w.heap.size w) : Calls Tryd.prog 6 #[.string s] w fun e w' => e = .returned (.bool true) ∧ Below w.heap.size w w' := by
  have HV := hid hv
  clear hv
  by_cases hlong : 65536 < s.size
  · have h1 : (65536 : Int) < s.size := by omega
    go_enter Tryd.func6, Tryd.ntmps6
    go_wp2_with fail
    refine (awake_calls _ HV.out).mono ?_
    rintro e w1 ⟨rfl, hb1⟩
    go_wp2_with fail
    go_ret
    exact ⟨rfl, hb1⟩
  · have h1 : ¬ (65536 : Int) < s.size := by omega
    have HP := hid (Parse_calls s (by omega) w HV.out)
    go_enter Tryd.func6, Tryd.ntmps6
    go_wp2_with fail
    refine HP.out.mono ?_
    rintro e w1 ⟨hb1, hm⟩
    clear HP
    cases hp : parseF (s.data.toList.length + 1) 1 d0 s.data.toList with
    | inr n =>
      rw [hp] at hm
      simp only at hm
      subst hm
      have hn := parse_ge hp
      have hn2 := parse_big hp (Nat.lt_succ_self _)
      rw [sizeL] at hn2
      have hn' : (1 : Int) ≤ n := by omega
      have hbA : Below w.heap.size w (w1.alloc (.cells #[.int .i64 0, .int .i64 0, .int .i64 0, .int .i64 0, .slice none 0 0, .slice none 0 0] 26)) := hb1.alloc hb1.size _
      have HVA := hid ((HV.out.on hbA).more hbA.size)
      unfold zeroD
      clear hp
      go_wp2_with fail
      refine (awake_calls _ HVA.out).mono ?_
      rintro e w2 ⟨rfl, hb2⟩
      go_wp2_with fail
      go_ret
      exact ⟨rfl, hbA.trans (hb2.mono hbA.size)⟩
    | inl d =>
      rw [hp] at hm
      obtain ⟨vr, vf, rfl, hr, hf, hI⟩ := hm
      obtain ⟨hpr, _⟩ := parse_some hp
      have hpv : printV d = .tuple #[.string s, .int .i64 0] := by
        unfold printV
        rw [hpr, if_neg (by rw [sizeL]; omega), bytes_back]
      obtain ⟨A, c, rfl, _, _⟩ := list_form hr
      obtain ⟨A', c', rfl, _, _⟩ := list_form hf
      have hbA : Below w.heap.size w (w1.alloc (.cells #[.int .i64 d.inn, .int .i64 d.out, .int .i64 d.states, .int .i64 d.start, .slice A d.rules.length c, .slice A' d.finals.length c'] 26)) := hb1.alloc hb1.size _
      have hbB : Below w1.heap.size w1 (w1.alloc (.cells #[.int .i64 d.inn, .int .i64 d.out, .int .i64 d.states, .int .i64 d.start, .slice A d.rules.length c, .slice A' d.finals.length c'] 26)) := (Below.refl _ _).alloc (Nat.le_refl _) _
      have HVA := hid ((HV.out.on hbA).more hbA.size)
      have HPR := hid (Print_calls d _ _ _ ((listR ruleR).later hr hbB) ((listR finalR).later hf hbB) hI HVA.out)
      rw [hpv] at HPR
      clear hp hr hf hI hpr hpv hbB
      go_wp2_with fail
      refine HPR.out.mono ?_
      rintro e w2 ⟨rfl, hb2⟩
      have hbC := hbA.trans (hb2.mono hbA.size)
      have HVC := hid ((HV.out.on hbC).more hbC.size)
      clear HPR HVA
      go_wp2_with fail
      refine (awake_calls _ HVC.out).mono ?_
      rintro e w3 ⟨rfl, hb3⟩
      go_wp2_with fail
      go_ret
      exact ⟨rfl, hbC.trans (hb3.mono hbC.size)⟩
end Go.Proofs.YtcdnkmefcldfmaaDoor
