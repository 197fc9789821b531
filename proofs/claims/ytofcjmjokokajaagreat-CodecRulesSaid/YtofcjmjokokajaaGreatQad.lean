/-
  CodecRules answers true. Conditions: none. CodecRules answers true: as the statement's row wants it. Conditions: none.
-/
import Derived.Test.YtofcjmjokokajaaGreatQac
import Derived.Below
namespace Go.Proofs.YtofcjmjokokajaaGreat
open Go.RowKit Go.Um Go.Proofs Go.Vm
attribute [local irreducible] Ev arun frun grun awp RetQ NextQ RetM
set_option maxHeartbeats 4000000
theorem rules_v (x : Int) : VPure Tryz.prog 3 [.int .i32 x] (.bool true) := by
  have hc1 := dcheck_v strictD strict_guards
  have hc2 := dcheck_v encodeD encode_guards
  rw [check_strict] at hc1
  rw [check_encode] at hc2
  have hb := bytes_v x
  refine a_pure (n0 := 0) (hN := Tryz.ntmps3) (hf := Tryz.func3) ?_
  refine wk ⟨?_⟩
  refine ar_pure strict_v ?_
  refine wk ⟨?_⟩
  refine ar_pure rstrict_v ?_
  refine wk ⟨?_⟩
  refine ar_pure same_strict ?_
  refine wk ⟨?_⟩
  refine ar_pure encoder_v ?_
  refine wk ⟨?_⟩
  refine ar_pure rencoder_v ?_
  refine wk ⟨?_⟩
  refine ar_pure same_encode ?_
  refine wk ⟨?_⟩
  refine ar_pure strict_v ?_
  refine wk ⟨?_⟩
  refine ar_pure hc1 ?_
  refine wk ⟨?_⟩
  refine ar_pure encoder_v ?_
  refine wk ⟨?_⟩
  refine ar_pure hc2 ?_
  refine wk ⟨?_⟩
  refine ar_pure hb ?_
  by_cases hs : scalP x
  · have h1 := outs_v strictD (bytesF x) 2 strict_guards (by omega)
    rw [strict_outs hs] at h1
    have h2 := outs_v encodeD [x] 2 encode_guards (by omega)
    rw [encode_outs hs] at h2
    have h3 := lsymbols_v (bytesF x) bytesF_byte (by unfold bytesF; repeat' split
                                                     all_goals simp)
    have hne : (bytesF x).length ≠ 0 := by
      unfold bytesF
      rw [if_neg (by simpa using hs)]
      repeat' split
      all_goals simp
    have hlen : 0 < (bytesF x).length := by omega
    have hs1 := ref02Same_v [x] [x]
    have hs2 := ref02Same_v (bytesF x) (bytesF x)
    rw [decide_eq_true rfl] at hs1 hs2
    generalize bytesF x = b at h1 h2 h3 hne hlen hs2
    refine wk ⟨?_⟩
    refine ar_pure strict_v ?_
    refine wk ⟨?_⟩
    refine ar_pure h3 ?_
    refine wk ⟨?_⟩
    refine ar_pure h1 ?_
    refine wk ⟨?_⟩
    refine ar_pure encoder_v ?_
    refine wk ⟨?_⟩
    refine ar_take [0] h2 ?_ (hx := PkL.cons (pk_cells (r := descR) (x := encodeD) rfl) (PkL.cons (pk_row (r := runeR) (ys := [x]) rfl rfl rfl rfl rfl) (PkL.cons (pk_same (.int _ _)) PkL.nil)))
    refine wk ⟨?_⟩
    refine ar_lendd [1] hs1 ?_ (fun st2 h2 => PkL.cons (pk_list (r := runeR) (xs := [x]) rfl) (PkL.cons (pk_row (r := runeR) (ys := [x]) (h2 1 (by simp)) rfl rfl rfl rfl) PkL.nil)) (fun id hid => by
      obtain rfl := List.mem_singleton.1 hid
      exact ⟨by simp [slk], _, List.mem_cons_of_mem _ List.mem_cons_self, rfl⟩)
    refine wk ⟨?_⟩
    refine ar_pure h3 ?_
    refine wk ⟨?_⟩
    refine ar_pure hs2 ?_
    refine wk ⟨?_⟩
    refine ar_pure awake_v ?_
    refine wk ⟨?_⟩
    exact ret_tmp (.inr rfl) rfl rfl (pk_bool rfl)
  · have h0 : bytesF x = [] := by unfold bytesF; rw [if_pos hs]
    rw [h0]
    refine wk ⟨?_⟩
    refine ar_pure awake_v ?_
    refine wk ⟨?_⟩
    exact ret_tmp (.inr rfl) rfl rfl (pk_bool rfl)
end Go.Proofs.YtofcjmjokokajaaGreat
namespace Go.Proofs.YtofcjmjokokajaaGreat
open Go.RowKit Go.Um Go.Proofs Go.Vm
theorem calls_true {P : Program} {f : FuncId} {args : List V} (h : VPure P f args (.bool true)) {w : World} {us : List Value} (hr : Rvs w (fun b => b < w.heap.size) noG args us) : Calls P f us.toArray w fun e w' => e = .returned (.bool true) ∧ Below w.heap.size w w' := by
  refine (h w _ us (fun _ h => h) hr).mono ?_
  rintro e w' ⟨u, Sb', rfl, hN, hv⟩
  cases hv
  exact ⟨rfl, hN.os, hN.tape, hN.output, hN.size, fun k hk => hN.keep k hk not_own⟩
theorem rules_law (z : Int) (w : World) {α : Sort _} (_ : α) : Calls Tryz.prog 3 #[.int .i32 z] w fun e w' => e = .returned (.bool true) ∧ Below w.heap.size w w' :=
  calls_true (rules_v z) (us := [.int .i32 z]) (Rvs.cons (.int _ _) Rvs.nil)
end Go.Proofs.YtofcjmjokokajaaGreat
