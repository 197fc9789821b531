/-
  span: Has, Check; conditions: none. span.Each: going through a set's numbers, for rounds that keep what isn't theirs. Conditions: none. span.Each: what it hands back. Conditions: none. What of a set a part's values are in another one, plain Lean. No program is named here. part: taken, Pre.
-/
import Derived.Test.YtofcjmjokokajaaGreatQn
import Derived.Test.YtofcjmjokokajaaGreatQo
import Derived.Test.YtofcjmjokokajaaGreatQr
import Derived.Test.YtofcjmjokokajaaGreatQl
import Derived.Test.YtofcjmjokokajaaGreatQp
import Derived.Test.YtofcjmjokokajaaGreatQq
import Derived.RangeFuncBound
import Derived.RangeFuncNested
import Derived.RangeFuncBox
import Derived.OwnWalkIn
import Derived.TacticsInMore
import Derived.LoopIn
namespace Go.Proofs.YtofcjmjokokajaaGreat
open Go.RowKit Go.Um Go.Proofs Go.Vm
attribute [local irreducible] Ev arun awp RetQ NextQ
set_option maxHeartbeats 1000000
theorem has_v (xs : List Span) (x : Int) : VPure Tryz.prog 105 [spanR.L xs, .int .i64 x] (.bool (decide (-1073741824 ≤ x ∧ x ≤ 1073741824) && hasB xs x)) := by
  refine a_pure (n0 := 0) (hN := Tryz.ntmps105) (hf := Tryz.func105) ?_
  repeat' first | (show arun _ _ _ _ _ (⟨some _, _, _, _, _, none⟩ :: _) _ _ _; first | refine ar_s ?_ | refine ar_app_n (fun h => ?_) (fun h => ?_) | refine ar_app_nz (fun h => ?_) (fun h => ?_)) | (show arun _ _ _ _ _ (⟨_, _, _, _, _, some _⟩ :: _) _ _ _; first | refine ar_on ?_ | refine ar_off ?_ | refine ar_off2 ?_ | refine ar_split_t ?_ | refine ar_split_f ?_ | refine ar_split (fun h => ?_) (fun h => ?_)) | (show arun _ _ _ _ _ (⟨none, _, _, _, _, none⟩ :: _) _ _ _; refine ar_n ?_) | (show frun _ _ _ _ _ _ (⟨some _, _, _, _, _, none⟩ :: _) _ _ _; refine fr_s ?_) | (show frun _ _ _ _ _ _ (⟨none, _, _, _, _, none⟩ :: _) _ _ _; refine fr_n ?_) | (show grun _ _ _ _ _ _ _ (⟨some _, _, _, _, _, none⟩ :: _) _ _ _; refine gr_s ?_) | (show grun _ _ _ _ _ _ _ (⟨none, _, _, _, _, none⟩ :: _) _ _ _; refine gr_n ?_) | refine gr_nil ?_ | refine fr_nil ?_ | refine ar_nil ?_ | refine a_seq ?_ | refine a_block ?_ | refine a_region ?_ | refine a_drawn ?_ | refine a_skip ?_ | refine a_exit ?_ | refine a_ret ?_ | (show awp _ _ (.cond _ _ _) _ _ _ _; first | refine a_yes rfl ?_ | refine a_no rfl ?_ | refine a_dec_t ?_ | refine a_dec_f ?_ | refine a_dec rfl (fun h => ?_) (fun h => ?_))
  · exact ret_tmp (.inr rfl) rfl rfl (pk_bool (by simp; omega))
  · exact ret_tmp (.inr rfl) rfl rfl (pk_bool (by simp; omega))
  rename_i g1
  have g2 := h
  refine a_len 13 rfl rfl fun hlen => ?_
  refine a_loop (σ := Nat) 0 [1, 13, 14] (fun k => [(15, V.int .i64 (k : Int))]) (fun _ => []) (fun k => k ≤ xs.length ∧ hasB (xs.take k) x = false) (fun k => xs.length - k) 0 ⟨Nat.zero_le _, rfl⟩ ?_
  rintro k ⟨hk, hno⟩
  have hn : ∀ y, xs[k]? = some y → ¬ (y.lo ≤ x ∧ x ≤ y.hi) → hasB (xs.take (k + 1)) x = false := fun y hy h => by
    rw [take_at hy]
    simp only [hasB, List.any_append, Bool.or_eq_false_iff] at hno ⊢
    refine ⟨hno, ?_⟩
    simp; omega
  obtain hx | ⟨y, hx, hlt⟩ := range_cases hk
  all_goals repeat' first | (show arun _ _ _ _ _ (⟨some _, _, _, _, _, none⟩ :: _) _ _ _; first | refine ar_s ?_ | refine ar_app_n (fun h => ?_) (fun h => ?_) | refine ar_app_nz (fun h => ?_) (fun h => ?_)) | (show arun _ _ _ _ _ (⟨_, _, _, _, _, some _⟩ :: _) _ _ _; first | refine ar_on ?_ | refine ar_off ?_ | refine ar_off2 ?_ | refine ar_split_t ?_ | refine ar_split_f ?_ | refine ar_split (fun h => ?_) (fun h => ?_)) | (show arun _ _ _ _ _ (⟨none, _, _, _, _, none⟩ :: _) _ _ _; refine ar_n ?_) | (show frun _ _ _ _ _ _ (⟨some _, _, _, _, _, none⟩ :: _) _ _ _; refine fr_s ?_) | (show frun _ _ _ _ _ _ (⟨none, _, _, _, _, none⟩ :: _) _ _ _; refine fr_n ?_) | (show grun _ _ _ _ _ _ _ (⟨some _, _, _, _, _, none⟩ :: _) _ _ _; refine gr_s ?_) | (show grun _ _ _ _ _ _ _ (⟨none, _, _, _, _, none⟩ :: _) _ _ _; refine gr_n ?_) | refine gr_nil ?_ | refine fr_nil ?_ | refine ar_nil ?_ | refine a_seq ?_ | refine a_block ?_ | refine a_region ?_ | refine a_drawn ?_ | refine a_skip ?_ | refine a_exit ?_ | refine a_ret ?_ | (show awp _ _ (.cond _ _ _) _ _ _ _; first | refine a_yes rfl ?_ | refine a_no rfl ?_ | refine a_dec_t ?_ | refine a_dec_f ?_ | refine a_dec rfl (fun h => ?_) (fun h => ?_))
  · exact ret_tmp (.inr rfl) rfl rfl (pk_bool (by rw [hx, List.take_length] at hno; rw [hno]; simp))
  · exact ret_tmp (.inr rfl) rfl rfl (pk_bool (by
      have : hasB xs x = true := (hasB_iff xs x).2 ⟨y, List.mem_of_getElem? hx, by omega, by omega⟩
      rw [this]; simp; omega))
  · exact a_next (k + 1) ⟨hlt, hn y hx (by omega)⟩ (by omega) (by refine end0 ?_ ?_; all_goals repeat' first | exact trivial | refine And.intro ?_ ?_ | exact rn_int rfl | exact rn_list rfl | exact rn_row rfl ⟨rfl, rfl, rfl⟩ | exact rn_ptr rfl | exact rn_bool rfl | exact rn_agg rfl | exact rn_iptr rfl | exact rn_map rfl | exact rn_nrows rfl | exact rn_new rfl rfl rfl (by omega) | refine rn_int ?_ | refine rn_bool ?_ | refine rn_list ?_ | refine rn_row rfl ⟨?_, ?_, ?_⟩ | refine rn_nrow rfl ⟨rfl, ?_⟩ ?_ | refine rn_agg ?_ | exact Exists.intro _ ⟨rfl, RnB.cells (RnX.of_eq rfl), rfl⟩ | exact Exists.intro _ ⟨rfl, RnB.cells (RnX.of_eq (map_snoc rfl)), rfl⟩ | exact Exists.intro _ ⟨rfl, RnB.cells (RnX.of_eq (map_setc rfl)), rfl⟩ | exact Exists.intro _ ⟨rfl, RnB.cells (RnX.of_eq (map_inc rfl)), rfl⟩ | exact Exists.intro _ ⟨rfl, RnB.cells (RnX.of_eq (map_snocs rfl)), rfl⟩ | refine Exists.intro _ ⟨rfl, RnB.cells (RnX.cons (RnC.cons ?_ ?_ RnC.nil) RnX.nil), rfl⟩ | exact Exists.intro _ ⟨rfl, RnB.hole, rfl⟩ | refine Exists.intro _ ⟨rfl, rnm_of ?_, rfl⟩ | exact nrow_one | refine old_nbs ?_ rfl | refine old_nb ?_ ⟨?_, _, rfl, RnB.cells (RnX.of_eq (map_snoc rfl)), rfl⟩ | refine old_nb ?_ ⟨?_, _, rfl, RnB.cells (RnX.of_eq (map_snocs rfl)), rfl⟩ | refine old_nb ?_ ⟨?_, _, rfl, RnB.cells (RnX.of_eq (map_inc rfl)), rfl⟩ | refine old_nb ?_ ⟨?_, _, rfl, RnB.cells (RnX.of_eq rfl), rfl⟩ | rfl | (simp only []; omega) | (simp; done) | (simp; omega) | assumption)
  · exact a_next (k + 1) ⟨hlt, hn y hx (by omega)⟩ (by omega) (by refine end0 ?_ ?_; all_goals repeat' first | exact trivial | refine And.intro ?_ ?_ | exact rn_int rfl | exact rn_list rfl | exact rn_row rfl ⟨rfl, rfl, rfl⟩ | exact rn_ptr rfl | exact rn_bool rfl | exact rn_agg rfl | exact rn_iptr rfl | exact rn_map rfl | exact rn_nrows rfl | exact rn_new rfl rfl rfl (by omega) | refine rn_int ?_ | refine rn_bool ?_ | refine rn_list ?_ | refine rn_row rfl ⟨?_, ?_, ?_⟩ | refine rn_nrow rfl ⟨rfl, ?_⟩ ?_ | refine rn_agg ?_ | exact Exists.intro _ ⟨rfl, RnB.cells (RnX.of_eq rfl), rfl⟩ | exact Exists.intro _ ⟨rfl, RnB.cells (RnX.of_eq (map_snoc rfl)), rfl⟩ | exact Exists.intro _ ⟨rfl, RnB.cells (RnX.of_eq (map_setc rfl)), rfl⟩ | exact Exists.intro _ ⟨rfl, RnB.cells (RnX.of_eq (map_inc rfl)), rfl⟩ | exact Exists.intro _ ⟨rfl, RnB.cells (RnX.of_eq (map_snocs rfl)), rfl⟩ | refine Exists.intro _ ⟨rfl, RnB.cells (RnX.cons (RnC.cons ?_ ?_ RnC.nil) RnX.nil), rfl⟩ | exact Exists.intro _ ⟨rfl, RnB.hole, rfl⟩ | refine Exists.intro _ ⟨rfl, rnm_of ?_, rfl⟩ | exact nrow_one | refine old_nbs ?_ rfl | refine old_nb ?_ ⟨?_, _, rfl, RnB.cells (RnX.of_eq (map_snoc rfl)), rfl⟩ | refine old_nb ?_ ⟨?_, _, rfl, RnB.cells (RnX.of_eq (map_snocs rfl)), rfl⟩ | refine old_nb ?_ ⟨?_, _, rfl, RnB.cells (RnX.of_eq (map_inc rfl)), rfl⟩ | refine old_nb ?_ ⟨?_, _, rfl, RnB.cells (RnX.of_eq rfl), rfl⟩ | rfl | (simp only []; omega) | (simp; done) | (simp; omega) | assumption)
theorem check_v (xs : List Span) : VPure Tryz.prog 151 [spanR.L xs] (.bool (plain xs)) := by
  refine a_pure (n0 := 0) (hN := Tryz.ntmps151) (hf := Tryz.func151) ?_
  repeat' first | (show arun _ _ _ _ _ (⟨some _, _, _, _, _, none⟩ :: _) _ _ _; first | refine ar_s ?_ | refine ar_app_n (fun h => ?_) (fun h => ?_) | refine ar_app_nz (fun h => ?_) (fun h => ?_)) | (show arun _ _ _ _ _ (⟨_, _, _, _, _, some _⟩ :: _) _ _ _; first | refine ar_on ?_ | refine ar_off ?_ | refine ar_off2 ?_ | refine ar_split_t ?_ | refine ar_split_f ?_ | refine ar_split (fun h => ?_) (fun h => ?_)) | (show arun _ _ _ _ _ (⟨none, _, _, _, _, none⟩ :: _) _ _ _; refine ar_n ?_) | (show frun _ _ _ _ _ _ (⟨some _, _, _, _, _, none⟩ :: _) _ _ _; refine fr_s ?_) | (show frun _ _ _ _ _ _ (⟨none, _, _, _, _, none⟩ :: _) _ _ _; refine fr_n ?_) | (show grun _ _ _ _ _ _ _ (⟨some _, _, _, _, _, none⟩ :: _) _ _ _; refine gr_s ?_) | (show grun _ _ _ _ _ _ _ (⟨none, _, _, _, _, none⟩ :: _) _ _ _; refine gr_n ?_) | refine gr_nil ?_ | refine fr_nil ?_ | refine ar_nil ?_ | refine a_seq ?_ | refine a_block ?_ | refine a_region ?_ | refine a_drawn ?_ | refine a_skip ?_ | refine a_exit ?_ | refine a_ret ?_ | (show awp _ _ (.cond _ _ _) _ _ _ _; first | refine a_yes rfl ?_ | refine a_no rfl ?_ | refine a_dec_t ?_ | refine a_dec_f ?_ | refine a_dec rfl (fun h => ?_) (fun h => ?_))
  refine a_len 6 rfl rfl fun hlen => ?_
  refine a_loop (σ := Nat × Int) 0 [6, 7] (fun x => [(8, V.int .i64 (x.1 : Int)), (3, V.int .i64 x.2)]) (fun _ => []) (fun x => x.1 ≤ xs.length ∧ plain xs = plainFrom x.2 (xs.drop x.1) ∧ -1073741826 ≤ x.2 ∧ x.2 ≤ 1073741824) (fun x => xs.length - x.1) (0, -1073741826) ⟨Nat.zero_le _, rfl, by omega, by omega⟩ ?_
  rintro ⟨k, last⟩ ⟨hk, hp, h1, h2⟩
  simp only at hk hp h1 h2
  obtain hx | ⟨y, hx, hlt⟩ := range_cases hk
  · repeat' first | (show arun _ _ _ _ _ (⟨some _, _, _, _, _, none⟩ :: _) _ _ _; first | refine ar_s ?_ | refine ar_app_n (fun h => ?_) (fun h => ?_) | refine ar_app_nz (fun h => ?_) (fun h => ?_)) | (show arun _ _ _ _ _ (⟨_, _, _, _, _, some _⟩ :: _) _ _ _; first | refine ar_on ?_ | refine ar_off ?_ | refine ar_off2 ?_ | refine ar_split_t ?_ | refine ar_split_f ?_ | refine ar_split (fun h => ?_) (fun h => ?_)) | (show arun _ _ _ _ _ (⟨none, _, _, _, _, none⟩ :: _) _ _ _; refine ar_n ?_) | (show frun _ _ _ _ _ _ (⟨some _, _, _, _, _, none⟩ :: _) _ _ _; refine fr_s ?_) | (show frun _ _ _ _ _ _ (⟨none, _, _, _, _, none⟩ :: _) _ _ _; refine fr_n ?_) | (show grun _ _ _ _ _ _ _ (⟨some _, _, _, _, _, none⟩ :: _) _ _ _; refine gr_s ?_) | (show grun _ _ _ _ _ _ _ (⟨none, _, _, _, _, none⟩ :: _) _ _ _; refine gr_n ?_) | refine gr_nil ?_ | refine fr_nil ?_ | refine ar_nil ?_ | refine a_seq ?_ | refine a_block ?_ | refine a_region ?_ | refine a_drawn ?_ | refine a_skip ?_ | refine a_exit ?_ | refine a_ret ?_ | (show awp _ _ (.cond _ _ _) _ _ _ _; first | refine a_yes rfl ?_ | refine a_no rfl ?_ | refine a_dec_t ?_ | refine a_dec_f ?_ | refine a_dec rfl (fun h => ?_) (fun h => ?_))
    exact ret_tmp (.inr rfl) rfl rfl (pk_bool (by rw [hp, hx, List.drop_length]; rfl))
  · rw [drop_at hx] at hp
    have hno : ¬ (y.lo ≤ y.hi ∧ -1073741824 ≤ y.lo ∧ y.hi ≤ 1073741824 ∧ last + 1 < y.lo) → plain xs = false := fun h => by
      rw [hp]; cases hc : plainFrom last (y :: xs.drop (k + 1)) with
      | false => rfl
      | true => exact absurd (plainFrom_cons.1 hc).1 h
    repeat' first | (show arun _ _ _ _ _ (⟨some _, _, _, _, _, none⟩ :: _) _ _ _; first | refine ar_s ?_ | refine ar_app_n (fun h => ?_) (fun h => ?_) | refine ar_app_nz (fun h => ?_) (fun h => ?_)) | (show arun _ _ _ _ _ (⟨_, _, _, _, _, some _⟩ :: _) _ _ _; first | refine ar_on ?_ | refine ar_off ?_ | refine ar_off2 ?_ | refine ar_split_t ?_ | refine ar_split_f ?_ | refine ar_split (fun h => ?_) (fun h => ?_)) | (show arun _ _ _ _ _ (⟨none, _, _, _, _, none⟩ :: _) _ _ _; refine ar_n ?_) | (show frun _ _ _ _ _ _ (⟨some _, _, _, _, _, none⟩ :: _) _ _ _; refine fr_s ?_) | (show frun _ _ _ _ _ _ (⟨none, _, _, _, _, none⟩ :: _) _ _ _; refine fr_n ?_) | (show grun _ _ _ _ _ _ _ (⟨some _, _, _, _, _, none⟩ :: _) _ _ _; refine gr_s ?_) | (show grun _ _ _ _ _ _ _ (⟨none, _, _, _, _, none⟩ :: _) _ _ _; refine gr_n ?_) | refine gr_nil ?_ | refine fr_nil ?_ | refine ar_nil ?_ | refine a_seq ?_ | refine a_block ?_ | refine a_region ?_ | refine a_drawn ?_ | refine a_skip ?_ | refine a_exit ?_ | refine a_ret ?_ | (show awp _ _ (.cond _ _ _) _ _ _ _; first | refine a_yes rfl ?_ | refine a_no rfl ?_ | refine a_dec_t ?_ | refine a_dec_f ?_ | refine a_dec rfl (fun h => ?_) (fun h => ?_))
    · exact ret_tmp (.inr rfl) rfl rfl (pk_bool (hno (by omega)).symm)
    · exact ret_tmp (.inr rfl) rfl rfl (pk_bool (hno (by omega)).symm)
    · exact ret_tmp (.inr rfl) rfl rfl (pk_bool (hno (by omega)).symm)
    · exact ret_tmp (.inr rfl) rfl rfl (pk_bool (hno (by omega)).symm)
    · refine a_next (k + 1, y.hi) ⟨hlt, ?_, by simp only; omega, by simp only; omega⟩ (by simp only; omega) (by refine end0 ?_ ?_; all_goals repeat' first | exact trivial | refine And.intro ?_ ?_ | exact rn_int rfl | exact rn_list rfl | exact rn_row rfl ⟨rfl, rfl, rfl⟩ | exact rn_ptr rfl | exact rn_bool rfl | exact rn_agg rfl | exact rn_iptr rfl | exact rn_map rfl | exact rn_nrows rfl | exact rn_new rfl rfl rfl (by omega) | refine rn_int ?_ | refine rn_bool ?_ | refine rn_list ?_ | refine rn_row rfl ⟨?_, ?_, ?_⟩ | refine rn_nrow rfl ⟨rfl, ?_⟩ ?_ | refine rn_agg ?_ | exact Exists.intro _ ⟨rfl, RnB.cells (RnX.of_eq rfl), rfl⟩ | exact Exists.intro _ ⟨rfl, RnB.cells (RnX.of_eq (map_snoc rfl)), rfl⟩ | exact Exists.intro _ ⟨rfl, RnB.cells (RnX.of_eq (map_setc rfl)), rfl⟩ | exact Exists.intro _ ⟨rfl, RnB.cells (RnX.of_eq (map_inc rfl)), rfl⟩ | exact Exists.intro _ ⟨rfl, RnB.cells (RnX.of_eq (map_snocs rfl)), rfl⟩ | refine Exists.intro _ ⟨rfl, RnB.cells (RnX.cons (RnC.cons ?_ ?_ RnC.nil) RnX.nil), rfl⟩ | exact Exists.intro _ ⟨rfl, RnB.hole, rfl⟩ | refine Exists.intro _ ⟨rfl, rnm_of ?_, rfl⟩ | exact nrow_one | refine old_nbs ?_ rfl | refine old_nb ?_ ⟨?_, _, rfl, RnB.cells (RnX.of_eq (map_snoc rfl)), rfl⟩ | refine old_nb ?_ ⟨?_, _, rfl, RnB.cells (RnX.of_eq (map_snocs rfl)), rfl⟩ | refine old_nb ?_ ⟨?_, _, rfl, RnB.cells (RnX.of_eq (map_inc rfl)), rfl⟩ | refine old_nb ?_ ⟨?_, _, rfl, RnB.cells (RnX.of_eq rfl), rfl⟩ | rfl | (simp only []; omega) | (simp; done) | (simp; omega) | assumption)
      rw [hp, plainFrom, if_neg (by omega)]
end Go.Proofs.YtofcjmjokokajaaGreat
namespace Go.Um
open Go.RowKit Go.Vm
def SpAt (W : World) (b o : Nat) (s : List Span) : Prop := ∀ (i : Nat) (x : Span), s[i]? = some x → W.cell? ⟨b, o + i * 2, none⟩ = some (.int .i64 x.lo) ∧ W.cell? ⟨b, o + i * 2 + 1, none⟩ = some (.int .i64 x.hi)
theorem SpAt.kept {O O' : Nat → Prop} {W W' : World} {b o : Nat} {s : List Span} (h : SpAt W b o s) (k : Kv O O' W W') (ho : ¬ O b) : SpAt W' b o s := fun i x hx => ⟨k.cell (h i x hx).1 ho, k.cell (h i x hx).2 ho⟩
theorem drop_consV {α : Type} {xs : List α} {i : Nat} {x : α} (h : xs[i]? = some x) : xs.drop i = x :: xs.drop (i + 1) := by
  obtain ⟨hi, rfl⟩ := List.getElem?_eq_some_iff.1 h
  exact List.drop_eq_getElem_cons hi
theorem eachS_get {s : Span} {j : Nat} (h : s.lo + j ≤ s.hi) : (eachS s)[j]? = some (s.lo + j) := by
  unfold eachS
  rw [List.getElem?_map, List.getElem?_range (by omega)]
  rfl
theorem eachS_drop {s : Span} {j : Nat} (h : s.lo + j ≤ s.hi) : (eachS s).drop j = (s.lo + j) :: (eachS s).drop (j + 1) := drop_consV (eachS_get h)
theorem eachS_end {s : Span} {j : Nat} (h : ¬ s.lo + j ≤ s.hi) : (eachS s).drop j = [] := by
  apply List.drop_eq_nil_of_le
  unfold eachS
  simp
  omega
end Go.Um
namespace Go.Proofs.YtofcjmjokokajaaGreat
open Go.Proofs Go.Um Go.RowKit Go.Vm
attribute [local go_sem] Oper.semAt_some
theorem heap_newV (w : World) (o : Obj) : (w.alloc o).heap[w.heap.size]? = some o := World.alloc_heap_new w o
theorem cell_rowV (w : World) (b i : Nat) (cs : Array Value) (T : TypeId) (fr : Nat × Nat) (h : w.heap[b]? = some (.cells cs T fr)) : w.cell? ⟨b, i, none⟩ = cs[i]? := by
  unfold World.cell?
  rw [h]
  rfl
set_option maxRecDepth 100000 in
set_option maxHeartbeats 2000000 in
theorem each1_v (n : Nat) (hn : 1 ≤ n) (l Bs Bo b0 o0 c : Nat) (A : Option Addr) (s : List Span) (hA : ∀ (i : Nat) (x : Span), s[i]? = some x → A = some ⟨b0, o0, none⟩) (O : Nat → Prop) (J : Nat → World → (Nat → Prop) → Prop) (Jx : World → Prop)
    (hY : ∀ (k : Nat) (z : Int) (W : World) (O : Nat → Prop), (eachL s)[k]? = some z → J k W O → YieldAt Fence.wide (n - 1) Tryz.prog l #[.int .i64 z] W fun e W' =>
      (e = .returned (.bool true) ∧ ∃ O', J (k + 1) W' O' ∧ Kv O O' W W') ∨ (e = .returned (.bool false) ∧ Jx W'))
    (hJ : ∀ k W O o, J k W O → J k (W.alloc o) O) (hJs : ∀ k W O, J k W O → ∀ b, O b → b < W.heap.size)
    (W : World) (hBs : W.cell? ⟨Bs, Bo, none⟩ = some (.slice A s.length c)) (hr : SpAt W b0 o0 s) (hO2 : ¬ O b0) (hc : s.length ≤ c) (hm : c ≤ maxLen)
    (hb : ∀ x ∈ s, -1000000000000 ≤ x.lo ∧ x.hi ≤ 1000000000000) (h0 : J 0 W O) :
    CallsIn Fence.wide n Tryz.prog 276 #[.func (.yield l) #[] #[], .pointer (some ⟨Bs, Bo, none⟩)] W fun e W' => (∃ v, e = .returned v) ∧
      ((∃ O', J (eachL s).length W' O') ∨ Jx W') := by
  unfold maxLen at hm
  refine callsIn_of_wp Tryz.func276 rfl trivial ?_ rfl
  simp only [Tryz.ntmps276, List.size_toArray, List.length_cons, List.length_nil, Nat.reduceAdd, Nat.reduceSub, Array.replicate_succ, Array.replicate_zero, List.push_toArray, List.append_toArray, List.nil_append, List.cons_append]
  gi_wp2
  gi_loopw [8] (fun i wr => ∃ (k : Nat) (pre : List Int) (O1 : Nat → Prop), k ≤ s.length ∧ i = .int .i64 k ∧ Hid (eachL s = pre ++ eachL (s.drop k)) ∧ J pre.length wr O1 ∧ Kv O O1 W wr)
    (fun i _ => s.length - (intOf i).toNat)
  case atStart => exact ⟨0, [], O, Nat.zero_le _, rfl, hid rfl, h0, Kv.refl _ _⟩
  case round =>
    obtain ⟨k, pre, O1, hk, rfl, HE, hJs1, hfr⟩ := hrel
    obtain ⟨wo, hwo⟩ : ∃ wo, wo = wr := ⟨_, rfl⟩
    subst hwo
    by_cases hlt : k < s.length
    · obtain ⟨x, hx⟩ : ∃ x, s[k]? = some x := ⟨_, List.getElem?_eq_getElem hlt⟩
      obtain ⟨c1, c2⟩ := (hr.kept hfr hO2) k x hx
      have hA' := hA k x hx
      subst hA'
      clear hA
      have hlt' : (k : Int) < s.length := by omega
      have hxb := hb x (List.mem_of_getElem? hx)
      have HE2 : Hid (eachL s = pre ++ (eachS x ++ eachL (s.drop (k + 1)))) := hid (by rw [HE.out, drop_consV hx]; rfl)
      clear HE hx
      have hnew : ¬ O1 wo.heap.size := fun q => by have := hJs _ _ _ hJs1 _ q; omega
      gi_wp2
      have hka := Kv.alloc O1 wo (.cells #[.int .i64 x.lo, .int .i64 x.hi] 90)
      have hja := hJ _ wo O1 (.cells #[.int .i64 x.lo, .int .i64 x.hi] 90) hJs1
      have hba := heap_newV wo (.cells #[.int .i64 x.lo, .int .i64 x.hi] 90)
      generalize wo.alloc (.cells #[.int .i64 x.lo, .int .i64 x.hi] 90) = wa at *
      gi_loopw [5] (fun i wq => ∃ (j : Nat) (pj : List Int) (O2 : Nat → Prop), i = .int .i64 (x.lo + j) ∧ (x.lo + j ≤ x.hi + 1 ∨ j = 0) ∧ Hid (eachL s = pj ++ ((eachS x).drop j ++ eachL (s.drop (k + 1)))) ∧ J pj.length wq O2 ∧ Kv O1 O2 wa wq)
        (fun i _ => (x.hi + 1 - intOf i).toNat)
      case atStart => exact ⟨0, pre, O1, by simp, .inr rfl, HE2, hja, Kv.refl _ _⟩
      case round =>
        obtain ⟨j, pj, O2, rfl, hjb, HJ, hJj, hfq⟩ := hrel
        have hbq := hfq.keep _ _ _ _ hba hnew
        have q1 : wr.cell? ⟨wo.heap.size, 0, none⟩ = some (.int .i64 x.lo) := cell_rowV _ _ 0 _ _ _ hbq
        have q2 : wr.cell? ⟨wo.heap.size, 1, none⟩ = some (.int .i64 x.hi) := cell_rowV _ _ 1 _ _ _ hbq
        by_cases hin : x.lo + j ≤ x.hi
        · have HJ2 : Hid (eachL s = pj ++ (x.lo + j) :: ((eachS x).drop (j + 1) ++ eachL (s.drop (k + 1)))) := hid (by rw [HJ.out, eachS_drop hin]; rfl)
          obtain ⟨fn, tmps, assign, body, hy, hR⟩ := hY pj.length (x.lo + j) wr O2 (by rw [HJ2.out]; simp) hJj
          clear HJ
          gi_wp2
          refine hR.mono ?_
          rintro e W3 (⟨rfl, O3, hJ3, hk3⟩ | ⟨rfl, hJx3⟩)
          · gi_wp2
            go_roundw
            case rel => exact ⟨j + 1, pj ++ [x.lo + j], O3, by push_cast; rw [Int.add_assoc], .inl (by push_cast; omega), hid (by rw [HJ2.out]; simp), by simpa using hJ3, hfq.trans hk3⟩
            case measure => simp [intOf]; omega
          · gi_wp2
            refine bodyPost_ret (results_none rfl _ _ _) rfl ?_
            exact ⟨⟨_, rfl⟩, .inr hJx3⟩
        · have HJ2 : Hid (eachL s = pj ++ eachL (s.drop (k + 1))) := hid (by rw [HJ.out, eachS_end hin]; rfl)
          clear HJ
          gi_wp2
          go_roundw
          case rel => exact ⟨k + 1, pj, O2, by omega, by push_cast; rfl, HJ2, hJj, (hfr.trans hka).trans hfq⟩
          case measure => simp [intOf]; omega
    · obtain rfl : k = s.length := by omega
      have HE2 : Hid (pre = eachL s) := hid (by rw [HE.out, List.drop_length]; simp [eachL])
      clear HE
      gi_wp2
      go_end0
      exact ⟨⟨_, rfl⟩, .inl ⟨O1, by rw [← HE2.out]; exact hJs1⟩⟩
set_option maxRecDepth 100000 in
theorem each_iter (s : List Span) (hb : ∀ x ∈ s, -1000000000000 ≤ x.lo ∧ x.hi ≤ 1000000000000) : IterV Tryz.prog 276 [.iptr [spanR.L s]] ((eachL s).map fun z => [z]) := by
  intro l J Jx W Sb G us O hus hO hY hJ hJs h0
  obtain ⟨u, us', rfl, hu, hus⟩ := hus.head
  have := hus.none
  subst this
  have hY' : ∀ (k : Nat) (z : Int) (W : World) (O : Nat → Prop), (eachL s)[k]? = some z → J k W O → YieldAt Fence.wide (1 - 1) Tryz.prog l #[.int .i64 z] W fun e W' => (e = .returned (.bool true) ∧ ∃ O', J (k + 1) W' O' ∧ Kv O O' W W') ∨ (e = .returned (.bool false) ∧ Jx W') := fun k z W O hz hj => by
    have := hY k [z] W O (by simp [hz]) hj
    simpa using this
  cases hu with
  | @iptr _ bs os f hbs hn ho hcell hv =>
    have hc0 := hcell 0 _ rfl
    have hv0 := hv 0 _ rfl
    rw [List.length_map]
    simp only [Rp.L] at hv0
    generalize f 0 = v at hc0 hv0
    obtain ⟨xs, hxs⟩ : ∃ xs, xs = s.map spanR.cells := ⟨_, rfl⟩
    rw [← hxs] at hv0
    have hlen : xs.length = s.length := by rw [hxs, List.length_map]
    cases hv0 with
    | @list _ b o m c f' hb' hm hc hcm hl ho' hcell' hv' =>
      rw [hlen] at hc0 hc
      refine each1_v 1 (Nat.le_refl 1) l bs os b o c _ s (fun _ _ _ => rfl) O J Jx hY' hJ hJs W (by simpa using hc0) (fun i x hx => ?_) (hO _ hb') hc hcm hb h0
      have hi : xs[i]? = some [.int .i64 x.lo, .int .i64 x.hi] := by rw [hxs, List.getElem?_map, hx]; rfl
      have a1 := hcell' i _ 0 _ hi rfl
      have a2 := hcell' i _ 1 _ hi rfl
      have b1 := hv' i _ 0 _ hi rfl
      have b2 := hv' i _ 1 _ hi rfl
      generalize f' i 0 = u1 at a1 b1
      generalize f' i 1 = u2 at a2 b2
      cases b1
      cases b2
      exact ⟨a1, a2⟩
    | @list0 _ a c hcm =>
      have hs : s = [] := List.eq_nil_of_length_eq_zero hlen.symm
      subst hs
      exact each1_v 1 (Nat.le_refl 1) l bs os bs 0 c a [] (fun i x hx => by simp at hx) O J Jx hY' hJ hJs W (by simpa using hc0) (fun i x hx => by simp at hx) (hO _ hbs) (Nat.zero_le _) hcm hb h0
end Go.Proofs.YtofcjmjokokajaaGreat
namespace Go.Proofs.YtofcjmjokokajaaGreat
open Go.RowKit Go.Um Go.Proofs Go.Vm
attribute [local irreducible] Ev arun awp RetQ NextQ
set_option maxHeartbeats 1000000
theorem each_v (l : List Span) (hl : l.length ≤ 1073741824) : VPure Tryz.prog 256 [spanR.L l] (.func (.func 276) [] [.iptr [spanR.L (normF l)]]) := by
  have hn := norm_v l hl
  refine a_pure (n0 := 0) (hN := Tryz.ntmps256) (hf := Tryz.func256) ?_
  refine wk ⟨?_⟩
  refine ar_pure hn ?_
  refine wk ⟨?_⟩
  refine ret_tmp (.inr rfl) rfl rfl ?_
  refine pk_func1 ?_
  refine pk_box rfl rfl rfl rfl rfl ?_
  exact pk_list rfl
end Go.Proofs.YtofcjmjokokajaaGreat
namespace Go.Um
def hasI (l : List Span) (x : Int) : Bool := decide (-1073741824 ≤ x ∧ x ≤ 1073741824) && hasB l x
theorem hasI_iff {l : List Span} {x : Int} : hasI l x = true ↔ inSet l x := by
  unfold hasI inSet
  rw [Bool.and_eq_true, decide_eq_true_eq, hasB_iff]
theorem take_bd {p : Part} (hb : bitsF p = true) : 1 < pw p.take ∧ pw p.take ≤ 2097152 := by
  obtain ⟨_, _, h3, h4, _⟩ := bitsF_iff.1 hb
  have h1 := pw_mono h3
  have e : pw 1 = 2 := rfl
  exact ⟨by omega, pw_21 h4⟩
def Rise : Int → List Span → Prop
  | _, [] => True
  | b, s :: r => b ≤ s.lo ∧ s.lo ≤ s.hi ∧ Rise (s.hi + 1) r
theorem Rise.le : ∀ {l : List Span} {b c : Int}, Rise b l → c ≤ b → Rise c l
  | [], _, _, _, _ => trivial
  | _ :: _, _, _, h, hc => ⟨Int.le_trans hc h.1, h.2⟩
theorem Rise.len : ∀ {l : List Span} {b M : Int}, Rise b l → (∀ s ∈ l, s.hi ≤ M) → b ≤ M + 1 → (l.length : Int) ≤ M + 1 - b
  | [], b, M, _, _, h => by simp; omega
  | s :: r, b, M, h, hM, _ => by
    have h1 := hM s (List.mem_cons_self ..)
    obtain ⟨h2, h3, h4⟩ := h
    have := Rise.len h4 (fun q hq => hM q (List.mem_cons_of_mem _ hq)) (by omega)
    simp only [List.length_cons]
    omega
theorem Rise.append : ∀ {l : List Span} {b c : Int} {m : List Span}, Rise b l → (∀ s ∈ l, s.hi < c) → Rise c m → b ≤ c → Rise b (l ++ m)
  | [], _, _, _, _, _, h, hb => h.le hb
  | s :: r, b, c, m, h, hc, hm, hb => ⟨h.1, h.2.1, Rise.append h.2.2 (fun q hq => hc q (List.mem_cons_of_mem _ hq)) hm (by have := hc s (List.mem_cons_self ..); omega)⟩
theorem plain_rise : ∀ {l : List Span} {last b : Int}, plainFrom last l = true → (∀ s ∈ l, b ≤ s.lo) → Rise b l
  | [], _, _, _, _ => trivial
  | s :: r, last, b, h, hb => by
    obtain ⟨⟨h1, _, _, _⟩, h2⟩ := plainFrom_cons.1 h
    exact ⟨hb s (List.mem_cons_self ..), h1, plain_rise h2 fun q hq => by
      have := (plainFrom_bound h2 (x := q.lo) ⟨q, hq, Int.le_refl _, (plainFrom_ok h2 q hq).1⟩).1
      omega⟩
end Go.Um
namespace Go.Proofs.YtofcjmjokokajaaGreat
open Go.RowKit Go.Um Go.Proofs Go.Vm
attribute [local irreducible] Ev arun awp RetQ NextQ
set_option maxHeartbeats 2000000
theorem nb_some {e : TypeId} {m g L : Nat} {ys : List (List V)} : (nb e m g L ys).isSome = true := by unfold nb; split <;> rfl
structure TkSt where
  out : List Span
  g : Nat
  L : Nat
end Go.Proofs.YtofcjmjokokajaaGreat
namespace Go.Proofs.YtofcjmjokokajaaGreat
open Go.RowKit Go.Um Go.Proofs Go.Vm
attribute [local irreducible] Ev arun awp RetQ NextQ
set_option maxHeartbeats 4000000
structure PrSt where
  k : Nat
  out : List Span
  g : Nat
  L : Nat
structure PrJ where
  j : Int
  out : List Span
  g : Nat
  L : Nat
end Go.Proofs.YtofcjmjokokajaaGreat
namespace Go.Proofs.YtofcjmjokokajaaGreat
open Go.RowKit Go.Um Go.Proofs Go.Vm
attribute [local irreducible] Ev arun awp RetQ NextQ
set_option maxHeartbeats 4000000
theorem eachL_len : ∀ {l : List Span} {b M : Int}, Rise b l → (∀ s ∈ l, s.hi ≤ M) → b ≤ M + 1 → ((eachL l).length : Int) ≤ M + 1 - b
  | [], b, M, _, _, h => by
    show ((0 : Nat) : Int) ≤ _
    omega
  | s :: r, b, M, h, hM, _ => by
    have h1 := hM s (List.mem_cons_self ..)
    obtain ⟨h2, h3, h4⟩ := h
    have := eachL_len h4 (fun q hq => hM q (List.mem_cons_of_mem _ hq)) (by omega)
    have e : (eachL (s :: r)).length = (s.hi - s.lo + 1).toNat + (eachL r).length := by
      unfold eachL eachS
      simp
    omega
theorem image_v (p : Part) (s : List Span) (hs : s.length ≤ 1073741824) : VPure Tryz.prog 235 [.agg (partR.cells p), spanR.L s] (spanR.L (if bitsF p then imgF p s else [])) := by
  have hbv := bits_v p
  refine a_pure (n0 := 0) (hN := Tryz.ntmps235) (hf := Tryz.func235) ?_
  refine wk ⟨?_⟩
  refine ar_pure hbv ?_
  cases hb : bitsF p with
  | false =>
    refine wk ⟨?_⟩
    exact ret_tmp (.inr rfl) rfl rfl .nil
  | true =>
    obtain ⟨h1, h2, h3, h4, h5, h6, h7⟩ := bitsF_iff.1 hb
    have hM := meet_v s topS hs (by simp [topS])
    have hw : IntKind.i64.wrap (IntKind.i64.wrap (1 * 2 ^ p.take.toNat) - 1) = pw p.take - 1 := mask_wrap (by omega)
    rw [if_pos rfl]
    have hms : ∀ q ∈ meetF s topS, 0 ≤ q.lo ∧ q.lo ≤ q.hi ∧ q.hi ≤ 2097151 := fun q hq => by
      have h1 := (plainFrom_ok (meetF_plain s topS) q hq).1
      have a1 := (inSet_topS.1 (mem_meetF.1 ⟨q, hq, Int.le_refl _, h1⟩).2).1
      have a2 := (inSet_topS.1 (mem_meetF.1 ⟨q, hq, h1, Int.le_refl _⟩).2).2
      exact ⟨a1, h1, a2⟩
    have hmr : (meetF s topS).length ≤ 2097152 := by
      have hl : Rise 0 (meetF s topS) := plain_rise (meetF_plain s topS) fun q hq => (hms q hq).1
      have := hl.len (M := 2097151) (fun q hq => (hms q hq).2.2) (by omega)
      omega
    refine wk ⟨?_⟩
    rw [hw]
    refine ar_take [1] hM ?_
    refine wk ⟨?_⟩
    have hzN : ∀ z ∈ eachL (imgN p s), 0 ≤ z ∧ z ≤ pw p.take - 1 := fun z hz => by
      obtain ⟨x, _, rfl⟩ := (mem_imgN hb).1 (mem_eachL.1 hz)
      have ht := take_bd hb
      have a1 := Int.emod_nonneg (x / pw p.drop) (show pw p.take ≠ 0 by omega)
      have a2 := Int.emod_lt_of_pos (x / pw p.drop) (show 0 < pw p.take by omega)
      omega
    have hNp : plain (imgN p s) = true := by unfold imgN; exact normF_plain _
    have hNs : ∀ q ∈ imgN p s, 0 ≤ q.lo ∧ q.lo ≤ q.hi ∧ q.hi ≤ pw p.take - 1 := fun q hq => by
      have h1 := (plainFrom_ok hNp q hq).1
      exact ⟨(hzN q.lo (mem_eachL.2 ⟨q, hq, Int.le_refl _, h1⟩)).1, h1, (hzN q.hi (mem_eachL.2 ⟨q, hq, h1, Int.le_refl _⟩)).2⟩
    have hNr : Rise 0 (imgN p s) := plain_rise hNp fun q hq => (hNs q hq).1
    have htk := take_bd hb
    have hNl : (imgN p s).length ≤ 2097152 := by
      have := hNr.len (M := 2097151) (fun q hq => by have := (hNs q hq).2.2; omega) (by omega)
      omega
    have hr0 : p.up = 0 → imgN p s = imgF p s := fun h => by unfold imgF; rw [if_pos h]
    have hr2 : ¬ p.up = 0 → imgF p s = normF (upL (pw p.up) (eachL (imgN p s))) := fun h => by unfold imgF; rw [if_neg h]
    have hr1 : ¬ p.up = 0 → IterV Tryz.prog 276 [.iptr [spanR.L (imgN p s)]] ((eachL (imgN p s)).map fun z => [z]) ∧ (eachL (imgN p s)).length ≤ 64 := fun h => by
      refine ⟨each_iter _ fun x hx => ?_, ?_⟩
      · have := hNs x hx
        omega
      · have h6 := pw_6 (show p.take ≤ 6 by omega)
        have := eachL_len hNr (M := pw p.take - 1) (fun q hq => (hNs q hq).2.2) (by omega)
        omega
    have hNN : normF (imgN p s) = imgN p s := normF_id hNp
    have hdef : imgN p s = normF (imgRaw (pw p.drop) (pw p.take) (meetF s topS)) := rfl
    generalize imgN p s = N at hzN hNl hr0 hr1 hr2 hNN hdef
    have hz := hzN
    clear hzN hNp hNs hNr
    generalize hm : meetF s topS = m at hM hms hmr hdef ⊢
    have hd := pw_pos p.drop
    have ht := take_bd hb
    refine a_loop (σ := PrSt) 1 [2, 5, 23, 24] (fun x => [(6, nrow 2 x.g x.out.length), (25, V.int .i64 (x.k : Int))]) (fun x => [(2, nb 90 2 x.g x.L (x.out.map spanR.cells))]) (fun x => x.L ≤ x.g ∧ x.k ≤ m.length ∧ (m.take x.k).any (wide (pw p.drop) (pw p.take)) = false ∧ x.out = (m.take x.k).flatMap (imgOne (pw p.drop) (pw p.take)) ∧ x.out.length ≤ 2 * x.k) (fun x => m.length - x.k) ⟨0, [], 0, 0⟩ ⟨Nat.le_refl _, Nat.zero_le _, rfl, rfl, Nat.le_refl _⟩ ?_
    rintro ⟨k, out, gg, L⟩ ⟨hLg, hk, hw0, ho, hol⟩
    simp only at hLg hk hw0 ho hol
    obtain hx | ⟨x, hx, hlt⟩ := range_cases hk
    · subst k
      rw [List.take_length] at ho hw0
      dsimp only
      have hon : normF out = N := by rw [hdef, imgRaw, hw0, ho]; rfl
      have hol : out.length ≤ 4194304 := by omega
      have hn := norm_v out (by omega)
      rw [hon] at hn
      refine wk ⟨?_⟩
      refine ar_take [2] hn ?_ (hi := by simp only [List.all_cons, List.all_nil, Bool.and_true]; exact nb_some)
      clear hn hon
      refine wk2 (fun h => ⟨?_⟩) (fun h => ⟨?_⟩)
      · exact ret_tmp (.inr rfl) rfl rfl (pk_list (hr0 (by assumption)))
      · obtain ⟨hit, hzl⟩ := hr1 (by assumption)
        have hrr := hr2 (by assumption)
        refine wk ⟨?_⟩
        refine ar_pure (each_v N (by omega)) ?_
        rw [hNN]
        refine wk ⟨?_⟩
        generalize hzs : eachL N = zs at hz hit hzl hrr
        refine a_range (σ := TkSt) 1 (fun x => [(3, some (.cells 91 1 0 0 [[nrow 4 x.g x.out.length]])), (4, nb 90 2 x.g x.L (x.out.map spanR.cells))]) (fun k x => x.L ≤ x.g ∧ x.out = upL (pw p.up) (zs.take k)) ⟨[], 0, 0⟩ ⟨Nat.le_refl _, rfl⟩ hit (fun z hz => by obtain ⟨y, _, rfl⟩ := List.mem_map.1 hz; rfl) ?_ ?_
        · rintro k z ⟨out, gg, L⟩ hzk ⟨hLg, ho⟩
          simp only at hLg ho
          rw [List.getElem?_map] at hzk
          obtain ⟨y, hy, rfl⟩ := Option.map_eq_some_iff.1 hzk
          dsimp only
          obtain ⟨b1, b2⟩ := hz y (List.mem_of_getElem? hy)
          have hyw : IntKind.i64.wrap (y * 2 ^ p.up.toNat) = y * pw p.up := by
            have h0 := pw_pos p.up
            have h1 := pw_20 h6
            have : y * pw p.up ≤ 2097152 * 1048576 := Int.mul_le_mul (by omega) h1 (by omega) (by decide)
            have : 0 ≤ y * pw p.up := Int.mul_nonneg b1 (by omega)
            exact wrap_in (z := y * pw p.up) (by omega) (by omega)
          have hol : out.length ≤ 64 := by
            rw [ho, upL, List.length_map, List.length_take]
            omega
          have hk : upL (pw p.up) (zs.take (k + 1)) = out ++ [⟨y * pw p.up, y * pw p.up⟩] := by
            rw [List.take_add_one, hy, upL, List.map_append, ← upL, ← ho]
            rfl
          refine wk2 (fun h => ⟨?_⟩) (fun h => ⟨?_⟩)
          all_goals rw [hyw]
          · subst h
            refine ⟨(⟨[⟨y * pw p.up, y * pw p.up⟩], 0, 0⟩ : TkSt), ⟨Nat.le_refl _, by rw [hk]; rfl⟩, ?_⟩
            refine end1 (CS := [(3, some (.cells 91 1 0 0 [[nrow 4 0 1]]))]) 6 4 ?_ ?_ rfl (RnX.of_eq rfl) ?_ (hfree := rfl); all_goals repeat' first | exact trivial | refine And.intro ?_ ?_ | exact rn_int rfl | exact rn_list rfl | exact rn_row rfl ⟨rfl, rfl, rfl⟩ | exact rn_ptr rfl | exact rn_bool rfl | exact rn_agg rfl | exact rn_iptr rfl | exact rn_map rfl | exact rn_nrows rfl | exact rn_new rfl rfl rfl (by omega) | refine rn_int ?_ | refine rn_bool ?_ | refine rn_list ?_ | refine rn_row rfl ⟨?_, ?_, ?_⟩ | refine rn_nrow rfl ⟨rfl, ?_⟩ ?_ | refine rn_agg ?_ | exact Exists.intro _ ⟨rfl, RnB.cells (RnX.of_eq rfl), rfl⟩ | exact Exists.intro _ ⟨rfl, RnB.cells (RnX.of_eq (map_snoc rfl)), rfl⟩ | exact Exists.intro _ ⟨rfl, RnB.cells (RnX.of_eq (map_setc rfl)), rfl⟩ | exact Exists.intro _ ⟨rfl, RnB.cells (RnX.of_eq (map_inc rfl)), rfl⟩ | exact Exists.intro _ ⟨rfl, RnB.cells (RnX.of_eq (map_snocs rfl)), rfl⟩ | refine Exists.intro _ ⟨rfl, RnB.cells (RnX.cons (RnC.cons ?_ ?_ RnC.nil) RnX.nil), rfl⟩ | exact Exists.intro _ ⟨rfl, RnB.hole, rfl⟩ | refine Exists.intro _ ⟨rfl, rnm_of ?_, rfl⟩ | exact nrow_one | refine old_nbs ?_ rfl | refine old_nb ?_ ⟨?_, _, rfl, RnB.cells (RnX.of_eq (map_snoc rfl)), rfl⟩ | refine old_nb ?_ ⟨?_, _, rfl, RnB.cells (RnX.of_eq (map_snocs rfl)), rfl⟩ | refine old_nb ?_ ⟨?_, _, rfl, RnB.cells (RnX.of_eq (map_inc rfl)), rfl⟩ | refine old_nb ?_ ⟨?_, _, rfl, RnB.cells (RnX.of_eq rfl), rfl⟩ | rfl | (simp only []; omega) | (simp; done) | (simp; omega) | assumption
          · refine ⟨(⟨out ++ [⟨y * pw p.up, y * pw p.up⟩], gg + 1, L⟩ : TkSt), ⟨by simp only; omega, by rw [hk]⟩, ?_⟩
            exact wz
        · rintro ⟨out, gg, L⟩ ⟨hLg, ho⟩
          rw [List.length_map, List.take_length] at ho
          simp only at hLg ho
          have hn := norm_v out (by rw [ho, upL, List.length_map]; omega)
          refine wk ⟨?_⟩
          refine ar_take [4] hn ?_ (hi := by simp only [List.all_cons, List.all_nil, Bool.and_true]; exact nb_some)
          refine wk ⟨?_⟩
          exact ret_tmp (.inr rfl) rfl rfl (pk_list (by rw [hrr, ho]))
    · obtain ⟨x1, x2, x3⟩ := hms x (List.mem_of_getElem? hx)
      have q1 : 0 ≤ x.lo / pw p.drop := Int.ediv_nonneg x1 (by omega)
      have q2 : x.lo / pw p.drop ≤ x.hi / pw p.drop := Int.ediv_le_ediv hd x2
      have q3 : x.hi / pw p.drop ≤ 2097151 := Int.le_trans (Int.ediv_le_self _ (by omega)) x3
      have e0 : IntKind.i64.wrap (x.hi / 2 ^ p.drop.toNat - x.lo / 2 ^ p.drop.toNat) = x.hi / pw p.drop - x.lo / pw p.drop := wrap_in (z := x.hi / pw p.drop - x.lo / pw p.drop) (by omega) (by omega)
      have e1 : bitsOp .and .i64 (x.lo / 2 ^ p.drop.toNat) (pw p.take - 1) = x.lo / pw p.drop % pw p.take := and_mask (n := p.take.toNat) ⟨q1, show x.lo / pw p.drop ≤ _ by omega⟩ (by omega)
      have e2 : bitsOp .and .i64 (x.hi / 2 ^ p.drop.toNat) (pw p.take - 1) = x.hi / pw p.drop % pw p.take := and_mask (n := p.take.toNat) ⟨show 0 ≤ x.hi / pw p.drop by omega, show x.hi / pw p.drop ≤ _ by omega⟩ (by omega)
      have hw1 : pw p.take - 1 ≤ x.hi / pw p.drop - x.lo / pw p.drop → m.any (wide (pw p.drop) (pw p.take)) = true := fun h => List.any_eq_true.2 ⟨x, List.mem_of_getElem? hx, decide_eq_true h⟩
      have hn1 : ¬ pw p.take - 1 ≤ x.hi / pw p.drop - x.lo / pw p.drop → (m.take (k + 1)).any (wide (pw p.drop) (pw p.take)) = false ∧ out ++ imgOne (pw p.drop) (pw p.take) x = (m.take (k + 1)).flatMap (imgOne (pw p.drop) (pw p.take)) := fun h => by
        rw [List.take_add_one, hx, List.any_append, hw0, List.flatMap_append, ← ho]
        exact ⟨by simp [wide]; omega, by simp⟩
      clear ho hw0
      dsimp only
      repeat' first | (show arun _ _ _ _ _ (⟨some _, _, _, _, _, none⟩ :: _) _ _ _; first | refine ar_s ?_ | refine ar_app_n (fun h => ?_) (fun h => ?_) | refine ar_app_nz (fun h => ?_) (fun h => ?_)) | (show arun _ _ _ _ _ (⟨_, _, _, _, _, some _⟩ :: _) _ _ _; first | refine ar_on ?_ | refine ar_off ?_ | refine ar_off2 ?_ | refine ar_split_t ?_ | refine ar_split_f ?_ | refine ar_split (fun h => ?_) (fun h => ?_)) | (show arun _ _ _ _ _ (⟨none, _, _, _, _, none⟩ :: _) _ _ _; refine ar_n ?_) | (show frun _ _ _ _ _ _ (⟨some _, _, _, _, _, none⟩ :: _) _ _ _; refine fr_s ?_) | (show frun _ _ _ _ _ _ (⟨none, _, _, _, _, none⟩ :: _) _ _ _; refine fr_n ?_) | (show grun _ _ _ _ _ _ _ (⟨some _, _, _, _, _, none⟩ :: _) _ _ _; refine gr_s ?_) | (show grun _ _ _ _ _ _ _ (⟨none, _, _, _, _, none⟩ :: _) _ _ _; refine gr_n ?_) | refine gr_nil ?_ | refine fr_nil ?_ | refine ar_nil ?_ | refine a_seq ?_ | refine a_block ?_ | refine a_region ?_ | refine a_drawn ?_ | refine a_skip ?_ | refine a_exit ?_ | refine a_ret ?_ | (show awp _ _ (.cond _ _ _) _ _ _ _; first | refine a_yes rfl ?_ | refine a_no rfl ?_ | refine a_dec_t ?_ | refine a_dec_f ?_ | refine a_dec rfl (fun h => ?_) (fun h => ?_))
      all_goals rw [e0] at *
      · have hon : normF [⟨0, pw p.take - 1⟩] = N := by rw [hdef, imgRaw, if_pos (hw1 (by assumption))]
        have hn := norm_v [⟨0, pw p.take - 1⟩] (by simp)
        rw [hon] at hn
        refine ar_take [4] hn ?_
        clear hn hon
        clear hn1 hw1
        refine wk2 (fun h => ⟨?_⟩) (fun h => ⟨?_⟩)
        · exact ret_tmp (.inr rfl) rfl rfl (pk_list (hr0 (by assumption)))
        · obtain ⟨hit, hzl⟩ := hr1 (by assumption)
          have hrr := hr2 (by assumption)
          refine wk ⟨?_⟩
          refine ar_pure (each_v N (by omega)) ?_
          rw [hNN]
          refine wk ⟨?_⟩
          generalize hzs : eachL N = zs at hz hit hzl hrr
          refine a_range (σ := TkSt) 1 (fun x => [(5, some (.cells 91 1 0 0 [[nrow 6 x.g x.out.length]])), (6, nb 90 2 x.g x.L (x.out.map spanR.cells))]) (fun k x => x.L ≤ x.g ∧ x.out = upL (pw p.up) (zs.take k)) ⟨[], 0, 0⟩ ⟨Nat.le_refl _, rfl⟩ hit (fun z hz => by obtain ⟨y, _, rfl⟩ := List.mem_map.1 hz; rfl) ?_ ?_
          · rintro k z ⟨out, gg, L⟩ hzk ⟨hLg, ho⟩
            simp only at hLg ho
            rw [List.getElem?_map] at hzk
            obtain ⟨y, hy, rfl⟩ := Option.map_eq_some_iff.1 hzk
            dsimp only
            obtain ⟨b1, b2⟩ := hz y (List.mem_of_getElem? hy)
            have hyw : IntKind.i64.wrap (y * 2 ^ p.up.toNat) = y * pw p.up := by
              have h0 := pw_pos p.up
              have h1 := pw_20 h6
              have : y * pw p.up ≤ 2097152 * 1048576 := Int.mul_le_mul (by omega) h1 (by omega) (by decide)
              have : 0 ≤ y * pw p.up := Int.mul_nonneg b1 (by omega)
              exact wrap_in (z := y * pw p.up) (by omega) (by omega)
            have hol : out.length ≤ 64 := by
              rw [ho, upL, List.length_map, List.length_take]
              omega
            have hk : upL (pw p.up) (zs.take (k + 1)) = out ++ [⟨y * pw p.up, y * pw p.up⟩] := by
              rw [List.take_add_one, hy, upL, List.map_append, ← upL, ← ho]
              rfl
            refine wk2 (fun h => ⟨?_⟩) (fun h => ⟨?_⟩)
            all_goals rw [hyw]
            · subst h
              refine ⟨(⟨[⟨y * pw p.up, y * pw p.up⟩], 0, 0⟩ : TkSt), ⟨Nat.le_refl _, by rw [hk]; rfl⟩, ?_⟩
              refine end1 (CS := [(5, some (.cells 91 1 0 0 [[nrow 6 0 1]]))]) 8 6 ?_ ?_ rfl (RnX.of_eq rfl) ?_ (hfree := rfl); all_goals repeat' first | exact trivial | refine And.intro ?_ ?_ | exact rn_int rfl | exact rn_list rfl | exact rn_row rfl ⟨rfl, rfl, rfl⟩ | exact rn_ptr rfl | exact rn_bool rfl | exact rn_agg rfl | exact rn_iptr rfl | exact rn_map rfl | exact rn_nrows rfl | exact rn_new rfl rfl rfl (by omega) | refine rn_int ?_ | refine rn_bool ?_ | refine rn_list ?_ | refine rn_row rfl ⟨?_, ?_, ?_⟩ | refine rn_nrow rfl ⟨rfl, ?_⟩ ?_ | refine rn_agg ?_ | exact Exists.intro _ ⟨rfl, RnB.cells (RnX.of_eq rfl), rfl⟩ | exact Exists.intro _ ⟨rfl, RnB.cells (RnX.of_eq (map_snoc rfl)), rfl⟩ | exact Exists.intro _ ⟨rfl, RnB.cells (RnX.of_eq (map_setc rfl)), rfl⟩ | exact Exists.intro _ ⟨rfl, RnB.cells (RnX.of_eq (map_inc rfl)), rfl⟩ | exact Exists.intro _ ⟨rfl, RnB.cells (RnX.of_eq (map_snocs rfl)), rfl⟩ | refine Exists.intro _ ⟨rfl, RnB.cells (RnX.cons (RnC.cons ?_ ?_ RnC.nil) RnX.nil), rfl⟩ | exact Exists.intro _ ⟨rfl, RnB.hole, rfl⟩ | refine Exists.intro _ ⟨rfl, rnm_of ?_, rfl⟩ | exact nrow_one | refine old_nbs ?_ rfl | refine old_nb ?_ ⟨?_, _, rfl, RnB.cells (RnX.of_eq (map_snoc rfl)), rfl⟩ | refine old_nb ?_ ⟨?_, _, rfl, RnB.cells (RnX.of_eq (map_snocs rfl)), rfl⟩ | refine old_nb ?_ ⟨?_, _, rfl, RnB.cells (RnX.of_eq (map_inc rfl)), rfl⟩ | refine old_nb ?_ ⟨?_, _, rfl, RnB.cells (RnX.of_eq rfl), rfl⟩ | rfl | (simp only []; omega) | (simp; done) | (simp; omega) | assumption
            · refine ⟨(⟨out ++ [⟨y * pw p.up, y * pw p.up⟩], gg + 1, L⟩ : TkSt), ⟨by simp only; omega, by rw [hk]⟩, ?_⟩
              exact wz
          · rintro ⟨out, gg, L⟩ ⟨hLg, ho⟩
            rw [List.length_map, List.take_length] at ho
            simp only at hLg ho
            have hn := norm_v out (by rw [ho, upL, List.length_map]; omega)
            refine wk ⟨?_⟩
            refine ar_take [6] hn ?_ (hi := by simp only [List.all_cons, List.all_nil, Bool.and_true]; exact nb_some)
            refine wk ⟨?_⟩
            exact ret_tmp (.inr rfl) rfl rfl (pk_list (by rw [hrr, ho]))
      all_goals obtain ⟨r1, r2⟩ := hn1 (by assumption)
      all_goals rw [e1, e2] at *
      · subst h
        have hY : imgOne (pw p.drop) (pw p.take) x = [⟨x.lo / pw p.drop % pw p.take, x.hi / pw p.drop % pw p.take⟩] := if_pos (by assumption)
        rw [hY] at r2
        refine a_next (⟨k + 1, [⟨x.lo / pw p.drop % pw p.take, x.hi / pw p.drop % pw p.take⟩], 0, 0⟩ : PrSt) ⟨Nat.le_refl _, hlt, r1, by simpa using r2, by simp only [List.length_cons, List.length_nil]; omega⟩ (by simp only; omega) ?_
        refine end1 (CS := []) 5 2 ?_ ?_ rfl (RnX.of_eq rfl) ?_ (hfree := rfl); all_goals repeat' first | exact trivial | refine And.intro ?_ ?_ | exact rn_int rfl | exact rn_list rfl | exact rn_row rfl ⟨rfl, rfl, rfl⟩ | exact rn_ptr rfl | exact rn_bool rfl | exact rn_agg rfl | exact rn_iptr rfl | exact rn_map rfl | exact rn_nrows rfl | exact rn_new rfl rfl rfl (by omega) | refine rn_int ?_ | refine rn_bool ?_ | refine rn_list ?_ | refine rn_row rfl ⟨?_, ?_, ?_⟩ | refine rn_nrow rfl ⟨rfl, ?_⟩ ?_ | refine rn_agg ?_ | exact Exists.intro _ ⟨rfl, RnB.cells (RnX.of_eq rfl), rfl⟩ | exact Exists.intro _ ⟨rfl, RnB.cells (RnX.of_eq (map_snoc rfl)), rfl⟩ | exact Exists.intro _ ⟨rfl, RnB.cells (RnX.of_eq (map_setc rfl)), rfl⟩ | exact Exists.intro _ ⟨rfl, RnB.cells (RnX.of_eq (map_inc rfl)), rfl⟩ | exact Exists.intro _ ⟨rfl, RnB.cells (RnX.of_eq (map_snocs rfl)), rfl⟩ | refine Exists.intro _ ⟨rfl, RnB.cells (RnX.cons (RnC.cons ?_ ?_ RnC.nil) RnX.nil), rfl⟩ | exact Exists.intro _ ⟨rfl, RnB.hole, rfl⟩ | refine Exists.intro _ ⟨rfl, rnm_of ?_, rfl⟩ | exact nrow_one | refine old_nbs ?_ rfl | refine old_nb ?_ ⟨?_, _, rfl, RnB.cells (RnX.of_eq (map_snoc rfl)), rfl⟩ | refine old_nb ?_ ⟨?_, _, rfl, RnB.cells (RnX.of_eq (map_snocs rfl)), rfl⟩ | refine old_nb ?_ ⟨?_, _, rfl, RnB.cells (RnX.of_eq (map_inc rfl)), rfl⟩ | refine old_nb ?_ ⟨?_, _, rfl, RnB.cells (RnX.of_eq rfl), rfl⟩ | rfl | (simp only []; omega) | (simp; done) | (simp; omega) | assumption
      · have hY : imgOne (pw p.drop) (pw p.take) x = [⟨x.lo / pw p.drop % pw p.take, x.hi / pw p.drop % pw p.take⟩] := if_pos (by assumption)
        rw [hY] at r2
        refine a_next (⟨k + 1, out ++ [⟨x.lo / pw p.drop % pw p.take, x.hi / pw p.drop % pw p.take⟩], gg + 1, L⟩ : PrSt) ⟨by simp only; omega, hlt, r1, r2, by simp only [List.length_append, List.length_cons, List.length_nil]; omega⟩ (by simp only; omega) ?_
        exact wz
      · subst h
        have hY : imgOne (pw p.drop) (pw p.take) x = [⟨0, x.hi / pw p.drop % pw p.take⟩, ⟨x.lo / pw p.drop % pw p.take, pw p.take - 1⟩] := if_neg (by assumption)
        rw [hY] at r2
        refine a_next (⟨k + 1, [⟨0, x.hi / pw p.drop % pw p.take⟩, ⟨x.lo / pw p.drop % pw p.take, pw p.take - 1⟩], 0, 0⟩ : PrSt) ⟨Nat.le_refl _, hlt, r1, by simpa using r2, by simp only [List.length_cons, List.length_nil]; omega⟩ (by simp only; omega) ?_
        refine end1 (CS := []) 5 2 ?_ ?_ rfl (RnX.of_eq rfl) ?_ (hfree := rfl); all_goals repeat' first | exact trivial | refine And.intro ?_ ?_ | exact rn_int rfl | exact rn_list rfl | exact rn_row rfl ⟨rfl, rfl, rfl⟩ | exact rn_ptr rfl | exact rn_bool rfl | exact rn_agg rfl | exact rn_iptr rfl | exact rn_map rfl | exact rn_nrows rfl | exact rn_new rfl rfl rfl (by omega) | refine rn_int ?_ | refine rn_bool ?_ | refine rn_list ?_ | refine rn_row rfl ⟨?_, ?_, ?_⟩ | refine rn_nrow rfl ⟨rfl, ?_⟩ ?_ | refine rn_agg ?_ | exact Exists.intro _ ⟨rfl, RnB.cells (RnX.of_eq rfl), rfl⟩ | exact Exists.intro _ ⟨rfl, RnB.cells (RnX.of_eq (map_snoc rfl)), rfl⟩ | exact Exists.intro _ ⟨rfl, RnB.cells (RnX.of_eq (map_setc rfl)), rfl⟩ | exact Exists.intro _ ⟨rfl, RnB.cells (RnX.of_eq (map_inc rfl)), rfl⟩ | exact Exists.intro _ ⟨rfl, RnB.cells (RnX.of_eq (map_snocs rfl)), rfl⟩ | refine Exists.intro _ ⟨rfl, RnB.cells (RnX.cons (RnC.cons ?_ ?_ RnC.nil) RnX.nil), rfl⟩ | exact Exists.intro _ ⟨rfl, RnB.hole, rfl⟩ | refine Exists.intro _ ⟨rfl, rnm_of ?_, rfl⟩ | exact nrow_one | refine old_nbs ?_ rfl | refine old_nb ?_ ⟨?_, _, rfl, RnB.cells (RnX.of_eq (map_snoc rfl)), rfl⟩ | refine old_nb ?_ ⟨?_, _, rfl, RnB.cells (RnX.of_eq (map_snocs rfl)), rfl⟩ | refine old_nb ?_ ⟨?_, _, rfl, RnB.cells (RnX.of_eq (map_inc rfl)), rfl⟩ | refine old_nb ?_ ⟨?_, _, rfl, RnB.cells (RnX.of_eq rfl), rfl⟩ | rfl | (simp only []; omega) | (simp; done) | (simp; omega) | assumption
      · have hY : imgOne (pw p.drop) (pw p.take) x = [⟨0, x.hi / pw p.drop % pw p.take⟩, ⟨x.lo / pw p.drop % pw p.take, pw p.take - 1⟩] := if_neg (by assumption)
        rw [hY] at r2
        refine a_next (⟨k + 1, out ++ [⟨0, x.hi / pw p.drop % pw p.take⟩, ⟨x.lo / pw p.drop % pw p.take, pw p.take - 1⟩], gg + 1, L⟩ : PrSt) ⟨by simp only; omega, hlt, r1, r2, by simp only [List.length_append, List.length_cons, List.length_nil]; omega⟩ (by simp only; omega) ?_
        exact wz
end Go.Proofs.YtofcjmjokokajaaGreat
