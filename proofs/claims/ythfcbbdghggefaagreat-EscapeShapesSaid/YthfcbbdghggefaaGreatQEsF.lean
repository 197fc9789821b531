/-
  What stands for a symbol, as the program has it: escape.entity.
-/
import Derived.Test.YthfcbbdghggefaaGreatQEsH
import Derived.Test.YthfcbbdghggefaaGreatQEsC
namespace Go.Proofs.YthfcbbdghggefaaGreat
open Go.RowKit Go.Um Go.Proofs
def entS (z : Int) : ByteArray := if z = 38 then ⟨#[38, 97, 109, 112, 59]⟩ else if z = 60 then ⟨#[38, 108, 116, 59]⟩ else if z = 62 then ⟨#[38, 103, 116, 59]⟩ else if z = 34 then ⟨#[38, 113, 117, 111, 116, 59]⟩ else if z = 39 then ⟨#[38, 35, 51, 57, 59]⟩ else ⟨#[]⟩
set_option maxHeartbeats 1000000 in
theorem entity_calls (z : Int) (w : World) : Calls Tryz.prog 66 #[.int .i32 z] w fun e w' => e = .returned (.string (entS z)) ∧ w' = w := by
  obtain ⟨s, hs⟩ : ∃ s, s = entS z := ⟨_, rfl⟩
  rw [← hs]
  unfold entS at hs
  by_cases h1 : z = 38
  · subst h1
    rw [if_pos rfl] at hs
    have HS := hid hs
    clear hs
    go_enter Tryz.func66, Tryz.ntmps66
    go_wp2_with fail
    go_ret
    exact ⟨by rw [HS.out]; rfl, rfl⟩
  rw [if_neg h1] at hs
  have e1 := beq_f h1
  by_cases h2 : z = 60
  · subst h2
    rw [if_pos rfl] at hs
    have HS := hid hs
    clear hs
    go_enter Tryz.func66, Tryz.ntmps66
    go_wp2_with fail
    go_ret
    exact ⟨by rw [HS.out]; rfl, rfl⟩
  rw [if_neg h2] at hs
  have e2 := beq_f h2
  by_cases h3 : z = 62
  · subst h3
    rw [if_pos rfl] at hs
    have HS := hid hs
    clear hs
    go_enter Tryz.func66, Tryz.ntmps66
    go_wp2_with fail
    go_ret
    exact ⟨by rw [HS.out]; rfl, rfl⟩
  rw [if_neg h3] at hs
  have e3 := beq_f h3
  by_cases h4 : z = 34
  · subst h4
    rw [if_pos rfl] at hs
    have HS := hid hs
    clear hs
    go_enter Tryz.func66, Tryz.ntmps66
    go_wp2_with fail
    go_ret
    exact ⟨by rw [HS.out]; rfl, rfl⟩
  rw [if_neg h4] at hs
  have e4 := beq_f h4
  by_cases h5 : z = 39
  · subst h5
    rw [if_pos rfl] at hs
    have HS := hid hs
    clear hs
    go_enter Tryz.func66, Tryz.ntmps66
    go_wp2_with fail
    go_ret
    exact ⟨by rw [HS.out]; rfl, rfl⟩
  rw [if_neg h5] at hs
  have e5 := beq_f h5
  have HS := hid hs
  clear hs h1 h2 h3 h4 h5
  go_enter Tryz.func66, Tryz.ntmps66
  go_wp2_with fail
  go_ret
  exact ⟨by rw [HS.out]; rfl, rfl⟩
end Go.Proofs.YthfcbbdghggefaaGreat
