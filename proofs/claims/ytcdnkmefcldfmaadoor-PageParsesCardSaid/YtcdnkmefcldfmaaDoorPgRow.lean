/-
  What the row lists gives: the variables that package page reads.
-/
import Derived.Test.YtcdnkmefcldfmaaDoorRows
import Derived.Test.YtcdnkmefcldfmaaDoorPgAw2
import Derived.Test.YtcdnkmefcldfmaaDoorShelf
import Derived.Stop.LaidErr
import Derived.MakeChecks
import Derived.Lay
namespace Go.Proofs.YtcdnkmefcldfmaaDoor
open Go.RowKit Go.Um

abbrev laid5 : List (String × DataW Unit) := [("math/bits.deBruijn32tab", Rows.laid_math_bits_deBruijn32tab), ("math/bits.deBruijn64tab", Rows.laid_math_bits_deBruijn64tab), ("internal/strconv.uint64pow10", Rows.laid_internal_strconv_uint64pow10), ("strconv.ErrRange", Rows.laid_strconv_ErrRange), ("strconv.ErrSyntax", Rows.laid_strconv_ErrSyntax)]
theorem gPow : Tryd.prog.globalNamed "internal/strconv.uint64pow10" = some 1 := by kernel_rfl
theorem gPowType : (Tryd.prog.globals[1]?).map (·.type) = some 133 := by kernel_rfl
theorem gRng : Tryd.prog.globalNamed "strconv.ErrRange" = some 3 := by kernel_rfl
theorem gRngType : (Tryd.prog.globals[3]?).map (·.type) = some 81 := by kernel_rfl
theorem gSyn : Tryd.prog.globalNamed "strconv.ErrSyntax" = some 2 := by kernel_rfl
theorem gSynType : (Tryd.prog.globals[2]?).map (·.type) = some 81 := by kernel_rfl
theorem cells20 : Tryd.prog.cellsOf 133 = 20 := by kernel_rfl
theorem cells64 : Tryd.prog.cellsOf 118 = 1 := by kernel_rfl
theorem cellsE : Tryd.prog.cellsOf 147 = 1 := by kernel_rfl
theorem cellsS : Tryd.prog.cellsOf 9 = 1 := by kernel_rfl
theorem powData : (Rows.laid_internal_strconv_uint64pow10 : DataW Unit) = Lib.tabData .u64 Lib.pow10Tab := by kernel_rfl
theorem starE : "*" ++ "errors.errorString" = "*errors.errorString" := by decide
theorem rowE (u : TypeId) (h : Tryd.prog.typeName? 3 u = some "*errors.errorString") : u = 145 :=
  typeName_ptr_named (nm := "errors.errorString") (by rw [starE]; kernel_rfl) (by kernel_rfl) (by decide) u (by rw [starE]; exact h)
theorem var_below {w w' : World} {name : String} {cs : Array Value} (h : w.var? Tryd.prog name = some cs) (hb : Below w.heap.size w w') : w'.var? Tryd.prog name = some cs := by
  unfold World.var? at *
  cases hg : Tryd.prog.globalNamed name with
  | none => simp [hg] at h
  | some g =>
    simp only [hg, Option.bind_some] at h ⊢
    have hlt : g < w.heap.size := by
      rcases Nat.lt_or_ge g w.heap.size with h' | h'
      · exact h'
      · rw [Array.getElem?_eq_none h'] at h; simp at h
    rw [hb.block g hlt]
    exact h
theorem vars_of {W : World} (hL : laidMetH Tryd.prog laid5 W) (hsh : W.ShapedOpen Tryd.prog) : Vars W.heap.size W := by
  have h : laidMet Tryd.prog laid5 W := by
    rw [MakeChecks.laidMetH_plain _ _ _ (by kernel_rfl)] at hL
    exact hL
  have h3 : laidMet Tryd.prog (("internal/strconv.uint64pow10", Lib.tabData .u64 Lib.pow10Tab) :: [("strconv.ErrRange", Rows.laid_strconv_ErrRange), ("strconv.ErrSyntax", Rows.laid_strconv_ErrSyntax)]) W := by
    rw [← powData]
    exact h.tail.tail
  have ht := Lib.tabIs_of_head gPow gPowType Tryd.underlying133 Tryd.underlying118 cells64 cells20 h3
  obtain ⟨a1, s1, hv1, -, -, -⟩ := laid_sentinel h3.tail gRng gRngType Tryd.underlying81 rowE Tryd.underlying145 Tryd.underlying147 rfl rfl Tryd.underlying9 cellsE cellsS
  obtain ⟨a2, s2, hv2, -, -, -⟩ := laid_sentinel h3.tail.tail gSyn gSynType Tryd.underlying81 rowE Tryd.underlying145 Tryd.underlying147 rfl rfl Tryd.underlying9 cellsE cellsS
  obtain ⟨m, hm⟩ : ∃ m, W.cell? ⟨0, 0, none⟩ = some (.int .i64 m) := Go.Proofs.cell_of_shapedOpen_int (zero := #[.int .i64 0]) (t := 3) hsh (of_decide_eq_true (by kernel_rfl)) (by kernel_rfl) rfl (by kernel_rfl) (by kernel_rfl) Tryd.underlying3
  have hlt : 0 < W.heap.size := block_lt_of_cell hm
  exact fun w' hb => ⟨var_below ht hb, ⟨_, _, var_below hv2 hb⟩, ⟨_, _, var_below hv1 hb⟩, m, (hb.cell (p := ⟨0, 0, none⟩) hlt).trans hm⟩
end Go.Proofs.YtcdnkmefcldfmaaDoor
