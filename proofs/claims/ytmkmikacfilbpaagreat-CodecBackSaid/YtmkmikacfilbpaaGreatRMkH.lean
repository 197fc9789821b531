/-
  Terms copied: desc.terms.
-/
import Derived.Test.YtmkmikacfilbpaaGreatRMkG
namespace Go.Proofs.YtmkmikacfilbpaaGreat
open Go.RowKit Go.Um Go.Proofs
theorem infoTm : (Tryz.prog.info? 90).map (fun i => (i.zero, i.size, i.bytes)) = some (some (.agg #[.int .i64 0, .int .i64 0, .int .i64 0, .int .i64 0, .int .i64 0, .slice none 0 0]), 6, 64) := by kernel_rfl
end Go.Proofs.YtmkmikacfilbpaaGreat
