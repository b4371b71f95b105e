/- The element type's row of the table: int64. -/
import Derived.Test.YtjihbkhmkepohaaRows
namespace Go.Proofs.Ytjihbkhmkepohaa
theorem info_i64 : (Try.prog.info? 2).map (fun i => (i.zero, i.size, i.bytes)) = some (some (.int .i64 0), 1, 8) := by kernel_rfl
end Go.Proofs.Ytjihbkhmkepohaa
