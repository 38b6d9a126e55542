/- Runs of the law, by the kernel: sizes 12 and on. -/
import Derived.Test.YtiafmiembjomhaaGreatRun0
namespace Go.Proofs
open Go Go.Ab
set_option maxRecDepth 100000
theorem runZ12 (b : Bool) : retTrue (lawS b (.int .i64 0) 12 t0) = true := by kernel_rfl
theorem runL12 (b : Bool) : retTrue (lawS b (tv (tokI 11 9223372036854775809 9223372036854779755)) 12 t0) = true := by kernel_rfl
theorem runF12 (b : Bool) : retTrue (lawS b (tv (tokI 11 9223372036854779756 9223372036871553024)) 12 t0) = true := by kernel_rfl
end Go.Proofs
