/- Runs of the law, by the kernel: sizes 2 and on. -/
import Derived.Test.YtiafmiembjomhaaGreatRun0
namespace Go.Proofs
open Go Go.Ab
set_option maxRecDepth 100000
theorem runZ2 (b : Bool) : retTrue (lawS b (.int .i64 0) 2 t0) = true := by kernel_rfl
theorem runL2 (b : Bool) : retTrue (lawS b (tv (tokI 11 9223372036854775809 9223372036854775839)) 2 t0) = true := by kernel_rfl
theorem runF2 (b : Bool) : retTrue (lawS b (tv (tokI 11 9223372036854775840 9223372036871553024)) 2 t0) = true := by kernel_rfl
theorem runZ3 (b : Bool) : retTrue (lawS b (.int .i64 0) 3 t0) = true := by kernel_rfl
theorem runL3 (b : Bool) : retTrue (lawS b (tv (tokI 11 9223372036854775809 9223372036854775859)) 3 t0) = true := by kernel_rfl
theorem runF3 (b : Bool) : retTrue (lawS b (tv (tokI 11 9223372036854775860 9223372036871553024)) 3 t0) = true := by kernel_rfl
end Go.Proofs
