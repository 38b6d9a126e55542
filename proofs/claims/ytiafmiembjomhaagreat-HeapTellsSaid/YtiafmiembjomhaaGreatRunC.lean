/- Runs of the law, by the kernel: sizes 4 and on. -/
import Derived.Test.YtiafmiembjomhaaGreatRun0
namespace Go.Proofs
open Go Go.Ab
set_option maxRecDepth 100000
theorem runZ4 (b : Bool) : retTrue (lawS b (.int .i64 0) 4 t0) = true := by kernel_rfl
theorem runL4 (b : Bool) : retTrue (lawS b (tv (tokI 11 9223372036854775809 9223372036854775891)) 4 t0) = true := by kernel_rfl
theorem runF4 (b : Bool) : retTrue (lawS b (tv (tokI 11 9223372036854775892 9223372036871553024)) 4 t0) = true := by kernel_rfl
theorem runZ5 (b : Bool) : retTrue (lawS b (.int .i64 0) 5 t0) = true := by kernel_rfl
theorem runL5 (b : Bool) : retTrue (lawS b (tv (tokI 11 9223372036854775809 9223372036854775943)) 5 t0) = true := by kernel_rfl
theorem runF5 (b : Bool) : retTrue (lawS b (tv (tokI 11 9223372036854775944 9223372036871553024)) 5 t0) = true := by kernel_rfl
end Go.Proofs
