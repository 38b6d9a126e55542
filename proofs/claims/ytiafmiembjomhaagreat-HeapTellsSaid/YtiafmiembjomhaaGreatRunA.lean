/- Runs of the law, by the kernel: sizes 0 and on. -/
import Derived.Test.YtiafmiembjomhaaGreatRun0
namespace Go.Proofs
open Go Go.Ab
set_option maxRecDepth 100000
theorem runZ0 (b : Bool) : retTrue (lawS b (.int .i64 0) 0 t0) = true := by kernel_rfl
theorem runL0 (b : Bool) : retTrue (lawS b (tv (tokI 11 9223372036854775809 9223372036854775819)) 0 t0) = true := by kernel_rfl
theorem runF0 (b : Bool) : retTrue (lawS b (tv (tokI 11 9223372036854775820 9223372036871553024)) 0 t0) = true := by kernel_rfl
theorem runZ1 (b : Bool) : retTrue (lawS b (.int .i64 0) 1 t0) = true := by kernel_rfl
theorem runL1 (b : Bool) : retTrue (lawS b (tv (tokI 11 9223372036854775809 9223372036854775827)) 1 t0) = true := by kernel_rfl
theorem runF1 (b : Bool) : retTrue (lawS b (tv (tokI 11 9223372036854775828 9223372036871553024)) 1 t0) = true := by kernel_rfl
end Go.Proofs
