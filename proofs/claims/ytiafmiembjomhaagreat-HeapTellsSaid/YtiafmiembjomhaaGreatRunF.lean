/- Runs of the law, by the kernel: sizes 10 and on. -/
import Derived.Test.YtiafmiembjomhaaGreatRun0
namespace Go.Proofs
open Go Go.Ab
set_option maxRecDepth 100000
theorem runZ10 (b : Bool) : retTrue (lawS b (.int .i64 0) 10 t0) = true := by kernel_rfl
theorem runL10 (b : Bool) : retTrue (lawS b (tv (tokI 11 9223372036854775809 9223372036854777315)) 10 t0) = true := by kernel_rfl
theorem runF10 (b : Bool) : retTrue (lawS b (tv (tokI 11 9223372036854777316 9223372036871553024)) 10 t0) = true := by kernel_rfl
theorem runZ11 (b : Bool) : retTrue (lawS b (.int .i64 0) 11 t0) = true := by kernel_rfl
theorem runL11 (b : Bool) : retTrue (lawS b (tv (tokI 11 9223372036854775809 9223372036854778247)) 11 t0) = true := by kernel_rfl
theorem runF11 (b : Bool) : retTrue (lawS b (tv (tokI 11 9223372036854778248 9223372036871553024)) 11 t0) = true := by kernel_rfl
end Go.Proofs
