/- Runs of the law, by the kernel: sizes 6 and on. -/
import Derived.Test.YtiafmiembjomhaaGreatRun0
namespace Go.Proofs
open Go Go.Ab
set_option maxRecDepth 100000
theorem runZ6 (b : Bool) : retTrue (lawS b (.int .i64 0) 6 t0) = true := by kernel_rfl
theorem runL6 (b : Bool) : retTrue (lawS b (tv (tokI 11 9223372036854775809 9223372036854776027)) 6 t0) = true := by kernel_rfl
theorem runF6 (b : Bool) : retTrue (lawS b (tv (tokI 11 9223372036854776028 9223372036871553024)) 6 t0) = true := by kernel_rfl
theorem runZ7 (b : Bool) : retTrue (lawS b (.int .i64 0) 7 t0) = true := by kernel_rfl
theorem runL7 (b : Bool) : retTrue (lawS b (tv (tokI 11 9223372036854775809 9223372036854776163)) 7 t0) = true := by kernel_rfl
theorem runF7 (b : Bool) : retTrue (lawS b (tv (tokI 11 9223372036854776164 9223372036871553024)) 7 t0) = true := by kernel_rfl
end Go.Proofs
