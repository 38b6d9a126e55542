/- Runs of the law, by the kernel: sizes 8 and on. -/
import Derived.Test.YtiafmiembjomhaaGreatRun0
namespace Go.Proofs
open Go Go.Ab
set_option maxRecDepth 100000
theorem runZ8 (b : Bool) : retTrue (lawS b (.int .i64 0) 8 t0) = true := by kernel_rfl
theorem runL8 (b : Bool) : retTrue (lawS b (tv (tokI 11 9223372036854775809 9223372036854776383)) 8 t0) = true := by kernel_rfl
theorem runF8 (b : Bool) : retTrue (lawS b (tv (tokI 11 9223372036854776384 9223372036871553024)) 8 t0) = true := by kernel_rfl
theorem runZ9 (b : Bool) : retTrue (lawS b (.int .i64 0) 9 t0) = true := by kernel_rfl
theorem runL9 (b : Bool) : retTrue (lawS b (tv (tokI 11 9223372036854775809 9223372036854776739)) 9 t0) = true := by kernel_rfl
theorem runF9 (b : Bool) : retTrue (lawS b (tv (tokI 11 9223372036854776740 9223372036871553024)) 9 t0) = true := by kernel_rfl
end Go.Proofs
