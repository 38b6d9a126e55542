/- The run of BeeNone, by the kernel. -/
import Derived.Test.YthooolmnejeajaaGreatProg
import Derived.Test.YthooolmnejeajaaGreatAbGo
import Derived.KernelRfl
namespace Go.Proofs.YthooolmnejeajaaGreat.beeNone
open Go.Ab

set_option maxRecDepth 100000 in
/-- The run, by the kernel. -/
theorem run (n : Int) : retTrue (evF (prgOf Tryz.prog) noHook 1000 60 5 [.int .i64 n] AH.empty) = true := by kernel_rfl

end Go.Proofs.YthooolmnejeajaaGreat.beeNone
