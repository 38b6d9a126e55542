/- The run of awake, by the kernel. -/
import Derived.Test.YtkcbegmkbjmmfaaGreatProg
import Derived.Test.YtkcbegmkbjmmfaaGreatAbLive
import Derived.Test.YtkcbegmkbjmmfaaGreatAbGo
import Derived.KernelRfl
namespace Go.Proofs.YtkcbegmkbjmmfaaGreat.worldNone
open Go.Ab

set_option maxRecDepth 100000 in
theorem awakeRun : retTrue (evF (prgOf Tryz.prog) (liveHook 17 7 3) 1000 60 25 [] AH.empty) = true := by kernel_rfl

end Go.Proofs.YtkcbegmkbjmmfaaGreat.worldNone
