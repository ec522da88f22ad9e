/- A function of no arguments: its run (S23). No condition. -/
import Derived.Test.YtpdmmpajjdaebaaGreatS23A2
set_option linter.unusedVariables false
set_option maxRecDepth 100000
namespace Go.Proofs.YtpdmmpajjdaebaaGreat.AlS23
open Go.Wam
theorem any (H : AHeap) : ATrip Tryz.prog 31 [] H (.bool true) H := alive_cut2 mixed fits fits31 (by kernel_rfl) p1 p2 H
end Go.Proofs.YtpdmmpajjdaebaaGreat.AlS23
