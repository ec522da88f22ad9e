/- A function of no arguments: its run, the second part (S23). No condition. -/
import Derived.Test.YtpdmmpajjdaebaaGreatS23A1
set_option linter.unusedVariables false
set_option maxRecDepth 100000
namespace Go.Proofs.YtpdmmpajjdaebaaGreat.AlS23
open Go.Wam
theorem p2 : lastX (evFX T 3000) 3000 (cutR' 10 F31.body) F31.results st true = true := by kernel_rfl
end Go.Proofs.YtpdmmpajjdaebaaGreat.AlS23
