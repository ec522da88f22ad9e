/- What is asked of the program as a whole: what may enter. No condition. -/
import Derived.Test.YtpdmmpajjdaebaaGreatRows
import Derived.JoinedOf
import Derived.KernelRfl
set_option linter.unusedVariables false
set_option maxRecDepth 100000
namespace Go.Proofs.YtpdmmpajjdaebaaGreat
theorem mayAll : Tryz.prog.mayEnter = true := by kernel_rfl
end Go.Proofs.YtpdmmpajjdaebaaGreat
