/- Our machine: what every slice that is read is. No condition. -/
import Derived.Test.YtpdmmpajjdaebaaGreatAmZ
set_option linter.unusedVariables false
set_option linter.unusedSimpArgs false
namespace Go.Wam
section
variable {H K : AHeap} {sz : Nat} {v : AV} {rows : List (List AV)}
theorem View.noL (h : View H sz v rows) : v.noL = true := by
  have := h.sl
  cases v <;> first | rfl | (simp [AV.sl] at this)
theorem View.cells (h : View H sz v rows) : v.cells = [v] := by
  have := h.sl
  cases v <;> first | rfl | (simp [AV.sl] at this)
theorem View.one (h : View H sz v rows) : v.one = true := by
  have := h.sl
  cases v <;> first | rfl | (simp [AV.sl] at this)
end
end Go.Wam
