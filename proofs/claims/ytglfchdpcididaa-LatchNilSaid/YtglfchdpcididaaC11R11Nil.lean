/- The statement LatchNil, as it is given. No condition. -/
import Derived.Test.YtglfchdpcididaaC11S11F
import Derived.WalkKit
import Derived.ProofKit
import Derived.OpenShut
import Derived.ShutString
import Derived.ChangeOld
import Derived.Below
import Derived.SizedLaws
set_option linter.unusedVariables false
set_option linter.unusedSimpArgs false
namespace Go.Proofs.Ytglfchdpcididaa
open Go.Wam

namespace latchNil
open Go.ChangeShapes Go.WideShapes Go.ChangeAt Go.RowKit

set_option maxRecDepth 100000 in
theorem lifted (os : Os) (started : os.Started) (H : Type) (enc : TypeId × Value → H) :
    ReturnsInHanded {} Try.checked os 11 .any (Rows.latchNilSpec.pre6 enc Try.prog Try.f11 Rows.latchNilRow.domain false) (Rows.latchNilSpec.post enc Try.prog Try.f11 false true false false) := by
  refine returnsInHanded_of_change_sized (C := Try.checked) own started (by kernel_rfl) Try.func11
    (ChangeSpec.witness6 (enc := enc) (C := Try.checked) false ⟨#[], #[.agg #[.int .i64 0, .int .i64 0, .slice none 0 0, .bool false]], []⟩ 8 (by kernel_rfl) (by kernel_rfl) (by kernel_rfl) (by kernel_rfl))
    (law_contract mixed fits lawNil (k := 8) (by kernel_rfl) laidOut (by kernel_rfl) (rt := Try.f11.resultTypes.getD 0 0) (by kernel_rfl) (by kernel_rfl) rfl rfl (fun ds hd => ?_))
  match ds, hd with
  | [d0], _ => rfl
theorem over : Rows.latchNilRow.holds Try.pinned (OpenSpec.ofChange Rows.latchNilSpec) :=
  OpenClaim.holds_of_wide 11 Try.f11 rfl rfl rfl rfl rfl rfl rfl ⟨rfl, rfl, rfl, rfl, rfl⟩ rfl rfl rfl rfl rfl (by kernel_rfl) Try.func11 (by kernel_rfl)
    (of_decide_eq_true (by kernel_rfl)) (by unfold Func.isWrapper; first | (rw [if_pos (by decide +kernel)]; kernel_rfl) | (rw [if_neg (by decide +kernel)]; exact ⟨rfl, rfl⟩))
    (fun os started H enc _ => lifted os started H enc)
end latchNil
theorem latchNil_holds : Rows.LatchNilSaid := latchNil.over

end Go.Proofs.Ytglfchdpcididaa
