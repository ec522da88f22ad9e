/- The statement VersionRight, as it is given. No condition. -/
import Derived.Test.YtkahfmgdjoaiiaaV08S08A
import Derived.WalkKit
import Derived.ProofKit
import Derived.OpenShut
import Derived.ShutString
import Derived.ChangeOld
import Derived.Below
import Derived.SizedLaws
set_option linter.unusedVariables false
set_option linter.unusedSimpArgs false
namespace Go.Proofs.Ytkahfmgdjoaiiaa
open Go.Wam

namespace versionRight
open Go.ChangeShapes Go.WideShapes Go.ChangeAt Go.RowKit

set_option maxRecDepth 100000 in
theorem lifted (os : Os) (started : os.Started) (H : Type) (enc : TypeId × Value → H) :
    ReturnsInHanded {} Try.checked os 8 .any (Rows.versionRightSpec.pre6 enc Try.prog Try.f8 Rows.versionRightRow.domain false) (Rows.versionRightSpec.post enc Try.prog Try.f8 false true false false) := by
  refine returnsInHanded_of_change_sized (C := Try.checked) own started (by kernel_rfl) Try.func8
    (ChangeSpec.witness6 (enc := enc) (C := Try.checked) false ⟨#[], #[.slice none 0 0], []⟩ 8 (by kernel_rfl) (by kernel_rfl) (by kernel_rfl) (by kernel_rfl))
    (law_contract mixed fits lawRight (k := 8) (by kernel_rfl) laidOut (by kernel_rfl) (rt := Try.f8.resultTypes.getD 0 0) (by kernel_rfl) (by kernel_rfl) rfl rfl (fun ds hd => ?_))
  match ds, hd with
  | [d0], _ => rfl
theorem over : Rows.versionRightRow.holds Try.pinned (OpenSpec.ofChange Rows.versionRightSpec) :=
  OpenClaim.holds_of_wide 8 Try.f8 rfl rfl rfl rfl rfl rfl rfl ⟨rfl, rfl, rfl, rfl, rfl⟩ rfl rfl rfl rfl rfl (by kernel_rfl) Try.func8 (by kernel_rfl)
    (of_decide_eq_true (by kernel_rfl)) (by unfold Func.isWrapper; first | (rw [if_pos (by decide +kernel)]; kernel_rfl) | (rw [if_neg (by decide +kernel)]; exact ⟨rfl, rfl⟩))
    (fun os started H enc _ => lifted os started H enc)
end versionRight
theorem versionRight_holds : Rows.VersionRightSaid := versionRight.over

end Go.Proofs.Ytkahfmgdjoaiiaa
