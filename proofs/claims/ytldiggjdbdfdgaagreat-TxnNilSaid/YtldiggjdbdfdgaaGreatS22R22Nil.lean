/- The statement TxnNil, as it is given. No condition. -/
import Derived.Test.YtldiggjdbdfdgaaGreatS22S22M
import Derived.WalkKit
import Derived.ProofKit
import Derived.OpenShut
import Derived.ShutString
import Derived.ChangeOld
import Derived.Below
import Derived.SizedLaws
set_option linter.unusedVariables false
set_option linter.unusedSimpArgs false
namespace Go.Proofs.YtldiggjdbdfdgaaGreat
open Go.Wam

namespace txnNil
open Go.ChangeShapes Go.WideShapes Go.ChangeAt Go.RowKit

set_option maxRecDepth 100000 in
theorem lifted (os : Os) (started : os.Started) (H : Type) (enc : TypeId × Value → H) :
    ReturnsInHanded {} Tryz.checked os 6 .any (Rows.txnNilSpec.pre6 enc Tryz.prog Tryz.f6 Rows.txnNilRow.domain false) (Rows.txnNilSpec.post enc Tryz.prog Tryz.f6 false true false false) := by
  refine returnsInHanded_of_change_sized (C := Tryz.checked) own started (by kernel_rfl) Tryz.func6
    (ChangeSpec.witness6 (enc := enc) (C := Tryz.checked) false ⟨#[], #[.agg #[.int .i64 0, .string ⟨#[]⟩, .string ⟨#[]⟩, .string ⟨#[]⟩], .int .i64 0], []⟩ 8 (by kernel_rfl) (by kernel_rfl) (by kernel_rfl) (by kernel_rfl))
    (law_contractP (Law.trip mixed fits (by decide) T6 lawNil) (k := 8) (by kernel_rfl) laidOut (by kernel_rfl) (rt := Tryz.f6.resultTypes.getD 0 0) (by kernel_rfl) (by kernel_rfl) rfl rfl (fun ds hd => ?_))
  match ds, hd with
  | [d0, d1], _ => rfl
theorem over : Rows.txnNilRow.holds Tryz.pinned (OpenSpec.ofChange Rows.txnNilSpec) :=
  OpenClaim.holds_of_wide 6 Tryz.f6 rfl rfl rfl rfl rfl rfl rfl ⟨rfl, rfl, rfl, rfl, rfl⟩ rfl rfl rfl rfl rfl (by kernel_rfl) Tryz.func6 (by kernel_rfl)
    (of_decide_eq_true (by kernel_rfl)) (by unfold Func.isWrapper; first | (rw [if_pos (by decide +kernel)]; kernel_rfl) | (rw [if_neg (by decide +kernel)]; exact ⟨rfl, rfl⟩))
    (fun os started H enc _ => lifted os started H enc)
end txnNil
theorem txnNil_holds : Rows.TxnNilSaid := txnNil.over

end Go.Proofs.YtldiggjdbdfdgaaGreat
