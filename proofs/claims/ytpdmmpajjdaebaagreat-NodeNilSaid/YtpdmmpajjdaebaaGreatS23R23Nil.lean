/- The statement NodeNil, as it is given. No condition. -/
import Derived.Test.YtpdmmpajjdaebaaGreatS23S23NM
import Derived.Test.YtpdmmpajjdaebaaGreatS23C
import Derived.Test.YtpdmmpajjdaebaaGreatLaid
import Derived.Test.YtpdmmpajjdaebaaGreatLs
import Derived.Test.YtpdmmpajjdaebaaGreatLe
import Derived.WalkKit
import Derived.ProofKit
import Derived.OpenShut
import Derived.ShutString
import Derived.ChangeOld
import Derived.Below
import Derived.SizedLaws
set_option linter.unusedVariables false
set_option linter.unusedSimpArgs false
namespace Go.Proofs.YtpdmmpajjdaebaaGreat
open Go.Wam

namespace nodeNil
open Go.ChangeShapes Go.WideShapes Go.ChangeAt Go.RowKit
theorem andI {a b : Bool} (h1 : a = true) (h2 : b = true) : (a && b) = true := by rw [h1, h2]; rfl
theorem progC : Tryz.checked.prog = Tryz.prog := by kernel_rfl
theorem progP : Tryz.pinned.checked.prog = Tryz.prog := by kernel_rfl
theorem laidC : laidOutB Tryz.checked.prog = true := by rw [progC]; exact laidOut
theorem laidP : laidOutB Tryz.pinned.checked.prog = true := by rw [progP]; exact laidOut
theorem lawC {ss : List Sh} (h : LawP Tryz.prog 5 ss) : LawP Tryz.checked.prog 5 ss := by rw [progC]; exact h
set_option maxRecDepth 100000 in
set_option maxHeartbeats 4000000 in
theorem closed0 : joinedFacts Tryz.prog 5 Tryz.f5 Rows.nodeNilSpec Rows.nodeNilRow = true := by
  unfold joinedFacts
  repeat' (with_reducible apply andI)
  · as_aux_lemma => kernel_rfl
  · exact laidOut
  · exact mapsAll
  · as_aux_lemma => kernel_rfl
  · as_aux_lemma => kernel_rfl
  · as_aux_lemma => kernel_rfl
  · as_aux_lemma => kernel_rfl
  · as_aux_lemma => kernel_rfl
  · as_aux_lemma => kernel_rfl
  · exact c9
  · exact c10
  · exact c11
  · exact c12
  · as_aux_lemma => kernel_rfl
  · as_aux_lemma => kernel_rfl
  · as_aux_lemma => kernel_rfl
  · as_aux_lemma => kernel_rfl
  · as_aux_lemma => kernel_rfl
  · as_aux_lemma => kernel_rfl
  · as_aux_lemma => kernel_rfl
  · as_aux_lemma => kernel_rfl
  · as_aux_lemma => kernel_rfl
  · as_aux_lemma => kernel_rfl
  · as_aux_lemma => kernel_rfl
  · exact stopsAll
  · exact mayAll
  · as_aux_lemma => kernel_rfl
  · as_aux_lemma => kernel_rfl
  · as_aux_lemma => kernel_rfl
  · as_aux_lemma => kernel_rfl
  · as_aux_lemma => kernel_rfl
  · as_aux_lemma => kernel_rfl
theorem closed : joinedFacts Tryz.pinned.checked.prog 5 Tryz.f5 Rows.nodeNilSpec Rows.nodeNilRow = true := by rw [progP]; exact closed0

set_option maxRecDepth 100000 in
set_option maxHeartbeats 4000000 in
theorem lifted (os : Os) (started : os.Started) (H : Type) (enc : TypeId × Value → H) :
    ReturnsInHanded {} Tryz.checked os 5 .any (Rows.nodeNilSpec.pre6 enc Tryz.prog Tryz.f5 Rows.nodeNilRow.domain false) (Rows.nodeNilSpec.post enc Tryz.prog Tryz.f5 false true false false) := by
  refine returnsInHanded_of_change_sized (C := Tryz.checked) own started (by as_aux_lemma => kernel_rfl) Tryz.func5
    (ChangeSpec.witness6 (enc := enc) (C := Tryz.checked) false ⟨#[], #[.agg #[.int .i64 0, .int .i64 0, .int .i64 0, .int .i64 0, .int .i64 0, .int .i64 0, .int .i64 0, .int .i64 0, .bool false, .slice none 0 0, .slice none 0 0, .int .i64 0, .int .i64 0, .int .i64 0, .int .i64 0, .int .i64 0, .int .i64 0, .int .i64 0, .int .i64 0, .string ⟨#[]⟩, .int .i64 0, .int .i64 0, .int .i64 0, .string ⟨#[]⟩, .string ⟨#[]⟩, .string ⟨#[]⟩, .bool false, .int .i64 0, .int .i64 0, .int .i64 0, .int .i64 0, .bool false, .bool false, .slice none 0 0, .int .i64 0, .int .i64 0, .int .i64 0, .int .i64 0, .slice none 0 0, .bool false, .int .i64 0, .int .i64 0, .string ⟨#[]⟩, .int .i64 0, .int .i64 0, .int .i64 0, .int .i64 0, .int .i64 0, .int .i64 0, .int .i64 0, .int .i64 0, .int .i64 0, .slice none 0 0]], []⟩ 8 (by as_aux_lemma => kernel_rfl) (by as_aux_lemma => kernel_rfl) (by as_aux_lemma => kernel_rfl) (by as_aux_lemma => kernel_rfl))
    (law_contractP (lawC (Law.trip mixed fits (by decide) T5 lawNil)) (k := 8) (by as_aux_lemma => kernel_rfl) laidC (by as_aux_lemma => kernel_rfl) (rt := Tryz.f5.resultTypes.getD 0 0) (by as_aux_lemma => kernel_rfl) (by as_aux_lemma => kernel_rfl) rfl rfl (fun ds hd => ?_))
  match ds, hd with
  | [d0], _ => rfl
set_option maxHeartbeats 4000000 in
theorem over : Rows.nodeNilRow.holds Tryz.pinned (OpenSpec.ofChange Rows.nodeNilSpec) :=
  OpenClaim.holds_of_wide 5 Tryz.f5 rfl rfl rfl rfl rfl rfl rfl ⟨rfl, rfl, rfl, rfl, rfl⟩ rfl rfl rfl rfl rfl (by as_aux_lemma => kernel_rfl) Tryz.func5 closed
    (of_decide_eq_true (by as_aux_lemma => kernel_rfl)) (by unfold Func.isWrapper; first | (rw [if_pos (by decide +kernel)]; kernel_rfl) | (rw [if_neg (by decide +kernel)]; exact ⟨rfl, rfl⟩))
    (fun os started H enc _ => lifted os started H enc)
end nodeNil
theorem nodeNil_holds : Rows.NodeNilSaid := nodeNil.over

end Go.Proofs.YtpdmmpajjdaebaaGreat
