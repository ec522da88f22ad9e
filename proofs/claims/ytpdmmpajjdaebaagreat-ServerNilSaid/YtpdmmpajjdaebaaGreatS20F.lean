/- Functions of the program in our form (S20). No condition. -/
import Derived.Test.YtpdmmpajjdaebaaGreatS20Fa
import Derived.Test.YtpdmmpajjdaebaaGreatS20A
import Derived.Test.YtpdmmpajjdaebaaGreatLaid
set_option linter.unusedVariables false
set_option linter.unusedSimpArgs false
namespace Go.Proofs.YtpdmmpajjdaebaaGreat
open Go.Wam

def table : List (Nat × FnDef) := [(4, .ir F4), (21, .ir F21), (22, .prim (aliveG true)), (23, .ir F23), (24, .ir F24), (25, .ir F25), (26, .ir F26), (27, .ir F27), (28, .ir F28), (29, .ir F29)]
def T : FuncId → Option FnDef := fun f => Go.Wam.look f table
theorem T4 : T 4 = some (.ir F4) := rfl
theorem T21 : T 21 = some (.ir F21) := rfl
theorem T22 : T 22 = some (.prim (aliveG true)) := rfl
theorem T23 : T 23 = some (.ir F23) := rfl
theorem T24 : T 24 = some (.ir F24) := rfl
theorem T25 : T 25 = some (.ir F25) := rfl
theorem T26 : T 26 = some (.ir F26) := rfl
theorem T27 : T 27 = some (.ir F27) := rfl
theorem T28 : T 28 = some (.ir F28) := rfl
theorem T29 : T 29 = some (.ir F29) := rfl
theorem fits4 : FnFits Tryz.prog 4 F4 := ⟨Tryz.f4, _, Tryz.func4, rfl, by decide, rfl, by decide, by kernel_rfl, by kernel_rfl⟩
theorem fits21 : FnFits Tryz.prog 21 F21 := ⟨Tryz.f21, _, Tryz.func21, rfl, by decide, rfl, by decide, by kernel_rfl, by kernel_rfl⟩
theorem fits23 : FnFits Tryz.prog 23 F23 := ⟨Tryz.f23, _, Tryz.func23, rfl, by decide, rfl, by decide, by kernel_rfl, by kernel_rfl⟩
theorem fits24 : FnFits Tryz.prog 24 F24 := ⟨Tryz.f24, _, Tryz.func24, rfl, by decide, rfl, by decide, by kernel_rfl, by kernel_rfl⟩
theorem fits25 : FnFits Tryz.prog 25 F25 := ⟨Tryz.f25, _, Tryz.func25, rfl, by decide, rfl, by decide, by kernel_rfl, by kernel_rfl⟩
theorem fits26 : FnFits Tryz.prog 26 F26 := ⟨Tryz.f26, _, Tryz.func26, rfl, by decide, rfl, by decide, by kernel_rfl, by kernel_rfl⟩
theorem fits27 : FnFits Tryz.prog 27 F27 := ⟨Tryz.f27, _, Tryz.func27, rfl, by decide, rfl, by decide, by kernel_rfl, by kernel_rfl⟩
theorem fits28 : FnFits Tryz.prog 28 F28 := ⟨Tryz.f28, _, Tryz.func28, rfl, by decide, rfl, by decide, by kernel_rfl, by kernel_rfl⟩
theorem fits29 : FnFits Tryz.prog 29 F29 := ⟨Tryz.f29, _, Tryz.func29, rfl, by decide, rfl, by decide, by kernel_rfl, by kernel_rfl⟩
theorem fits22 : FitsD Tryz.prog 22 (.prim (aliveG true)) := aliveG_fits AlS20.any
theorem fits : TableOk Tryz.prog T := tableOk (t := table) ⟨fits4, fits21, fits22, fits23, fits24, fits25, fits26, fits27, fits28, fits29, trivial⟩
theorem alive (H : AHeap) : call T 22 [] H = some (.bool true, H) := (call_prim T22 (by decide) [] H).trans rfl
end Go.Proofs.YtpdmmpajjdaebaaGreat
