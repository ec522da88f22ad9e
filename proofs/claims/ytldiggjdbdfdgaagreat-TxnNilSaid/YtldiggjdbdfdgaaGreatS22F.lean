/- Functions of the program in our form (S22). No condition. -/
import Derived.Test.YtldiggjdbdfdgaaGreatS22Fa
import Derived.Test.YtldiggjdbdfdgaaGreatS22A
set_option linter.unusedVariables false
set_option linter.unusedSimpArgs false
namespace Go.Proofs.YtldiggjdbdfdgaaGreat
open Go.Wam

def table : List (Nat × FnDef) := [(6, .ir F6), (10, .prim (aliveG true)), (19, .ir F19), (22, .ir F22), (23, .ir F23), (24, .ir F24), (25, .ir F25), (26, .ir F26), (27, .ir F27), (28, .ir F28)]
def T : FuncId → Option FnDef := fun f => Go.Wam.look f table
theorem T6 : T 6 = some (.ir F6) := rfl
theorem T10 : T 10 = some (.prim (aliveG true)) := rfl
theorem T19 : T 19 = some (.ir F19) := rfl
theorem T22 : T 22 = some (.ir F22) := rfl
theorem T23 : T 23 = some (.ir F23) := rfl
theorem T24 : T 24 = some (.ir F24) := rfl
theorem T25 : T 25 = some (.ir F25) := rfl
theorem T26 : T 26 = some (.ir F26) := rfl
theorem T27 : T 27 = some (.ir F27) := rfl
theorem T28 : T 28 = some (.ir F28) := rfl
theorem fits6 : FnFits Tryz.prog 6 F6 := ⟨Tryz.f6, _, Tryz.func6, rfl, by decide, rfl, by decide, by kernel_rfl, by kernel_rfl⟩
theorem fits19 : FnFits Tryz.prog 19 F19 := ⟨Tryz.f19, _, Tryz.func19, rfl, by decide, rfl, by decide, by kernel_rfl, by kernel_rfl⟩
theorem fits22 : FnFits Tryz.prog 22 F22 := ⟨Tryz.f22, _, Tryz.func22, rfl, by decide, rfl, by decide, by kernel_rfl, by kernel_rfl⟩
theorem fits23 : FnFits Tryz.prog 23 F23 := ⟨Tryz.f23, _, Tryz.func23, rfl, by decide, rfl, by decide, by kernel_rfl, by kernel_rfl⟩
theorem fits24 : FnFits Tryz.prog 24 F24 := ⟨Tryz.f24, _, Tryz.func24, rfl, by decide, rfl, by decide, by kernel_rfl, by kernel_rfl⟩
theorem fits25 : FnFits Tryz.prog 25 F25 := ⟨Tryz.f25, _, Tryz.func25, rfl, by decide, rfl, by decide, by kernel_rfl, by kernel_rfl⟩
theorem fits26 : FnFits Tryz.prog 26 F26 := ⟨Tryz.f26, _, Tryz.func26, rfl, by decide, rfl, by decide, by kernel_rfl, by kernel_rfl⟩
theorem fits27 : FnFits Tryz.prog 27 F27 := ⟨Tryz.f27, _, Tryz.func27, rfl, by decide, rfl, by decide, by kernel_rfl, by kernel_rfl⟩
theorem fits28 : FnFits Tryz.prog 28 F28 := ⟨Tryz.f28, _, Tryz.func28, rfl, by decide, rfl, by decide, by kernel_rfl, by kernel_rfl⟩
theorem fits10 : FitsD Tryz.prog 10 (.prim (aliveG true)) := aliveG_fits AlS22.any
theorem fits : TableOk Tryz.prog T := tableOk (t := table) ⟨fits6, fits10, fits19, fits22, fits23, fits24, fits25, fits26, fits27, fits28, trivial⟩
theorem own : ownKnob Tryz.prog.godebug = none := by kernel_rfl
theorem laidOut : laidOutB Tryz.prog = true := by kernel_rfl
theorem mixed : Tryz.prog.follows .mixedOrders = true := by kernel_rfl
theorem alive (H : AHeap) : call T 10 [] H = some (.bool true, H) := (call_prim T10 (by decide) [] H).trans rfl
end Go.Proofs.YtldiggjdbdfdgaaGreat
