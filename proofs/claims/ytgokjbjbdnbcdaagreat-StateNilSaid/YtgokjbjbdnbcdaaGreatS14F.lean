/- Functions of the program in our form (S14). No condition. -/
import Derived.Test.YtgokjbjbdnbcdaaGreatS14Fa
import Derived.Test.YtgokjbjbdnbcdaaGreatS14A
set_option linter.unusedVariables false
set_option linter.unusedSimpArgs false
namespace Go.Proofs.YtgokjbjbdnbcdaaGreat
open Go.Wam

def table : List (Nat × FnDef) := [(9, .ir F9), (18, .ir F18), (19, .ir F19), (20, .ir F20), (21, .prim (aliveG true)), (22, .ir F22), (24, .ir F24), (25, .ir F25), (29, .ir F29), (35, .ir F35), (36, .ir F36)]
def T : FuncId → Option FnDef := fun f => Go.Wam.look f table
theorem T9 : T 9 = some (.ir F9) := rfl
theorem T18 : T 18 = some (.ir F18) := rfl
theorem T19 : T 19 = some (.ir F19) := rfl
theorem T20 : T 20 = some (.ir F20) := rfl
theorem T21 : T 21 = some (.prim (aliveG true)) := rfl
theorem T22 : T 22 = some (.ir F22) := rfl
theorem T24 : T 24 = some (.ir F24) := rfl
theorem T25 : T 25 = some (.ir F25) := rfl
theorem T29 : T 29 = some (.ir F29) := rfl
theorem T35 : T 35 = some (.ir F35) := rfl
theorem T36 : T 36 = some (.ir F36) := rfl
theorem fits9 : FnFits Tryz.prog 9 F9 := ⟨Tryz.f9, _, Tryz.func9, rfl, by decide, rfl, by decide, by kernel_rfl, by kernel_rfl⟩
theorem fits18 : FnFits Tryz.prog 18 F18 := ⟨Tryz.f18, _, Tryz.func18, rfl, by decide, rfl, by decide, by kernel_rfl, by kernel_rfl⟩
theorem fits19 : FnFits Tryz.prog 19 F19 := ⟨Tryz.f19, _, Tryz.func19, rfl, by decide, rfl, by decide, by kernel_rfl, by kernel_rfl⟩
theorem fits20 : FnFits Tryz.prog 20 F20 := ⟨Tryz.f20, _, Tryz.func20, rfl, by decide, rfl, by decide, by kernel_rfl, by kernel_rfl⟩
theorem fits22 : FnFits Tryz.prog 22 F22 := ⟨Tryz.f22, _, Tryz.func22, rfl, by decide, rfl, by decide, by kernel_rfl, by kernel_rfl⟩
theorem fits24 : FnFits Tryz.prog 24 F24 := ⟨Tryz.f24, _, Tryz.func24, rfl, by decide, rfl, by decide, by kernel_rfl, by kernel_rfl⟩
theorem fits25 : FnFits Tryz.prog 25 F25 := ⟨Tryz.f25, _, Tryz.func25, rfl, by decide, rfl, by decide, by kernel_rfl, by kernel_rfl⟩
theorem fits29 : FnFits Tryz.prog 29 F29 := ⟨Tryz.f29, _, Tryz.func29, rfl, by decide, rfl, by decide, by kernel_rfl, by kernel_rfl⟩
theorem fits35 : FnFits Tryz.prog 35 F35 := ⟨Tryz.f35, _, Tryz.func35, rfl, by decide, rfl, by decide, by kernel_rfl, by kernel_rfl⟩
theorem fits36 : FnFits Tryz.prog 36 F36 := ⟨Tryz.f36, _, Tryz.func36, rfl, by decide, rfl, by decide, by kernel_rfl, by kernel_rfl⟩
theorem fits21 : FitsD Tryz.prog 21 (.prim (aliveG true)) := aliveG_fits AlS14.any
theorem fits : TableOk Tryz.prog T := tableOk (t := table) ⟨fits9, fits18, fits19, fits20, fits21, fits22, fits24, fits25, fits29, fits35, fits36, trivial⟩
theorem own : ownKnob Tryz.prog.godebug = none := by kernel_rfl
theorem laidOut : laidOutB Tryz.prog = true := by kernel_rfl
theorem mixed : Tryz.prog.follows .mixedOrders = true := by kernel_rfl
theorem alive (H : AHeap) : call T 21 [] H = some (.bool true, H) := (call_prim T21 (by decide) [] H).trans rfl
end Go.Proofs.YtgokjbjbdnbcdaaGreat
