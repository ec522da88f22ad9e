/- Functions of the program in our form (S9). No condition. -/
import Derived.Test.YtgokjbjbdnbcdaaS9Fa
import Derived.Test.YtgokjbjbdnbcdaaS9A
set_option linter.unusedVariables false
set_option linter.unusedSimpArgs false
namespace Go.Proofs.Ytgokjbjbdnbcdaa
open Go.Wam

def table : List (Nat × FnDef) := [(7, .ir F7), (15, .prim (aliveG true)), (22, .ir F22), (23, .ir F23)]
def T : FuncId → Option FnDef := fun f => Go.Wam.look f table
theorem T7 : T 7 = some (.ir F7) := rfl
theorem T15 : T 15 = some (.prim (aliveG true)) := rfl
theorem T22 : T 22 = some (.ir F22) := rfl
theorem T23 : T 23 = some (.ir F23) := rfl
theorem fits7 : FnFits Try.prog 7 F7 := ⟨Try.f7, _, Try.func7, rfl, by decide, rfl, by decide, by kernel_rfl, by kernel_rfl⟩
theorem fits22 : FnFits Try.prog 22 F22 := ⟨Try.f22, _, Try.func22, rfl, by decide, rfl, by decide, by kernel_rfl, by kernel_rfl⟩
theorem fits23 : FnFits Try.prog 23 F23 := ⟨Try.f23, _, Try.func23, rfl, by decide, rfl, by decide, by kernel_rfl, by kernel_rfl⟩
theorem fits15 : FitsD Try.prog 15 (.prim (aliveG true)) := aliveG_fits AlS9.any
theorem fits : TableOk Try.prog T := tableOk (t := table) ⟨fits7, fits15, fits22, fits23, trivial⟩
theorem own : ownKnob Try.prog.godebug = none := by kernel_rfl
theorem laidOut : laidOutB Try.prog = true := by kernel_rfl
theorem mixed : Try.prog.follows .mixedOrders = true := by kernel_rfl
theorem alive (H : AHeap) : call T 15 [] H = some (.bool true, H) := (call_prim T15 (by decide) [] H).trans rfl
end Go.Proofs.Ytgokjbjbdnbcdaa
