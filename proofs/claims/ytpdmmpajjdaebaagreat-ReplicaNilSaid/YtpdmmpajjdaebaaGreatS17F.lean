/- Functions of the program in our form (S17). No condition. -/
import Derived.Test.YtpdmmpajjdaebaaGreatS17Fa
import Derived.Test.YtpdmmpajjdaebaaGreatS17A
import Derived.Test.YtpdmmpajjdaebaaGreatLaid
set_option linter.unusedVariables false
set_option linter.unusedSimpArgs false
namespace Go.Proofs.YtpdmmpajjdaebaaGreat
open Go.Wam

def table : List (Nat × FnDef) := [(3, .ir F3), (6, .ir F6), (7, .prim (aliveG true)), (8, .ir F8), (9, .ir F9), (10, .ir F10), (11, .ir F11), (12, .ir F12), (13, .ir F13), (14, .ir F14), (15, .ir F15), (16, .ir F16), (17, .ir F17), (18, .ir F18), (19, .ir F19), (20, .ir F20), (21, .ir F21)]
def T : FuncId → Option FnDef := fun f => Go.Wam.look f table
theorem T3 : T 3 = some (.ir F3) := rfl
theorem T6 : T 6 = some (.ir F6) := rfl
theorem T7 : T 7 = some (.prim (aliveG true)) := rfl
theorem T8 : T 8 = some (.ir F8) := rfl
theorem T9 : T 9 = some (.ir F9) := rfl
theorem T10 : T 10 = some (.ir F10) := rfl
theorem T11 : T 11 = some (.ir F11) := rfl
theorem T12 : T 12 = some (.ir F12) := rfl
theorem T13 : T 13 = some (.ir F13) := rfl
theorem T14 : T 14 = some (.ir F14) := rfl
theorem T15 : T 15 = some (.ir F15) := rfl
theorem T16 : T 16 = some (.ir F16) := rfl
theorem T17 : T 17 = some (.ir F17) := rfl
theorem T18 : T 18 = some (.ir F18) := rfl
theorem T19 : T 19 = some (.ir F19) := rfl
theorem T20 : T 20 = some (.ir F20) := rfl
theorem T21 : T 21 = some (.ir F21) := rfl
theorem fits3 : FnFits Tryz.prog 3 F3 := ⟨Tryz.f3, _, Tryz.func3, rfl, by decide, rfl, by decide, by kernel_rfl, by kernel_rfl⟩
theorem fits6 : FnFits Tryz.prog 6 F6 := ⟨Tryz.f6, _, Tryz.func6, rfl, by decide, rfl, by decide, by kernel_rfl, by kernel_rfl⟩
theorem fits8 : FnFits Tryz.prog 8 F8 := ⟨Tryz.f8, _, Tryz.func8, rfl, by decide, rfl, by decide, by kernel_rfl, by kernel_rfl⟩
theorem fits9 : FnFits Tryz.prog 9 F9 := ⟨Tryz.f9, _, Tryz.func9, rfl, by decide, rfl, by decide, by kernel_rfl, by kernel_rfl⟩
theorem fits10 : FnFits Tryz.prog 10 F10 := ⟨Tryz.f10, _, Tryz.func10, rfl, by decide, rfl, by decide, by kernel_rfl, by kernel_rfl⟩
theorem fits11 : FnFits Tryz.prog 11 F11 := ⟨Tryz.f11, _, Tryz.func11, rfl, by decide, rfl, by decide, by kernel_rfl, by kernel_rfl⟩
theorem fits12 : FnFits Tryz.prog 12 F12 := ⟨Tryz.f12, _, Tryz.func12, rfl, by decide, rfl, by decide, by kernel_rfl, by kernel_rfl⟩
theorem fits13 : FnFits Tryz.prog 13 F13 := ⟨Tryz.f13, _, Tryz.func13, rfl, by decide, rfl, by decide, by kernel_rfl, by kernel_rfl⟩
theorem fits14 : FnFits Tryz.prog 14 F14 := ⟨Tryz.f14, _, Tryz.func14, rfl, by decide, rfl, by decide, by kernel_rfl, by kernel_rfl⟩
theorem fits15 : FnFits Tryz.prog 15 F15 := ⟨Tryz.f15, _, Tryz.func15, rfl, by decide, rfl, by decide, by kernel_rfl, by kernel_rfl⟩
theorem fits16 : FnFits Tryz.prog 16 F16 := ⟨Tryz.f16, _, Tryz.func16, rfl, by decide, rfl, by decide, by kernel_rfl, by kernel_rfl⟩
theorem fits17 : FnFits Tryz.prog 17 F17 := ⟨Tryz.f17, _, Tryz.func17, rfl, by decide, rfl, by decide, by kernel_rfl, by kernel_rfl⟩
theorem fits18 : FnFits Tryz.prog 18 F18 := ⟨Tryz.f18, _, Tryz.func18, rfl, by decide, rfl, by decide, by kernel_rfl, by kernel_rfl⟩
theorem fits19 : FnFits Tryz.prog 19 F19 := ⟨Tryz.f19, _, Tryz.func19, rfl, by decide, rfl, by decide, by kernel_rfl, by kernel_rfl⟩
theorem fits20 : FnFits Tryz.prog 20 F20 := ⟨Tryz.f20, _, Tryz.func20, rfl, by decide, rfl, by decide, by kernel_rfl, by kernel_rfl⟩
theorem fits21 : FnFits Tryz.prog 21 F21 := ⟨Tryz.f21, _, Tryz.func21, rfl, by decide, rfl, by decide, by kernel_rfl, by kernel_rfl⟩
theorem fits7 : FitsD Tryz.prog 7 (.prim (aliveG true)) := aliveG_fits AlS17.any
theorem fits : TableOk Tryz.prog T := tableOk (t := table) ⟨fits3, fits6, fits7, fits8, fits9, fits10, fits11, fits12, fits13, fits14, fits15, fits16, fits17, fits18, fits19, fits20, fits21, trivial⟩
theorem alive (H : AHeap) : call T 7 [] H = some (.bool true, H) := (call_prim T7 (by decide) [] H).trans rfl
end Go.Proofs.YtpdmmpajjdaebaaGreat
