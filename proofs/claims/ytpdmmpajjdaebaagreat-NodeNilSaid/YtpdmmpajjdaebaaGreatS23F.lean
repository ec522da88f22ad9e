/- Functions of the program in our form (S23). No condition. -/
import Derived.Test.YtpdmmpajjdaebaaGreatS23Fa
import Derived.Test.YtpdmmpajjdaebaaGreatS23A
import Derived.Test.YtpdmmpajjdaebaaGreatLaid
set_option linter.unusedVariables false
set_option linter.unusedSimpArgs false
namespace Go.Proofs.YtpdmmpajjdaebaaGreat
open Go.Wam

def table : List (Nat × FnDef) := [(5, .ir F5), (21, .ir F21), (30, .ir F30), (31, .prim (aliveG true)), (32, .ir F32), (33, .ir F33), (34, .ir F34), (35, .ir F35), (36, .ir F36), (37, .ir F37), (38, .ir F38), (39, .ir F39), (40, .ir F40), (41, .ir F41), (42, .ir F42), (43, .ir F43), (44, .ir F44), (90, .ir F90)]
def T : FuncId → Option FnDef := fun f => Go.Wam.look f table
theorem T5 : T 5 = some (.ir F5) := rfl
theorem T21 : T 21 = some (.ir F21) := rfl
theorem T30 : T 30 = some (.ir F30) := rfl
theorem T31 : T 31 = some (.prim (aliveG true)) := rfl
theorem T32 : T 32 = some (.ir F32) := rfl
theorem T33 : T 33 = some (.ir F33) := rfl
theorem T34 : T 34 = some (.ir F34) := rfl
theorem T35 : T 35 = some (.ir F35) := rfl
theorem T36 : T 36 = some (.ir F36) := rfl
theorem T37 : T 37 = some (.ir F37) := rfl
theorem T38 : T 38 = some (.ir F38) := rfl
theorem T39 : T 39 = some (.ir F39) := rfl
theorem T40 : T 40 = some (.ir F40) := rfl
theorem T41 : T 41 = some (.ir F41) := rfl
theorem T42 : T 42 = some (.ir F42) := rfl
theorem T43 : T 43 = some (.ir F43) := rfl
theorem T44 : T 44 = some (.ir F44) := rfl
theorem T90 : T 90 = some (.ir F90) := rfl
theorem fits5 : FnFits Tryz.prog 5 F5 := ⟨Tryz.f5, _, Tryz.func5, rfl, by decide, rfl, by decide, by kernel_rfl, by kernel_rfl⟩
theorem fits21 : FnFits Tryz.prog 21 F21 := ⟨Tryz.f21, _, Tryz.func21, rfl, by decide, rfl, by decide, by kernel_rfl, by kernel_rfl⟩
theorem fits30 : FnFits Tryz.prog 30 F30 := ⟨Tryz.f30, _, Tryz.func30, rfl, by decide, rfl, by decide, by kernel_rfl, by kernel_rfl⟩
theorem fits32 : FnFits Tryz.prog 32 F32 := ⟨Tryz.f32, _, Tryz.func32, rfl, by decide, rfl, by decide, by kernel_rfl, by kernel_rfl⟩
theorem fits33 : FnFits Tryz.prog 33 F33 := ⟨Tryz.f33, _, Tryz.func33, rfl, by decide, rfl, by decide, by kernel_rfl, by kernel_rfl⟩
theorem fits34 : FnFits Tryz.prog 34 F34 := ⟨Tryz.f34, _, Tryz.func34, rfl, by decide, rfl, by decide, by kernel_rfl, by kernel_rfl⟩
theorem fits35 : FnFits Tryz.prog 35 F35 := ⟨Tryz.f35, _, Tryz.func35, rfl, by decide, rfl, by decide, by kernel_rfl, by kernel_rfl⟩
theorem fits36 : FnFits Tryz.prog 36 F36 := ⟨Tryz.f36, _, Tryz.func36, rfl, by decide, rfl, by decide, by kernel_rfl, by kernel_rfl⟩
theorem fits37 : FnFits Tryz.prog 37 F37 := ⟨Tryz.f37, _, Tryz.func37, rfl, by decide, rfl, by decide, by kernel_rfl, by kernel_rfl⟩
theorem fits38 : FnFits Tryz.prog 38 F38 := ⟨Tryz.f38, _, Tryz.func38, rfl, by decide, rfl, by decide, by kernel_rfl, by kernel_rfl⟩
theorem fits39 : FnFits Tryz.prog 39 F39 := ⟨Tryz.f39, _, Tryz.func39, rfl, by decide, rfl, by decide, by kernel_rfl, by kernel_rfl⟩
theorem fits40 : FnFits Tryz.prog 40 F40 := ⟨Tryz.f40, _, Tryz.func40, rfl, by decide, rfl, by decide, by kernel_rfl, by kernel_rfl⟩
theorem fits41 : FnFits Tryz.prog 41 F41 := ⟨Tryz.f41, _, Tryz.func41, rfl, by decide, rfl, by decide, by kernel_rfl, by kernel_rfl⟩
theorem fits42 : FnFits Tryz.prog 42 F42 := ⟨Tryz.f42, _, Tryz.func42, rfl, by decide, rfl, by decide, by kernel_rfl, by kernel_rfl⟩
theorem fits43 : FnFits Tryz.prog 43 F43 := ⟨Tryz.f43, _, Tryz.func43, rfl, by decide, rfl, by decide, by kernel_rfl, by kernel_rfl⟩
theorem fits44 : FnFits Tryz.prog 44 F44 := ⟨Tryz.f44, _, Tryz.func44, rfl, by decide, rfl, by decide, by kernel_rfl, by kernel_rfl⟩
theorem fits90 : FnFits Tryz.prog 90 F90 := ⟨Tryz.f90, _, Tryz.func90, rfl, by decide, rfl, by decide, by kernel_rfl, by kernel_rfl⟩
theorem fits31 : FitsD Tryz.prog 31 (.prim (aliveG true)) := aliveG_fits AlS23.any
theorem fits : TableOk Tryz.prog T := tableOk (t := table) ⟨fits5, fits21, fits30, fits31, fits32, fits33, fits34, fits35, fits36, fits37, fits38, fits39, fits40, fits41, fits42, fits43, fits44, fits90, trivial⟩
theorem alive (H : AHeap) : call T 31 [] H = some (.bool true, H) := (call_prim T31 (by decide) [] H).trans rfl
end Go.Proofs.YtpdmmpajjdaebaaGreat
