/- Functions of the program in our form (V08). No condition. -/
import Derived.Test.YtkahfmgdjoaiiaaV08Fa
import Derived.Test.YtkahfmgdjoaiiaaV08Fb
import Derived.Test.YtkahfmgdjoaiiaaV08Fc
import Derived.Test.YtkahfmgdjoaiiaaV08Fd
set_option linter.unusedVariables false
set_option linter.unusedSimpArgs false
namespace Go.Proofs.Ytkahfmgdjoaiiaa
open Go.Wam

def table : List (Nat × FnDef) := [(3, .ir F3), (11, .ir F11), (30, .ir F30), (38, .ir F38), (46, .ir F46), (35, .ir F35), (12, .ir F12), (14, .ir F14), (32, .ir F32), (31, .ir F31), (47, .ir F47), (33, .ir F33), (48, .ir F48), (34, .ir F34), (39, .ir F39), (29, .ir F29), (40, .ir F40), (50, .ir F50), (49, .ir F49), (20, .ir F20), (44, .ir F44), (54, .ir F54), (55, .ir F55), (53, .ir F53), (16, .ir F16), (41, .ir F41), (19, .ir F19), (43, .ir F43), (51, .ir F51), (52, .ir F52), (13, .ir F13), (15, .ir F15), (36, .ir F36), (37, .ir F37), (17, .ir F17), (42, .ir F42), (18, .ir F18), (4, .ir F4), (21, .ir F21), (5, .ir F5), (22, .ir F22), (6, .ir F6), (23, .ir F23), (24, .ir F24), (25, .ir F25), (26, .ir F26), (7, .ir F7), (27, .ir F27), (45, .ir F45), (8, .ir F8), (28, .ir F28), (9, .ir F9), (10, .ir F10)]
def T : FuncId → Option FnDef := fun f => Go.Wam.look f table
theorem T3 : T 3 = some (.ir F3) := rfl
theorem T11 : T 11 = some (.ir F11) := rfl
theorem T30 : T 30 = some (.ir F30) := rfl
theorem T38 : T 38 = some (.ir F38) := rfl
theorem T46 : T 46 = some (.ir F46) := rfl
theorem T35 : T 35 = some (.ir F35) := rfl
theorem T12 : T 12 = some (.ir F12) := rfl
theorem T14 : T 14 = some (.ir F14) := rfl
theorem T32 : T 32 = some (.ir F32) := rfl
theorem T31 : T 31 = some (.ir F31) := rfl
theorem T47 : T 47 = some (.ir F47) := rfl
theorem T33 : T 33 = some (.ir F33) := rfl
theorem T48 : T 48 = some (.ir F48) := rfl
theorem T34 : T 34 = some (.ir F34) := rfl
theorem T39 : T 39 = some (.ir F39) := rfl
theorem T29 : T 29 = some (.ir F29) := rfl
theorem T40 : T 40 = some (.ir F40) := rfl
theorem T50 : T 50 = some (.ir F50) := rfl
theorem T49 : T 49 = some (.ir F49) := rfl
theorem T20 : T 20 = some (.ir F20) := rfl
theorem T44 : T 44 = some (.ir F44) := rfl
theorem T54 : T 54 = some (.ir F54) := rfl
theorem T55 : T 55 = some (.ir F55) := rfl
theorem T53 : T 53 = some (.ir F53) := rfl
theorem T16 : T 16 = some (.ir F16) := rfl
theorem T41 : T 41 = some (.ir F41) := rfl
theorem T19 : T 19 = some (.ir F19) := rfl
theorem T43 : T 43 = some (.ir F43) := rfl
theorem T51 : T 51 = some (.ir F51) := rfl
theorem T52 : T 52 = some (.ir F52) := rfl
theorem T13 : T 13 = some (.ir F13) := rfl
theorem T15 : T 15 = some (.ir F15) := rfl
theorem T36 : T 36 = some (.ir F36) := rfl
theorem T37 : T 37 = some (.ir F37) := rfl
theorem T17 : T 17 = some (.ir F17) := rfl
theorem T42 : T 42 = some (.ir F42) := rfl
theorem T18 : T 18 = some (.ir F18) := rfl
theorem T4 : T 4 = some (.ir F4) := rfl
theorem T21 : T 21 = some (.ir F21) := rfl
theorem T5 : T 5 = some (.ir F5) := rfl
theorem T22 : T 22 = some (.ir F22) := rfl
theorem T6 : T 6 = some (.ir F6) := rfl
theorem T23 : T 23 = some (.ir F23) := rfl
theorem T24 : T 24 = some (.ir F24) := rfl
theorem T25 : T 25 = some (.ir F25) := rfl
theorem T26 : T 26 = some (.ir F26) := rfl
theorem T7 : T 7 = some (.ir F7) := rfl
theorem T27 : T 27 = some (.ir F27) := rfl
theorem T45 : T 45 = some (.ir F45) := rfl
theorem T8 : T 8 = some (.ir F8) := rfl
theorem T28 : T 28 = some (.ir F28) := rfl
theorem T9 : T 9 = some (.ir F9) := rfl
theorem T10 : T 10 = some (.ir F10) := rfl
theorem fits3 : FnFits Try.prog 3 F3 := ⟨Try.f3, _, Try.func3, rfl, by decide, rfl, by decide, by kernel_rfl, by kernel_rfl⟩
theorem fits11 : FnFits Try.prog 11 F11 := ⟨Try.f11, _, Try.func11, rfl, by decide, rfl, by decide, by kernel_rfl, by kernel_rfl⟩
theorem fits30 : FnFits Try.prog 30 F30 := ⟨Try.f30, _, Try.func30, rfl, by decide, rfl, by decide, by kernel_rfl, by kernel_rfl⟩
theorem fits38 : FnFits Try.prog 38 F38 := ⟨Try.f38, _, Try.func38, rfl, by decide, rfl, by decide, by kernel_rfl, by kernel_rfl⟩
theorem fits46 : FnFits Try.prog 46 F46 := ⟨Try.f46, _, Try.func46, rfl, by decide, rfl, by decide, by kernel_rfl, by kernel_rfl⟩
theorem fits35 : FnFits Try.prog 35 F35 := ⟨Try.f35, _, Try.func35, rfl, by decide, rfl, by decide, by kernel_rfl, by kernel_rfl⟩
theorem fits12 : FnFits Try.prog 12 F12 := ⟨Try.f12, _, Try.func12, rfl, by decide, rfl, by decide, by kernel_rfl, by kernel_rfl⟩
theorem fits14 : FnFits Try.prog 14 F14 := ⟨Try.f14, _, Try.func14, rfl, by decide, rfl, by decide, by kernel_rfl, by kernel_rfl⟩
theorem fits32 : FnFits Try.prog 32 F32 := ⟨Try.f32, _, Try.func32, rfl, by decide, rfl, by decide, by kernel_rfl, by kernel_rfl⟩
theorem fits31 : FnFits Try.prog 31 F31 := ⟨Try.f31, _, Try.func31, rfl, by decide, rfl, by decide, by kernel_rfl, by kernel_rfl⟩
theorem fits47 : FnFits Try.prog 47 F47 := ⟨Try.f47, _, Try.func47, rfl, by decide, rfl, by decide, by kernel_rfl, by kernel_rfl⟩
theorem fits33 : FnFits Try.prog 33 F33 := ⟨Try.f33, _, Try.func33, rfl, by decide, rfl, by decide, by kernel_rfl, by kernel_rfl⟩
theorem fits48 : FnFits Try.prog 48 F48 := ⟨Try.f48, _, Try.func48, rfl, by decide, rfl, by decide, by kernel_rfl, by kernel_rfl⟩
theorem fits34 : FnFits Try.prog 34 F34 := ⟨Try.f34, _, Try.func34, rfl, by decide, rfl, by decide, by kernel_rfl, by kernel_rfl⟩
theorem fits39 : FnFits Try.prog 39 F39 := ⟨Try.f39, _, Try.func39, rfl, by decide, rfl, by decide, by kernel_rfl, by kernel_rfl⟩
theorem fits29 : FnFits Try.prog 29 F29 := ⟨Try.f29, _, Try.func29, rfl, by decide, rfl, by decide, by kernel_rfl, by kernel_rfl⟩
theorem fits40 : FnFits Try.prog 40 F40 := ⟨Try.f40, _, Try.func40, rfl, by decide, rfl, by decide, by kernel_rfl, by kernel_rfl⟩
theorem fits50 : FnFits Try.prog 50 F50 := ⟨Try.f50, _, Try.func50, rfl, by decide, rfl, by decide, by kernel_rfl, by kernel_rfl⟩
theorem fits49 : FnFits Try.prog 49 F49 := ⟨Try.f49, _, Try.func49, rfl, by decide, rfl, by decide, by kernel_rfl, by kernel_rfl⟩
theorem fits20 : FnFits Try.prog 20 F20 := ⟨Try.f20, _, Try.func20, rfl, by decide, rfl, by decide, by kernel_rfl, by kernel_rfl⟩
theorem fits44 : FnFits Try.prog 44 F44 := ⟨Try.f44, _, Try.func44, rfl, by decide, rfl, by decide, by kernel_rfl, by kernel_rfl⟩
theorem fits54 : FnFits Try.prog 54 F54 := ⟨Try.f54, _, Try.func54, rfl, by decide, rfl, by decide, by kernel_rfl, by kernel_rfl⟩
theorem fits55 : FnFits Try.prog 55 F55 := ⟨Try.f55, _, Try.func55, rfl, by decide, rfl, by decide, by kernel_rfl, by kernel_rfl⟩
theorem fits53 : FnFits Try.prog 53 F53 := ⟨Try.f53, _, Try.func53, rfl, by decide, rfl, by decide, by kernel_rfl, by kernel_rfl⟩
theorem fits16 : FnFits Try.prog 16 F16 := ⟨Try.f16, _, Try.func16, rfl, by decide, rfl, by decide, by kernel_rfl, by kernel_rfl⟩
theorem fits41 : FnFits Try.prog 41 F41 := ⟨Try.f41, _, Try.func41, rfl, by decide, rfl, by decide, by kernel_rfl, by kernel_rfl⟩
theorem fits19 : FnFits Try.prog 19 F19 := ⟨Try.f19, _, Try.func19, rfl, by decide, rfl, by decide, by kernel_rfl, by kernel_rfl⟩
theorem fits43 : FnFits Try.prog 43 F43 := ⟨Try.f43, _, Try.func43, rfl, by decide, rfl, by decide, by kernel_rfl, by kernel_rfl⟩
theorem fits51 : FnFits Try.prog 51 F51 := ⟨Try.f51, _, Try.func51, rfl, by decide, rfl, by decide, by kernel_rfl, by kernel_rfl⟩
theorem fits52 : FnFits Try.prog 52 F52 := ⟨Try.f52, _, Try.func52, rfl, by decide, rfl, by decide, by kernel_rfl, by kernel_rfl⟩
theorem fits13 : FnFits Try.prog 13 F13 := ⟨Try.f13, _, Try.func13, rfl, by decide, rfl, by decide, by kernel_rfl, by kernel_rfl⟩
theorem fits15 : FnFits Try.prog 15 F15 := ⟨Try.f15, _, Try.func15, rfl, by decide, rfl, by decide, by kernel_rfl, by kernel_rfl⟩
theorem fits36 : FnFits Try.prog 36 F36 := ⟨Try.f36, _, Try.func36, rfl, by decide, rfl, by decide, by kernel_rfl, by kernel_rfl⟩
theorem fits37 : FnFits Try.prog 37 F37 := ⟨Try.f37, _, Try.func37, rfl, by decide, rfl, by decide, by kernel_rfl, by kernel_rfl⟩
theorem fits17 : FnFits Try.prog 17 F17 := ⟨Try.f17, _, Try.func17, rfl, by decide, rfl, by decide, by kernel_rfl, by kernel_rfl⟩
theorem fits42 : FnFits Try.prog 42 F42 := ⟨Try.f42, _, Try.func42, rfl, by decide, rfl, by decide, by kernel_rfl, by kernel_rfl⟩
theorem fits18 : FnFits Try.prog 18 F18 := ⟨Try.f18, _, Try.func18, rfl, by decide, rfl, by decide, by kernel_rfl, by kernel_rfl⟩
theorem fits4 : FnFits Try.prog 4 F4 := ⟨Try.f4, _, Try.func4, rfl, by decide, rfl, by decide, by kernel_rfl, by kernel_rfl⟩
theorem fits21 : FnFits Try.prog 21 F21 := ⟨Try.f21, _, Try.func21, rfl, by decide, rfl, by decide, by kernel_rfl, by kernel_rfl⟩
theorem fits5 : FnFits Try.prog 5 F5 := ⟨Try.f5, _, Try.func5, rfl, by decide, rfl, by decide, by kernel_rfl, by kernel_rfl⟩
theorem fits22 : FnFits Try.prog 22 F22 := ⟨Try.f22, _, Try.func22, rfl, by decide, rfl, by decide, by kernel_rfl, by kernel_rfl⟩
theorem fits6 : FnFits Try.prog 6 F6 := ⟨Try.f6, _, Try.func6, rfl, by decide, rfl, by decide, by kernel_rfl, by kernel_rfl⟩
theorem fits23 : FnFits Try.prog 23 F23 := ⟨Try.f23, _, Try.func23, rfl, by decide, rfl, by decide, by kernel_rfl, by kernel_rfl⟩
theorem fits24 : FnFits Try.prog 24 F24 := ⟨Try.f24, _, Try.func24, rfl, by decide, rfl, by decide, by kernel_rfl, by kernel_rfl⟩
theorem fits25 : FnFits Try.prog 25 F25 := ⟨Try.f25, _, Try.func25, rfl, by decide, rfl, by decide, by kernel_rfl, by kernel_rfl⟩
theorem fits26 : FnFits Try.prog 26 F26 := ⟨Try.f26, _, Try.func26, rfl, by decide, rfl, by decide, by kernel_rfl, by kernel_rfl⟩
theorem fits7 : FnFits Try.prog 7 F7 := ⟨Try.f7, _, Try.func7, rfl, by decide, rfl, by decide, by kernel_rfl, by kernel_rfl⟩
theorem fits27 : FnFits Try.prog 27 F27 := ⟨Try.f27, _, Try.func27, rfl, by decide, rfl, by decide, by kernel_rfl, by kernel_rfl⟩
theorem fits45 : FnFits Try.prog 45 F45 := ⟨Try.f45, _, Try.func45, rfl, by decide, rfl, by decide, by kernel_rfl, by kernel_rfl⟩
theorem fits8 : FnFits Try.prog 8 F8 := ⟨Try.f8, _, Try.func8, rfl, by decide, rfl, by decide, by kernel_rfl, by kernel_rfl⟩
theorem fits28 : FnFits Try.prog 28 F28 := ⟨Try.f28, _, Try.func28, rfl, by decide, rfl, by decide, by kernel_rfl, by kernel_rfl⟩
theorem fits9 : FnFits Try.prog 9 F9 := ⟨Try.f9, _, Try.func9, rfl, by decide, rfl, by decide, by kernel_rfl, by kernel_rfl⟩
theorem fits10 : FnFits Try.prog 10 F10 := ⟨Try.f10, _, Try.func10, rfl, by decide, rfl, by decide, by kernel_rfl, by kernel_rfl⟩
theorem fits : TableOk Try.prog T := tableOk (t := table) ⟨fits3, fits11, fits30, fits38, fits46, fits35, fits12, fits14, fits32, fits31, fits47, fits33, fits48, fits34, fits39, fits29, fits40, fits50, fits49, fits20, fits44, fits54, fits55, fits53, fits16, fits41, fits19, fits43, fits51, fits52, fits13, fits15, fits36, fits37, fits17, fits42, fits18, fits4, fits21, fits5, fits22, fits6, fits23, fits24, fits25, fits26, fits7, fits27, fits45, fits8, fits28, fits9, fits10, trivial⟩
theorem own : ownKnob Try.prog.godebug = none := by kernel_rfl
theorem laidOut : laidOutB Try.prog = true := by kernel_rfl
theorem mixed : Try.prog.follows .mixedOrders = true := by kernel_rfl
end Go.Proofs.Ytkahfmgdjoaiiaa
