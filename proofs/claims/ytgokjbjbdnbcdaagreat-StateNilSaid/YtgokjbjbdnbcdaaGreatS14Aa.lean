/- Functions of the program in our form (S14, a). No condition. -/
import Derived.Test.YtgokjbjbdnbcdaaGreatAmNil
import Derived.Test.YtgokjbjbdnbcdaaGreatRows
import Derived.KernelRfl
set_option linter.unusedVariables false
namespace Go.Proofs.YtgokjbjbdnbcdaaGreat.AlS14
open Go.Wam
/-- wampum/wampumlaw14.alive -/
def F21 : FnIR := ⟨82, 0, [.tmp 0], [3, 4, 5, 6],
  .seq (.region [⟨some 0, .move (.const (.bool false)), none⟩])
  (.keep [] [] (.seq (.region [⟨some 10, .build [(.str []), (.str [])] [(0, 1, (.const (.str [97]))), (1, 1, (.const (.str [123])))], none⟩,
     ⟨some 11, .call (.func 17) [(.tmp 10)], none⟩,
     ⟨some 9, .move (.tmp 11), none⟩,
     ⟨some 12, .extract (.tmp 9) 0, none⟩,
     ⟨some 13, .extract (.tmp 9) 1, none⟩,
     ⟨some 1, .move (.tmp 12), none⟩,
     ⟨some 2, .move (.tmp 13), none⟩])
  (.keep [1, 2] [] (.seq (.seq (.region [⟨some 14, .move (.tmp 2), none⟩,
      ⟨some 15, .bin .neq .int (.tmp 14) (.const (.int .i64 0)), none⟩,
      ⟨some 16, .move (.tmp 15), none⟩,
      ⟨some 17, .move (.tmp 1), some (16, false)⟩,
      ⟨some 18, .bin .eql .ptr (.tmp 17) (.const .nilp), some (16, false)⟩,
      ⟨some 19, .pick (.tmp 16) (.const (.bool true)) (.tmp 18), none⟩])
   (.keep [1, 19] [] (.cond (.tmp 19)
    (.seq (.region [⟨some 0, .move (.const (.bool false)), none⟩])
    (.keep [0] [] (.ret)))
    (.skip))))
  (.keep [1] [] (.seq (.region [⟨some 20, .move (.tmp 1), none⟩,
     ⟨some 21, .build [(.int .i64 0), (.int .i64 0), (.int .i64 0), (.int .i64 0), (.int .i64 0), (.int .i64 0), (.str []), (.int .i64 0), (.int .i64 0), (.int .i64 0), (.str []), (.str []), (.str []), (.bool false), (.int .i64 0), (.int .i64 0), (.int .i64 0), (.int .i64 0), (.bool false), (.bool false), .nils, (.int .i64 0)] [(0, 1, (.const (.int .i64 1))), (2, 1, (.const (.int .i64 1))), (3, 1, (.const (.int .i64 2)))], none⟩,
     ⟨some 22, .call (.func 19) [(.tmp 20), (.tmp 21)], none⟩,
     ⟨some 3, .alloc true 18 [(.int .i64 0), (.int .i64 0), (.int .i64 0), .nils, (.bool false), (.int .i64 0), (.int .i64 0), (.str []), (.int .i64 0), (.int .i64 0), (.int .i64 0), (.int .i64 0), (.int .i64 0), (.int .i64 0), (.int .i64 0), (.int .i64 0), (.int .i64 0), .nils], none⟩,
     ⟨none, .store 18 (.tmp 3) (.tmp 22), none⟩])
  (.keep [1, 3] [3] (.seq (.region [⟨some 23, .move (.tmp 1), none⟩,
     ⟨some 24, .build [(.int .i64 0), (.int .i64 0), (.str []), (.int .i64 0), (.int .i64 0)] [(0, 1, (.const (.int .i64 5))), (2, 1, (.const (.str [107])))], none⟩,
     ⟨some 25, .build [(.str []), (.str [])] [(0, 1, (.const (.str [107])))], none⟩,
     ⟨some 26, .build [(.int .i64 0), (.int .i64 0)] [(0, 1, (.const (.int .i64 3)))], none⟩,
     ⟨some 27, .build [(.int .i64 0), (.int .i64 0), (.int .i64 0), (.int .i64 0), (.int .i64 0), (.int .i64 0), (.str []), (.int .i64 0), (.int .i64 0), (.int .i64 0), (.str []), (.str []), (.str []), (.bool false), (.int .i64 0), (.int .i64 0), (.int .i64 0), (.int .i64 0), (.bool false), (.bool false), .nils, (.int .i64 0)] [(0, 1, (.const (.int .i64 3))), (2, 1, (.const (.int .i64 1))), (4, 5, (.tmp 24)), (10, 2, (.tmp 25)), (12, 1, (.const (.str [118]))), (14, 2, (.tmp 26))], none⟩,
     ⟨some 28, .call (.func 19) [(.tmp 23), (.tmp 27)], none⟩,
     ⟨some 4, .alloc true 18 [(.int .i64 0), (.int .i64 0), (.int .i64 0), .nils, (.bool false), (.int .i64 0), (.int .i64 0), (.str []), (.int .i64 0), (.int .i64 0), (.int .i64 0), (.int .i64 0), (.int .i64 0), (.int .i64 0), (.int .i64 0), (.int .i64 0), (.int .i64 0), .nils], none⟩,
     ⟨none, .store 18 (.tmp 4) (.tmp 28), none⟩])
  (.keep [1, 3, 4] [3, 4] (.seq (.region [⟨some 29, .move (.tmp 1), none⟩,
     ⟨some 30, .build [(.str []), (.str [])] [(0, 1, (.const (.str [107])))], none⟩,
     ⟨some 31, .build [(.int .i64 0), (.int .i64 0)] [(0, 1, (.const (.int .i64 9)))], none⟩,
     ⟨some 32, .build [(.int .i64 0), (.int .i64 0)] [(0, 1, (.const (.int .i64 9)))], none⟩,
     ⟨some 33, .build [(.int .i64 0), (.int .i64 0), (.int .i64 0), (.int .i64 0), (.int .i64 0), (.int .i64 0), (.str []), (.int .i64 0), (.int .i64 0), (.int .i64 0), (.str []), (.str []), (.str []), (.bool false), (.int .i64 0), (.int .i64 0), (.int .i64 0), (.int .i64 0), (.bool false), (.bool false), .nils, (.int .i64 0)] [(0, 1, (.const (.int .i64 2))), (2, 1, (.const (.int .i64 1))), (10, 2, (.tmp 30)), (14, 2, (.tmp 31)), (16, 2, (.tmp 32))], none⟩,
     ⟨some 34, .call (.func 19) [(.tmp 29), (.tmp 33)], none⟩,
     ⟨some 5, .alloc true 18 [(.int .i64 0), (.int .i64 0), (.int .i64 0), .nils, (.bool false), (.int .i64 0), (.int .i64 0), (.str []), (.int .i64 0), (.int .i64 0), (.int .i64 0), (.int .i64 0), (.int .i64 0), (.int .i64 0), (.int .i64 0), (.int .i64 0), (.int .i64 0), .nils], none⟩,
     ⟨none, .store 18 (.tmp 5) (.tmp 34), none⟩])
  (.keep [1, 3, 4, 5] [3, 4, 5] (.seq (.region [⟨some 35, .move (.tmp 1), none⟩,
     ⟨some 36, .build [(.str []), (.str [])] [(0, 1, (.const (.str [107])))], none⟩,
     ⟨some 37, .build [(.int .i64 0), (.int .i64 0), (.int .i64 0), (.int .i64 0), (.int .i64 0), (.int .i64 0), (.str []), (.int .i64 0), (.int .i64 0), (.int .i64 0), (.str []), (.str []), (.str []), (.bool false), (.int .i64 0), (.int .i64 0), (.int .i64 0), (.int .i64 0), (.bool false), (.bool false), .nils, (.int .i64 0)] [(0, 1, (.const (.int .i64 2))), (10, 2, (.tmp 36))], none⟩,
     ⟨some 38, .call (.func 19) [(.tmp 35), (.tmp 37)], none⟩,
     ⟨some 6, .alloc true 18 [(.int .i64 0), (.int .i64 0), (.int .i64 0), .nils, (.bool false), (.int .i64 0), (.int .i64 0), (.str []), (.int .i64 0), (.int .i64 0), (.int .i64 0), (.int .i64 0), (.int .i64 0), (.int .i64 0), (.int .i64 0), (.int .i64 0), (.int .i64 0), .nils], none⟩,
     ⟨none, .store 18 (.tmp 6) (.tmp 38), none⟩])
  (.keep [1, 3, 4, 5, 6] [3, 4, 5, 6] (.seq (.region [⟨some 40, .move (.tmp 1), none⟩,
     ⟨some 41, .call (.func 20) [(.tmp 40)], none⟩,
     ⟨some 39, .move (.tmp 41), none⟩,
     ⟨some 42, .extract (.tmp 39) 0, none⟩,
     ⟨some 43, .extract (.tmp 39) 1, none⟩,
     ⟨some 7, .move (.tmp 42), none⟩,
     ⟨some 8, .move (.tmp 43), none⟩])
  (.keep [3, 4, 5, 6, 7, 8] [3, 4, 5, 6] (.seq (.region [⟨some 44, .fieldAddr 0 (.tmp 3), none⟩,
     ⟨some 45, .load false 1 (.tmp 44), none⟩,
     ⟨some 46, .bin .eql .int (.tmp 45) (.const (.int .i64 0)), none⟩,
     ⟨some 47, .move (.tmp 46), none⟩,
     ⟨some 48, .fieldAddr 0 (.tmp 4), some (47, true)⟩,
     ⟨some 49, .load false 1 (.tmp 48), some (47, true)⟩,
     ⟨some 50, .bin .eql .int (.tmp 49) (.const (.int .i64 0)), some (47, true)⟩,
     ⟨some 51, .pick (.tmp 47) (.tmp 50) (.const (.bool false)), none⟩,
     ⟨some 52, .move (.tmp 51), none⟩,
     ⟨some 53, .fieldAddr 1 (.tmp 4), some (52, true)⟩,
     ⟨some 54, .fieldAddr 0 (.tmp 53), some (52, true)⟩,
     ⟨some 55, .load false 1 (.tmp 54), some (52, true)⟩,
     ⟨some 56, .bin .eql .int (.tmp 55) (.const (.int .i64 3)), some (52, true)⟩,
     ⟨some 57, .pick (.tmp 52) (.tmp 56) (.const (.bool false)), none⟩,
     ⟨some 58, .move (.tmp 57), none⟩,
     ⟨some 59, .fieldAddr 0 (.tmp 5), some (58, true)⟩,
     ⟨some 60, .load false 1 (.tmp 59), some (58, true)⟩,
     ⟨some 61, .bin .eql .int (.tmp 60) (.const (.int .i64 81)), some (58, true)⟩,
     ⟨some 62, .pick (.tmp 58) (.tmp 61) (.const (.bool false)), none⟩,
     ⟨some 63, .move (.tmp 62), none⟩,
     ⟨some 64, .fieldAddr 5 (.tmp 5), some (63, true)⟩,
     ⟨some 65, .fieldAddr 0 (.tmp 64), some (63, true)⟩,
     ⟨some 66, .load false 1 (.tmp 65), some (63, true)⟩,
     ⟨some 67, .bin .eql .int (.tmp 66) (.const (.int .i64 5)), some (63, true)⟩,
     ⟨some 68, .pick (.tmp 63) (.tmp 67) (.const (.bool false)), none⟩,
     ⟨some 69, .move (.tmp 68), none⟩,
     ⟨some 70, .fieldAddr 0 (.tmp 6), some (69, true)⟩,
     ⟨some 71, .load false 1 (.tmp 70), some (69, true)⟩,
     ⟨some 72, .bin .eql .int (.tmp 71) (.const (.int .i64 141)), some (69, true)⟩,
     ⟨some 73, .pick (.tmp 69) (.tmp 72) (.const (.bool false)), none⟩,
     ⟨some 74, .move (.tmp 73), none⟩,
     ⟨some 75, .move (.tmp 7), some (74, true)⟩,
     ⟨some 76, .bin .eql .int (.tmp 75) (.const (.int .i64 1)), some (74, true)⟩,
     ⟨some 77, .pick (.tmp 74) (.tmp 76) (.const (.bool false)), none⟩,
     ⟨some 78, .move (.tmp 77), none⟩,
     ⟨some 79, .move (.tmp 8), some (78, true)⟩,
     ⟨some 80, .bin .eql .int (.tmp 79) (.const (.int .i64 2)), some (78, true)⟩,
     ⟨some 81, .pick (.tmp 78) (.tmp 80) (.const (.bool false)), none⟩,
     ⟨some 0, .move (.tmp 81), none⟩])
  (.keep [0] [] (.ret))))))))))))))))))⟩
/-- wampum/state.New -/
def F17 : FnIR := ⟨18, 1, [.tmp 2, .tmp 3], [1],
  .seq (.region [⟨some 1, .box true 2 (.tmp 0), none⟩,
     ⟨some 2, .move (.const .nilp), none⟩,
     ⟨some 3, .move (.const (.int .i64 0)), none⟩])
  (.keep [1] [1] (.seq (.seq (.region [⟨some 4, .load true 2 (.tmp 1), none⟩,
      ⟨some 5, .call (.func 65) [(.tmp 4)], none⟩,
      ⟨some 6, .un .not (.tmp 5), none⟩,
      ⟨some 7, .move (.tmp 6), none⟩,
      ⟨some 8, .fieldAddr 1 (.tmp 1), some (7, false)⟩,
      ⟨some 9, .load false 1 (.tmp 8), some (7, false)⟩,
      ⟨some 10, .bin .eql .str (.tmp 9) (.const (.str [])), some (7, false)⟩,
      ⟨some 11, .pick (.tmp 7) (.const (.bool true)) (.tmp 10), none⟩])
   (.keep [1, 11] [1] (.cond (.tmp 11)
    (.seq (.region [⟨some 2, .move (.const .nilp), none⟩,
       ⟨some 3, .move (.const (.int .i64 51)), none⟩])
    (.keep [2, 3] [] (.ret)))
    (.skip))))
  (.keep [1] [1] (.seq (.regionD [⟨some 13, .call (.func 39) [], none⟩,
     ⟨some 12, .load true 2 (.tmp 1), none⟩,
     ⟨some 14, .mkMap, none⟩,
     ⟨some 15, .mkMap, none⟩,
     ⟨some 16, .build [(.str []), (.str []), (.int .i64 0), (.int .i64 0), (.int .i64 0), (.int .i64 0), .nilp, .nilm, .nilm] [(0, 2, (.tmp 12)), (6, 1, (.tmp 13)), (7, 1, (.tmp 14)), (8, 1, (.tmp 15))], none⟩,
     ⟨some 17, .box false 9 (.tmp 16), none⟩,
     ⟨some 2, .move (.tmp 17), none⟩,
     ⟨some 3, .move (.const (.int .i64 0)), none⟩] [(1, 0)])
  (.keep [2, 3] [] (.ret))))))⟩
/-- wampum/span.Right -/
def F65 : FnIR := ⟨30, 1, [.tmp 2], [1],
  .seq (.region [⟨some 1, .box true 2 (.tmp 0), none⟩,
     ⟨some 2, .move (.const (.bool false)), none⟩])
  (.keep [1] [1] (.seq (.seq (.region [⟨some 3, .fieldAddr 0 (.tmp 1), none⟩,
      ⟨some 4, .load false 1 (.tmp 3), none⟩,
      ⟨some 5, .call (.func 47) [(.tmp 4)], none⟩,
      ⟨some 6, .un .not (.tmp 5), none⟩,
      ⟨some 7, .move (.tmp 6), none⟩,
      ⟨some 8, .fieldAddr 1 (.tmp 1), some (7, false)⟩,
      ⟨some 9, .load false 1 (.tmp 8), some (7, false)⟩,
      ⟨some 10, .bin .eql .str (.tmp 9) (.const (.str [])), some (7, false)⟩,
      ⟨some 11, .pick (.tmp 7) (.const (.bool true)) (.tmp 10), none⟩])
   (.keep [1, 11] [1] (.cond (.tmp 11)
    (.seq (.region [⟨some 12, .fieldAddr 0 (.tmp 1), none⟩,
       ⟨some 13, .load false 1 (.tmp 12), none⟩,
       ⟨some 14, .call (.func 47) [(.tmp 13)], none⟩,
       ⟨some 2, .move (.tmp 14), none⟩])
    (.keep [2] [] (.ret)))
    (.skip))))
  (.keep [1] [1] (.seq (.region [⟨some 15, .fieldAddr 1 (.tmp 1), none⟩,
     ⟨some 16, .load false 1 (.tmp 15), none⟩,
     ⟨some 17, .bin .eql .str (.tmp 16) (.const (.str [123])), none⟩,
     ⟨some 18, .move (.tmp 17), none⟩,
     ⟨some 19, .fieldAddr 1 (.tmp 1), some (18, false)⟩,
     ⟨some 20, .load false 1 (.tmp 19), some (18, false)⟩,
     ⟨some 21, .call (.func 47) [(.tmp 20)], some (18, false)⟩,
     ⟨some 22, .pick (.tmp 18) (.const (.bool true)) (.tmp 21), none⟩,
     ⟨some 23, .move (.tmp 22), none⟩,
     ⟨some 24, .fieldAddr 0 (.tmp 1), some (23, true)⟩,
     ⟨some 25, .load false 1 (.tmp 24), some (23, true)⟩,
     ⟨some 26, .fieldAddr 1 (.tmp 1), some (23, true)⟩,
     ⟨some 27, .load false 1 (.tmp 26), some (23, true)⟩,
     ⟨some 28, .bin .lss .none (.tmp 25) (.tmp 27), some (23, true)⟩,
     ⟨some 29, .pick (.tmp 23) (.tmp 28) (.const (.bool false)), none⟩,
     ⟨some 2, .move (.tmp 29), none⟩])
  (.keep [2] [] (.ret))))))⟩
/-- wampum/span.Key -/
def L47_0 : IC :=
  .keep [0, 5, 6] [] (.seq (.region [⟨some 7, .bin .lss .none (.tmp 6) (.tmp 5), none⟩])
  (.keep [0, 5, 6, 7] [] (.seq (.cond (.tmp 7)
    (.skip)
    (.exit 0))
  (.keep [0, 5, 6] [] (.seq (.block 1 (.seq (.region [⟨some 8, .move (.tmp 6), none⟩,
       ⟨some 3, .move (.tmp 8), none⟩])
    (.keep [0, 3, 5, 6] [] (.seq (.region [⟨some 9, .move (.tmp 0), none⟩,
       ⟨some 10, .move (.tmp 3), none⟩,
       ⟨some 11, .index none (.tmp 9) (.tmp 10), none⟩,
       ⟨some 12, .bin .lss .none (.tmp 11) (.const (.int .u8 97)), none⟩,
       ⟨some 13, .move (.tmp 12), none⟩,
       ⟨some 14, .move (.tmp 0), some (13, false)⟩,
       ⟨some 15, .move (.tmp 3), some (13, false)⟩,
       ⟨some 16, .index none (.tmp 14) (.tmp 15), some (13, false)⟩,
       ⟨some 17, .bin .gtr .none (.tmp 16) (.const (.int .u8 122)), some (13, false)⟩,
       ⟨some 18, .pick (.tmp 13) (.const (.bool true)) (.tmp 17), none⟩])
    (.keep [0, 5, 6, 18] [] (.cond (.tmp 18)
     (.seq (.region [⟨some 2, .move (.const (.bool false)), none⟩])
     (.keep [2] [] (.ret)))
     (.skip)))))))
  (.keep [0, 5, 6] [] (.region [⟨some 19, .bin .add .none (.tmp 6) (.const (.int .i64 1)), none⟩,
    ⟨some 6, .move (.tmp 19), none⟩])))))))
def F47 : FnIR := ⟨27, 1, [.tmp 2], [],
  .seq (.region [⟨some 2, .move (.const (.bool false)), none⟩])
  (.keep [0] [] (.seq (.seq (.region [⟨some 4, .move (.tmp 0), none⟩,
      ⟨some 5, .len .str (.tmp 4), none⟩,
      ⟨some 6, .move (.const (.int .i64 0)), none⟩])
   (.keep [0, 5, 6] [] (.block 0 (.loop L47_0))))
  (.keep [0] [] (.seq (.region [⟨some 20, .move (.tmp 0), none⟩,
     ⟨some 21, .bin .neq .str (.tmp 20) (.const (.str [])), none⟩,
     ⟨some 22, .move (.tmp 21), none⟩,
     ⟨some 23, .move (.tmp 0), some (22, true)⟩,
     ⟨some 24, .len .str (.tmp 23), some (22, true)⟩,
     ⟨some 25, .bin .leq .none (.tmp 24) (.const (.int .i64 8)), some (22, true)⟩,
     ⟨some 26, .pick (.tmp 22) (.tmp 25) (.const (.bool false)), none⟩,
     ⟨some 2, .move (.tmp 26), none⟩])
  (.keep [2] [] (.ret))))))⟩
/-- wampum/store.New -/
def F39 : FnIR := ⟨4, 0, [.tmp 0], [],
  .seq (.region [⟨some 0, .move (.const .nilp), none⟩])
  (.keep [] [] (.seq (.region [⟨some 1, .mkMap, none⟩,
     ⟨some 2, .build [.nilm] [(0, 1, (.tmp 1))], none⟩,
     ⟨some 3, .box false 1 (.tmp 2), none⟩,
     ⟨some 0, .move (.tmp 3), none⟩])
  (.keep [0] [] (.ret))))⟩
/-- (*wampum/state.State).Apply -/
def F19 : FnIR := ⟨71, 2, [.cell 4 true 18], [3, 4],
  .seq (.region [⟨some 3, .box true 22 (.tmp 1), none⟩,
     ⟨some 4, .alloc true 18 [(.int .i64 0), (.int .i64 0), (.int .i64 0), .nils, (.bool false), (.int .i64 0), (.int .i64 0), (.str []), (.int .i64 0), (.int .i64 0), (.int .i64 0), (.int .i64 0), (.int .i64 0), (.int .i64 0), (.int .i64 0), (.int .i64 0), (.int .i64 0), .nils], none⟩])
  (.keep [0, 3, 4] [3, 4] (.seq (.block 0 (.seq (.region [⟨some 6, .move (.tmp 0), none⟩,
       ⟨some 7, .bin .eql .ptr (.tmp 6) (.const .nilp), none⟩,
       ⟨some 5, .move (.tmp 7), none⟩])
    (.keep [0, 3, 4, 5] [3, 4] (.cond (.tmp 5)
     (.seq (.region [⟨some 8, .build [(.int .i64 0), (.int .i64 0), (.int .i64 0), .nils, (.bool false), (.int .i64 0), (.int .i64 0), (.str []), (.int .i64 0), (.int .i64 0), (.int .i64 0), (.int .i64 0), (.int .i64 0), (.int .i64 0), (.int .i64 0), (.int .i64 0), (.int .i64 0), .nils] [(0, 1, (.const (.int .i64 1)))], none⟩,
        ⟨none, .store 18 (.tmp 4) (.tmp 8), none⟩])
     (.keep [4] [4] (.ret)))
     (.seq (.region [⟨some 10, .load true 22 (.tmp 3), none⟩,
        ⟨some 11, .call (.func 66) [(.tmp 10)], none⟩,
        ⟨some 12, .un .not (.tmp 11), none⟩,
        ⟨some 9, .move (.tmp 12), none⟩])
     (.keep [0, 3, 4, 9] [3, 4] (.cond (.tmp 9)
      (.seq (.region [⟨some 13, .build [(.int .i64 0), (.int .i64 0), (.int .i64 0), .nils, (.bool false), (.int .i64 0), (.int .i64 0), (.str []), (.int .i64 0), (.int .i64 0), (.int .i64 0), (.int .i64 0), (.int .i64 0), (.int .i64 0), (.int .i64 0), (.int .i64 0), (.int .i64 0), .nils] [(0, 1, (.const (.int .i64 131)))], none⟩,
         ⟨none, .store 18 (.tmp 4) (.tmp 13), none⟩])
      (.keep [4] [4] (.ret)))
      (.seq (.region [⟨some 15, .fieldAddr 0 (.tmp 3), none⟩,
         ⟨some 16, .load false 1 (.tmp 15), none⟩,
         ⟨some 17, .bin .eql .int (.tmp 16) (.const (.int .i64 0)), none⟩,
         ⟨some 14, .move (.tmp 17), none⟩])
      (.keep [0, 3, 4, 14] [3, 4] (.cond (.tmp 14)
       (.seq (.region [⟨some 18, .build [(.int .i64 0), (.int .i64 0), (.int .i64 0), .nils, (.bool false), (.int .i64 0), (.int .i64 0), (.str []), (.int .i64 0), (.int .i64 0), (.int .i64 0), (.int .i64 0), (.int .i64 0), (.int .i64 0), (.int .i64 0), (.int .i64 0), (.int .i64 0), .nils] [], none⟩,
          ⟨none, .store 18 (.tmp 4) (.tmp 18), none⟩])
       (.keep [4] [4] (.ret)))
       (.seq (.regionD [⟨some 20, .fieldAddr 0 (.tmp 3), none⟩,
          ⟨some 21, .load false 1 (.tmp 20), none⟩,
          ⟨some 22, .bin .eql .int (.tmp 21) (.const (.int .i64 1)), none⟩,
          ⟨some 23, .move (.tmp 22), none⟩,
          ⟨some 24, .fieldAddr 2 (.tmp 3), some (23, true)⟩,
          ⟨some 25, .load false 1 (.tmp 24), some (23, true)⟩,
          ⟨some 26, .move (.tmp 0), some (23, true)⟩,
          ⟨some 27, .nilCheck (.tmp 26), some (23, true)⟩,
          ⟨some 28, .fieldAddr 2 (.tmp 27), some (23, true)⟩,
          ⟨some 29, .load false 1 (.tmp 28), some (23, true)⟩,
          ⟨some 30, .bin .add .none (.tmp 29) (.const (.int .i64 1)), some (23, true)⟩,
          ⟨some 31, .bin .eql .int (.tmp 25) (.tmp 30), some (23, true)⟩,
          ⟨some 32, .pick (.tmp 23) (.tmp 31) (.const (.bool false)), none⟩,
          ⟨some 19, .move (.tmp 32), none⟩] [])
       (.keep [0, 3, 4, 19] [3, 4] (.cond (.tmp 19)
        (.seq (.regionD [⟨some 33, .move (.tmp 0), none⟩,
           ⟨some 35, .fieldAddr 2 (.tmp 3), none⟩,
           ⟨some 36, .load false 1 (.tmp 35), none⟩,
           ⟨some 39, .nilCheck (.tmp 33), none⟩,
           ⟨some 40, .fieldAddr 2 (.tmp 39), none⟩,
           ⟨none, .store 1 (.tmp 40) (.tmp 36), none⟩,
           ⟨some 34, .move (.tmp 0), none⟩,
           ⟨some 37, .fieldAddr 3 (.tmp 3), none⟩,
           ⟨some 38, .load false 1 (.tmp 37), none⟩,
           ⟨some 41, .nilCheck (.tmp 34), none⟩,
           ⟨some 42, .fieldAddr 3 (.tmp 41), none⟩,
           ⟨none, .store 1 (.tmp 42) (.tmp 38), none⟩] [(8, 0)])
        (.keep [4] [4] (.seq (.region [⟨some 43, .build [(.int .i64 0), (.int .i64 0), (.int .i64 0), .nils, (.bool false), (.int .i64 0), (.int .i64 0), (.str []), (.int .i64 0), (.int .i64 0), (.int .i64 0), (.int .i64 0), (.int .i64 0), (.int .i64 0), (.int .i64 0), (.int .i64 0), (.int .i64 0), .nils] [], none⟩,
           ⟨none, .store 18 (.tmp 4) (.tmp 43), none⟩])
        (.keep [4] [4] (.ret)))))
        (.seq (.regionD [⟨some 45, .fieldAddr 0 (.tmp 3), none⟩,
           ⟨some 46, .load false 1 (.tmp 45), none⟩,
           ⟨some 47, .bin .eql .int (.tmp 46) (.const (.int .i64 1)), none⟩,
           ⟨some 48, .move (.tmp 47), none⟩,
           ⟨some 49, .fieldAddr 2 (.tmp 3), some (48, false)⟩,
           ⟨some 50, .load false 1 (.tmp 49), some (48, false)⟩,
           ⟨some 51, .move (.tmp 0), some (48, false)⟩,
           ⟨some 52, .nilCheck (.tmp 51), some (48, false)⟩,
           ⟨some 53, .fieldAddr 2 (.tmp 52), some (48, false)⟩,
           ⟨some 54, .load false 1 (.tmp 53), some (48, false)⟩,
           ⟨some 55, .bin .neq .int (.tmp 50) (.tmp 54), some (48, false)⟩,
           ⟨some 56, .pick (.tmp 48) (.const (.bool true)) (.tmp 55), none⟩,
           ⟨some 44, .move (.tmp 56), none⟩] [])
        (.keep [0, 3, 4, 44] [3, 4] (.cond (.tmp 44)
         (.seq (.region [⟨some 57, .build [(.int .i64 0), (.int .i64 0), (.int .i64 0), .nils, (.bool false), (.int .i64 0), (.int .i64 0), (.str []), (.int .i64 0), (.int .i64 0), (.int .i64 0), (.int .i64 0), (.int .i64 0), (.int .i64 0), (.int .i64 0), (.int .i64 0), (.int .i64 0), .nils] [(0, 1, (.const (.int .i64 141)))], none⟩,
            ⟨none, .store 18 (.tmp 4) (.tmp 57), none⟩])
         (.keep [4] [4] (.ret)))
         (.seq (.region [⟨some 59, .move (.tmp 0), none⟩,
            ⟨some 60, .load true 22 (.tmp 3), none⟩,
            ⟨some 61, .call (.func 67) [(.tmp 59), (.tmp 60)], none⟩,
            ⟨some 62, .un .not (.tmp 61), none⟩,
            ⟨some 58, .move (.tmp 62), none⟩])
         (.keep [0, 3, 4, 58] [3, 4] (.cond (.tmp 58)
          (.seq (.region [⟨some 63, .build [(.int .i64 0), (.int .i64 0), (.int .i64 0), .nils, (.bool false), (.int .i64 0), (.int .i64 0), (.str []), (.int .i64 0), (.int .i64 0), (.int .i64 0), (.int .i64 0), (.int .i64 0), (.int .i64 0), (.int .i64 0), (.int .i64 0), (.int .i64 0), .nils] [(0, 1, (.const (.int .i64 142)))], none⟩,
             ⟨none, .store 18 (.tmp 4) (.tmp 63), none⟩])
          (.keep [4] [4] (.ret)))
          (.skip))))))))))))))))))))
  (.keep [0, 3, 4] [3, 4] (.seq (.regionD [⟨some 64, .call (.func 68) [], none⟩,
     ⟨some 65, .fieldAddr 0 (.tmp 3), none⟩,
     ⟨some 66, .load false 1 (.tmp 65), none⟩,
     ⟨some 67, .lookup (.int .i64) false .nilFunc (.tmp 64) (.tmp 66), none⟩,
     ⟨some 68, .move (.tmp 0), none⟩,
     ⟨some 69, .load true 22 (.tmp 3), none⟩,
     ⟨some 70, .call (.tmp 67) [(.tmp 68), (.tmp 69)], none⟩,
     ⟨none, .store 18 (.tmp 4) (.tmp 70), none⟩] [(2, 0), (5, 0)])
  (.keep [4] [4] (.ret))))))⟩
/-- wampum/command.Right -/
def F66 : FnIR := ⟨60, 1, [.tmp 2], [1, 3],
  .seq (.region [⟨some 1, .box true 22 (.tmp 0), none⟩,
     ⟨some 2, .move (.const (.bool false)), none⟩])
  (.keep [1] [1] (.seq (.regionD [⟨some 6, .call (.func 122) [], none⟩,
     ⟨some 7, .fieldAddr 0 (.tmp 1), none⟩,
     ⟨some 8, .load false 1 (.tmp 7), none⟩,
     ⟨some 9, .lookup (.int .i64) true (.agg [(.bool false), (.bool false), (.bool false), (.bool false)]) (.tmp 6) (.tmp 8), none⟩,
     ⟨some 5, .move (.tmp 9), none⟩,
     ⟨some 10, .extract (.tmp 5) 0, none⟩,
     ⟨some 3, .alloc true 4 [(.bool false), (.bool false), (.bool false), (.bool false)], none⟩,
     ⟨none, .store 4 (.tmp 3) (.tmp 10), none⟩,
     ⟨some 11, .extract (.tmp 5) 1, none⟩,
     ⟨some 4, .move (.tmp 11), none⟩] [(2, 0)])
  (.keep [1, 3, 4] [1, 3] (.seq (.block 0 (.seq (.region [⟨some 13, .move (.tmp 4), none⟩,
       ⟨some 14, .un .not (.tmp 13), none⟩,
       ⟨some 15, .move (.tmp 14), none⟩,
       ⟨some 16, .load true 22 (.tmp 1), some (15, false)⟩,
       ⟨some 17, .call (.func 123) [(.tmp 16)], some (15, false)⟩,
       ⟨some 18, .un .not (.tmp 17), some (15, false)⟩,
       ⟨some 19, .pick (.tmp 15) (.const (.bool true)) (.tmp 18), none⟩,
       ⟨some 12, .move (.tmp 19), none⟩])
    (.keep [1, 3, 12] [1, 3] (.cond (.tmp 12)
     (.seq (.region [⟨some 2, .move (.const (.bool false)), none⟩])
     (.keep [2] [] (.ret)))
     (.seq (.seq (.region [⟨some 21, .fieldAddr 0 (.tmp 3), none⟩,
         ⟨some 22, .load false 1 (.tmp 21), none⟩,
         ⟨some 23, .move (.tmp 22), none⟩,
         ⟨some 24, .fieldAddr 10 (.tmp 1), some (23, true)⟩,
         ⟨some 25, .fieldAddr 0 (.tmp 24), some (23, true)⟩,
         ⟨some 26, .load false 1 (.tmp 25), some (23, true)⟩,
         ⟨some 27, .bin .eql .str (.tmp 26) (.const (.str [])), some (23, true)⟩,
         ⟨some 28, .pick (.tmp 23) (.tmp 27) (.const (.bool false)), none⟩,
         ⟨some 20, .move (.tmp 28), none⟩])
      (.keep [1, 3, 20] [1, 3] (.cond (.tmp 20)
       (.skip)
       (.seq (.region [⟨some 29, .fieldAddr 1 (.tmp 3), none⟩,
          ⟨some 30, .load false 1 (.tmp 29), none⟩,
          ⟨some 31, .move (.tmp 30), none⟩,
          ⟨some 32, .fieldAddr 10 (.tmp 1), some (31, true)⟩,
          ⟨some 33, .fieldAddr 1 (.tmp 32), some (31, true)⟩,
          ⟨some 34, .load false 1 (.tmp 33), some (31, true)⟩,
          ⟨some 35, .bin .neq .str (.tmp 34) (.const (.str [])), some (31, true)⟩,
          ⟨some 36, .pick (.tmp 31) (.tmp 35) (.const (.bool false)), none⟩,
          ⟨some 20, .move (.tmp 36), none⟩])
       (.keep [1, 3, 20] [1, 3] (.cond (.tmp 20)
        (.skip)
        (.region [⟨some 37, .fieldAddr 2 (.tmp 3), none⟩,
          ⟨some 38, .load false 1 (.tmp 37), none⟩,
          ⟨some 39, .move (.tmp 38), none⟩,
          ⟨some 40, .fieldAddr 4 (.tmp 1), some (39, true)⟩,
          ⟨some 41, .fieldAddr 2 (.tmp 40), some (39, true)⟩,
          ⟨some 42, .load false 1 (.tmp 41), some (39, true)⟩,
          ⟨some 43, .bin .eql .str (.tmp 42) (.const (.str [])), some (39, true)⟩,
          ⟨some 44, .pick (.tmp 39) (.tmp 43) (.const (.bool false)), none⟩,
          ⟨some 20, .move (.tmp 44), none⟩])))))))
     (.keep [1, 3, 20] [1, 3] (.cond (.tmp 20)
      (.seq (.region [⟨some 2, .move (.const (.bool false)), none⟩])
      (.keep [2] [] (.ret)))
      (.seq (.region [⟨some 46, .fieldAddr 3 (.tmp 3), none⟩,
         ⟨some 47, .load false 1 (.tmp 46), none⟩,
         ⟨some 48, .move (.tmp 47), none⟩,
         ⟨some 49, .fieldAddr 20 (.tmp 1), some (48, true)⟩,
         ⟨some 50, .load false 1 (.tmp 49), some (48, true)⟩,
         ⟨some 51, .len .slice (.tmp 50), some (48, true)⟩,
         ⟨some 52, .bin .eql .int (.tmp 51) (.const (.int .i64 0)), some (48, true)⟩,
         ⟨some 53, .move (.tmp 52), some (48, true)⟩,
         ⟨some 54, .fieldAddr 20 (.tmp 1), some (53, false)⟩,
         ⟨some 55, .load false 1 (.tmp 54), some (53, false)⟩,
         ⟨some 56, .call (.func 124) [(.tmp 55)], some (53, false)⟩,
         ⟨some 57, .un .not (.tmp 56), some (53, false)⟩,
         ⟨some 58, .pick (.tmp 53) (.const (.bool true)) (.tmp 57), some (48, true)⟩,
         ⟨some 59, .pick (.tmp 48) (.tmp 58) (.const (.bool false)), none⟩,
         ⟨some 45, .move (.tmp 59), none⟩])
      (.keep [45] [] (.cond (.tmp 45)
       (.seq (.region [⟨some 2, .move (.const (.bool false)), none⟩])
       (.keep [2] [] (.ret)))
       (.skip)))))))))))
  (.keep [] [] (.seq (.region [⟨some 2, .move (.const (.bool true)), none⟩])
  (.keep [2] [] (.ret))))))))⟩
/-- wampum/command.kinds -/
def F122 : FnIR := ⟨14, 0, [.tmp 0], [],
  .seq (.region [⟨some 0, .move (.const .nilm), none⟩])
  (.keep [] [] (.seq (.region [⟨some 1, .mkMap, none⟩,
     ⟨some 2, .build [(.bool false), (.bool false), (.bool false), (.bool false)] [], none⟩,
     ⟨none, .mapUpdate (.int .i64) (.tmp 1) (.const (.int .i64 0)) (.tmp 2), none⟩,
     ⟨some 3, .build [(.bool false), (.bool false), (.bool false), (.bool false)] [], none⟩,
     ⟨none, .mapUpdate (.int .i64) (.tmp 1) (.const (.int .i64 1)) (.tmp 3), none⟩,
     ⟨some 4, .build [(.bool false), (.bool false), (.bool false), (.bool false)] [(0, 1, (.const (.bool true)))], none⟩,
     ⟨none, .mapUpdate (.int .i64) (.tmp 1) (.const (.int .i64 2)) (.tmp 4), none⟩,
     ⟨some 5, .build [(.bool false), (.bool false), (.bool false), (.bool false)] [(0, 1, (.const (.bool true)))], none⟩,
     ⟨none, .mapUpdate (.int .i64) (.tmp 1) (.const (.int .i64 10)) (.tmp 5), none⟩,
     ⟨some 6, .build [(.bool false), (.bool false), (.bool false), (.bool false)] [(0, 1, (.const (.bool true)))], none⟩,
     ⟨none, .mapUpdate (.int .i64) (.tmp 1) (.const (.int .i64 4)) (.tmp 6), none⟩,
     ⟨some 7, .build [(.bool false), (.bool false), (.bool false), (.bool false)] [(0, 1, (.const (.bool true))), (1, 1, (.const (.bool true))), (2, 1, (.const (.bool true)))], none⟩,
     ⟨none, .mapUpdate (.int .i64) (.tmp 1) (.const (.int .i64 3)) (.tmp 7), none⟩,
     ⟨some 8, .build [(.bool false), (.bool false), (.bool false), (.bool false)] [(0, 1, (.const (.bool true))), (1, 1, (.const (.bool true))), (2, 1, (.const (.bool true)))], none⟩,
     ⟨none, .mapUpdate (.int .i64) (.tmp 1) (.const (.int .i64 9)) (.tmp 8), none⟩,
     ⟨some 9, .build [(.bool false), (.bool false), (.bool false), (.bool false)] [(2, 1, (.const (.bool true)))], none⟩,
     ⟨none, .mapUpdate (.int .i64) (.tmp 1) (.const (.int .i64 5)) (.tmp 9), none⟩,
     ⟨some 10, .build [(.bool false), (.bool false), (.bool false), (.bool false)] [(2, 1, (.const (.bool true)))], none⟩,
     ⟨none, .mapUpdate (.int .i64) (.tmp 1) (.const (.int .i64 7)) (.tmp 10), none⟩,
     ⟨some 11, .build [(.bool false), (.bool false), (.bool false), (.bool false)] [(2, 1, (.const (.bool true)))], none⟩,
     ⟨none, .mapUpdate (.int .i64) (.tmp 1) (.const (.int .i64 8)) (.tmp 11), none⟩,
     ⟨some 12, .build [(.bool false), (.bool false), (.bool false), (.bool false)] [(2, 1, (.const (.bool true))), (3, 1, (.const (.bool true)))], none⟩,
     ⟨none, .mapUpdate (.int .i64) (.tmp 1) (.const (.int .i64 6)) (.tmp 12), none⟩,
     ⟨some 13, .move (.tmp 1), none⟩,
     ⟨some 0, .move (.tmp 13), none⟩])
  (.keep [0] [] (.ret))))⟩
/-- wampum/command.fields -/
def L123_0 : IC :=
  .keep [1, 25, 26, 27] [1] (.seq (.region [⟨some 28, .bin .lss .none (.tmp 27) (.tmp 26), none⟩])
  (.keep [1, 25, 26, 27, 28] [1] (.seq (.cond (.tmp 28)
    (.skip)
    (.exit 0))
  (.keep [1, 25, 26, 27] [1] (.seq (.block 1 (.seq (.region [⟨some 29, .indexAddr none 1 (.tmp 25) (.tmp 27), none⟩,
       ⟨some 30, .load false 1 (.tmp 29), none⟩,
       ⟨some 4, .move (.tmp 30), none⟩])
    (.keep [1, 4, 25, 26, 27] [1] (.seq (.region [⟨some 31, .move (.tmp 4), none⟩,
       ⟨some 32, .call (.func 191) [(.tmp 31)], none⟩,
       ⟨some 33, .un .not (.tmp 32), none⟩])
    (.keep [1, 25, 26, 27, 33] [1] (.cond (.tmp 33)
     (.seq (.region [⟨some 2, .move (.const (.bool false)), none⟩])
     (.keep [2] [] (.ret)))
     (.skip)))))))
  (.keep [1, 25, 26, 27] [1] (.region [⟨some 34, .bin .add .none (.tmp 27) (.const (.int .i64 1)), none⟩,
    ⟨some 27, .move (.tmp 34), none⟩])))))))
def L123_1 : IC :=
  .keep [1, 42, 43, 44] [1] (.seq (.region [⟨some 45, .bin .lss .none (.tmp 44) (.tmp 43), none⟩])
  (.keep [1, 42, 43, 44, 45] [1] (.seq (.cond (.tmp 45)
    (.skip)
    (.exit 2))
  (.keep [1, 42, 43, 44] [1] (.seq (.block 3 (.seq (.region [⟨some 46, .indexAddr none 2 (.tmp 42) (.tmp 44), none⟩,
       ⟨some 47, .load true 2 (.tmp 46), none⟩,
       ⟨some 6, .alloc true 2 [(.int .i64 0), (.int .i64 0)], none⟩,
       ⟨none, .store 2 (.tmp 6) (.tmp 47), none⟩])
    (.keep [1, 6, 42, 43, 44] [1, 6] (.seq (.region [⟨some 48, .load true 2 (.tmp 6), none⟩,
       ⟨some 49, .call (.func 184) [(.tmp 48)], none⟩,
       ⟨some 50, .un .not (.tmp 49), none⟩])
    (.keep [1, 42, 43, 44, 50] [1] (.cond (.tmp 50)
     (.seq (.region [⟨some 2, .move (.const (.bool false)), none⟩])
     (.keep [2] [] (.ret)))
     (.skip)))))))
  (.keep [1, 42, 43, 44] [1] (.region [⟨some 51, .bin .add .none (.tmp 44) (.const (.int .i64 1)), none⟩,
    ⟨some 44, .move (.tmp 51), none⟩])))))))
def L123_2 : IC :=
  .keep [1, 53, 54, 55] [1] (.seq (.region [⟨some 56, .bin .lss .none (.tmp 55) (.tmp 54), none⟩])
  (.keep [1, 53, 54, 55, 56] [1] (.seq (.cond (.tmp 56)
    (.skip)
    (.exit 4))
  (.keep [1, 53, 54, 55] [1] (.seq (.block 5 (.seq (.region [⟨some 57, .indexAddr none 2 (.tmp 53) (.tmp 55), none⟩,
       ⟨some 58, .load true 2 (.tmp 57), none⟩,
       ⟨some 8, .alloc true 2 [(.str []), (.int .i64 0)], none⟩,
       ⟨none, .store 2 (.tmp 8) (.tmp 58), none⟩])
    (.keep [1, 8, 53, 54, 55] [1, 8] (.seq (.region [⟨some 59, .fieldAddr 0 (.tmp 8), none⟩,
       ⟨some 60, .load false 1 (.tmp 59), none⟩,
       ⟨some 61, .call (.func 47) [(.tmp 60)], none⟩,
       ⟨some 62, .un .not (.tmp 61), none⟩,
       ⟨some 63, .move (.tmp 62), none⟩,
       ⟨some 64, .fieldAddr 1 (.tmp 8), some (63, false)⟩,
       ⟨some 65, .load false 1 (.tmp 64), some (63, false)⟩,
       ⟨some 66, .call (.func 191) [(.tmp 65)], some (63, false)⟩,
       ⟨some 67, .un .not (.tmp 66), some (63, false)⟩,
       ⟨some 68, .pick (.tmp 63) (.const (.bool true)) (.tmp 67), none⟩])
    (.keep [1, 53, 54, 55, 68] [1] (.cond (.tmp 68)
     (.seq (.region [⟨some 2, .move (.const (.bool false)), none⟩])
     (.keep [2] [] (.ret)))
     (.skip)))))))
  (.keep [1, 53, 54, 55] [1] (.region [⟨some 69, .bin .add .none (.tmp 55) (.const (.int .i64 1)), none⟩,
    ⟨some 55, .move (.tmp 69), none⟩])))))))
def F123 : FnIR := ⟨116, 1, [.tmp 2], [1, 6, 8],
  .seq (.region [⟨some 1, .box true 22 (.tmp 0), none⟩,
     ⟨some 2, .move (.const (.bool false)), none⟩])
  (.keep [1] [1] (.seq (.seq (.region [⟨some 11, .fieldAddr 1 (.tmp 1), none⟩,
      ⟨some 12, .load false 1 (.tmp 11), none⟩,
      ⟨some 13, .fieldAddr 2 (.tmp 1), none⟩,
      ⟨some 14, .load false 1 (.tmp 13), none⟩,
      ⟨some 15, .fieldAddr 9 (.tmp 1), none⟩,
      ⟨some 16, .load false 1 (.tmp 15), none⟩,
      ⟨some 17, .fieldAddr 21 (.tmp 1), none⟩,
      ⟨some 18, .load false 1 (.tmp 17), none⟩,
      ⟨some 19, .fieldAddr 4 (.tmp 1), none⟩,
      ⟨some 20, .fieldAddr 0 (.tmp 19), none⟩,
      ⟨some 21, .load false 1 (.tmp 20), none⟩,
      ⟨some 22, .fieldAddr 4 (.tmp 1), none⟩,
      ⟨some 23, .fieldAddr 1 (.tmp 22), none⟩,
      ⟨some 24, .load false 1 (.tmp 23), none⟩,
      ⟨some 25, .buildSlice 1 6 [(.int .i64 0), (.int .i64 0), (.int .i64 0), (.int .i64 0), (.int .i64 0), (.int .i64 0)] [(0, 1, (.tmp 12)), (1, 1, (.tmp 14)), (2, 1, (.tmp 16)), (3, 1, (.tmp 18)), (4, 1, (.tmp 21)), (5, 1, (.tmp 24))], none⟩,
      ⟨some 26, .len .slice (.tmp 25), none⟩,
      ⟨some 27, .move (.const (.int .i64 0)), none⟩])
   (.keep [1, 25, 26, 27] [1] (.block 0 (.loop L123_0))))
  (.keep [1] [1] (.seq (.seq (.region [⟨some 35, .fieldAddr 4 (.tmp 1), none⟩,
      ⟨some 36, .fieldAddr 3 (.tmp 35), none⟩,
      ⟨some 37, .load true 2 (.tmp 36), none⟩,
      ⟨some 38, .fieldAddr 14 (.tmp 1), none⟩,
      ⟨some 39, .load true 2 (.tmp 38), none⟩,
      ⟨some 40, .fieldAddr 16 (.tmp 1), none⟩,
      ⟨some 41, .load true 2 (.tmp 40), none⟩,
      ⟨some 42, .buildSlice 2 3 [(.int .i64 0), (.int .i64 0), (.int .i64 0), (.int .i64 0), (.int .i64 0), (.int .i64 0)] [(0, 2, (.tmp 37)), (2, 2, (.tmp 39)), (4, 2, (.tmp 41))], none⟩,
      ⟨some 43, .len .slice (.tmp 42), none⟩,
      ⟨some 44, .move (.const (.int .i64 0)), none⟩])
   (.keep [1, 42, 43, 44] [1] (.block 2 (.loop L123_1))))
  (.keep [1] [1] (.seq (.seq (.region [⟨some 52, .fieldAddr 20 (.tmp 1), none⟩,
      ⟨some 53, .load false 1 (.tmp 52), none⟩,
      ⟨some 54, .len .slice (.tmp 53), none⟩,
      ⟨some 55, .move (.const (.int .i64 0)), none⟩])
   (.keep [1, 53, 54, 55] [1] (.block 4 (.loop L123_2))))
  (.keep [1] [1] (.seq (.region [⟨some 70, .fieldAddr 4 (.tmp 1), none⟩,
     ⟨some 71, .fieldAddr 2 (.tmp 70), none⟩,
     ⟨some 72, .load false 1 (.tmp 71), none⟩,
     ⟨some 73, .bin .eql .str (.tmp 72) (.const (.str [])), none⟩,
     ⟨some 74, .move (.tmp 73), none⟩,
     ⟨some 75, .fieldAddr 4 (.tmp 1), some (74, false)⟩,
     ⟨some 76, .fieldAddr 2 (.tmp 75), some (74, false)⟩,
     ⟨some 77, .load false 1 (.tmp 76), some (74, false)⟩,
     ⟨some 78, .call (.func 47) [(.tmp 77)], some (74, false)⟩,
     ⟨some 79, .pick (.tmp 74) (.const (.bool true)) (.tmp 78), none⟩,
     ⟨some 9, .move (.tmp 79), none⟩])
  (.keep [1, 9] [1] (.seq (.region [⟨some 80, .fieldAddr 10 (.tmp 1), none⟩,
     ⟨some 81, .load true 2 (.tmp 80), none⟩,
     ⟨some 82, .build [(.str []), (.str [])] [], none⟩,
     ⟨some 83, .bin .eql (.struct [(0, false, 1, .str), (1, false, 1, .str)]) (.tmp 81) (.tmp 82), none⟩,
     ⟨some 84, .move (.tmp 83), none⟩,
     ⟨some 85, .fieldAddr 10 (.tmp 1), some (84, false)⟩,
     ⟨some 86, .load true 2 (.tmp 85), some (84, false)⟩,
     ⟨some 87, .call (.func 65) [(.tmp 86)], some (84, false)⟩,
     ⟨some 88, .pick (.tmp 84) (.const (.bool true)) (.tmp 87), none⟩,
     ⟨some 10, .move (.tmp 88), none⟩])
  (.keep [1, 9, 10] [1] (.seq (.region [⟨some 89, .move (.tmp 9), none⟩,
     ⟨some 90, .move (.tmp 89), none⟩,
     ⟨some 91, .move (.tmp 10), some (90, true)⟩,
     ⟨some 92, .pick (.tmp 90) (.tmp 91) (.const (.bool false)), none⟩,
     ⟨some 93, .move (.tmp 92), none⟩,
     ⟨some 94, .fieldAddr 12 (.tmp 1), some (93, true)⟩,
     ⟨some 95, .load false 1 (.tmp 94), some (93, true)⟩,
     ⟨some 96, .fieldAddr 13 (.tmp 1), some (93, true)⟩,
     ⟨some 97, .load false 1 (.tmp 96), some (93, true)⟩,
     ⟨some 98, .call (.func 192) [(.tmp 95), (.tmp 97)], some (93, true)⟩,
     ⟨some 99, .pick (.tmp 93) (.tmp 98) (.const (.bool false)), none⟩,
     ⟨some 100, .move (.tmp 99), none⟩,
     ⟨some 101, .fieldAddr 3 (.tmp 1), some (100, true)⟩,
     ⟨some 102, .load false 1 (.tmp 101), some (100, true)⟩,
     ⟨some 103, .bin .geq .none (.tmp 102) (.const (.int .i64 0)), some (100, true)⟩,
     ⟨some 104, .pick (.tmp 100) (.tmp 103) (.const (.bool false)), none⟩,
     ⟨some 105, .move (.tmp 104), none⟩,
     ⟨some 106, .fieldAddr 3 (.tmp 1), some (105, true)⟩,
     ⟨some 107, .load false 1 (.tmp 106), some (105, true)⟩,
     ⟨some 108, .bin .lss .none (.tmp 107) (.const (.int .i64 3)), some (105, true)⟩,
     ⟨some 109, .pick (.tmp 105) (.tmp 108) (.const (.bool false)), none⟩,
     ⟨some 110, .move (.tmp 109), none⟩,
     ⟨some 111, .fieldAddr 20 (.tmp 1), some (110, true)⟩,
     ⟨some 112, .load false 1 (.tmp 111), some (110, true)⟩,
     ⟨some 113, .len .slice (.tmp 112), some (110, true)⟩,
     ⟨some 114, .bin .leq .none (.tmp 113) (.const (.int .i64 8)), some (110, true)⟩,
     ⟨some 115, .pick (.tmp 110) (.tmp 114) (.const (.bool false)), none⟩,
     ⟨some 2, .move (.tmp 115), none⟩])
  (.keep [2] [] (.ret))))))))))))))⟩
/-- wampum/command.number -/
def F191 : FnIR := ⟨9, 1, [.tmp 2], [],
  .seq (.region [⟨some 2, .move (.const (.bool false)), none⟩])
  (.keep [0] [] (.seq (.region [⟨some 3, .move (.tmp 0), none⟩,
     ⟨some 4, .bin .geq .none (.tmp 3) (.const (.int .i64 0)), none⟩,
     ⟨some 5, .move (.tmp 4), none⟩,
     ⟨some 6, .move (.tmp 0), some (5, true)⟩,
     ⟨some 7, .bin .leq .none (.tmp 6) (.const (.int .i64 1099511627776)), some (5, true)⟩,
     ⟨some 8, .pick (.tmp 5) (.tmp 7) (.const (.bool false)), none⟩,
     ⟨some 2, .move (.tmp 8), none⟩])
  (.keep [2] [] (.ret))))⟩
/-- wampum/stamp.Right -/
def F184 : FnIR := ⟨11, 1, [.tmp 2], [1],
  .seq (.region [⟨some 1, .box true 2 (.tmp 0), none⟩,
     ⟨some 2, .move (.const (.bool false)), none⟩])
  (.keep [1] [1] (.seq (.region [⟨some 3, .fieldAddr 0 (.tmp 1), none⟩,
     ⟨some 4, .load false 1 (.tmp 3), none⟩,
     ⟨some 5, .call (.func 227) [(.tmp 4), (.const (.int .i64 0)), (.const (.int .i64 1099511627776))], none⟩,
     ⟨some 6, .move (.tmp 5), none⟩,
     ⟨some 7, .fieldAddr 1 (.tmp 1), some (6, true)⟩,
     ⟨some 8, .load false 1 (.tmp 7), some (6, true)⟩,
     ⟨some 9, .call (.func 227) [(.tmp 8), (.const (.int .i64 0)), (.const (.int .i64 65535))], some (6, true)⟩,
     ⟨some 10, .pick (.tmp 6) (.tmp 9) (.const (.bool false)), none⟩,
     ⟨some 2, .move (.tmp 10), none⟩])
  (.keep [2] [] (.ret))))⟩
/-- wampum/stamp.within[int] -/
def F227 : FnIR := ⟨15, 3, [.tmp 6], [],
  .seq (.region [⟨some 6, .move (.const (.bool false)), none⟩])
  (.keep [0, 1, 2] [] (.seq (.region [⟨some 7, .move (.tmp 0), none⟩,
     ⟨some 8, .move (.tmp 1), none⟩,
     ⟨some 9, .bin .geq .none (.tmp 7) (.tmp 8), none⟩,
     ⟨some 10, .move (.tmp 9), none⟩,
     ⟨some 11, .move (.tmp 0), some (10, true)⟩,
     ⟨some 12, .move (.tmp 2), some (10, true)⟩,
     ⟨some 13, .bin .leq .none (.tmp 11) (.tmp 12), some (10, true)⟩,
     ⟨some 14, .pick (.tmp 10) (.tmp 13) (.const (.bool false)), none⟩,
     ⟨some 6, .move (.tmp 14), none⟩])
  (.keep [6] [] (.ret))))⟩
/-- wampum/command.valued -/
def F192 : FnIR := ⟨23, 2, [.tmp 4], [],
  .seq (.region [⟨some 4, .move (.const (.bool false)), none⟩])
  (.keep [0, 1] [] (.seq (.region [⟨some 6, .move (.tmp 0), none⟩,
     ⟨some 7, .call (.func 173) [(.tmp 6), (.func 228)], none⟩,
     ⟨some 5, .move (.tmp 7), none⟩])
  (.keep [0, 1, 5] [] (.seq (.region [⟨some 8, .move (.tmp 5), none⟩,
     ⟨some 9, .un .not (.tmp 8), none⟩,
     ⟨some 10, .move (.tmp 9), none⟩,
     ⟨some 11, .move (.tmp 0), some (10, true)⟩,
     ⟨some 12, .len .str (.tmp 11), some (10, true)⟩,
     ⟨some 13, .bin .leq .none (.tmp 12) (.const (.int .i64 16)), some (10, true)⟩,
     ⟨some 14, .pick (.tmp 10) (.tmp 13) (.const (.bool false)), none⟩,
     ⟨some 15, .move (.tmp 14), none⟩,
     ⟨some 16, .move (.tmp 1), some (15, true)⟩,
     ⟨some 17, .un .not (.tmp 16), some (15, true)⟩,
     ⟨some 18, .move (.tmp 17), some (15, true)⟩,
     ⟨some 19, .move (.tmp 0), some (18, false)⟩,
     ⟨some 20, .bin .eql .str (.tmp 19) (.const (.str [])), some (18, false)⟩,
     ⟨some 21, .pick (.tmp 18) (.const (.bool true)) (.tmp 20), some (15, true)⟩,
     ⟨some 22, .pick (.tmp 15) (.tmp 21) (.const (.bool false)), none⟩,
     ⟨some 4, .move (.tmp 22), none⟩])
  (.keep [4] [] (.ret))))))⟩
/-- strings.ContainsFunc -/
def F173 : FnIR := ⟨9, 2, [.tmp 4], [],
  .seq (.region [⟨some 4, .move (.const (.bool false)), none⟩])
  (.keep [0, 1] [] (.seq (.region [⟨some 5, .move (.tmp 0), none⟩,
     ⟨some 6, .move (.tmp 1), none⟩,
     ⟨some 7, .call (.func 220) [(.tmp 5), (.tmp 6)], none⟩,
     ⟨some 8, .bin .geq .none (.tmp 7) (.const (.int .i64 0)), none⟩,
     ⟨some 4, .move (.tmp 8), none⟩])
  (.keep [4] [] (.ret))))⟩
/-- strings.IndexFunc -/
def F220 : FnIR := ⟨8, 2, [.tmp 4], [],
  .seq (.region [⟨some 4, .move (.const (.int .i64 0)), none⟩])
  (.keep [0, 1] [] (.seq (.region [⟨some 5, .move (.tmp 0), none⟩,
     ⟨some 6, .move (.tmp 1), none⟩,
     ⟨some 7, .call (.func 259) [(.tmp 5), (.tmp 6), (.const (.bool true))], none⟩,
     ⟨some 4, .move (.tmp 7), none⟩])
  (.keep [4] [] (.ret))))⟩
/-- strings.indexFunc -/
def L259_0 : IC :=
  .keep [1, 2, 10] [] (.seq (.region [⟨some 11, .nextS (.tmp 10), none⟩,
     ⟨some 12, .extract (.tmp 11) 0, none⟩])
  (.keep [1, 2, 10, 11, 12] [] (.seq (.cond (.tmp 12)
    (.skip)
    (.exit 0))
  (.keep [1, 2, 10, 11] [] (.block 1 (.seq (.region [⟨some 13, .extract (.tmp 11) 1, none⟩,
      ⟨some 14, .extract (.tmp 11) 2, none⟩,
      ⟨some 7, .move (.tmp 13), none⟩,
      ⟨some 8, .move (.tmp 14), none⟩])
   (.keep [1, 2, 7, 8, 10] [] (.seq (.region [⟨some 15, .move (.tmp 1), none⟩,
      ⟨some 16, .move (.tmp 8), none⟩,
      ⟨some 17, .call (.tmp 15) [(.tmp 16)], none⟩,
      ⟨some 18, .move (.tmp 2), none⟩,
      ⟨some 19, .bin .eql .bool (.tmp 17) (.tmp 18), none⟩])
   (.keep [1, 2, 7, 10, 19] [] (.cond (.tmp 19)
    (.seq (.region [⟨some 20, .move (.tmp 7), none⟩,
       ⟨some 6, .move (.tmp 20), none⟩])
    (.keep [6] [] (.ret)))
    (.skip)))))))))))
def F259 : FnIR := ⟨21, 3, [.tmp 6], [],
  .seq (.region [⟨some 6, .move (.const (.int .i64 0)), none⟩])
  (.keep [0, 1, 2] [] (.seq (.seq (.region [⟨some 9, .move (.tmp 0), none⟩,
      ⟨some 10, .rangeS (.tmp 9), none⟩])
   (.keep [1, 2, 10] [] (.block 0 (.loop L259_0))))
  (.keep [] [] (.seq (.region [⟨some 6, .move (.const (.int .i64 (-1))), none⟩])
  (.keep [6] [] (.ret))))))⟩
/-- wampum/command.valued$1 -/
def F228 : FnIR := ⟨9, 1, [.tmp 2], [],
  .seq (.region [⟨some 2, .move (.const (.bool false)), none⟩])
  (.keep [0] [] (.seq (.region [⟨some 3, .move (.tmp 0), none⟩,
     ⟨some 4, .bin .lss .none (.tmp 3) (.const (.int .i32 33)), none⟩,
     ⟨some 5, .move (.tmp 4), none⟩,
     ⟨some 6, .move (.tmp 0), some (5, false)⟩,
     ⟨some 7, .bin .gtr .none (.tmp 6) (.const (.int .i32 126)), some (5, false)⟩,
     ⟨some 8, .pick (.tmp 5) (.const (.bool true)) (.tmp 7), none⟩,
     ⟨some 2, .move (.tmp 8), none⟩])
  (.keep [2] [] (.ret))))⟩
/-- wampum/command.apart -/
def L124_0 : IC :=
  .keep [0, 3, 7, 8, 9] [] (.seq (.region [⟨some 10, .bin .lss .none (.tmp 9) (.tmp 8), none⟩])
  (.keep [0, 3, 7, 8, 9, 10] [] (.seq (.cond (.tmp 10)
    (.skip)
    (.exit 0))
  (.keep [0, 3, 7, 8, 9] [] (.seq (.block 1 (.seq (.region [⟨some 11, .indexAddr none 2 (.tmp 7) (.tmp 9), none⟩,
       ⟨some 12, .load true 2 (.tmp 11), none⟩,
       ⟨some 5, .alloc true 2 [(.str []), (.int .i64 0)], none⟩,
       ⟨none, .store 2 (.tmp 5) (.tmp 12), none⟩])
    (.keep [0, 3, 5, 7, 8, 9] [5] (.region [⟨some 13, .move (.tmp 3), none⟩,
      ⟨some 14, .fieldAddr 0 (.tmp 5), none⟩,
      ⟨some 15, .load false 1 (.tmp 14), none⟩,
      ⟨some 16, .build [] [], none⟩,
      ⟨none, .mapUpdate .str (.tmp 13) (.tmp 15) (.tmp 16), none⟩]))))
  (.keep [0, 3, 7, 8, 9] [] (.region [⟨some 17, .bin .add .none (.tmp 9) (.const (.int .i64 1)), none⟩,
    ⟨some 9, .move (.tmp 17), none⟩])))))))
def F124 : FnIR := ⟨23, 1, [.tmp 2], [5],
  .seq (.region [⟨some 2, .move (.const (.bool false)), none⟩])
  (.keep [0] [] (.seq (.region [⟨some 6, .mkMap, none⟩,
     ⟨some 3, .move (.tmp 6), none⟩])
  (.keep [0, 3] [] (.seq (.seq (.region [⟨some 7, .move (.tmp 0), none⟩,
      ⟨some 8, .len .slice (.tmp 7), none⟩,
      ⟨some 9, .move (.const (.int .i64 0)), none⟩])
   (.keep [0, 3, 7, 8, 9] [] (.block 0 (.loop L124_0))))
  (.keep [0, 3] [] (.seq (.region [⟨some 18, .move (.tmp 3), none⟩,
     ⟨some 19, .len .map (.tmp 18), none⟩,
     ⟨some 20, .move (.tmp 0), none⟩,
     ⟨some 21, .len .slice (.tmp 20), none⟩,
     ⟨some 22, .bin .eql .int (.tmp 19) (.tmp 21), none⟩,
     ⟨some 2, .move (.tmp 22), none⟩])
  (.keep [2] [] (.ret))))))))⟩
/-- (*wampum/state.State).inside -/
def F67 : FnIR := ⟨16, 2, [.tmp 4], [3],
  .seq (.region [⟨some 2, .box false 1 (.tmp 0), none⟩,
     ⟨some 3, .box true 22 (.tmp 1), none⟩,
     ⟨some 4, .move (.const (.bool false)), none⟩])
  (.keep [2, 3] [3] (.seq (.region [⟨some 8, .load true 22 (.tmp 3), none⟩,
     ⟨some 9, .call (.func 125) [(.tmp 8)], none⟩,
     ⟨some 7, .move (.tmp 9), none⟩,
     ⟨some 10, .extract (.tmp 7) 0, none⟩,
     ⟨some 11, .extract (.tmp 7) 1, none⟩,
     ⟨some 5, .move (.tmp 10), none⟩,
     ⟨some 6, .move (.tmp 11), none⟩])
  (.keep [2, 5] [] (.seq (.region [⟨some 12, .move (.tmp 5), none⟩,
     ⟨some 13, .mkFunc (.func 127) [] [(.tmp 2)], none⟩,
     ⟨some 14, .call (.func 126) [(.tmp 12), (.tmp 13)], none⟩,
     ⟨some 15, .un .not (.tmp 14), none⟩,
     ⟨some 4, .move (.tmp 15), none⟩])
  (.keep [4] [] (.ret))))))⟩
/-- wampum/command.Spans -/
def F125 : FnIR := ⟨31, 1, [.tmp 2, .tmp 3], [1, 4],
  .seq (.region [⟨some 1, .box true 22 (.tmp 0), none⟩,
     ⟨some 2, .move (.const .nils), none⟩,
     ⟨some 3, .move (.const (.bool false)), none⟩])
  (.keep [1] [1] (.seq (.regionD [⟨some 5, .call (.func 122) [], none⟩,
     ⟨some 6, .fieldAddr 0 (.tmp 1), none⟩,
     ⟨some 7, .load false 1 (.tmp 6), none⟩,
     ⟨some 8, .lookup (.int .i64) false (.agg [(.bool false), (.bool false), (.bool false), (.bool false)]) (.tmp 5) (.tmp 7), none⟩,
     ⟨some 4, .alloc true 4 [(.bool false), (.bool false), (.bool false), (.bool false)], none⟩,
     ⟨none, .store 4 (.tmp 4) (.tmp 8), none⟩] [(2, 0)])
  (.keep [1, 4] [1, 4] (.seq (.block 0 (.seq (.region [⟨some 10, .fieldAddr 0 (.tmp 4), none⟩,
       ⟨some 11, .load false 1 (.tmp 10), none⟩,
       ⟨some 9, .move (.tmp 11), none⟩])
    (.keep [1, 4, 9] [1, 4] (.cond (.tmp 9)
     (.seq (.regionD [⟨some 12, .fieldAddr 10 (.tmp 1), none⟩,
        ⟨some 13, .load true 2 (.tmp 12), none⟩,
        ⟨some 14, .buildSlice 2 1 [(.str []), (.str [])] [(0, 2, (.tmp 13))], none⟩,
        ⟨some 15, .fieldAddr 0 (.tmp 1), none⟩,
        ⟨some 16, .load false 1 (.tmp 15), none⟩,
        ⟨some 17, .bin .neq .int (.tmp 16) (.const (.int .i64 2)), none⟩,
        ⟨some 18, .move (.tmp 17), none⟩,
        ⟨some 19, .fieldAddr 0 (.tmp 1), some (18, true)⟩,
        ⟨some 20, .load false 1 (.tmp 19), some (18, true)⟩,
        ⟨some 21, .bin .neq .int (.tmp 20) (.const (.int .i64 10)), some (18, true)⟩,
        ⟨some 22, .pick (.tmp 18) (.tmp 21) (.const (.bool false)), none⟩,
        ⟨some 2, .move (.tmp 14), none⟩,
        ⟨some 3, .move (.tmp 22), none⟩] [(4, 0), (8, 0)])
     (.keep [2, 3] [] (.ret)))
     (.seq (.region [⟨some 24, .fieldAddr 2 (.tmp 4), none⟩,
        ⟨some 25, .load false 1 (.tmp 24), none⟩,
        ⟨some 23, .move (.tmp 25), none⟩])
     (.keep [1, 23] [1] (.cond (.tmp 23)
      (.seq (.region [⟨some 26, .fieldAddr 4 (.tmp 1), none⟩,
         ⟨some 27, .fieldAddr 2 (.tmp 26), none⟩,
         ⟨some 28, .load false 1 (.tmp 27), none⟩,
         ⟨some 29, .build [(.str []), (.str [])] [(0, 1, (.tmp 28))], none⟩,
         ⟨some 30, .buildSlice 2 1 [(.str []), (.str [])] [(0, 2, (.tmp 29))], none⟩,
         ⟨some 2, .move (.tmp 30), none⟩,
         ⟨some 3, .move (.const (.bool true)), none⟩])
      (.keep [2, 3] [] (.ret)))
      (.skip))))))))
  (.keep [] [] (.seq (.region [⟨some 2, .move (.const .nils), none⟩,
     ⟨some 3, .move (.const (.bool false)), none⟩])
  (.keep [2, 3] [] (.ret))))))))⟩
/-- (*wampum/state.State).inside$1 -/
def F127 : FnIR := ⟨22, 2, [.tmp 3], [2],
  .seq (.region [⟨some 2, .box true 2 (.tmp 0), none⟩,
     ⟨some 3, .move (.const (.bool false)), none⟩])
  (.keep [1, 2] [2] (.seq (.regionD [⟨some 4, .load false 1 (.tmp 1), none⟩,
     ⟨some 5, .nilCheck (.tmp 4), none⟩,
     ⟨some 6, .fieldAddr 0 (.tmp 5), none⟩,
     ⟨some 7, .load true 2 (.tmp 6), none⟩,
     ⟨some 8, .fieldAddr 0 (.tmp 2), none⟩,
     ⟨some 9, .load false 1 (.tmp 8), none⟩,
     ⟨some 10, .call (.func 121) [(.tmp 7), (.tmp 9)], none⟩,
     ⟨some 11, .un .not (.tmp 10), none⟩,
     ⟨some 12, .move (.tmp 11), none⟩,
     ⟨some 13, .fieldAddr 1 (.tmp 2), some (12, false)⟩,
     ⟨some 14, .load false 1 (.tmp 13), some (12, false)⟩,
     ⟨some 15, .load false 1 (.tmp 1), some (12, false)⟩,
     ⟨some 16, .nilCheck (.tmp 15), some (12, false)⟩,
     ⟨some 17, .fieldAddr 0 (.tmp 16), some (12, false)⟩,
     ⟨some 18, .fieldAddr 1 (.tmp 17), some (12, false)⟩,
     ⟨some 19, .load false 1 (.tmp 18), some (12, false)⟩,
     ⟨some 20, .bin .gtr .none (.tmp 14) (.tmp 19), some (12, false)⟩,
     ⟨some 21, .pick (.tmp 12) (.const (.bool true)) (.tmp 20), none⟩,
     ⟨some 3, .move (.tmp 21), none⟩] [])
  (.keep [3] [] (.ret))))⟩
/-- wampum/span.Has -/
def F121 : FnIR := ⟨32, 2, [.tmp 4], [2],
  .seq (.region [⟨some 2, .box true 2 (.tmp 0), none⟩,
     ⟨some 4, .move (.const (.bool false)), none⟩])
  (.keep [1, 2] [2] (.seq (.block 0 (.seq (.region [⟨some 6, .load true 2 (.tmp 2), none⟩,
       ⟨some 7, .call (.func 65) [(.tmp 6)], none⟩,
       ⟨some 8, .un .not (.tmp 7), none⟩,
       ⟨some 9, .move (.tmp 8), none⟩,
       ⟨some 10, .move (.tmp 1), some (9, false)⟩,
       ⟨some 11, .call (.func 47) [(.tmp 10)], some (9, false)⟩,
       ⟨some 12, .un .not (.tmp 11), some (9, false)⟩,
       ⟨some 13, .pick (.tmp 9) (.const (.bool true)) (.tmp 12), none⟩,
       ⟨some 5, .move (.tmp 13), none⟩])
    (.keep [1, 2, 5] [2] (.cond (.tmp 5)
     (.seq (.region [⟨some 4, .move (.const (.bool false)), none⟩])
     (.keep [4] [] (.ret)))
     (.seq (.region [⟨some 15, .fieldAddr 1 (.tmp 2), none⟩,
        ⟨some 16, .load false 1 (.tmp 15), none⟩,
        ⟨some 17, .bin .eql .str (.tmp 16) (.const (.str [])), none⟩,
        ⟨some 14, .move (.tmp 17), none⟩])
     (.keep [1, 2, 14] [2] (.cond (.tmp 14)
      (.seq (.region [⟨some 18, .move (.tmp 1), none⟩,
         ⟨some 19, .fieldAddr 0 (.tmp 2), none⟩,
         ⟨some 20, .load false 1 (.tmp 19), none⟩,
         ⟨some 21, .bin .eql .str (.tmp 18) (.tmp 20), none⟩,
         ⟨some 4, .move (.tmp 21), none⟩])
      (.keep [4] [] (.ret)))
      (.skip))))))))
  (.keep [1, 2] [2] (.seq (.region [⟨some 22, .fieldAddr 0 (.tmp 2), none⟩,
     ⟨some 23, .load false 1 (.tmp 22), none⟩,
     ⟨some 24, .move (.tmp 1), none⟩,
     ⟨some 25, .bin .leq .none (.tmp 23) (.tmp 24), none⟩,
     ⟨some 26, .move (.tmp 25), none⟩,
     ⟨some 27, .move (.tmp 1), some (26, true)⟩,
     ⟨some 28, .fieldAddr 1 (.tmp 2), some (26, true)⟩,
     ⟨some 29, .load false 1 (.tmp 28), some (26, true)⟩,
     ⟨some 30, .bin .lss .none (.tmp 27) (.tmp 29), some (26, true)⟩,
     ⟨some 31, .pick (.tmp 26) (.tmp 30) (.const (.bool false)), none⟩,
     ⟨some 4, .move (.tmp 31), none⟩])
  (.keep [4] [] (.ret))))))⟩
/-- slices.ContainsFunc[[]wampum/api.Span,wampum/api.Span] -/
def F126 : FnIR := ⟨9, 2, [.tmp 4], [],
  .seq (.region [⟨some 4, .move (.const (.bool false)), none⟩])
  (.keep [0, 1] [] (.seq (.region [⟨some 5, .move (.tmp 0), none⟩,
     ⟨some 6, .move (.tmp 1), none⟩,
     ⟨some 7, .call (.func 193) [(.tmp 5), (.tmp 6)], none⟩,
     ⟨some 8, .bin .geq .none (.tmp 7) (.const (.int .i64 0)), none⟩,
     ⟨some 4, .move (.tmp 8), none⟩])
  (.keep [4] [] (.ret))))⟩
/-- slices.IndexFunc[[]wampum/api.Span,wampum/api.Span] -/
def L193_0 : IC :=
  .keep [0, 1, 7, 8] [] (.seq (.region [⟨some 9, .bin .lss .none (.tmp 8) (.tmp 7), none⟩])
  (.keep [0, 1, 7, 8, 9] [] (.seq (.cond (.tmp 9)
    (.skip)
    (.exit 0))
  (.keep [0, 1, 7, 8] [] (.seq (.block 1 (.seq (.region [⟨some 10, .move (.tmp 8), none⟩,
       ⟨some 5, .move (.tmp 10), none⟩])
    (.keep [0, 1, 5, 7, 8] [] (.seq (.region [⟨some 11, .move (.tmp 1), none⟩,
       ⟨some 12, .move (.tmp 0), none⟩,
       ⟨some 13, .move (.tmp 5), none⟩,
       ⟨some 14, .indexAddr none 2 (.tmp 12) (.tmp 13), none⟩,
       ⟨some 15, .load true 2 (.tmp 14), none⟩,
       ⟨some 16, .call (.tmp 11) [(.tmp 15)], none⟩])
    (.keep [0, 1, 5, 7, 8, 16] [] (.cond (.tmp 16)
     (.seq (.region [⟨some 17, .move (.tmp 5), none⟩,
        ⟨some 4, .move (.tmp 17), none⟩])
     (.keep [4] [] (.ret)))
     (.skip)))))))
  (.keep [0, 1, 7, 8] [] (.region [⟨some 18, .bin .add .none (.tmp 8) (.const (.int .i64 1)), none⟩,
    ⟨some 8, .move (.tmp 18), none⟩])))))))
def F193 : FnIR := ⟨19, 2, [.tmp 4], [],
  .seq (.region [⟨some 4, .move (.const (.int .i64 0)), none⟩])
  (.keep [0, 1] [] (.seq (.seq (.region [⟨some 6, .move (.tmp 0), none⟩,
      ⟨some 7, .len .slice (.tmp 6), none⟩,
      ⟨some 8, .move (.const (.int .i64 0)), none⟩])
   (.keep [0, 1, 7, 8] [] (.block 0 (.loop L193_0))))
  (.keep [] [] (.seq (.region [⟨some 4, .move (.const (.int .i64 (-1))), none⟩])
  (.keep [4] [] (.ret))))))⟩
/-- wampum/state.kinds -/
def F68 : FnIR := ⟨3, 0, [.tmp 0], [],
  .seq (.region [⟨some 0, .move (.const .nilm), none⟩])
  (.keep [] [] (.seq (.region [⟨some 1, .mkMap, none⟩,
     ⟨none, .mapUpdate (.int .i64) (.tmp 1) (.const (.int .i64 2)) (.func 128), none⟩,
     ⟨none, .mapUpdate (.int .i64) (.tmp 1) (.const (.int .i64 3)) (.func 129), none⟩,
     ⟨none, .mapUpdate (.int .i64) (.tmp 1) (.const (.int .i64 4)) (.func 130), none⟩,
     ⟨none, .mapUpdate (.int .i64) (.tmp 1) (.const (.int .i64 10)) (.func 131), none⟩,
     ⟨none, .mapUpdate (.int .i64) (.tmp 1) (.const (.int .i64 9)) (.func 132), none⟩,
     ⟨none, .mapUpdate (.int .i64) (.tmp 1) (.const (.int .i64 5)) (.func 133), none⟩,
     ⟨none, .mapUpdate (.int .i64) (.tmp 1) (.const (.int .i64 6)) (.func 133), none⟩,
     ⟨none, .mapUpdate (.int .i64) (.tmp 1) (.const (.int .i64 7)) (.func 133), none⟩,
     ⟨none, .mapUpdate (.int .i64) (.tmp 1) (.const (.int .i64 8)) (.func 133), none⟩,
     ⟨some 2, .move (.tmp 1), none⟩,
     ⟨some 0, .move (.tmp 2), none⟩])
  (.keep [0] [] (.ret))))⟩
/-- (*wampum/state.State).read -/
def F128 : FnIR := ⟨38, 2, [.cell 4 true 18], [3, 4],
  .seq (.region [⟨some 3, .box true 22 (.tmp 1), none⟩,
     ⟨some 4, .alloc true 18 [(.int .i64 0), (.int .i64 0), (.int .i64 0), .nils, (.bool false), (.int .i64 0), (.int .i64 0), (.str []), (.int .i64 0), (.int .i64 0), (.int .i64 0), (.int .i64 0), (.int .i64 0), (.int .i64 0), (.int .i64 0), (.int .i64 0), (.int .i64 0), .nils], none⟩])
  (.keep [0, 3, 4] [3, 4] (.seq (.regionD [⟨some 6, .move (.tmp 0), none⟩,
     ⟨some 7, .nilCheck (.tmp 6), none⟩,
     ⟨some 8, .fieldAddr 6 (.tmp 7), none⟩,
     ⟨some 9, .load false 1 (.tmp 8), none⟩,
     ⟨some 10, .fieldAddr 10 (.tmp 3), none⟩,
     ⟨some 11, .load true 2 (.tmp 10), none⟩,
     ⟨some 12, .fieldAddr 14 (.tmp 3), none⟩,
     ⟨some 13, .load true 2 (.tmp 12), none⟩,
     ⟨some 14, .fieldAddr 16 (.tmp 3), none⟩,
     ⟨some 15, .load true 2 (.tmp 14), none⟩,
     ⟨some 16, .fieldAddr 4 (.tmp 3), none⟩,
     ⟨some 17, .fieldAddr 0 (.tmp 16), none⟩,
     ⟨some 18, .load false 1 (.tmp 17), none⟩,
     ⟨some 19, .fieldAddr 4 (.tmp 3), none⟩,
     ⟨some 20, .fieldAddr 1 (.tmp 19), none⟩,
     ⟨some 21, .load false 1 (.tmp 20), none⟩,
     ⟨some 22, .call (.func 41) [(.tmp 9), (.tmp 11), (.tmp 13), (.tmp 15), (.tmp 18), (.tmp 21)], none⟩,
     ⟨some 5, .move (.tmp 22), none⟩,
     ⟨some 23, .extract (.tmp 5) 0, none⟩,
     ⟨some 27, .fieldAddr 3 (.tmp 4), none⟩,
     ⟨none, .store 1 (.tmp 27) (.tmp 23), none⟩,
     ⟨some 24, .extract (.tmp 5) 1, none⟩,
     ⟨some 28, .fieldAddr 1 (.tmp 4), none⟩,
     ⟨none, .store 2 (.tmp 28) (.tmp 24), none⟩,
     ⟨some 25, .extract (.tmp 5) 2, none⟩,
     ⟨some 29, .fieldAddr 5 (.tmp 4), none⟩,
     ⟨none, .store 5 (.tmp 29) (.tmp 25), none⟩,
     ⟨some 26, .extract (.tmp 5) 3, none⟩,
     ⟨some 30, .fieldAddr 0 (.tmp 4), none⟩,
     ⟨none, .store 1 (.tmp 30) (.tmp 26), none⟩] [])
  (.keep [0, 3, 4] [3, 4] (.seq (.region [⟨some 31, .move (.tmp 0), none⟩,
     ⟨some 32, .fieldAddr 0 (.tmp 4), none⟩,
     ⟨some 33, .load false 1 (.tmp 32), none⟩,
     ⟨some 34, .fieldAddr 14 (.tmp 3), none⟩,
     ⟨some 35, .load true 2 (.tmp 34), none⟩,
     ⟨some 36, .call (.func 194) [(.tmp 31), (.tmp 33), (.tmp 35)], none⟩])
  (.keep [4] [4] (.seq (.region [⟨some 37, .load true 18 (.tmp 4), none⟩,
     ⟨none, .store 18 (.tmp 4) (.tmp 37), none⟩])
  (.keep [4] [4] (.ret))))))))⟩
/-- (*wampum/store.Store).Read -/
def F41 : FnIR := ⟨84, 6, [.cell 12 false 1, .cell 13 true 2, .cell 14 true 5, .cell 15 false 1], [7, 20, 21, 23],
  .seq (.region [⟨some 7, .box true 2 (.tmp 1), none⟩,
     ⟨some 8, .box false 2 (.tmp 2), none⟩,
     ⟨some 9, .box false 2 (.tmp 3), none⟩,
     ⟨some 10, .box false 1 (.tmp 4), none⟩,
     ⟨some 11, .box false 1 (.tmp 5), none⟩,
     ⟨some 12, .alloc false 1 [.nils], none⟩,
     ⟨some 13, .alloc false 2 [(.int .i64 0), (.int .i64 0)], none⟩,
     ⟨some 14, .alloc false 5 [(.int .i64 0), (.int .i64 0), (.str []), (.int .i64 0), (.int .i64 0)], none⟩,
     ⟨some 15, .alloc false 1 [(.int .i64 0)], none⟩])
  (.keep [0, 7, 8, 9, 10, 11, 12, 13, 14, 15] [7] (.seq (.seq (.region [⟨some 25, .move (.tmp 0), none⟩,
      ⟨some 26, .load true 2 (.tmp 7), none⟩,
      ⟨some 27, .call (.func 102) [(.tmp 25), (.tmp 26)], none⟩,
      ⟨some 16, .move (.tmp 27), none⟩])
   (.keep [0, 7, 8, 9, 10, 11, 12, 13, 14, 15, 16] [7] (.seq (.region [⟨some 28, .move (.tmp 16), none⟩,
      ⟨some 29, .bin .neq .int (.tmp 28) (.const (.int .i64 0)), none⟩])
   (.keep [0, 7, 8, 9, 10, 11, 12, 13, 14, 15, 16, 29] [7] (.cond (.tmp 29)
    (.seq (.region [⟨some 30, .build [(.int .i64 0), (.int .i64 0)] [], none⟩,
       ⟨some 31, .build [(.int .i64 0), (.int .i64 0), (.str []), (.int .i64 0), (.int .i64 0)] [], none⟩,
       ⟨some 32, .move (.tmp 16), none⟩,
       ⟨none, .store 1 (.tmp 12) (.const .nils), none⟩,
       ⟨none, .store 2 (.tmp 13) (.tmp 30), none⟩,
       ⟨none, .store 5 (.tmp 14) (.tmp 31), none⟩,
       ⟨none, .store 1 (.tmp 15) (.tmp 32), none⟩])
    (.keep [12, 13, 14, 15] [] (.ret)))
    (.skip))))))
  (.keep [0, 7, 8, 9, 10, 11, 12, 13, 14, 15] [7] (.seq (.region [⟨some 17, .alloc false 1 [.nils], none⟩])
  (.keep [0, 7, 8, 9, 10, 11, 12, 13, 14, 15, 17] [7] (.seq (.region [⟨some 18, .alloc false 1 [.nils], none⟩])
  (.keep [0, 7, 8, 9, 10, 11, 12, 13, 14, 15, 17, 18] [7] (.seq (.seq (.region [⟨some 33, .move (.tmp 0), none⟩,
      ⟨some 34, .load true 2 (.tmp 7), none⟩,
      ⟨some 35, .call (.func 59) [(.tmp 33), (.tmp 34)], none⟩])
   (.keep [8, 9, 10, 11, 12, 13, 14, 15, 17, 18, 35] [] (.block 0 (.rangeF (.tmp 35) [36, 37]
     (.seq (.region [⟨some 19, .move (.tmp 36), none⟩])
     (.keep [8, 9, 10, 11, 12, 13, 14, 15, 17, 18, 19, 37] [] (.region [⟨some 20, .alloc true 12 [.nils, (.bool false), (.int .i64 0), (.int .i64 0), (.str []), (.int .i64 0), (.int .i64 0), (.int .i64 0), (.int .i64 0), (.int .i64 0), (.str []), (.bool false)], none⟩,
       ⟨none, .store 12 (.tmp 20) (.tmp 37), none⟩])))
     (.keep [8, 9, 10, 11, 12, 13, 14, 15, 17, 18, 19, 20] [20] (.block 1 (.seq (.seq (.region [⟨some 38, .load false 1 (.tmp 17), none⟩,
          ⟨some 39, .len .slice (.tmp 38), none⟩,
          ⟨some 40, .bin .eql .int (.tmp 39) (.const (.int .i64 50)), none⟩])
       (.keep [8, 9, 10, 11, 12, 13, 14, 15, 17, 18, 19, 20, 40] [20] (.cond (.tmp 40)
        (.exit 0)
        (.skip))))
      (.keep [8, 9, 10, 11, 12, 13, 14, 15, 17, 18, 19, 20] [20] (.seq (.region [⟨some 42, .load true 12 (.tmp 20), none⟩,
         ⟨some 43, .load true 2 (.tmp 8), none⟩,
         ⟨some 44, .load true 2 (.tmp 9), none⟩,
         ⟨some 45, .load false 1 (.tmp 10), none⟩,
         ⟨some 46, .load false 1 (.tmp 11), none⟩,
         ⟨some 47, .call (.func 103) [(.tmp 42), (.tmp 43), (.tmp 44), (.tmp 45), (.tmp 46)], none⟩,
         ⟨some 41, .move (.tmp 47), none⟩,
         ⟨some 48, .extract (.tmp 41) 0, none⟩,
         ⟨some 49, .extract (.tmp 41) 1, none⟩,
         ⟨some 50, .extract (.tmp 41) 2, none⟩,
         ⟨some 51, .extract (.tmp 41) 3, none⟩,
         ⟨some 21, .alloc true 5 [(.int .i64 0), (.int .i64 0), (.str []), (.bool false), (.int .i64 0)], none⟩,
         ⟨some 23, .alloc true 5 [(.int .i64 0), (.int .i64 0), (.str []), (.int .i64 0), (.int .i64 0)], none⟩,
         ⟨none, .store 5 (.tmp 21) (.tmp 48), none⟩,
         ⟨some 22, .move (.tmp 49), none⟩,
         ⟨none, .store 5 (.tmp 23) (.tmp 50), none⟩,
         ⟨some 24, .move (.tmp 51), none⟩])
      (.keep [12, 13, 14, 15, 17, 18, 19, 21, 22, 23, 24] [21, 23] (.block 2 (.seq (.region [⟨some 53, .move (.tmp 24), none⟩,
          ⟨some 54, .bin .eql .int (.tmp 53) (.const (.int .i64 81)), none⟩,
          ⟨some 52, .move (.tmp 54), none⟩])
       (.keep [12, 13, 14, 15, 17, 18, 19, 21, 22, 23, 24, 52] [21, 23] (.cond (.tmp 52)
        (.seq (.regionD [⟨none, .store 1 (.tmp 12) (.const .nils), none⟩,
           ⟨some 55, .build [(.int .i64 0), (.int .i64 0)] [], none⟩,
           ⟨none, .store 2 (.tmp 13) (.tmp 55), none⟩,
           ⟨some 56, .load true 5 (.tmp 23), none⟩,
           ⟨none, .store 5 (.tmp 14) (.tmp 56), none⟩,
           ⟨some 57, .move (.tmp 24), none⟩,
           ⟨none, .store 1 (.tmp 15) (.tmp 57), none⟩] [(3, 0), (3, 1)])
        (.keep [] [] (.ret)))
        (.seq (.region [⟨some 59, .move (.tmp 24), none⟩,
           ⟨some 60, .bin .eql .int (.tmp 59) (.const (.int .i64 82)), none⟩,
           ⟨some 58, .move (.tmp 60), none⟩])
        (.keep [17, 18, 19, 21, 22, 58] [21] (.cond (.tmp 58)
         (.region [⟨some 61, .load false 1 (.tmp 18), none⟩,
           ⟨some 62, .fieldAddr 0 (.tmp 21), none⟩,
           ⟨some 63, .load true 2 (.tmp 62), none⟩,
           ⟨some 64, .buildSlice 2 1 [(.int .i64 0), (.int .i64 0)] [(0, 2, (.tmp 63))], none⟩,
           ⟨some 65, .append 2 16 (.tmp 61) (.tmp 64), none⟩,
           ⟨none, .store 1 (.tmp 18) (.tmp 65), none⟩])
         (.seq (.region [⟨some 67, .move (.tmp 22), none⟩,
            ⟨some 66, .move (.tmp 67), none⟩])
         (.keep [17, 19, 21, 66] [21] (.cond (.tmp 66)
          (.region [⟨some 68, .load false 1 (.tmp 17), none⟩,
            ⟨some 69, .move (.tmp 19), none⟩,
            ⟨some 70, .fieldAddr 2 (.tmp 21), none⟩,
            ⟨some 71, .load false 1 (.tmp 70), none⟩,
            ⟨some 72, .build [(.str []), (.str [])] [(0, 1, (.tmp 69)), (1, 1, (.tmp 71))], none⟩,
            ⟨some 73, .buildSlice 2 1 [(.str []), (.str [])] [(0, 2, (.tmp 72))], none⟩,
            ⟨some 74, .append 2 32 (.tmp 68) (.tmp 73), none⟩,
            ⟨none, .store 1 (.tmp 17) (.tmp 74), none⟩])
          (.skip)))))))))))))))))))))
  (.keep [12, 13, 14, 15, 17, 18] [] (.seq (.seq (.region [⟨some 75, .load false 1 (.tmp 18), none⟩,
      ⟨some 76, .len .slice (.tmp 75), none⟩,
      ⟨some 77, .bin .gtr .none (.tmp 76) (.const (.int .i64 0)), none⟩])
   (.keep [12, 13, 14, 15, 17, 18, 77] [] (.cond (.tmp 77)
    (.seq (.region [⟨some 78, .load false 1 (.tmp 18), none⟩,
       ⟨some 79, .call (.func 104) [(.tmp 78), (.func 105)], none⟩,
       ⟨some 80, .build [(.int .i64 0), (.int .i64 0), (.str []), (.int .i64 0), (.int .i64 0)] [], none⟩,
       ⟨none, .store 1 (.tmp 12) (.const .nils), none⟩,
       ⟨none, .store 2 (.tmp 13) (.tmp 79), none⟩,
       ⟨none, .store 5 (.tmp 14) (.tmp 80), none⟩,
       ⟨none, .store 1 (.tmp 15) (.const (.int .i64 82)), none⟩])
    (.keep [12, 13, 14, 15] [] (.ret)))
    (.skip))))
  (.keep [12, 13, 14, 15, 17] [] (.seq (.region [⟨some 81, .load false 1 (.tmp 17), none⟩,
     ⟨some 82, .build [(.int .i64 0), (.int .i64 0)] [], none⟩,
     ⟨some 83, .build [(.int .i64 0), (.int .i64 0), (.str []), (.int .i64 0), (.int .i64 0)] [], none⟩,
     ⟨none, .store 1 (.tmp 12) (.tmp 81), none⟩,
     ⟨none, .store 2 (.tmp 13) (.tmp 82), none⟩,
     ⟨none, .store 5 (.tmp 14) (.tmp 83), none⟩,
     ⟨none, .store 1 (.tmp 15) (.const (.int .i64 0)), none⟩])
  (.keep [12, 13, 14, 15] [] (.ret))))))))))))))⟩
/-- (*wampum/store.Store).wrong -/
def F102 : FnIR := ⟨12, 2, [.tmp 4], [3],
  .seq (.region [⟨some 3, .box true 2 (.tmp 1), none⟩,
     ⟨some 4, .move (.const (.int .i64 0)), none⟩])
  (.keep [0, 3] [3] (.seq (.block 0 (.seq (.region [⟨some 6, .move (.tmp 0), none⟩,
       ⟨some 7, .bin .eql .ptr (.tmp 6) (.const .nilp), none⟩,
       ⟨some 5, .move (.tmp 7), none⟩])
    (.keep [3, 5] [3] (.cond (.tmp 5)
     (.seq (.region [⟨some 4, .move (.const (.int .i64 1)), none⟩])
     (.keep [4] [] (.ret)))
     (.seq (.region [⟨some 9, .load true 2 (.tmp 3), none⟩,
        ⟨some 10, .call (.func 65) [(.tmp 9)], none⟩,
        ⟨some 11, .un .not (.tmp 10), none⟩,
        ⟨some 8, .move (.tmp 11), none⟩])
     (.keep [8] [] (.cond (.tmp 8)
      (.seq (.region [⟨some 4, .move (.const (.int .i64 51)), none⟩])
      (.keep [4] [] (.ret)))
      (.skip))))))))
  (.keep [] [] (.seq (.region [⟨some 4, .move (.const (.int .i64 0)), none⟩])
  (.keep [4] [] (.ret))))))⟩
/-- (*wampum/store.Store).in -/
def F59 : FnIR := ⟨6, 2, [.tmp 4], [],
  .seq (.region [⟨some 2, .box false 1 (.tmp 0), none⟩,
     ⟨some 3, .box false 2 (.tmp 1), none⟩,
     ⟨some 4, .move (.const .nilFunc), none⟩])
  (.keep [2, 3] [] (.seq (.region [⟨some 5, .mkFunc (.func 120) [] [(.tmp 2), (.tmp 3)], none⟩,
     ⟨some 4, .move (.tmp 5), none⟩])
  (.keep [4] [] (.ret))))⟩
/-- (*wampum/store.Store).in$1 -/
def L120_0 : IC :=
  .keep [0, 1, 2, 11, 12, 13] [] (.seq (.region [⟨some 14, .bin .lss .none (.tmp 13) (.tmp 12), none⟩])
  (.keep [0, 1, 2, 11, 12, 13, 14] [] (.seq (.cond (.tmp 14)
    (.skip)
    (.exit 0))
  (.keep [0, 1, 2, 11, 12, 13] [] (.seq (.block 1 (.seq (.region [⟨some 15, .indexAddr none 1 (.tmp 11) (.tmp 13), none⟩,
       ⟨some 16, .load false 1 (.tmp 15), none⟩,
       ⟨some 5, .move (.tmp 16), none⟩])
    (.keep [0, 1, 2, 5, 11, 12, 13] [] (.seq (.region [⟨some 17, .load true 2 (.tmp 2), none⟩,
       ⟨some 18, .move (.tmp 5), none⟩,
       ⟨some 19, .call (.func 121) [(.tmp 17), (.tmp 18)], none⟩,
       ⟨some 20, .move (.tmp 19), none⟩,
       ⟨some 21, .move (.tmp 0), some (20, true)⟩,
       ⟨some 22, .move (.tmp 5), some (20, true)⟩,
       ⟨some 23, .load false 1 (.tmp 1), some (20, true)⟩,
       ⟨some 24, .nilCheck (.tmp 23), some (20, true)⟩,
       ⟨some 25, .fieldAddr 0 (.tmp 24), some (20, true)⟩,
       ⟨some 26, .load false 1 (.tmp 25), some (20, true)⟩,
       ⟨some 27, .move (.tmp 5), some (20, true)⟩,
       ⟨some 28, .lookup .str false (.agg [.nils, (.bool false), (.int .i64 0), (.int .i64 0), (.str []), (.int .i64 0), (.int .i64 0), (.int .i64 0), (.int .i64 0), (.int .i64 0), (.str []), (.bool false)]) (.tmp 26) (.tmp 27), some (20, true)⟩,
       ⟨some 29, .call (.tmp 21) [(.tmp 22), (.tmp 28)], some (20, true)⟩,
       ⟨some 30, .un .not (.tmp 29), some (20, true)⟩,
       ⟨some 31, .pick (.tmp 20) (.tmp 30) (.const (.bool false)), none⟩])
    (.keep [0, 1, 2, 11, 12, 13, 31] [] (.cond (.tmp 31)
     (.ret)
     (.skip)))))))
  (.keep [0, 1, 2, 11, 12, 13] [] (.region [⟨some 32, .bin .add .none (.tmp 13) (.const (.int .i64 1)), none⟩,
    ⟨some 13, .move (.tmp 32), none⟩])))))))
def F120 : FnIR := ⟨33, 3, [], [],
  .seq (.region [⟨some 6, .load false 1 (.tmp 1), none⟩,
     ⟨some 7, .nilCheck (.tmp 6), none⟩,
     ⟨some 8, .fieldAddr 0 (.tmp 7), none⟩,
     ⟨some 9, .load false 1 (.tmp 8), none⟩,
     ⟨some 10, .call (.func 71) [(.tmp 9)], none⟩,
     ⟨some 11, .call (.func 70) [(.tmp 10)], none⟩,
     ⟨some 12, .len .slice (.tmp 11), none⟩,
     ⟨some 13, .move (.const (.int .i64 0)), none⟩])
  (.keep [0, 1, 2, 11, 12, 13] [] (.block 0 (.loop L120_0)))⟩
/-- maps.Keys[map[string]wampum/api.Chain,string,wampum/api.Chain] -/
def F71 : FnIR := ⟨4, 1, [.tmp 2], [],
  .seq (.region [⟨some 1, .box false 1 (.tmp 0), none⟩,
     ⟨some 2, .move (.const .nilFunc), none⟩])
  (.keep [1] [] (.seq (.region [⟨some 3, .mkFunc (.func 137) [] [(.tmp 1)], none⟩,
     ⟨some 2, .move (.tmp 3), none⟩])
  (.keep [2] [] (.ret))))⟩
/-- maps.Keys[map[string]wampum/api.Chain,string,wampum/api.Chain]$1 -/
def F137 : FnIR := ⟨14, 2, [], [],
  .seq (.region [⟨some 4, .load false 1 (.tmp 1), none⟩,
     ⟨some 5, .rangeM (.tmp 4), none⟩])
  (.keep [0, 5] [] (.mapR 6 7 (.tmp 5) 0 [] [] (.keep [0, 5] [] (.block 1 (.seq (.region [⟨some 8, .entryM (.tmp 5), none⟩,
       ⟨some 9, .extract (.tmp 8) 0, none⟩,
       ⟨some 3, .move (.tmp 9), none⟩])
    (.keep [0, 3, 5] [] (.seq (.region [⟨some 10, .move (.tmp 0), none⟩,
       ⟨some 11, .move (.tmp 3), none⟩,
       ⟨some 12, .call (.tmp 10) [(.tmp 11)], none⟩,
       ⟨some 13, .un .not (.tmp 12), none⟩])
    (.keep [0, 5, 13] [] (.cond (.tmp 13)
     (.ret)
     (.skip))))))))))⟩
/-- slices.Sorted[string] -/
def F70 : FnIR := ⟨9, 1, [.tmp 2], [],
  .seq (.region [⟨some 2, .move (.const .nils), none⟩])
  (.keep [0] [] (.seq (.region [⟨some 4, .move (.tmp 0), none⟩,
     ⟨some 5, .call (.func 135) [(.tmp 4)], none⟩,
     ⟨some 3, .move (.tmp 5), none⟩])
  (.keep [3] [] (.seq (.region [⟨some 6, .move (.tmp 3), none⟩,
     ⟨some 7, .call (.func 136) [(.tmp 6)], none⟩])
  (.keep [3] [] (.seq (.region [⟨some 8, .move (.tmp 3), none⟩,
     ⟨some 2, .move (.tmp 8), none⟩])
  (.keep [2] [] (.ret))))))))⟩
/-- slices.Collect[string] -/
def F135 : FnIR := ⟨5, 1, [.tmp 2], [],
  .seq (.region [⟨some 2, .move (.const .nils), none⟩])
  (.keep [0] [] (.seq (.region [⟨some 3, .move (.tmp 0), none⟩,
     ⟨some 4, .call (.func 202) [(.const .nils), (.tmp 3)], none⟩,
     ⟨some 2, .move (.tmp 4), none⟩])
  (.keep [2] [] (.ret))))⟩
/-- slices.AppendSeq[[]string,string] -/
def F202 : FnIR := ⟨13, 2, [.tmp 4], [],
  .seq (.region [⟨some 2, .box false 1 (.tmp 0), none⟩,
     ⟨some 4, .move (.const .nils), none⟩])
  (.keep [1, 2, 4] [] (.seq (.seq (.region [⟨some 6, .move (.tmp 1), none⟩])
   (.keep [2, 4, 6] [] (.block 0 (.rangeF (.tmp 6) [7]
     (.region [⟨some 5, .move (.tmp 7), none⟩])
     (.keep [2, 5] [] (.block 1 (.region [⟨some 8, .load false 1 (.tmp 2), none⟩,
        ⟨some 9, .move (.tmp 5), none⟩,
        ⟨some 10, .buildSlice 1 1 [(.str [])] [(0, 1, (.tmp 9))], none⟩,
        ⟨some 11, .append 1 16 (.tmp 8) (.tmp 10), none⟩,
        ⟨none, .store 1 (.tmp 2) (.tmp 11), none⟩])))))))
  (.keep [2] [] (.seq (.region [⟨some 12, .load false 1 (.tmp 2), none⟩,
     ⟨some 4, .move (.tmp 12), none⟩])
  (.keep [4] [] (.ret))))))⟩
/-- slices.Sort[[]string,string] -/
def F136 : FnIR := ⟨11, 1, [], [],
  .seq (.region [⟨some 3, .move (.tmp 0), none⟩,
     ⟨some 4, .len .slice (.tmp 3), none⟩,
     ⟨some 2, .move (.tmp 4), none⟩])
  (.keep [0, 2] [] (.region [⟨some 5, .move (.tmp 0), none⟩,
    ⟨some 6, .move (.tmp 2), none⟩,
    ⟨some 7, .move (.tmp 2), none⟩,
    ⟨some 8, .conv (.toInt .u64) (.tmp 7), none⟩,
    ⟨some 9, .call (.func 204) [(.tmp 8)], none⟩,
    ⟨some 10, .call (.func 203) [(.tmp 5), (.const (.int .i64 0)), (.tmp 6), (.tmp 9)], none⟩]))⟩
/-- math/bits.Len -/
def F204 : FnIR := ⟨8, 1, [.tmp 2], [],
  .seq (.region [⟨some 2, .move (.const (.int .i64 0)), none⟩])
  (.keep [0] [] (.seq (.cond (.const (.bool false))
    (.seq (.region [⟨some 3, .move (.tmp 0), none⟩,
       ⟨some 4, .conv (.toInt .u32) (.tmp 3), none⟩,
       ⟨some 5, .call (.func 244) [(.tmp 4)], none⟩,
       ⟨some 2, .move (.tmp 5), none⟩])
    (.keep [2] [] (.ret)))
    (.skip))
  (.keep [0] [] (.seq (.region [⟨some 6, .move (.tmp 0), none⟩,
     ⟨some 7, .call (.func 245) [(.tmp 6)], none⟩,
     ⟨some 2, .move (.tmp 7), none⟩])
  (.keep [2] [] (.ret))))))⟩
/-- math/bits.Len32 -/
def F244 : FnIR := ⟨19, 1, [.tmp 2], [],
  .seq (.region [⟨some 2, .move (.const (.int .i64 0)), none⟩])
  (.keep [0, 2] [] (.seq (.seq (.region [⟨some 3, .move (.tmp 0), none⟩,
      ⟨some 4, .bin .geq .none (.tmp 3) (.const (.int .u32 65536)), none⟩])
   (.keep [0, 2, 4] [] (.cond (.tmp 4)
    (.seq (.region [⟨some 5, .move (.tmp 0), none⟩,
       ⟨some 6, .bin .shr .none (.tmp 5) (.const (.int .u64 16)), none⟩,
       ⟨some 0, .move (.tmp 6), none⟩])
    (.keep [0] [] (.region [⟨some 2, .move (.const (.int .i64 16)), none⟩])))
    (.skip))))
  (.keep [0, 2] [] (.seq (.seq (.region [⟨some 7, .move (.tmp 0), none⟩,
      ⟨some 8, .bin .geq .none (.tmp 7) (.const (.int .u32 256)), none⟩])
   (.keep [0, 2, 8] [] (.cond (.tmp 8)
    (.seq (.region [⟨some 9, .move (.tmp 0), none⟩,
       ⟨some 10, .bin .shr .none (.tmp 9) (.const (.int .u64 8)), none⟩,
       ⟨some 0, .move (.tmp 10), none⟩])
    (.keep [0, 2] [] (.region [⟨some 11, .move (.tmp 2), none⟩,
      ⟨some 12, .bin .add .none (.tmp 11) (.const (.int .i64 8)), none⟩,
      ⟨some 2, .move (.tmp 12), none⟩])))
    (.skip))))
  (.keep [0, 2] [] (.seq (.region [⟨some 13, .move (.tmp 2), none⟩,
     ⟨some 14, .move (.tmp 0), none⟩,
     ⟨some 15, .conv (.toInt .u8) (.tmp 14), none⟩,
     ⟨some 16, .index none (.const (.str [0, 1, 2, 2, 3, 3, 3, 3, 4, 4, 4, 4, 4, 4, 4, 4, 5, 5, 5, 5, 5, 5, 5, 5, 5, 5, 5, 5, 5, 5, 5, 5, 6, 6, 6, 6, 6, 6, 6, 6, 6, 6, 6, 6, 6, 6, 6, 6, 6, 6, 6, 6, 6, 6, 6, 6, 6, 6, 6, 6, 6, 6, 6, 6, 7, 7, 7, 7, 7, 7, 7, 7, 7, 7, 7, 7, 7, 7, 7, 7, 7, 7, 7, 7, 7, 7, 7, 7, 7, 7, 7, 7, 7, 7, 7, 7, 7, 7, 7, 7, 7, 7, 7, 7, 7, 7, 7, 7, 7, 7, 7, 7, 7, 7, 7, 7, 7, 7, 7, 7, 7, 7, 7, 7, 7, 7, 7, 7, 8, 8, 8, 8, 8, 8, 8, 8, 8, 8, 8, 8, 8, 8, 8, 8, 8, 8, 8, 8, 8, 8, 8, 8, 8, 8, 8, 8, 8, 8, 8, 8, 8, 8, 8, 8, 8, 8, 8, 8, 8, 8, 8, 8, 8, 8, 8, 8, 8, 8, 8, 8, 8, 8, 8, 8, 8, 8, 8, 8, 8, 8, 8, 8, 8, 8, 8, 8, 8, 8, 8, 8, 8, 8, 8, 8, 8, 8, 8, 8, 8, 8, 8, 8, 8, 8, 8, 8, 8, 8, 8, 8, 8, 8, 8, 8, 8, 8, 8, 8, 8, 8, 8, 8, 8, 8, 8, 8, 8, 8, 8, 8, 8, 8, 8, 8, 8, 8, 8, 8, 8, 8, 8, 8, 8, 8, 8, 8])) (.tmp 15), none⟩,
     ⟨some 17, .conv (.toInt .i64) (.tmp 16), none⟩,
     ⟨some 18, .bin .add .none (.tmp 13) (.tmp 17), none⟩,
     ⟨some 2, .move (.tmp 18), none⟩])
  (.keep [2] [] (.ret))))))))⟩
/-- math/bits.Len64 -/
def F245 : FnIR := ⟨25, 1, [.tmp 2], [],
  .seq (.region [⟨some 2, .move (.const (.int .i64 0)), none⟩])
  (.keep [0, 2] [] (.seq (.seq (.region [⟨some 3, .move (.tmp 0), none⟩,
      ⟨some 4, .bin .geq .none (.tmp 3) (.const (.int .u64 4294967296)), none⟩])
   (.keep [0, 2, 4] [] (.cond (.tmp 4)
    (.seq (.region [⟨some 5, .move (.tmp 0), none⟩,
       ⟨some 6, .bin .shr .none (.tmp 5) (.const (.int .u64 32)), none⟩,
       ⟨some 0, .move (.tmp 6), none⟩])
    (.keep [0] [] (.region [⟨some 2, .move (.const (.int .i64 32)), none⟩])))
    (.skip))))
  (.keep [0, 2] [] (.seq (.seq (.region [⟨some 7, .move (.tmp 0), none⟩,
      ⟨some 8, .bin .geq .none (.tmp 7) (.const (.int .u64 65536)), none⟩])
   (.keep [0, 2, 8] [] (.cond (.tmp 8)
    (.seq (.region [⟨some 9, .move (.tmp 0), none⟩,
       ⟨some 10, .bin .shr .none (.tmp 9) (.const (.int .u64 16)), none⟩,
       ⟨some 0, .move (.tmp 10), none⟩])
    (.keep [0, 2] [] (.region [⟨some 11, .move (.tmp 2), none⟩,
      ⟨some 12, .bin .add .none (.tmp 11) (.const (.int .i64 16)), none⟩,
      ⟨some 2, .move (.tmp 12), none⟩])))
    (.skip))))
  (.keep [0, 2] [] (.seq (.seq (.region [⟨some 13, .move (.tmp 0), none⟩,
      ⟨some 14, .bin .geq .none (.tmp 13) (.const (.int .u64 256)), none⟩])
   (.keep [0, 2, 14] [] (.cond (.tmp 14)
    (.seq (.region [⟨some 15, .move (.tmp 0), none⟩,
       ⟨some 16, .bin .shr .none (.tmp 15) (.const (.int .u64 8)), none⟩,
       ⟨some 0, .move (.tmp 16), none⟩])
    (.keep [0, 2] [] (.region [⟨some 17, .move (.tmp 2), none⟩,
      ⟨some 18, .bin .add .none (.tmp 17) (.const (.int .i64 8)), none⟩,
      ⟨some 2, .move (.tmp 18), none⟩])))
    (.skip))))
  (.keep [0, 2] [] (.seq (.region [⟨some 19, .move (.tmp 2), none⟩,
     ⟨some 20, .move (.tmp 0), none⟩,
     ⟨some 21, .conv (.toInt .u8) (.tmp 20), none⟩,
     ⟨some 22, .index none (.const (.str [0, 1, 2, 2, 3, 3, 3, 3, 4, 4, 4, 4, 4, 4, 4, 4, 5, 5, 5, 5, 5, 5, 5, 5, 5, 5, 5, 5, 5, 5, 5, 5, 6, 6, 6, 6, 6, 6, 6, 6, 6, 6, 6, 6, 6, 6, 6, 6, 6, 6, 6, 6, 6, 6, 6, 6, 6, 6, 6, 6, 6, 6, 6, 6, 7, 7, 7, 7, 7, 7, 7, 7, 7, 7, 7, 7, 7, 7, 7, 7, 7, 7, 7, 7, 7, 7, 7, 7, 7, 7, 7, 7, 7, 7, 7, 7, 7, 7, 7, 7, 7, 7, 7, 7, 7, 7, 7, 7, 7, 7, 7, 7, 7, 7, 7, 7, 7, 7, 7, 7, 7, 7, 7, 7, 7, 7, 7, 7, 8, 8, 8, 8, 8, 8, 8, 8, 8, 8, 8, 8, 8, 8, 8, 8, 8, 8, 8, 8, 8, 8, 8, 8, 8, 8, 8, 8, 8, 8, 8, 8, 8, 8, 8, 8, 8, 8, 8, 8, 8, 8, 8, 8, 8, 8, 8, 8, 8, 8, 8, 8, 8, 8, 8, 8, 8, 8, 8, 8, 8, 8, 8, 8, 8, 8, 8, 8, 8, 8, 8, 8, 8, 8, 8, 8, 8, 8, 8, 8, 8, 8, 8, 8, 8, 8, 8, 8, 8, 8, 8, 8, 8, 8, 8, 8, 8, 8, 8, 8, 8, 8, 8, 8, 8, 8, 8, 8, 8, 8, 8, 8, 8, 8, 8, 8, 8, 8, 8, 8, 8, 8, 8, 8, 8, 8, 8, 8])) (.tmp 21), none⟩,
     ⟨some 23, .conv (.toInt .i64) (.tmp 22), none⟩,
     ⟨some 24, .bin .add .none (.tmp 19) (.tmp 23), none⟩,
     ⟨some 2, .move (.tmp 24), none⟩])
  (.keep [2] [] (.ret))))))))))⟩
/-- slices.pdqsortOrdered[string] -/
def L203_0 : IC :=
  .keep [0, 1, 2, 3, 8, 9] [] (.block 1 (.seq (.region [⟨some 19, .move (.tmp 2), none⟩,
      ⟨some 20, .move (.tmp 1), none⟩,
      ⟨some 21, .bin .sub .none (.tmp 19) (.tmp 20), none⟩,
      ⟨some 10, .move (.tmp 21), none⟩])
   (.keep [0, 1, 2, 3, 8, 9, 10] [] (.seq (.seq (.region [⟨some 22, .move (.tmp 10), none⟩,
       ⟨some 23, .bin .leq .none (.tmp 22) (.const (.int .i64 12)), none⟩])
    (.keep [0, 1, 2, 3, 8, 9, 10, 23] [] (.cond (.tmp 23)
     (.seq (.region [⟨some 24, .move (.tmp 0), none⟩,
        ⟨some 25, .move (.tmp 1), none⟩,
        ⟨some 26, .move (.tmp 2), none⟩,
        ⟨some 27, .call (.func 235) [(.tmp 24), (.tmp 25), (.tmp 26)], none⟩])
     (.keep [] [] (.ret)))
     (.skip))))
   (.keep [0, 1, 2, 3, 8, 9, 10] [] (.seq (.seq (.region [⟨some 28, .move (.tmp 3), none⟩,
       ⟨some 29, .bin .eql .int (.tmp 28) (.const (.int .i64 0)), none⟩])
    (.keep [0, 1, 2, 3, 8, 9, 10, 29] [] (.cond (.tmp 29)
     (.seq (.region [⟨some 30, .move (.tmp 0), none⟩,
        ⟨some 31, .move (.tmp 1), none⟩,
        ⟨some 32, .move (.tmp 2), none⟩,
        ⟨some 33, .call (.func 236) [(.tmp 30), (.tmp 31), (.tmp 32)], none⟩])
     (.keep [] [] (.ret)))
     (.skip))))
   (.keep [0, 1, 2, 3, 8, 9, 10] [] (.seq (.seq (.region [⟨some 34, .move (.tmp 8), none⟩,
       ⟨some 35, .un .not (.tmp 34), none⟩])
    (.keep [0, 1, 2, 3, 8, 9, 10, 35] [] (.cond (.tmp 35)
     (.seq (.region [⟨some 36, .move (.tmp 0), none⟩,
        ⟨some 37, .move (.tmp 1), none⟩,
        ⟨some 38, .move (.tmp 2), none⟩,
        ⟨some 39, .call (.func 237) [(.tmp 36), (.tmp 37), (.tmp 38)], none⟩])
     (.keep [0, 1, 2, 3, 8, 9, 10] [] (.region [⟨some 40, .move (.tmp 3), none⟩,
       ⟨some 41, .bin .sub .none (.tmp 40) (.const (.int .i64 1)), none⟩,
       ⟨some 3, .move (.tmp 41), none⟩])))
     (.skip))))
   (.keep [0, 1, 2, 3, 8, 9, 10] [] (.seq (.region [⟨some 43, .move (.tmp 0), none⟩,
      ⟨some 44, .move (.tmp 1), none⟩,
      ⟨some 45, .move (.tmp 2), none⟩,
      ⟨some 46, .call (.func 238) [(.tmp 43), (.tmp 44), (.tmp 45)], none⟩,
      ⟨some 42, .move (.tmp 46), none⟩,
      ⟨some 47, .extract (.tmp 42) 0, none⟩,
      ⟨some 48, .extract (.tmp 42) 1, none⟩,
      ⟨some 11, .move (.tmp 47), none⟩,
      ⟨some 12, .move (.tmp 48), none⟩])
   (.keep [0, 1, 2, 3, 8, 9, 10, 11, 12] [] (.seq (.seq (.region [⟨some 49, .move (.tmp 12), none⟩,
       ⟨some 50, .bin .eql .int (.tmp 49) (.const (.int .i64 2)), none⟩])
    (.keep [0, 1, 2, 3, 8, 9, 10, 11, 12, 50] [] (.cond (.tmp 50)
     (.seq (.region [⟨some 51, .move (.tmp 0), none⟩,
        ⟨some 52, .move (.tmp 1), none⟩,
        ⟨some 53, .move (.tmp 2), none⟩,
        ⟨some 54, .call (.func 239) [(.tmp 51), (.tmp 52), (.tmp 53)], none⟩])
     (.keep [0, 1, 2, 3, 8, 9, 10, 11] [] (.seq (.region [⟨some 55, .move (.tmp 2), none⟩,
        ⟨some 56, .bin .sub .none (.tmp 55) (.const (.int .i64 1)), none⟩,
        ⟨some 57, .move (.tmp 11), none⟩,
        ⟨some 58, .move (.tmp 1), none⟩,
        ⟨some 59, .bin .sub .none (.tmp 57) (.tmp 58), none⟩,
        ⟨some 60, .bin .sub .none (.tmp 56) (.tmp 59), none⟩,
        ⟨some 11, .move (.tmp 60), none⟩])
     (.keep [0, 1, 2, 3, 8, 9, 10, 11] [] (.region [⟨some 12, .move (.const (.int .i64 1)), none⟩])))))
     (.skip))))
   (.keep [0, 1, 2, 3, 8, 9, 10, 11, 12] [] (.seq (.seq (.region [⟨some 61, .move (.tmp 8), none⟩,
       ⟨some 62, .move (.tmp 61), none⟩,
       ⟨some 63, .move (.tmp 9), some (62, true)⟩,
       ⟨some 64, .pick (.tmp 62) (.tmp 63) (.const (.bool false)), none⟩,
       ⟨some 65, .move (.tmp 64), none⟩,
       ⟨some 66, .move (.tmp 12), some (65, true)⟩,
       ⟨some 67, .bin .eql .int (.tmp 66) (.const (.int .i64 1)), some (65, true)⟩,
       ⟨some 68, .pick (.tmp 65) (.tmp 67) (.const (.bool false)), none⟩])
    (.keep [0, 1, 2, 3, 8, 9, 10, 11, 68] [] (.cond (.tmp 68)
     (.seq (.region [⟨some 69, .move (.tmp 0), none⟩,
        ⟨some 70, .move (.tmp 1), none⟩,
        ⟨some 71, .move (.tmp 2), none⟩,
        ⟨some 72, .call (.func 240) [(.tmp 69), (.tmp 70), (.tmp 71)], none⟩])
     (.keep [0, 1, 2, 3, 8, 9, 10, 11, 72] [] (.cond (.tmp 72)
      (.ret)
      (.skip))))
     (.skip))))
   (.keep [0, 1, 2, 3, 8, 9, 10, 11] [] (.seq (.seq (.regionD [⟨some 73, .move (.tmp 1), none⟩,
       ⟨some 74, .bin .gtr .none (.tmp 73) (.const (.int .i64 0)), none⟩,
       ⟨some 75, .move (.tmp 74), none⟩,
       ⟨some 76, .move (.tmp 0), some (75, true)⟩,
       ⟨some 77, .move (.tmp 1), some (75, true)⟩,
       ⟨some 78, .bin .sub .none (.tmp 77) (.const (.int .i64 1)), some (75, true)⟩,
       ⟨some 79, .indexAddr none 1 (.tmp 76) (.tmp 78), some (75, true)⟩,
       ⟨some 80, .load false 1 (.tmp 79), some (75, true)⟩,
       ⟨some 81, .move (.tmp 0), some (75, true)⟩,
       ⟨some 82, .move (.tmp 11), some (75, true)⟩,
       ⟨some 83, .indexAddr none 1 (.tmp 81) (.tmp 82), some (75, true)⟩,
       ⟨some 84, .load false 1 (.tmp 83), some (75, true)⟩,
       ⟨some 85, .call (.func 241) [(.tmp 80), (.tmp 84)], some (75, true)⟩,
       ⟨some 86, .un .not (.tmp 85), some (75, true)⟩,
       ⟨some 87, .pick (.tmp 75) (.tmp 86) (.const (.bool false)), none⟩] [])
    (.keep [0, 1, 2, 3, 8, 9, 10, 11, 87] [] (.cond (.tmp 87)
     (.seq (.region [⟨some 88, .move (.tmp 0), none⟩,
        ⟨some 89, .move (.tmp 1), none⟩,
        ⟨some 90, .move (.tmp 2), none⟩,
        ⟨some 91, .move (.tmp 11), none⟩,
        ⟨some 92, .call (.func 242) [(.tmp 88), (.tmp 89), (.tmp 90), (.tmp 91)], none⟩,
        ⟨some 13, .move (.tmp 92), none⟩])
     (.keep [0, 2, 3, 8, 9, 13] [] (.seq (.region [⟨some 93, .move (.tmp 13), none⟩,
        ⟨some 1, .move (.tmp 93), none⟩])
     (.keep [0, 1, 2, 3, 8, 9] [] (.exit 1)))))
     (.skip))))
   (.keep [0, 1, 2, 3, 10, 11] [] (.seq (.region [⟨some 95, .move (.tmp 0), none⟩,
      ⟨some 96, .move (.tmp 1), none⟩,
      ⟨some 97, .move (.tmp 2), none⟩,
      ⟨some 98, .move (.tmp 11), none⟩,
      ⟨some 99, .call (.func 243) [(.tmp 95), (.tmp 96), (.tmp 97), (.tmp 98)], none⟩,
      ⟨some 94, .move (.tmp 99), none⟩,
      ⟨some 100, .extract (.tmp 94) 0, none⟩,
      ⟨some 101, .extract (.tmp 94) 1, none⟩,
      ⟨some 14, .move (.tmp 100), none⟩,
      ⟨some 15, .move (.tmp 101), none⟩])
   (.keep [0, 1, 2, 3, 10, 14, 15] [] (.seq (.region [⟨some 102, .move (.tmp 15), none⟩,
      ⟨some 9, .move (.tmp 102), none⟩])
   (.keep [0, 1, 2, 3, 9, 10, 14] [] (.seq (.region [⟨some 103, .move (.tmp 14), none⟩,
      ⟨some 104, .move (.tmp 1), none⟩,
      ⟨some 105, .bin .sub .none (.tmp 103) (.tmp 104), none⟩,
      ⟨some 106, .move (.tmp 2), none⟩,
      ⟨some 107, .move (.tmp 14), none⟩,
      ⟨some 108, .bin .sub .none (.tmp 106) (.tmp 107), none⟩,
      ⟨some 16, .move (.tmp 105), none⟩,
      ⟨some 17, .move (.tmp 108), none⟩])
   (.keep [0, 1, 2, 3, 9, 10, 14, 16, 17] [] (.seq (.region [⟨some 109, .move (.tmp 10), none⟩,
      ⟨some 110, .bin .quo .none (.tmp 109) (.const (.int .i64 8)), none⟩,
      ⟨some 18, .move (.tmp 110), none⟩])
   (.keep [0, 1, 2, 3, 9, 14, 16, 17, 18] [] (.seq (.region [⟨some 111, .move (.tmp 16), none⟩,
      ⟨some 112, .move (.tmp 17), none⟩,
      ⟨some 113, .bin .lss .none (.tmp 111) (.tmp 112), none⟩])
   (.keep [0, 1, 2, 3, 9, 14, 16, 17, 18, 113] [] (.cond (.tmp 113)
    (.seq (.region [⟨some 114, .move (.tmp 16), none⟩,
       ⟨some 115, .move (.tmp 18), none⟩,
       ⟨some 116, .bin .geq .none (.tmp 114) (.tmp 115), none⟩,
       ⟨some 8, .move (.tmp 116), none⟩])
    (.keep [0, 1, 2, 3, 8, 9, 14] [] (.seq (.region [⟨some 117, .move (.tmp 0), none⟩,
       ⟨some 118, .move (.tmp 1), none⟩,
       ⟨some 119, .move (.tmp 14), none⟩,
       ⟨some 120, .move (.tmp 3), none⟩,
       ⟨some 121, .call (.func 203) [(.tmp 117), (.tmp 118), (.tmp 119), (.tmp 120)], none⟩])
    (.keep [0, 2, 3, 8, 9, 14] [] (.region [⟨some 122, .move (.tmp 14), none⟩,
      ⟨some 123, .bin .add .none (.tmp 122) (.const (.int .i64 1)), none⟩,
      ⟨some 1, .move (.tmp 123), none⟩])))))
    (.seq (.region [⟨some 124, .move (.tmp 17), none⟩,
       ⟨some 125, .move (.tmp 18), none⟩,
       ⟨some 126, .bin .geq .none (.tmp 124) (.tmp 125), none⟩,
       ⟨some 8, .move (.tmp 126), none⟩])
    (.keep [0, 1, 2, 3, 8, 9, 14] [] (.seq (.region [⟨some 127, .move (.tmp 0), none⟩,
       ⟨some 128, .move (.tmp 14), none⟩,
       ⟨some 129, .bin .add .none (.tmp 128) (.const (.int .i64 1)), none⟩,
       ⟨some 130, .move (.tmp 2), none⟩,
       ⟨some 131, .move (.tmp 3), none⟩,
       ⟨some 132, .call (.func 203) [(.tmp 127), (.tmp 129), (.tmp 130), (.tmp 131)], none⟩])
    (.keep [0, 1, 3, 8, 9, 14] [] (.region [⟨some 133, .move (.tmp 14), none⟩,
      ⟨some 2, .move (.tmp 133), none⟩])))))))))))))))))))))))))))))))))
def F203 : FnIR := ⟨134, 4, [], [],
  .seq (.region [⟨some 8, .move (.const (.bool true)), none⟩])
  (.keep [0, 1, 2, 3, 8] [] (.seq (.region [⟨some 9, .move (.const (.bool true)), none⟩])
  (.keep [0, 1, 2, 3, 8, 9] [] (.block 0 (.loop L203_0)))))⟩
/-- slices.insertionSortOrdered[string] -/
def L235_0 : IC :=
  .keep [0, 1, 2, 6, 7] [] (.seq (.seq (.regionD [⟨some 16, .move (.tmp 7), none⟩,
      ⟨some 17, .move (.tmp 1), none⟩,
      ⟨some 18, .bin .gtr .none (.tmp 16) (.tmp 17), none⟩,
      ⟨some 19, .move (.tmp 18), none⟩,
      ⟨some 20, .move (.tmp 0), some (19, true)⟩,
      ⟨some 21, .move (.tmp 7), some (19, true)⟩,
      ⟨some 22, .indexAddr none 1 (.tmp 20) (.tmp 21), some (19, true)⟩,
      ⟨some 23, .load false 1 (.tmp 22), some (19, true)⟩,
      ⟨some 24, .move (.tmp 0), some (19, true)⟩,
      ⟨some 25, .move (.tmp 7), some (19, true)⟩,
      ⟨some 26, .bin .sub .none (.tmp 25) (.const (.int .i64 1)), some (19, true)⟩,
      ⟨some 27, .indexAddr none 1 (.tmp 24) (.tmp 26), some (19, true)⟩,
      ⟨some 28, .load false 1 (.tmp 27), some (19, true)⟩,
      ⟨some 29, .call (.func 241) [(.tmp 23), (.tmp 28)], some (19, true)⟩,
      ⟨some 30, .pick (.tmp 19) (.tmp 29) (.const (.bool false)), none⟩] [])
   (.keep [0, 1, 2, 6, 7, 30] [] (.cond (.tmp 30)
    (.skip)
    (.exit 2))))
  (.keep [0, 1, 2, 6, 7] [] (.seq (.block 3 (.regionD [⟨some 33, .move (.tmp 0), none⟩,
      ⟨some 34, .move (.tmp 7), none⟩,
      ⟨some 38, .move (.tmp 0), none⟩,
      ⟨some 39, .move (.tmp 7), none⟩,
      ⟨some 40, .bin .sub .none (.tmp 39) (.const (.int .i64 1)), none⟩,
      ⟨some 41, .indexAddr none 1 (.tmp 38) (.tmp 40), none⟩,
      ⟨some 42, .load false 1 (.tmp 41), none⟩,
      ⟨some 43, .move (.tmp 0), none⟩,
      ⟨some 44, .move (.tmp 7), none⟩,
      ⟨some 45, .indexAddr none 1 (.tmp 43) (.tmp 44), none⟩,
      ⟨some 46, .load false 1 (.tmp 45), none⟩,
      ⟨some 47, .indexAddr none 1 (.tmp 33) (.tmp 34), none⟩,
      ⟨none, .store 1 (.tmp 47) (.tmp 42), none⟩,
      ⟨some 35, .move (.tmp 0), none⟩,
      ⟨some 36, .move (.tmp 7), none⟩,
      ⟨some 37, .bin .sub .none (.tmp 36) (.const (.int .i64 1)), none⟩,
      ⟨some 48, .indexAddr none 1 (.tmp 35) (.tmp 37), none⟩,
      ⟨none, .store 1 (.tmp 48) (.tmp 46), none⟩] []))
  (.keep [0, 1, 2, 6, 7] [] (.region [⟨some 31, .move (.tmp 7), none⟩,
    ⟨some 32, .bin .sub .none (.tmp 31) (.const (.int .i64 1)), none⟩,
    ⟨some 7, .move (.tmp 32), none⟩])))))
def L235_1 : IC :=
  .keep [0, 1, 2, 6] [] (.seq (.seq (.region [⟨some 10, .move (.tmp 6), none⟩,
      ⟨some 11, .move (.tmp 2), none⟩,
      ⟨some 12, .bin .lss .none (.tmp 10) (.tmp 11), none⟩])
   (.keep [0, 1, 2, 6, 12] [] (.cond (.tmp 12)
    (.skip)
    (.exit 0))))
  (.keep [0, 1, 2, 6] [] (.seq (.block 1 (.seq (.region [⟨some 15, .move (.tmp 6), none⟩,
       ⟨some 7, .move (.tmp 15), none⟩])
    (.keep [0, 1, 2, 6, 7] [] (.block 2 (.loop L235_0)))))
  (.keep [0, 1, 2, 6] [] (.region [⟨some 13, .move (.tmp 6), none⟩,
    ⟨some 14, .bin .add .none (.tmp 13) (.const (.int .i64 1)), none⟩,
    ⟨some 6, .move (.tmp 14), none⟩])))))
def F235 : FnIR := ⟨49, 3, [], [],
  .seq (.region [⟨some 8, .move (.tmp 1), none⟩,
     ⟨some 9, .bin .add .none (.tmp 8) (.const (.int .i64 1)), none⟩,
     ⟨some 6, .move (.tmp 9), none⟩])
  (.keep [0, 1, 2, 6] [] (.block 0 (.loop L235_1)))⟩
/-- cmp.Less[string] -/
def F241 : FnIR := ⟨17, 2, [.tmp 4], [],
  .seq (.region [⟨some 4, .move (.const (.bool false)), none⟩])
  (.keep [0, 1] [] (.seq (.region [⟨some 5, .move (.tmp 0), none⟩,
     ⟨some 6, .call (.func 265) [(.tmp 5)], none⟩,
     ⟨some 7, .move (.tmp 6), none⟩,
     ⟨some 8, .move (.tmp 1), some (7, true)⟩,
     ⟨some 9, .call (.func 265) [(.tmp 8)], some (7, true)⟩,
     ⟨some 10, .un .not (.tmp 9), some (7, true)⟩,
     ⟨some 11, .pick (.tmp 7) (.tmp 10) (.const (.bool false)), none⟩,
     ⟨some 12, .move (.tmp 11), none⟩,
     ⟨some 13, .move (.tmp 0), some (12, false)⟩,
     ⟨some 14, .move (.tmp 1), some (12, false)⟩,
     ⟨some 15, .bin .lss .none (.tmp 13) (.tmp 14), some (12, false)⟩,
     ⟨some 16, .pick (.tmp 12) (.const (.bool true)) (.tmp 15), none⟩,
     ⟨some 4, .move (.tmp 16), none⟩])
  (.keep [4] [] (.ret))))⟩
/-- cmp.isNaN[string] -/
def F265 : FnIR := ⟨6, 1, [.tmp 2], [],
  .seq (.region [⟨some 2, .move (.const (.bool false)), none⟩])
  (.keep [0] [] (.seq (.region [⟨some 3, .move (.tmp 0), none⟩,
     ⟨some 4, .move (.tmp 0), none⟩,
     ⟨some 5, .bin .neq .str (.tmp 3) (.tmp 4), none⟩,
     ⟨some 2, .move (.tmp 5), none⟩])
  (.keep [2] [] (.ret))))⟩
/-- slices.heapSortOrdered[string] -/
def L236_0 : IC :=
  .keep [0, 6, 7, 8, 9] [] (.seq (.seq (.region [⟨some 18, .move (.tmp 9), none⟩,
      ⟨some 19, .bin .geq .none (.tmp 18) (.const (.int .i64 0)), none⟩])
   (.keep [0, 6, 7, 8, 9, 19] [] (.cond (.tmp 19)
    (.skip)
    (.exit 0))))
  (.keep [0, 6, 7, 8, 9] [] (.seq (.block 1 (.region [⟨some 22, .move (.tmp 0), none⟩,
      ⟨some 23, .move (.tmp 9), none⟩,
      ⟨some 24, .move (.tmp 8), none⟩,
      ⟨some 25, .move (.tmp 6), none⟩,
      ⟨some 26, .call (.func 260) [(.tmp 22), (.tmp 23), (.tmp 24), (.tmp 25)], none⟩]))
  (.keep [0, 6, 7, 8, 9] [] (.region [⟨some 20, .move (.tmp 9), none⟩,
    ⟨some 21, .bin .sub .none (.tmp 20) (.const (.int .i64 1)), none⟩,
    ⟨some 9, .move (.tmp 21), none⟩])))))
def L236_1 : IC :=
  .keep [0, 6, 7, 10] [] (.seq (.seq (.region [⟨some 29, .move (.tmp 10), none⟩,
      ⟨some 30, .bin .geq .none (.tmp 29) (.const (.int .i64 0)), none⟩])
   (.keep [0, 6, 7, 10, 30] [] (.cond (.tmp 30)
    (.skip)
    (.exit 2))))
  (.keep [0, 6, 7, 10] [] (.seq (.block 3 (.seq (.regionD [⟨some 33, .move (.tmp 0), none⟩,
       ⟨some 34, .move (.tmp 6), none⟩,
       ⟨some 39, .move (.tmp 0), none⟩,
       ⟨some 40, .move (.tmp 6), none⟩,
       ⟨some 41, .move (.tmp 10), none⟩,
       ⟨some 42, .bin .add .none (.tmp 40) (.tmp 41), none⟩,
       ⟨some 43, .indexAddr none 1 (.tmp 39) (.tmp 42), none⟩,
       ⟨some 44, .load false 1 (.tmp 43), none⟩,
       ⟨some 45, .move (.tmp 0), none⟩,
       ⟨some 46, .move (.tmp 6), none⟩,
       ⟨some 47, .indexAddr none 1 (.tmp 45) (.tmp 46), none⟩,
       ⟨some 48, .load false 1 (.tmp 47), none⟩,
       ⟨some 49, .indexAddr none 1 (.tmp 33) (.tmp 34), none⟩,
       ⟨none, .store 1 (.tmp 49) (.tmp 44), none⟩,
       ⟨some 35, .move (.tmp 0), none⟩,
       ⟨some 36, .move (.tmp 6), none⟩,
       ⟨some 37, .move (.tmp 10), none⟩,
       ⟨some 38, .bin .add .none (.tmp 36) (.tmp 37), none⟩,
       ⟨some 50, .indexAddr none 1 (.tmp 35) (.tmp 38), none⟩,
       ⟨none, .store 1 (.tmp 50) (.tmp 48), none⟩] [])
    (.keep [0, 6, 7, 10] [] (.region [⟨some 51, .move (.tmp 0), none⟩,
      ⟨some 52, .move (.tmp 7), none⟩,
      ⟨some 53, .move (.tmp 10), none⟩,
      ⟨some 54, .move (.tmp 6), none⟩,
      ⟨some 55, .call (.func 260) [(.tmp 51), (.tmp 52), (.tmp 53), (.tmp 54)], none⟩]))))
  (.keep [0, 6, 7, 10] [] (.region [⟨some 31, .move (.tmp 10), none⟩,
    ⟨some 32, .bin .sub .none (.tmp 31) (.const (.int .i64 1)), none⟩,
    ⟨some 10, .move (.tmp 32), none⟩])))))
def F236 : FnIR := ⟨56, 3, [], [],
  .seq (.region [⟨some 11, .move (.tmp 1), none⟩,
     ⟨some 6, .move (.tmp 11), none⟩])
  (.keep [0, 1, 2, 6] [] (.seq (.region [⟨some 7, .move (.const (.int .i64 0)), none⟩])
  (.keep [0, 1, 2, 6, 7] [] (.seq (.region [⟨some 12, .move (.tmp 2), none⟩,
     ⟨some 13, .move (.tmp 1), none⟩,
     ⟨some 14, .bin .sub .none (.tmp 12) (.tmp 13), none⟩,
     ⟨some 8, .move (.tmp 14), none⟩])
  (.keep [0, 6, 7, 8] [] (.seq (.seq (.region [⟨some 15, .move (.tmp 8), none⟩,
      ⟨some 16, .bin .sub .none (.tmp 15) (.const (.int .i64 1)), none⟩,
      ⟨some 17, .bin .quo .none (.tmp 16) (.const (.int .i64 2)), none⟩,
      ⟨some 9, .move (.tmp 17), none⟩])
   (.keep [0, 6, 7, 8, 9] [] (.block 0 (.loop L236_0))))
  (.keep [0, 6, 7, 8] [] (.seq (.region [⟨some 27, .move (.tmp 8), none⟩,
     ⟨some 28, .bin .sub .none (.tmp 27) (.const (.int .i64 1)), none⟩,
     ⟨some 10, .move (.tmp 28), none⟩])
  (.keep [0, 6, 7, 10] [] (.block 2 (.loop L236_1)))))))))))⟩
/-- slices.siftDownOrdered[string] -/
def L260_0 : IC :=
  .keep [0, 2, 3, 8] [] (.block 1 (.seq (.region [⟨some 11, .move (.tmp 8), none⟩,
      ⟨some 12, .bin .mul .none (.const (.int .i64 2)) (.tmp 11), none⟩,
      ⟨some 13, .bin .add .none (.tmp 12) (.const (.int .i64 1)), none⟩,
      ⟨some 9, .move (.tmp 13), none⟩])
   (.keep [0, 2, 3, 8, 9] [] (.seq (.seq (.region [⟨some 14, .move (.tmp 9), none⟩,
       ⟨some 15, .move (.tmp 2), none⟩,
       ⟨some 16, .bin .geq .none (.tmp 14) (.tmp 15), none⟩])
    (.keep [0, 2, 3, 8, 9, 16] [] (.cond (.tmp 16)
     (.exit 0)
     (.skip))))
   (.keep [0, 2, 3, 8, 9] [] (.seq (.seq (.regionD [⟨some 17, .move (.tmp 9), none⟩,
       ⟨some 18, .bin .add .none (.tmp 17) (.const (.int .i64 1)), none⟩,
       ⟨some 19, .move (.tmp 2), none⟩,
       ⟨some 20, .bin .lss .none (.tmp 18) (.tmp 19), none⟩,
       ⟨some 21, .move (.tmp 20), none⟩,
       ⟨some 22, .move (.tmp 0), some (21, true)⟩,
       ⟨some 23, .move (.tmp 3), some (21, true)⟩,
       ⟨some 24, .move (.tmp 9), some (21, true)⟩,
       ⟨some 25, .bin .add .none (.tmp 23) (.tmp 24), some (21, true)⟩,
       ⟨some 26, .indexAddr none 1 (.tmp 22) (.tmp 25), some (21, true)⟩,
       ⟨some 27, .load false 1 (.tmp 26), some (21, true)⟩,
       ⟨some 28, .move (.tmp 0), some (21, true)⟩,
       ⟨some 29, .move (.tmp 3), some (21, true)⟩,
       ⟨some 30, .move (.tmp 9), some (21, true)⟩,
       ⟨some 31, .bin .add .none (.tmp 29) (.tmp 30), some (21, true)⟩,
       ⟨some 32, .bin .add .none (.tmp 31) (.const (.int .i64 1)), some (21, true)⟩,
       ⟨some 33, .indexAddr none 1 (.tmp 28) (.tmp 32), some (21, true)⟩,
       ⟨some 34, .load false 1 (.tmp 33), some (21, true)⟩,
       ⟨some 35, .call (.func 241) [(.tmp 27), (.tmp 34)], some (21, true)⟩,
       ⟨some 36, .pick (.tmp 21) (.tmp 35) (.const (.bool false)), none⟩] [])
    (.keep [0, 2, 3, 8, 9, 36] [] (.cond (.tmp 36)
     (.region [⟨some 37, .move (.tmp 9), none⟩,
       ⟨some 38, .bin .add .none (.tmp 37) (.const (.int .i64 1)), none⟩,
       ⟨some 9, .move (.tmp 38), none⟩])
     (.skip))))
   (.keep [0, 2, 3, 8, 9] [] (.seq (.seq (.regionD [⟨some 39, .move (.tmp 0), none⟩,
       ⟨some 40, .move (.tmp 3), none⟩,
       ⟨some 41, .move (.tmp 8), none⟩,
       ⟨some 42, .bin .add .none (.tmp 40) (.tmp 41), none⟩,
       ⟨some 43, .indexAddr none 1 (.tmp 39) (.tmp 42), none⟩,
       ⟨some 44, .load false 1 (.tmp 43), none⟩,
       ⟨some 45, .move (.tmp 0), none⟩,
       ⟨some 46, .move (.tmp 3), none⟩,
       ⟨some 47, .move (.tmp 9), none⟩,
       ⟨some 48, .bin .add .none (.tmp 46) (.tmp 47), none⟩,
       ⟨some 49, .indexAddr none 1 (.tmp 45) (.tmp 48), none⟩,
       ⟨some 50, .load false 1 (.tmp 49), none⟩,
       ⟨some 51, .call (.func 241) [(.tmp 44), (.tmp 50)], none⟩,
       ⟨some 52, .un .not (.tmp 51), none⟩] [])
    (.keep [0, 2, 3, 8, 9, 52] [] (.cond (.tmp 52)
     (.ret)
     (.skip))))
   (.keep [0, 2, 3, 8, 9] [] (.seq (.regionD [⟨some 53, .move (.tmp 0), none⟩,
      ⟨some 54, .move (.tmp 3), none⟩,
      ⟨some 55, .move (.tmp 8), none⟩,
      ⟨some 56, .bin .add .none (.tmp 54) (.tmp 55), none⟩,
      ⟨some 61, .move (.tmp 0), none⟩,
      ⟨some 62, .move (.tmp 3), none⟩,
      ⟨some 63, .move (.tmp 9), none⟩,
      ⟨some 64, .bin .add .none (.tmp 62) (.tmp 63), none⟩,
      ⟨some 65, .indexAddr none 1 (.tmp 61) (.tmp 64), none⟩,
      ⟨some 66, .load false 1 (.tmp 65), none⟩,
      ⟨some 67, .move (.tmp 0), none⟩,
      ⟨some 68, .move (.tmp 3), none⟩,
      ⟨some 69, .move (.tmp 8), none⟩,
      ⟨some 70, .bin .add .none (.tmp 68) (.tmp 69), none⟩,
      ⟨some 71, .indexAddr none 1 (.tmp 67) (.tmp 70), none⟩,
      ⟨some 72, .load false 1 (.tmp 71), none⟩,
      ⟨some 73, .indexAddr none 1 (.tmp 53) (.tmp 56), none⟩,
      ⟨none, .store 1 (.tmp 73) (.tmp 66), none⟩,
      ⟨some 57, .move (.tmp 0), none⟩,
      ⟨some 58, .move (.tmp 3), none⟩,
      ⟨some 59, .move (.tmp 9), none⟩,
      ⟨some 60, .bin .add .none (.tmp 58) (.tmp 59), none⟩,
      ⟨some 74, .indexAddr none 1 (.tmp 57) (.tmp 60), none⟩,
      ⟨none, .store 1 (.tmp 74) (.tmp 72), none⟩] [])
   (.keep [0, 2, 3, 9] [] (.region [⟨some 75, .move (.tmp 9), none⟩,
     ⟨some 8, .move (.tmp 75), none⟩]))))))))))))
def F260 : FnIR := ⟨76, 4, [], [],
  .seq (.region [⟨some 10, .move (.tmp 1), none⟩,
     ⟨some 8, .move (.tmp 10), none⟩])
  (.keep [0, 2, 3, 8] [] (.block 0 (.loop L260_0)))⟩
/-- slices.breakPatternsOrdered[string] -/
def L237_0 : IC :=
  .keep [0, 1, 6, 7, 8, 9] [] (.seq (.seq (.region [⟨some 26, .move (.tmp 9), none⟩,
      ⟨some 27, .move (.tmp 1), none⟩,
      ⟨some 28, .move (.tmp 6), none⟩,
      ⟨some 29, .bin .quo .none (.tmp 28) (.const (.int .i64 4)), none⟩,
      ⟨some 30, .bin .mul .none (.tmp 29) (.const (.int .i64 2)), none⟩,
      ⟨some 31, .bin .add .none (.tmp 27) (.tmp 30), none⟩,
      ⟨some 32, .bin .add .none (.tmp 31) (.const (.int .i64 1)), none⟩,
      ⟨some 33, .bin .leq .none (.tmp 26) (.tmp 32), none⟩])
   (.keep [0, 1, 6, 7, 8, 9, 33] [] (.cond (.tmp 33)
    (.skip)
    (.exit 0))))
  (.keep [0, 1, 6, 7, 8, 9] [] (.seq (.block 1 (.seq (.region [⟨some 36, .call (.func 262) [(.tmp 7)], none⟩,
       ⟨some 37, .move (.tmp 8), none⟩,
       ⟨some 38, .bin .sub .none (.tmp 37) (.const (.int .u64 1)), none⟩,
       ⟨some 39, .bin .and .none (.tmp 36) (.tmp 38), none⟩,
       ⟨some 40, .conv (.toInt .i64) (.tmp 39), none⟩,
       ⟨some 10, .move (.tmp 40), none⟩])
    (.keep [0, 1, 6, 7, 8, 9, 10] [] (.seq (.seq (.region [⟨some 41, .move (.tmp 10), none⟩,
        ⟨some 42, .move (.tmp 6), none⟩,
        ⟨some 43, .bin .geq .none (.tmp 41) (.tmp 42), none⟩])
     (.keep [0, 1, 6, 7, 8, 9, 10, 43] [] (.cond (.tmp 43)
      (.region [⟨some 44, .move (.tmp 10), none⟩,
        ⟨some 45, .move (.tmp 6), none⟩,
        ⟨some 46, .bin .sub .none (.tmp 44) (.tmp 45), none⟩,
        ⟨some 10, .move (.tmp 46), none⟩])
      (.skip))))
    (.keep [0, 1, 6, 7, 8, 9, 10] [] (.regionD [⟨some 47, .move (.tmp 0), none⟩,
      ⟨some 48, .move (.tmp 9), none⟩,
      ⟨some 53, .move (.tmp 0), none⟩,
      ⟨some 54, .move (.tmp 1), none⟩,
      ⟨some 55, .move (.tmp 10), none⟩,
      ⟨some 56, .bin .add .none (.tmp 54) (.tmp 55), none⟩,
      ⟨some 57, .indexAddr none 1 (.tmp 53) (.tmp 56), none⟩,
      ⟨some 58, .load false 1 (.tmp 57), none⟩,
      ⟨some 59, .move (.tmp 0), none⟩,
      ⟨some 60, .move (.tmp 9), none⟩,
      ⟨some 61, .indexAddr none 1 (.tmp 59) (.tmp 60), none⟩,
      ⟨some 62, .load false 1 (.tmp 61), none⟩,
      ⟨some 63, .indexAddr none 1 (.tmp 47) (.tmp 48), none⟩,
      ⟨none, .store 1 (.tmp 63) (.tmp 58), none⟩,
      ⟨some 49, .move (.tmp 0), none⟩,
      ⟨some 50, .move (.tmp 1), none⟩,
      ⟨some 51, .move (.tmp 10), none⟩,
      ⟨some 52, .bin .add .none (.tmp 50) (.tmp 51), none⟩,
      ⟨some 64, .indexAddr none 1 (.tmp 49) (.tmp 52), none⟩,
      ⟨none, .store 1 (.tmp 64) (.tmp 62), none⟩] []))))))
  (.keep [0, 1, 6, 7, 8, 9] [] (.region [⟨some 34, .move (.tmp 9), none⟩,
    ⟨some 35, .bin .add .none (.tmp 34) (.const (.int .i64 1)), none⟩,
    ⟨some 9, .move (.tmp 35), none⟩])))))
def F237 : FnIR := ⟨65, 3, [], [],
  .seq (.region [⟨some 11, .move (.tmp 2), none⟩,
     ⟨some 12, .move (.tmp 1), none⟩,
     ⟨some 13, .bin .sub .none (.tmp 11) (.tmp 12), none⟩,
     ⟨some 6, .move (.tmp 13), none⟩])
  (.keep [0, 1, 6] [] (.seq (.region [⟨some 14, .move (.tmp 6), none⟩,
     ⟨some 15, .bin .geq .none (.tmp 14) (.const (.int .i64 8)), none⟩])
  (.keep [0, 1, 6, 15] [] (.cond (.tmp 15)
   (.seq (.region [⟨some 16, .move (.tmp 6), none⟩,
      ⟨some 17, .conv (.toInt .u64) (.tmp 16), none⟩,
      ⟨some 7, .alloc false 1 [(.int .u64 0)], none⟩,
      ⟨none, .store 1 (.tmp 7) (.tmp 17), none⟩])
   (.keep [0, 1, 6, 7] [] (.seq (.region [⟨some 18, .move (.tmp 6), none⟩,
      ⟨some 19, .call (.func 261) [(.tmp 18)], none⟩,
      ⟨some 8, .move (.tmp 19), none⟩])
   (.keep [0, 1, 6, 7, 8] [] (.seq (.region [⟨some 20, .move (.tmp 1), none⟩,
      ⟨some 21, .move (.tmp 6), none⟩,
      ⟨some 22, .bin .quo .none (.tmp 21) (.const (.int .i64 4)), none⟩,
      ⟨some 23, .bin .mul .none (.tmp 22) (.const (.int .i64 2)), none⟩,
      ⟨some 24, .bin .add .none (.tmp 20) (.tmp 23), none⟩,
      ⟨some 25, .bin .sub .none (.tmp 24) (.const (.int .i64 1)), none⟩,
      ⟨some 9, .move (.tmp 25), none⟩])
   (.keep [0, 1, 6, 7, 8, 9] [] (.block 0 (.loop L237_0))))))))
   (.skip)))))⟩
/-- slices.nextPowerOfTwo -/
def F261 : FnIR := ⟨7, 1, [.tmp 2], [],
  .seq (.region [⟨some 2, .move (.const (.int .u64 0)), none⟩])
  (.keep [0] [] (.seq (.region [⟨some 3, .move (.tmp 0), none⟩,
     ⟨some 4, .conv (.toInt .u64) (.tmp 3), none⟩,
     ⟨some 5, .call (.func 204) [(.tmp 4)], none⟩,
     ⟨some 6, .bin .shl .none (.const (.int .u64 1)) (.tmp 5), none⟩,
     ⟨some 2, .move (.tmp 6), none⟩])
  (.keep [2] [] (.ret))))⟩
/-- (*slices.xorshift).Next -/
def F262 : FnIR := ⟨33, 1, [.tmp 2], [],
  .seq (.region [⟨some 2, .move (.const (.int .u64 0)), none⟩])
  (.keep [0] [] (.seq (.regionD [⟨some 3, .move (.tmp 0), none⟩,
     ⟨some 4, .nilCheck (.tmp 3), none⟩,
     ⟨some 5, .load false 1 (.tmp 4), none⟩,
     ⟨some 6, .move (.tmp 0), none⟩,
     ⟨some 7, .nilCheck (.tmp 6), none⟩,
     ⟨some 8, .load false 1 (.tmp 7), none⟩,
     ⟨some 9, .bin .shl .none (.tmp 8) (.const (.int .u64 13)), none⟩,
     ⟨some 10, .bin .xor .none (.tmp 5) (.tmp 9), none⟩,
     ⟨some 11, .nilCheck (.tmp 3), none⟩,
     ⟨none, .store 1 (.tmp 11) (.tmp 10), none⟩] [])
  (.keep [0] [] (.seq (.regionD [⟨some 12, .move (.tmp 0), none⟩,
     ⟨some 13, .nilCheck (.tmp 12), none⟩,
     ⟨some 14, .load false 1 (.tmp 13), none⟩,
     ⟨some 15, .move (.tmp 0), none⟩,
     ⟨some 16, .nilCheck (.tmp 15), none⟩,
     ⟨some 17, .load false 1 (.tmp 16), none⟩,
     ⟨some 18, .bin .shr .none (.tmp 17) (.const (.int .u64 7)), none⟩,
     ⟨some 19, .bin .xor .none (.tmp 14) (.tmp 18), none⟩,
     ⟨some 20, .nilCheck (.tmp 12), none⟩,
     ⟨none, .store 1 (.tmp 20) (.tmp 19), none⟩] [])
  (.keep [0] [] (.seq (.regionD [⟨some 21, .move (.tmp 0), none⟩,
     ⟨some 22, .nilCheck (.tmp 21), none⟩,
     ⟨some 23, .load false 1 (.tmp 22), none⟩,
     ⟨some 24, .move (.tmp 0), none⟩,
     ⟨some 25, .nilCheck (.tmp 24), none⟩,
     ⟨some 26, .load false 1 (.tmp 25), none⟩,
     ⟨some 27, .bin .shl .none (.tmp 26) (.const (.int .u64 17)), none⟩,
     ⟨some 28, .bin .xor .none (.tmp 23) (.tmp 27), none⟩,
     ⟨some 29, .nilCheck (.tmp 21), none⟩,
     ⟨none, .store 1 (.tmp 29) (.tmp 28), none⟩] [])
  (.keep [0] [] (.seq (.region [⟨some 30, .move (.tmp 0), none⟩,
     ⟨some 31, .nilCheck (.tmp 30), none⟩,
     ⟨some 32, .load false 1 (.tmp 31), none⟩,
     ⟨some 2, .move (.tmp 32), none⟩])
  (.keep [2] [] (.ret))))))))))⟩
/-- slices.choosePivotOrdered[string] -/
def F238 : FnIR := ⟨57, 3, [.tmp 6, .tmp 7], [],
  .seq (.region [⟨some 6, .move (.const (.int .i64 0)), none⟩,
     ⟨some 7, .move (.const (.int .i64 0)), none⟩])
  (.keep [0, 1, 2] [] (.seq (.region [⟨some 13, .move (.tmp 2), none⟩,
     ⟨some 14, .move (.tmp 1), none⟩,
     ⟨some 15, .bin .sub .none (.tmp 13) (.tmp 14), none⟩,
     ⟨some 8, .move (.tmp 15), none⟩])
  (.keep [0, 1, 8] [] (.seq (.region [⟨some 9, .alloc false 1 [(.int .i64 0)], none⟩])
  (.keep [0, 1, 8, 9] [] (.seq (.region [⟨some 16, .move (.tmp 1), none⟩,
     ⟨some 17, .move (.tmp 8), none⟩,
     ⟨some 18, .bin .quo .none (.tmp 17) (.const (.int .i64 4)), none⟩,
     ⟨some 19, .bin .mul .none (.tmp 18) (.const (.int .i64 1)), none⟩,
     ⟨some 20, .bin .add .none (.tmp 16) (.tmp 19), none⟩,
     ⟨some 10, .move (.tmp 20), none⟩])
  (.keep [0, 1, 8, 9, 10] [] (.seq (.region [⟨some 21, .move (.tmp 1), none⟩,
     ⟨some 22, .move (.tmp 8), none⟩,
     ⟨some 23, .bin .quo .none (.tmp 22) (.const (.int .i64 4)), none⟩,
     ⟨some 24, .bin .mul .none (.tmp 23) (.const (.int .i64 2)), none⟩,
     ⟨some 25, .bin .add .none (.tmp 21) (.tmp 24), none⟩,
     ⟨some 11, .move (.tmp 25), none⟩])
  (.keep [0, 1, 8, 9, 10, 11] [] (.seq (.region [⟨some 26, .move (.tmp 1), none⟩,
     ⟨some 27, .move (.tmp 8), none⟩,
     ⟨some 28, .bin .quo .none (.tmp 27) (.const (.int .i64 4)), none⟩,
     ⟨some 29, .bin .mul .none (.tmp 28) (.const (.int .i64 3)), none⟩,
     ⟨some 30, .bin .add .none (.tmp 26) (.tmp 29), none⟩,
     ⟨some 12, .move (.tmp 30), none⟩])
  (.keep [0, 8, 9, 10, 11, 12] [] (.seq (.seq (.region [⟨some 31, .move (.tmp 8), none⟩,
      ⟨some 32, .bin .geq .none (.tmp 31) (.const (.int .i64 8)), none⟩])
   (.keep [0, 8, 9, 10, 11, 12, 32] [] (.cond (.tmp 32)
    (.seq (.seq (.region [⟨some 33, .move (.tmp 8), none⟩,
        ⟨some 34, .bin .geq .none (.tmp 33) (.const (.int .i64 50)), none⟩])
     (.keep [0, 9, 10, 11, 12, 34] [] (.cond (.tmp 34)
      (.seq (.region [⟨some 35, .move (.tmp 0), none⟩,
         ⟨some 36, .move (.tmp 10), none⟩,
         ⟨some 37, .call (.func 263) [(.tmp 35), (.tmp 36), (.tmp 9)], none⟩,
         ⟨some 10, .move (.tmp 37), none⟩])
      (.keep [0, 9, 10, 11, 12] [] (.seq (.region [⟨some 38, .move (.tmp 0), none⟩,
         ⟨some 39, .move (.tmp 11), none⟩,
         ⟨some 40, .call (.func 263) [(.tmp 38), (.tmp 39), (.tmp 9)], none⟩,
         ⟨some 11, .move (.tmp 40), none⟩])
      (.keep [0, 9, 10, 11, 12] [] (.region [⟨some 41, .move (.tmp 0), none⟩,
        ⟨some 42, .move (.tmp 12), none⟩,
        ⟨some 43, .call (.func 263) [(.tmp 41), (.tmp 42), (.tmp 9)], none⟩,
        ⟨some 12, .move (.tmp 43), none⟩])))))
      (.skip))))
    (.keep [0, 9, 10, 11, 12] [] (.region [⟨some 44, .move (.tmp 0), none⟩,
      ⟨some 45, .move (.tmp 10), none⟩,
      ⟨some 46, .move (.tmp 11), none⟩,
      ⟨some 47, .move (.tmp 12), none⟩,
      ⟨some 48, .call (.func 264) [(.tmp 44), (.tmp 45), (.tmp 46), (.tmp 47), (.tmp 9)], none⟩,
      ⟨some 11, .move (.tmp 48), none⟩])))
    (.skip))))
  (.keep [9, 11] [] (.seq (.region [⟨some 49, .load false 1 (.tmp 9), none⟩])
  (.keep [11, 49] [] (.block 0 (.seq (.region [⟨some 52, .bin .eql .int (.tmp 49) (.const (.int .i64 0)), none⟩,
      ⟨some 51, .move (.tmp 52), none⟩])
   (.keep [11, 49, 51] [] (.cond (.tmp 51)
    (.seq (.region [⟨some 53, .move (.tmp 11), none⟩,
       ⟨some 6, .move (.tmp 53), none⟩,
       ⟨some 7, .move (.const (.int .i64 1)), none⟩])
    (.keep [6, 7] [] (.ret)))
    (.seq (.region [⟨some 55, .bin .eql .int (.tmp 49) (.const (.int .i64 12)), none⟩,
       ⟨some 54, .move (.tmp 55), none⟩])
    (.keep [11, 54] [] (.cond (.tmp 54)
     (.seq (.region [⟨some 56, .move (.tmp 11), none⟩,
        ⟨some 6, .move (.tmp 56), none⟩,
        ⟨some 7, .move (.const (.int .i64 2)), none⟩])
     (.keep [6, 7] [] (.ret)))
     (.seq (.region [⟨some 50, .move (.tmp 11), none⟩,
        ⟨some 6, .move (.tmp 50), none⟩,
        ⟨some 7, .move (.const (.int .i64 0)), none⟩])
     (.keep [6, 7] [] (.ret)))))))))))))))))))))))))⟩
/-- slices.medianAdjacentOrdered[string] -/
def F263 : FnIR := ⟨15, 3, [.tmp 6], [],
  .seq (.region [⟨some 6, .move (.const (.int .i64 0)), none⟩])
  (.keep [0, 1, 2] [] (.seq (.region [⟨some 7, .move (.tmp 0), none⟩,
     ⟨some 8, .move (.tmp 1), none⟩,
     ⟨some 9, .bin .sub .none (.tmp 8) (.const (.int .i64 1)), none⟩,
     ⟨some 10, .move (.tmp 1), none⟩,
     ⟨some 11, .move (.tmp 1), none⟩,
     ⟨some 12, .bin .add .none (.tmp 11) (.const (.int .i64 1)), none⟩,
     ⟨some 13, .move (.tmp 2), none⟩,
     ⟨some 14, .call (.func 264) [(.tmp 7), (.tmp 9), (.tmp 10), (.tmp 12), (.tmp 13)], none⟩,
     ⟨some 6, .move (.tmp 14), none⟩])
  (.keep [6] [] (.ret))))⟩
/-- slices.medianOrdered[string] -/
def F264 : FnIR := ⟨36, 5, [.tmp 10], [],
  .seq (.region [⟨some 10, .move (.const (.int .i64 0)), none⟩])
  (.keep [0, 1, 2, 3, 4] [] (.seq (.region [⟨some 12, .move (.tmp 0), none⟩,
     ⟨some 13, .move (.tmp 1), none⟩,
     ⟨some 14, .move (.tmp 2), none⟩,
     ⟨some 15, .move (.tmp 4), none⟩,
     ⟨some 16, .call (.func 269) [(.tmp 12), (.tmp 13), (.tmp 14), (.tmp 15)], none⟩,
     ⟨some 11, .move (.tmp 16), none⟩,
     ⟨some 17, .extract (.tmp 11) 0, none⟩,
     ⟨some 18, .extract (.tmp 11) 1, none⟩,
     ⟨some 1, .move (.tmp 17), none⟩,
     ⟨some 2, .move (.tmp 18), none⟩])
  (.keep [0, 1, 2, 3, 4] [] (.seq (.region [⟨some 20, .move (.tmp 0), none⟩,
     ⟨some 21, .move (.tmp 2), none⟩,
     ⟨some 22, .move (.tmp 3), none⟩,
     ⟨some 23, .move (.tmp 4), none⟩,
     ⟨some 24, .call (.func 269) [(.tmp 20), (.tmp 21), (.tmp 22), (.tmp 23)], none⟩,
     ⟨some 19, .move (.tmp 24), none⟩,
     ⟨some 25, .extract (.tmp 19) 0, none⟩,
     ⟨some 26, .extract (.tmp 19) 1, none⟩,
     ⟨some 2, .move (.tmp 25), none⟩,
     ⟨some 3, .move (.tmp 26), none⟩])
  (.keep [0, 1, 2, 4] [] (.seq (.region [⟨some 28, .move (.tmp 0), none⟩,
     ⟨some 29, .move (.tmp 1), none⟩,
     ⟨some 30, .move (.tmp 2), none⟩,
     ⟨some 31, .move (.tmp 4), none⟩,
     ⟨some 32, .call (.func 269) [(.tmp 28), (.tmp 29), (.tmp 30), (.tmp 31)], none⟩,
     ⟨some 27, .move (.tmp 32), none⟩,
     ⟨some 33, .extract (.tmp 27) 0, none⟩,
     ⟨some 34, .extract (.tmp 27) 1, none⟩,
     ⟨some 1, .move (.tmp 33), none⟩,
     ⟨some 2, .move (.tmp 34), none⟩])
  (.keep [2] [] (.seq (.region [⟨some 35, .move (.tmp 2), none⟩,
     ⟨some 10, .move (.tmp 35), none⟩])
  (.keep [10] [] (.ret))))))))))⟩
/-- slices.order2Ordered[string] -/
def F269 : FnIR := ⟨28, 4, [.tmp 8, .tmp 9], [],
  .seq (.region [⟨some 8, .move (.const (.int .i64 0)), none⟩,
     ⟨some 9, .move (.const (.int .i64 0)), none⟩])
  (.keep [0, 1, 2, 3] [] (.seq (.seq (.regionD [⟨some 10, .move (.tmp 0), none⟩,
      ⟨some 11, .move (.tmp 2), none⟩,
      ⟨some 12, .indexAddr none 1 (.tmp 10) (.tmp 11), none⟩,
      ⟨some 13, .load false 1 (.tmp 12), none⟩,
      ⟨some 14, .move (.tmp 0), none⟩,
      ⟨some 15, .move (.tmp 1), none⟩,
      ⟨some 16, .indexAddr none 1 (.tmp 14) (.tmp 15), none⟩,
      ⟨some 17, .load false 1 (.tmp 16), none⟩,
      ⟨some 18, .call (.func 241) [(.tmp 13), (.tmp 17)], none⟩] [])
   (.keep [1, 2, 3, 18] [] (.cond (.tmp 18)
    (.seq (.region [⟨some 19, .move (.tmp 3), none⟩,
       ⟨some 20, .nilCheck (.tmp 19), none⟩,
       ⟨some 21, .load false 1 (.tmp 20), none⟩,
       ⟨some 22, .bin .add .none (.tmp 21) (.const (.int .i64 1)), none⟩,
       ⟨some 23, .nilCheck (.tmp 19), none⟩,
       ⟨none, .store 1 (.tmp 23) (.tmp 22), none⟩])
    (.keep [1, 2] [] (.seq (.region [⟨some 24, .move (.tmp 2), none⟩,
       ⟨some 25, .move (.tmp 1), none⟩,
       ⟨some 8, .move (.tmp 24), none⟩,
       ⟨some 9, .move (.tmp 25), none⟩])
    (.keep [8, 9] [] (.ret)))))
    (.skip))))
  (.keep [1, 2] [] (.seq (.region [⟨some 26, .move (.tmp 1), none⟩,
     ⟨some 27, .move (.tmp 2), none⟩,
     ⟨some 8, .move (.tmp 26), none⟩,
     ⟨some 9, .move (.tmp 27), none⟩])
  (.keep [8, 9] [] (.ret))))))⟩
theorem fits21 : FnFits Tryz.prog 21 F21 := ⟨Tryz.f21, _, Tryz.func21, rfl, by decide, rfl, by decide, by kernel_rfl, by kernel_rfl⟩
theorem fits17 : FnFits Tryz.prog 17 F17 := ⟨Tryz.f17, _, Tryz.func17, rfl, by decide, rfl, by decide, by kernel_rfl, by kernel_rfl⟩
theorem fits65 : FnFits Tryz.prog 65 F65 := ⟨Tryz.f65, _, Tryz.func65, rfl, by decide, rfl, by decide, by kernel_rfl, by kernel_rfl⟩
theorem fits47 : FnFits Tryz.prog 47 F47 := ⟨Tryz.f47, _, Tryz.func47, rfl, by decide, rfl, by decide, by kernel_rfl, by kernel_rfl⟩
theorem fits39 : FnFits Tryz.prog 39 F39 := ⟨Tryz.f39, _, Tryz.func39, rfl, by decide, rfl, by decide, by kernel_rfl, by kernel_rfl⟩
theorem fits19 : FnFits Tryz.prog 19 F19 := ⟨Tryz.f19, _, Tryz.func19, rfl, by decide, rfl, by decide, by kernel_rfl, by kernel_rfl⟩
theorem fits66 : FnFits Tryz.prog 66 F66 := ⟨Tryz.f66, _, Tryz.func66, rfl, by decide, rfl, by decide, by kernel_rfl, by kernel_rfl⟩
theorem fits122 : FnFits Tryz.prog 122 F122 := ⟨Tryz.f122, _, Tryz.func122, rfl, by decide, rfl, by decide, by kernel_rfl, by kernel_rfl⟩
theorem fits123 : FnFits Tryz.prog 123 F123 := ⟨Tryz.f123, _, Tryz.func123, rfl, by decide, rfl, by decide, by kernel_rfl, by kernel_rfl⟩
theorem fits191 : FnFits Tryz.prog 191 F191 := ⟨Tryz.f191, _, Tryz.func191, rfl, by decide, rfl, by decide, by kernel_rfl, by kernel_rfl⟩
theorem fits184 : FnFits Tryz.prog 184 F184 := ⟨Tryz.f184, _, Tryz.func184, rfl, by decide, rfl, by decide, by kernel_rfl, by kernel_rfl⟩
theorem fits227 : FnFits Tryz.prog 227 F227 := ⟨Tryz.f227, _, Tryz.func227, rfl, by decide, rfl, by decide, by kernel_rfl, by kernel_rfl⟩
theorem fits192 : FnFits Tryz.prog 192 F192 := ⟨Tryz.f192, _, Tryz.func192, rfl, by decide, rfl, by decide, by kernel_rfl, by kernel_rfl⟩
theorem fits173 : FnFits Tryz.prog 173 F173 := ⟨Tryz.f173, _, Tryz.func173, rfl, by decide, rfl, by decide, by kernel_rfl, by kernel_rfl⟩
theorem fits220 : FnFits Tryz.prog 220 F220 := ⟨Tryz.f220, _, Tryz.func220, rfl, by decide, rfl, by decide, by kernel_rfl, by kernel_rfl⟩
theorem fits259 : FnFits Tryz.prog 259 F259 := ⟨Tryz.f259, _, Tryz.func259, rfl, by decide, rfl, by decide, by kernel_rfl, by kernel_rfl⟩
theorem fits228 : FnFits Tryz.prog 228 F228 := ⟨Tryz.f228, _, Tryz.func228, rfl, by decide, rfl, by decide, by kernel_rfl, by kernel_rfl⟩
theorem fits124 : FnFits Tryz.prog 124 F124 := ⟨Tryz.f124, _, Tryz.func124, rfl, by decide, rfl, by decide, by kernel_rfl, by kernel_rfl⟩
theorem fits67 : FnFits Tryz.prog 67 F67 := ⟨Tryz.f67, _, Tryz.func67, rfl, by decide, rfl, by decide, by kernel_rfl, by kernel_rfl⟩
theorem fits125 : FnFits Tryz.prog 125 F125 := ⟨Tryz.f125, _, Tryz.func125, rfl, by decide, rfl, by decide, by kernel_rfl, by kernel_rfl⟩
theorem fits127 : FnFits Tryz.prog 127 F127 := ⟨Tryz.f127, _, Tryz.func127, rfl, by decide, rfl, by decide, by kernel_rfl, by kernel_rfl⟩
theorem fits121 : FnFits Tryz.prog 121 F121 := ⟨Tryz.f121, _, Tryz.func121, rfl, by decide, rfl, by decide, by kernel_rfl, by kernel_rfl⟩
theorem fits126 : FnFits Tryz.prog 126 F126 := ⟨Tryz.f126, _, Tryz.func126, rfl, by decide, rfl, by decide, by kernel_rfl, by kernel_rfl⟩
theorem fits193 : FnFits Tryz.prog 193 F193 := ⟨Tryz.f193, _, Tryz.func193, rfl, by decide, rfl, by decide, by kernel_rfl, by kernel_rfl⟩
theorem fits68 : FnFits Tryz.prog 68 F68 := ⟨Tryz.f68, _, Tryz.func68, rfl, by decide, rfl, by decide, by kernel_rfl, by kernel_rfl⟩
theorem fits128 : FnFits Tryz.prog 128 F128 := ⟨Tryz.f128, _, Tryz.func128, rfl, by decide, rfl, by decide, by kernel_rfl, by kernel_rfl⟩
theorem fits41 : FnFits Tryz.prog 41 F41 := ⟨Tryz.f41, _, Tryz.func41, rfl, by decide, rfl, by decide, by kernel_rfl, by kernel_rfl⟩
theorem fits102 : FnFits Tryz.prog 102 F102 := ⟨Tryz.f102, _, Tryz.func102, rfl, by decide, rfl, by decide, by kernel_rfl, by kernel_rfl⟩
theorem fits59 : FnFits Tryz.prog 59 F59 := ⟨Tryz.f59, _, Tryz.func59, rfl, by decide, rfl, by decide, by kernel_rfl, by kernel_rfl⟩
theorem fits120 : FnFits Tryz.prog 120 F120 := ⟨Tryz.f120, _, Tryz.func120, rfl, by decide, rfl, by decide, by kernel_rfl, by kernel_rfl⟩
theorem fits71 : FnFits Tryz.prog 71 F71 := ⟨Tryz.f71, _, Tryz.func71, rfl, by decide, rfl, by decide, by kernel_rfl, by kernel_rfl⟩
theorem fits137 : FnFits Tryz.prog 137 F137 := ⟨Tryz.f137, _, Tryz.func137, rfl, by decide, rfl, by decide, by kernel_rfl, by kernel_rfl⟩
theorem fits70 : FnFits Tryz.prog 70 F70 := ⟨Tryz.f70, _, Tryz.func70, rfl, by decide, rfl, by decide, by kernel_rfl, by kernel_rfl⟩
theorem fits135 : FnFits Tryz.prog 135 F135 := ⟨Tryz.f135, _, Tryz.func135, rfl, by decide, rfl, by decide, by kernel_rfl, by kernel_rfl⟩
theorem fits202 : FnFits Tryz.prog 202 F202 := ⟨Tryz.f202, _, Tryz.func202, rfl, by decide, rfl, by decide, by kernel_rfl, by kernel_rfl⟩
theorem fits136 : FnFits Tryz.prog 136 F136 := ⟨Tryz.f136, _, Tryz.func136, rfl, by decide, rfl, by decide, by kernel_rfl, by kernel_rfl⟩
theorem fits204 : FnFits Tryz.prog 204 F204 := ⟨Tryz.f204, _, Tryz.func204, rfl, by decide, rfl, by decide, by kernel_rfl, by kernel_rfl⟩
theorem fits244 : FnFits Tryz.prog 244 F244 := ⟨Tryz.f244, _, Tryz.func244, rfl, by decide, rfl, by decide, by kernel_rfl, by kernel_rfl⟩
theorem fits245 : FnFits Tryz.prog 245 F245 := ⟨Tryz.f245, _, Tryz.func245, rfl, by decide, rfl, by decide, by kernel_rfl, by kernel_rfl⟩
theorem fits203 : FnFits Tryz.prog 203 F203 := ⟨Tryz.f203, _, Tryz.func203, rfl, by decide, rfl, by decide, by kernel_rfl, by kernel_rfl⟩
theorem fits235 : FnFits Tryz.prog 235 F235 := ⟨Tryz.f235, _, Tryz.func235, rfl, by decide, rfl, by decide, by kernel_rfl, by kernel_rfl⟩
theorem fits241 : FnFits Tryz.prog 241 F241 := ⟨Tryz.f241, _, Tryz.func241, rfl, by decide, rfl, by decide, by kernel_rfl, by kernel_rfl⟩
theorem fits265 : FnFits Tryz.prog 265 F265 := ⟨Tryz.f265, _, Tryz.func265, rfl, by decide, rfl, by decide, by kernel_rfl, by kernel_rfl⟩
theorem fits236 : FnFits Tryz.prog 236 F236 := ⟨Tryz.f236, _, Tryz.func236, rfl, by decide, rfl, by decide, by kernel_rfl, by kernel_rfl⟩
theorem fits260 : FnFits Tryz.prog 260 F260 := ⟨Tryz.f260, _, Tryz.func260, rfl, by decide, rfl, by decide, by kernel_rfl, by kernel_rfl⟩
theorem fits237 : FnFits Tryz.prog 237 F237 := ⟨Tryz.f237, _, Tryz.func237, rfl, by decide, rfl, by decide, by kernel_rfl, by kernel_rfl⟩
theorem fits261 : FnFits Tryz.prog 261 F261 := ⟨Tryz.f261, _, Tryz.func261, rfl, by decide, rfl, by decide, by kernel_rfl, by kernel_rfl⟩
theorem fits262 : FnFits Tryz.prog 262 F262 := ⟨Tryz.f262, _, Tryz.func262, rfl, by decide, rfl, by decide, by kernel_rfl, by kernel_rfl⟩
theorem fits238 : FnFits Tryz.prog 238 F238 := ⟨Tryz.f238, _, Tryz.func238, rfl, by decide, rfl, by decide, by kernel_rfl, by kernel_rfl⟩
theorem fits263 : FnFits Tryz.prog 263 F263 := ⟨Tryz.f263, _, Tryz.func263, rfl, by decide, rfl, by decide, by kernel_rfl, by kernel_rfl⟩
theorem fits264 : FnFits Tryz.prog 264 F264 := ⟨Tryz.f264, _, Tryz.func264, rfl, by decide, rfl, by decide, by kernel_rfl, by kernel_rfl⟩
theorem fits269 : FnFits Tryz.prog 269 F269 := ⟨Tryz.f269, _, Tryz.func269, rfl, by decide, rfl, by decide, by kernel_rfl, by kernel_rfl⟩
end Go.Proofs.YtgokjbjbdnbcdaaGreat.AlS14
