/- Functions of the program in our form (S9, a). No condition. -/
import Derived.Test.YtgokjbjbdnbcdaaAmNil
import Derived.Test.YtgokjbjbdnbcdaaRows
import Derived.KernelRfl
set_option linter.unusedVariables false
namespace Go.Proofs.Ytgokjbjbdnbcdaa.AlS9
open Go.Wam
/-- wampum/wampumlaw09.alive -/
def F15 : FnIR := ⟨89, 0, [.tmp 0], [2, 3, 6, 7, 12, 13],
  .seq (.region [⟨some 0, .move (.const (.bool false)), none⟩])
  (.keep [] [] (.seq (.region [⟨some 15, .call (.func 6) [], none⟩,
     ⟨some 1, .move (.tmp 15), none⟩])
  (.keep [1] [] (.seq (.seq (.region [⟨some 16, .move (.tmp 1), none⟩,
      ⟨some 17, .bin .eql .ptr (.tmp 16) (.const .nilp), none⟩])
   (.keep [1, 17] [] (.cond (.tmp 17)
    (.seq (.region [⟨some 0, .move (.const (.bool false)), none⟩])
    (.keep [0] [] (.ret)))
    (.skip))))
  (.keep [1] [] (.seq (.region [⟨some 19, .move (.tmp 1), none⟩,
     ⟨some 20, .build [(.int .i64 0), (.int .i64 0), (.str []), (.int .i64 0), (.int .i64 0)] [(0, 1, (.const (.int .i64 3))), (2, 1, (.const (.str [107])))], none⟩,
     ⟨some 21, .build [(.int .i64 0), (.int .i64 0)] [(0, 1, (.const (.int .i64 4)))], none⟩,
     ⟨some 22, .build [(.int .i64 0), (.int .i64 0), (.str []), (.int .i64 0), (.int .i64 0), (.int .i64 0), (.int .i64 0), (.int .i64 0), (.str []), (.bool false)] [(0, 5, (.tmp 20)), (6, 2, (.tmp 21)), (8, 1, (.const (.str [118])))], none⟩,
     ⟨some 23, .call (.func 9) [(.tmp 19), (.const (.str [107])), (.tmp 22)], none⟩,
     ⟨some 18, .move (.tmp 23), none⟩,
     ⟨some 24, .extract (.tmp 18) 0, none⟩,
     ⟨some 25, .extract (.tmp 18) 1, none⟩,
     ⟨some 26, .extract (.tmp 18) 2, none⟩,
     ⟨some 2, .alloc true 2 [(.int .i64 0), (.int .i64 0)], none⟩,
     ⟨some 3, .alloc true 5 [(.int .i64 0), (.int .i64 0), (.str []), (.int .i64 0), (.int .i64 0)], none⟩,
     ⟨none, .store 2 (.tmp 2) (.tmp 24), none⟩,
     ⟨none, .store 5 (.tmp 3) (.tmp 25), none⟩,
     ⟨some 4, .move (.tmp 26), none⟩])
  (.keep [1, 2, 4] [2] (.seq (.region [⟨some 28, .move (.tmp 1), none⟩,
     ⟨some 29, .build [(.str []), (.str [])] [(0, 1, (.const (.str [97]))), (1, 1, (.const (.str [123])))], none⟩,
     ⟨some 30, .build [(.int .i64 0), (.int .i64 0)] [(0, 1, (.const (.int .i64 9)))], none⟩,
     ⟨some 31, .build [(.int .i64 0), (.int .i64 0)] [(0, 1, (.const (.int .i64 9)))], none⟩,
     ⟨some 32, .call (.func 16) [(.tmp 28), (.tmp 29), (.tmp 30), (.tmp 31), (.const (.int .i64 0)), (.const (.int .i64 0))], none⟩,
     ⟨some 27, .move (.tmp 32), none⟩,
     ⟨some 33, .extract (.tmp 27) 0, none⟩,
     ⟨some 34, .extract (.tmp 27) 1, none⟩,
     ⟨some 35, .extract (.tmp 27) 2, none⟩,
     ⟨some 36, .extract (.tmp 27) 3, none⟩,
     ⟨some 6, .alloc true 2 [(.int .i64 0), (.int .i64 0)], none⟩,
     ⟨some 7, .alloc true 5 [(.int .i64 0), (.int .i64 0), (.str []), (.int .i64 0), (.int .i64 0)], none⟩,
     ⟨some 5, .move (.tmp 33), none⟩,
     ⟨none, .store 2 (.tmp 6) (.tmp 34), none⟩,
     ⟨none, .store 5 (.tmp 7) (.tmp 35), none⟩,
     ⟨some 8, .move (.tmp 36), none⟩])
  (.keep [1, 2, 4, 7, 8] [2, 7] (.seq (.region [⟨some 38, .move (.tmp 1), none⟩,
     ⟨some 39, .build [(.str []), (.str [])] [(0, 1, (.const (.str [107])))], none⟩,
     ⟨some 40, .load true 2 (.tmp 2), none⟩,
     ⟨some 41, .call (.func 10) [(.tmp 38), (.tmp 39), (.const (.int .i64 3)), (.const (.int .i64 0)), (.const (.bool true)), (.tmp 40)], none⟩,
     ⟨some 37, .move (.tmp 41), none⟩,
     ⟨some 42, .extract (.tmp 37) 0, none⟩,
     ⟨some 43, .extract (.tmp 37) 1, none⟩,
     ⟨some 9, .move (.tmp 42), none⟩,
     ⟨some 10, .move (.tmp 43), none⟩])
  (.keep [1, 4, 7, 8, 9, 10] [7] (.seq (.region [⟨some 45, .move (.tmp 1), none⟩,
     ⟨some 46, .build [(.str []), (.str [])] [(0, 1, (.const (.str [97]))), (1, 1, (.const (.str [123])))], none⟩,
     ⟨some 47, .build [(.int .i64 0), (.int .i64 0)] [(0, 1, (.const (.int .i64 9)))], none⟩,
     ⟨some 48, .build [(.int .i64 0), (.int .i64 0)] [(0, 1, (.const (.int .i64 9)))], none⟩,
     ⟨some 49, .call (.func 16) [(.tmp 45), (.tmp 46), (.tmp 47), (.tmp 48), (.const (.int .i64 0)), (.const (.int .i64 0))], none⟩,
     ⟨some 44, .move (.tmp 49), none⟩,
     ⟨some 50, .extract (.tmp 44) 0, none⟩,
     ⟨some 51, .extract (.tmp 44) 1, none⟩,
     ⟨some 52, .extract (.tmp 44) 2, none⟩,
     ⟨some 53, .extract (.tmp 44) 3, none⟩,
     ⟨some 12, .alloc true 2 [(.int .i64 0), (.int .i64 0)], none⟩,
     ⟨some 13, .alloc true 5 [(.int .i64 0), (.int .i64 0), (.str []), (.int .i64 0), (.int .i64 0)], none⟩,
     ⟨some 11, .move (.tmp 50), none⟩,
     ⟨none, .store 2 (.tmp 12) (.tmp 51), none⟩,
     ⟨none, .store 5 (.tmp 13) (.tmp 52), none⟩,
     ⟨some 14, .move (.tmp 53), none⟩])
  (.keep [4, 7, 8, 9, 10, 11, 14] [7] (.seq (.region [⟨some 54, .move (.tmp 4), none⟩,
     ⟨some 55, .bin .eql .int (.tmp 54) (.const (.int .i64 0)), none⟩,
     ⟨some 56, .move (.tmp 55), none⟩,
     ⟨some 57, .move (.tmp 8), some (56, true)⟩,
     ⟨some 58, .bin .eql .int (.tmp 57) (.const (.int .i64 81)), some (56, true)⟩,
     ⟨some 59, .pick (.tmp 56) (.tmp 58) (.const (.bool false)), none⟩,
     ⟨some 60, .move (.tmp 59), none⟩,
     ⟨some 61, .fieldAddr 0 (.tmp 7), some (60, true)⟩,
     ⟨some 62, .load false 1 (.tmp 61), some (60, true)⟩,
     ⟨some 63, .bin .eql .int (.tmp 62) (.const (.int .i64 3)), some (60, true)⟩,
     ⟨some 64, .pick (.tmp 60) (.tmp 63) (.const (.bool false)), none⟩,
     ⟨some 65, .move (.tmp 64), none⟩,
     ⟨some 66, .move (.tmp 9), some (65, true)⟩,
     ⟨some 67, .bin .eql .int (.tmp 66) (.const (.int .i64 1)), some (65, true)⟩,
     ⟨some 68, .pick (.tmp 65) (.tmp 67) (.const (.bool false)), none⟩,
     ⟨some 69, .move (.tmp 68), none⟩,
     ⟨some 70, .move (.tmp 10), some (69, true)⟩,
     ⟨some 71, .bin .eql .int (.tmp 70) (.const (.int .i64 0)), some (69, true)⟩,
     ⟨some 72, .pick (.tmp 69) (.tmp 71) (.const (.bool false)), none⟩,
     ⟨some 73, .move (.tmp 72), none⟩,
     ⟨some 74, .move (.tmp 14), some (73, true)⟩,
     ⟨some 75, .bin .eql .int (.tmp 74) (.const (.int .i64 0)), some (73, true)⟩,
     ⟨some 76, .pick (.tmp 73) (.tmp 75) (.const (.bool false)), none⟩,
     ⟨some 77, .move (.tmp 76), none⟩,
     ⟨some 78, .move (.tmp 11), some (77, true)⟩,
     ⟨some 79, .len .slice (.tmp 78), some (77, true)⟩,
     ⟨some 80, .bin .eql .int (.tmp 79) (.const (.int .i64 1)), some (77, true)⟩,
     ⟨some 81, .pick (.tmp 77) (.tmp 80) (.const (.bool false)), none⟩,
     ⟨some 82, .move (.tmp 81), none⟩,
     ⟨some 83, .move (.tmp 11), some (82, true)⟩,
     ⟨some 84, .indexAddr none 2 (.tmp 83) (.const (.int .i64 0)), some (82, true)⟩,
     ⟨some 85, .fieldAddr 1 (.tmp 84), some (82, true)⟩,
     ⟨some 86, .load false 1 (.tmp 85), some (82, true)⟩,
     ⟨some 87, .bin .eql .str (.tmp 86) (.const (.str [118])), some (82, true)⟩,
     ⟨some 88, .pick (.tmp 82) (.tmp 87) (.const (.bool false)), none⟩,
     ⟨some 0, .move (.tmp 88), none⟩])
  (.keep [0] [] (.ret))))))))))))))))⟩
/-- wampum/store.New -/
def F6 : FnIR := ⟨4, 0, [.tmp 0], [],
  .seq (.region [⟨some 0, .move (.const .nilp), none⟩])
  (.keep [] [] (.seq (.region [⟨some 1, .mkMap, none⟩,
     ⟨some 2, .build [.nilm] [(0, 1, (.tmp 1))], none⟩,
     ⟨some 3, .box false 1 (.tmp 2), none⟩,
     ⟨some 0, .move (.tmp 3), none⟩])
  (.keep [0] [] (.ret))))⟩
/-- (*wampum/store.Store).Put -/
def F9 : FnIR := ⟨60, 3, [.cell 6 true 2, .cell 7 true 5, .tmp 8], [5, 6, 7, 9, 10, 11],
  .seq (.region [⟨some 5, .box true 10 (.tmp 2), none⟩,
     ⟨some 6, .alloc true 2 [(.int .i64 0), (.int .i64 0)], none⟩,
     ⟨some 7, .alloc true 5 [(.int .i64 0), (.int .i64 0), (.str []), (.int .i64 0), (.int .i64 0)], none⟩,
     ⟨some 8, .move (.const (.int .i64 0)), none⟩])
  (.keep [0, 1, 5, 6, 7] [5, 6, 7] (.seq (.block 0 (.seq (.region [⟨some 14, .move (.tmp 0), none⟩,
       ⟨some 15, .bin .eql .ptr (.tmp 14) (.const .nilp), none⟩,
       ⟨some 16, .move (.tmp 15), none⟩,
       ⟨some 17, .fieldAddr 8 (.tmp 5), some (16, false)⟩,
       ⟨some 18, .load false 1 (.tmp 17), some (16, false)⟩,
       ⟨some 19, .fieldAddr 9 (.tmp 5), some (16, false)⟩,
       ⟨some 20, .load false 1 (.tmp 19), some (16, false)⟩,
       ⟨some 21, .call (.func 25) [(.tmp 18), (.tmp 20)], some (16, false)⟩,
       ⟨some 22, .un .not (.tmp 21), some (16, false)⟩,
       ⟨some 23, .move (.tmp 22), some (16, false)⟩,
       ⟨some 24, .move (.tmp 1), some (23, true)⟩,
       ⟨some 25, .call (.func 26) [(.tmp 24)], some (23, true)⟩,
       ⟨some 26, .pick (.tmp 23) (.tmp 25) (.const (.bool false)), some (16, false)⟩,
       ⟨some 27, .pick (.tmp 16) (.const (.bool true)) (.tmp 26), none⟩,
       ⟨some 13, .move (.tmp 27), none⟩])
    (.keep [0, 1, 5, 6, 7, 13] [5, 6, 7] (.cond (.tmp 13)
     (.seq (.region [⟨some 28, .build [(.int .i64 0), (.int .i64 0)] [], none⟩,
        ⟨some 29, .build [(.int .i64 0), (.int .i64 0), (.str []), (.int .i64 0), (.int .i64 0)] [], none⟩,
        ⟨none, .store 2 (.tmp 6) (.tmp 28), none⟩,
        ⟨none, .store 5 (.tmp 7) (.tmp 29), none⟩,
        ⟨some 8, .move (.const (.int .i64 1)), none⟩])
     (.keep [6, 7, 8] [6, 7] (.ret)))
     (.seq (.region [⟨some 31, .move (.tmp 1), none⟩,
        ⟨some 32, .call (.func 26) [(.tmp 31)], none⟩,
        ⟨some 33, .un .not (.tmp 32), none⟩,
        ⟨some 30, .move (.tmp 33), none⟩])
     (.keep [0, 1, 5, 6, 7, 30] [5, 6, 7] (.cond (.tmp 30)
      (.seq (.region [⟨some 34, .build [(.int .i64 0), (.int .i64 0)] [], none⟩,
         ⟨some 35, .build [(.int .i64 0), (.int .i64 0), (.str []), (.int .i64 0), (.int .i64 0)] [], none⟩,
         ⟨none, .store 2 (.tmp 6) (.tmp 34), none⟩,
         ⟨none, .store 5 (.tmp 7) (.tmp 35), none⟩,
         ⟨some 8, .move (.const (.int .i64 51)), none⟩])
      (.keep [6, 7, 8] [6, 7] (.ret)))
      (.skip))))))))
  (.keep [0, 1, 5, 6, 7] [5, 6, 7] (.seq (.regionD [⟨some 37, .move (.tmp 0), none⟩,
     ⟨some 38, .nilCheck (.tmp 37), none⟩,
     ⟨some 39, .fieldAddr 0 (.tmp 38), none⟩,
     ⟨some 40, .load false 1 (.tmp 39), none⟩,
     ⟨some 41, .move (.tmp 1), none⟩,
     ⟨some 42, .lookup .str false (.agg [.nils, (.bool false), (.int .i64 0), (.int .i64 0), (.str []), (.int .i64 0), (.int .i64 0), (.int .i64 0), (.int .i64 0), (.int .i64 0), (.str []), (.bool false)]) (.tmp 40) (.tmp 41), none⟩,
     ⟨some 43, .load true 10 (.tmp 5), none⟩,
     ⟨some 44, .call (.func 27) [(.tmp 42), (.tmp 43)], none⟩,
     ⟨some 36, .move (.tmp 44), none⟩,
     ⟨some 45, .extract (.tmp 36) 0, none⟩,
     ⟨some 9, .alloc true 12 [.nils, (.bool false), (.int .i64 0), (.int .i64 0), (.str []), (.int .i64 0), (.int .i64 0), (.int .i64 0), (.int .i64 0), (.int .i64 0), (.str []), (.bool false)], none⟩,
     ⟨some 10, .alloc true 2 [(.int .i64 0), (.int .i64 0)], none⟩,
     ⟨some 11, .alloc true 5 [(.int .i64 0), (.int .i64 0), (.str []), (.int .i64 0), (.int .i64 0)], none⟩,
     ⟨none, .store 12 (.tmp 9) (.tmp 45), none⟩,
     ⟨some 46, .extract (.tmp 36) 1, none⟩,
     ⟨none, .store 2 (.tmp 10) (.tmp 46), none⟩,
     ⟨some 47, .extract (.tmp 36) 2, none⟩,
     ⟨none, .store 5 (.tmp 11) (.tmp 47), none⟩,
     ⟨some 48, .extract (.tmp 36) 3, none⟩,
     ⟨some 12, .move (.tmp 48), none⟩] [])
  (.keep [0, 1, 6, 7, 9, 10, 11, 12] [6, 7, 9, 10, 11] (.seq (.seq (.region [⟨some 49, .move (.tmp 12), none⟩,
      ⟨some 50, .bin .eql .int (.tmp 49) (.const (.int .i64 0)), none⟩])
   (.keep [0, 1, 6, 7, 9, 10, 11, 12, 50] [6, 7, 9, 10, 11] (.cond (.tmp 50)
    (.regionD [⟨some 51, .move (.tmp 0), none⟩,
      ⟨some 52, .nilCheck (.tmp 51), none⟩,
      ⟨some 53, .fieldAddr 0 (.tmp 52), none⟩,
      ⟨some 54, .load false 1 (.tmp 53), none⟩,
      ⟨some 55, .move (.tmp 1), none⟩,
      ⟨some 56, .load true 12 (.tmp 9), none⟩,
      ⟨none, .mapUpdate .str (.tmp 54) (.tmp 55) (.tmp 56), none⟩] [])
    (.skip))))
  (.keep [6, 7, 10, 11, 12] [6, 7, 10, 11] (.seq (.regionD [⟨some 57, .load true 2 (.tmp 10), none⟩,
     ⟨none, .store 2 (.tmp 6) (.tmp 57), none⟩,
     ⟨some 58, .load true 5 (.tmp 11), none⟩,
     ⟨none, .store 5 (.tmp 7) (.tmp 58), none⟩,
     ⟨some 59, .move (.tmp 12), none⟩,
     ⟨some 8, .move (.tmp 59), none⟩] [(2, 0)])
  (.keep [6, 7, 8] [6, 7] (.ret))))))))))⟩
/-- wampum/store.valued -/
def F25 : FnIR := ⟨23, 2, [.tmp 4], [],
  .seq (.region [⟨some 4, .move (.const (.bool false)), none⟩])
  (.keep [0, 1] [] (.seq (.region [⟨some 6, .move (.tmp 0), none⟩,
     ⟨some 7, .call (.func 49) [(.tmp 6), (.func 50)], none⟩,
     ⟨some 5, .move (.tmp 7), none⟩])
  (.keep [0, 1, 5] [] (.seq (.region [⟨some 8, .move (.tmp 5), none⟩,
     ⟨some 9, .un .not (.tmp 8), none⟩,
     ⟨some 10, .move (.tmp 9), none⟩,
     ⟨some 11, .move (.tmp 0), some (10, true)⟩,
     ⟨some 12, .len .str (.tmp 11), some (10, true)⟩,
     ⟨some 13, .bin .leq .none (.tmp 12) (.const (.int .i64 16)), some (10, true)⟩,
     ⟨some 14, .pick (.tmp 10) (.tmp 13) (.const (.bool false)), none⟩,
     ⟨some 15, .move (.tmp 14), none⟩,
     ⟨some 16, .move (.tmp 1), some (15, true)⟩,
     ⟨some 17, .un .not (.tmp 16), some (15, true)⟩,
     ⟨some 18, .move (.tmp 17), some (15, true)⟩,
     ⟨some 19, .move (.tmp 0), some (18, false)⟩,
     ⟨some 20, .bin .eql .str (.tmp 19) (.const (.str [])), some (18, false)⟩,
     ⟨some 21, .pick (.tmp 18) (.const (.bool true)) (.tmp 20), some (15, true)⟩,
     ⟨some 22, .pick (.tmp 15) (.tmp 21) (.const (.bool false)), none⟩,
     ⟨some 4, .move (.tmp 22), none⟩])
  (.keep [4] [] (.ret))))))⟩
/-- strings.ContainsFunc -/
def F49 : FnIR := ⟨9, 2, [.tmp 4], [],
  .seq (.region [⟨some 4, .move (.const (.bool false)), none⟩])
  (.keep [0, 1] [] (.seq (.region [⟨some 5, .move (.tmp 0), none⟩,
     ⟨some 6, .move (.tmp 1), none⟩,
     ⟨some 7, .call (.func 67) [(.tmp 5), (.tmp 6)], none⟩,
     ⟨some 8, .bin .geq .none (.tmp 7) (.const (.int .i64 0)), none⟩,
     ⟨some 4, .move (.tmp 8), none⟩])
  (.keep [4] [] (.ret))))⟩
/-- strings.IndexFunc -/
def F67 : FnIR := ⟨8, 2, [.tmp 4], [],
  .seq (.region [⟨some 4, .move (.const (.int .i64 0)), none⟩])
  (.keep [0, 1] [] (.seq (.region [⟨some 5, .move (.tmp 0), none⟩,
     ⟨some 6, .move (.tmp 1), none⟩,
     ⟨some 7, .call (.func 79) [(.tmp 5), (.tmp 6), (.const (.bool true))], none⟩,
     ⟨some 4, .move (.tmp 7), none⟩])
  (.keep [4] [] (.ret))))⟩
/-- strings.indexFunc -/
def L79_0 : IC :=
  .keep [1, 2, 10] [] (.seq (.region [⟨some 11, .nextS (.tmp 10), none⟩,
     ⟨some 12, .extract (.tmp 11) 0, none⟩])
  (.keep [1, 2, 10, 11, 12] [] (.seq (.cond (.tmp 12)
    (.skip)
    (.exit 0))
  (.keep [1, 2, 10, 11] [] (.block 1 (.seq (.region [⟨some 13, .extract (.tmp 11) 1, none⟩,
      ⟨some 14, .extract (.tmp 11) 2, none⟩,
      ⟨some 7, .move (.tmp 13), none⟩,
      ⟨some 8, .move (.tmp 14), none⟩])
   (.keep [1, 2, 7, 8, 10] [] (.seq (.region [⟨some 15, .move (.tmp 1), none⟩,
      ⟨some 16, .move (.tmp 8), none⟩,
      ⟨some 17, .call (.tmp 15) [(.tmp 16)], none⟩,
      ⟨some 18, .move (.tmp 2), none⟩,
      ⟨some 19, .bin .eql .bool (.tmp 17) (.tmp 18), none⟩])
   (.keep [1, 2, 7, 10, 19] [] (.cond (.tmp 19)
    (.seq (.region [⟨some 20, .move (.tmp 7), none⟩,
       ⟨some 6, .move (.tmp 20), none⟩])
    (.keep [6] [] (.ret)))
    (.skip)))))))))))
def F79 : FnIR := ⟨21, 3, [.tmp 6], [],
  .seq (.region [⟨some 6, .move (.const (.int .i64 0)), none⟩])
  (.keep [0, 1, 2] [] (.seq (.seq (.region [⟨some 9, .move (.tmp 0), none⟩,
      ⟨some 10, .rangeS (.tmp 9), none⟩])
   (.keep [1, 2, 10] [] (.block 0 (.loop L79_0))))
  (.keep [] [] (.seq (.region [⟨some 6, .move (.const (.int .i64 (-1))), none⟩])
  (.keep [6] [] (.ret))))))⟩
/-- wampum/store.valued$1 -/
def F50 : FnIR := ⟨9, 1, [.tmp 2], [],
  .seq (.region [⟨some 2, .move (.const (.bool false)), none⟩])
  (.keep [0] [] (.seq (.region [⟨some 3, .move (.tmp 0), none⟩,
     ⟨some 4, .bin .lss .none (.tmp 3) (.const (.int .i32 33)), none⟩,
     ⟨some 5, .move (.tmp 4), none⟩,
     ⟨some 6, .move (.tmp 0), some (5, false)⟩,
     ⟨some 7, .bin .gtr .none (.tmp 6) (.const (.int .i32 126)), some (5, false)⟩,
     ⟨some 8, .pick (.tmp 5) (.const (.bool true)) (.tmp 7), none⟩,
     ⟨some 2, .move (.tmp 8), none⟩])
  (.keep [2] [] (.ret))))⟩
/-- wampum/span.Key -/
def L26_0 : IC :=
  .keep [0, 5, 6] [] (.seq (.region [⟨some 7, .bin .lss .none (.tmp 6) (.tmp 5), none⟩])
  (.keep [0, 5, 6, 7] [] (.seq (.cond (.tmp 7)
    (.skip)
    (.exit 0))
  (.keep [0, 5, 6] [] (.seq (.block 1 (.seq (.region [⟨some 8, .move (.tmp 6), none⟩,
       ⟨some 3, .move (.tmp 8), none⟩])
    (.keep [0, 3, 5, 6] [] (.seq (.region [⟨some 9, .move (.tmp 0), none⟩,
       ⟨some 10, .move (.tmp 3), none⟩,
       ⟨some 11, .index none (.tmp 9) (.tmp 10), none⟩,
       ⟨some 12, .bin .lss .none (.tmp 11) (.const (.int .u8 97)), none⟩,
       ⟨some 13, .move (.tmp 12), none⟩,
       ⟨some 14, .move (.tmp 0), some (13, false)⟩,
       ⟨some 15, .move (.tmp 3), some (13, false)⟩,
       ⟨some 16, .index none (.tmp 14) (.tmp 15), some (13, false)⟩,
       ⟨some 17, .bin .gtr .none (.tmp 16) (.const (.int .u8 122)), some (13, false)⟩,
       ⟨some 18, .pick (.tmp 13) (.const (.bool true)) (.tmp 17), none⟩])
    (.keep [0, 5, 6, 18] [] (.cond (.tmp 18)
     (.seq (.region [⟨some 2, .move (.const (.bool false)), none⟩])
     (.keep [2] [] (.ret)))
     (.skip)))))))
  (.keep [0, 5, 6] [] (.region [⟨some 19, .bin .add .none (.tmp 6) (.const (.int .i64 1)), none⟩,
    ⟨some 6, .move (.tmp 19), none⟩])))))))
def F26 : FnIR := ⟨27, 1, [.tmp 2], [],
  .seq (.region [⟨some 2, .move (.const (.bool false)), none⟩])
  (.keep [0] [] (.seq (.seq (.region [⟨some 4, .move (.tmp 0), none⟩,
      ⟨some 5, .len .str (.tmp 4), none⟩,
      ⟨some 6, .move (.const (.int .i64 0)), none⟩])
   (.keep [0, 5, 6] [] (.block 0 (.loop L26_0))))
  (.keep [0] [] (.seq (.region [⟨some 20, .move (.tmp 0), none⟩,
     ⟨some 21, .bin .neq .str (.tmp 20) (.const (.str [])), none⟩,
     ⟨some 22, .move (.tmp 21), none⟩,
     ⟨some 23, .move (.tmp 0), some (22, true)⟩,
     ⟨some 24, .len .str (.tmp 23), some (22, true)⟩,
     ⟨some 25, .bin .leq .none (.tmp 24) (.const (.int .i64 8)), some (22, true)⟩,
     ⟨some 26, .pick (.tmp 22) (.tmp 25) (.const (.bool false)), none⟩,
     ⟨some 2, .move (.tmp 26), none⟩])
  (.keep [2] [] (.ret))))))⟩
/-- wampum/version.Write -/
def F27 : FnIR := ⟨100, 2, [.cell 4 true 12, .cell 5 true 2, .cell 6 true 5, .tmp 7], [2, 4, 5, 6, 8, 9, 10],
  .seq (.region [⟨some 2, .box true 12 (.tmp 0), none⟩,
     ⟨some 3, .box false 10 (.tmp 1), none⟩,
     ⟨some 4, .alloc true 12 [.nils, (.bool false), (.int .i64 0), (.int .i64 0), (.str []), (.int .i64 0), (.int .i64 0), (.int .i64 0), (.int .i64 0), (.int .i64 0), (.str []), (.bool false)], none⟩,
     ⟨some 5, .alloc true 2 [(.int .i64 0), (.int .i64 0)], none⟩,
     ⟨some 6, .alloc true 5 [(.int .i64 0), (.int .i64 0), (.str []), (.int .i64 0), (.int .i64 0)], none⟩,
     ⟨some 7, .move (.const (.int .i64 0)), none⟩])
  (.keep [2, 3, 4, 5, 6] [2, 4, 5, 6] (.seq (.region [⟨some 8, .alloc true 5 [(.int .i64 0), (.int .i64 0), (.str []), (.int .i64 0), (.int .i64 0)], none⟩])
  (.keep [2, 3, 4, 5, 6, 8] [2, 4, 5, 6, 8] (.seq (.region [⟨some 12, .fieldAddr 2 (.tmp 2), none⟩,
     ⟨some 13, .load true 10 (.tmp 12), none⟩,
     ⟨some 9, .alloc true 10 [(.int .i64 0), (.int .i64 0), (.str []), (.int .i64 0), (.int .i64 0), (.int .i64 0), (.int .i64 0), (.int .i64 0), (.str []), (.bool false)], none⟩,
     ⟨none, .store 10 (.tmp 9) (.tmp 13), none⟩])
  (.keep [2, 3, 4, 5, 6, 8, 9] [2, 4, 5, 6, 8, 9] (.seq (.block 0 (.seq (.region [⟨some 15, .fieldAddr 1 (.tmp 2), none⟩,
       ⟨some 16, .load false 1 (.tmp 15), none⟩,
       ⟨some 17, .move (.tmp 16), none⟩,
       ⟨some 18, .fieldAddr 0 (.tmp 9), some (17, true)⟩,
       ⟨some 19, .fieldAddr 0 (.tmp 18), some (17, true)⟩,
       ⟨some 20, .load false 1 (.tmp 19), some (17, true)⟩,
       ⟨some 21, .fieldAddr 0 (.tmp 3), some (17, true)⟩,
       ⟨some 22, .fieldAddr 0 (.tmp 21), some (17, true)⟩,
       ⟨some 23, .load false 1 (.tmp 22), some (17, true)⟩,
       ⟨some 24, .bin .neq .int (.tmp 20) (.tmp 23), some (17, true)⟩,
       ⟨some 25, .pick (.tmp 17) (.tmp 24) (.const (.bool false)), none⟩,
       ⟨some 14, .move (.tmp 25), none⟩])
    (.keep [2, 3, 4, 5, 6, 8, 9, 14] [2, 4, 5, 6, 8, 9] (.cond (.tmp 14)
     (.seq (.regionD [⟨some 26, .build [.nils, (.bool false), (.int .i64 0), (.int .i64 0), (.str []), (.int .i64 0), (.int .i64 0), (.int .i64 0), (.int .i64 0), (.int .i64 0), (.str []), (.bool false)] [], none⟩,
        ⟨none, .store 12 (.tmp 4) (.tmp 26), none⟩,
        ⟨some 27, .build [(.int .i64 0), (.int .i64 0)] [], none⟩,
        ⟨none, .store 2 (.tmp 5) (.tmp 27), none⟩,
        ⟨some 28, .fieldAddr 0 (.tmp 9), none⟩,
        ⟨some 29, .load true 5 (.tmp 28), none⟩,
        ⟨none, .store 5 (.tmp 6) (.tmp 29), none⟩,
        ⟨some 7, .move (.const (.int .i64 81)), none⟩] [(5, 0), (5, 2)])
     (.keep [4, 5, 6, 7] [4, 5, 6] (.ret)))
     (.seq (.region [⟨some 31, .fieldAddr 0 (.tmp 2), none⟩,
        ⟨some 32, .load false 1 (.tmp 31), none⟩,
        ⟨some 33, .mkFunc (.func 52) [] [(.tmp 3)], none⟩,
        ⟨some 34, .call (.func 51) [(.tmp 32), (.tmp 33)], none⟩,
        ⟨some 30, .move (.tmp 34), none⟩])
     (.keep [2, 3, 4, 5, 6, 8, 9, 30] [2, 4, 5, 6, 8, 9] (.cond (.tmp 30)
      (.seq (.regionD [⟨some 35, .build [.nils, (.bool false), (.int .i64 0), (.int .i64 0), (.str []), (.int .i64 0), (.int .i64 0), (.int .i64 0), (.int .i64 0), (.int .i64 0), (.str []), (.bool false)] [], none⟩,
         ⟨none, .store 12 (.tmp 4) (.tmp 35), none⟩,
         ⟨some 36, .build [(.int .i64 0), (.int .i64 0)] [], none⟩,
         ⟨none, .store 2 (.tmp 5) (.tmp 36), none⟩,
         ⟨some 37, .load true 5 (.tmp 8), none⟩,
         ⟨none, .store 5 (.tmp 6) (.tmp 37), none⟩,
         ⟨some 7, .move (.const (.int .i64 83)), none⟩] [(4, 0), (4, 2)])
      (.keep [4, 5, 6, 7] [4, 5, 6] (.ret)))
      (.seq (.region [⟨some 39, .fieldAddr 1 (.tmp 2), none⟩,
         ⟨some 40, .load false 1 (.tmp 39), none⟩,
         ⟨some 41, .move (.tmp 40), none⟩,
         ⟨some 42, .fieldAddr 0 (.tmp 9), some (41, true)⟩,
         ⟨some 43, .fieldAddr 1 (.tmp 42), some (41, true)⟩,
         ⟨some 44, .load false 1 (.tmp 43), some (41, true)⟩,
         ⟨some 45, .fieldAddr 0 (.tmp 3), some (41, true)⟩,
         ⟨some 46, .fieldAddr 1 (.tmp 45), some (41, true)⟩,
         ⟨some 47, .load false 1 (.tmp 46), some (41, true)⟩,
         ⟨some 48, .bin .gtr .none (.tmp 44) (.tmp 47), some (41, true)⟩,
         ⟨some 49, .pick (.tmp 41) (.tmp 48) (.const (.bool false)), none⟩,
         ⟨some 38, .move (.tmp 49), none⟩])
      (.keep [2, 3, 4, 5, 6, 8, 9, 38] [2, 4, 5, 6, 8, 9] (.cond (.tmp 38)
       (.seq (.regionD [⟨some 50, .build [.nils, (.bool false), (.int .i64 0), (.int .i64 0), (.str []), (.int .i64 0), (.int .i64 0), (.int .i64 0), (.int .i64 0), (.int .i64 0), (.str []), (.bool false)] [], none⟩,
          ⟨none, .store 12 (.tmp 4) (.tmp 50), none⟩,
          ⟨some 51, .build [(.int .i64 0), (.int .i64 0)] [], none⟩,
          ⟨none, .store 2 (.tmp 5) (.tmp 51), none⟩,
          ⟨some 52, .load true 5 (.tmp 8), none⟩,
          ⟨none, .store 5 (.tmp 6) (.tmp 52), none⟩,
          ⟨some 7, .move (.const (.int .i64 84)), none⟩] [(4, 0), (4, 2)])
       (.keep [4, 5, 6, 7] [4, 5, 6] (.ret)))
       (.seq (.region [⟨some 54, .fieldAddr 1 (.tmp 2), none⟩,
          ⟨some 55, .load false 1 (.tmp 54), none⟩,
          ⟨some 56, .move (.tmp 55), none⟩,
          ⟨some 57, .fieldAddr 0 (.tmp 9), some (56, true)⟩,
          ⟨some 58, .fieldAddr 1 (.tmp 57), some (56, true)⟩,
          ⟨some 59, .load false 1 (.tmp 58), some (56, true)⟩,
          ⟨some 60, .fieldAddr 0 (.tmp 3), some (56, true)⟩,
          ⟨some 61, .fieldAddr 1 (.tmp 60), some (56, true)⟩,
          ⟨some 62, .load false 1 (.tmp 61), some (56, true)⟩,
          ⟨some 63, .bin .eql .int (.tmp 59) (.tmp 62), some (56, true)⟩,
          ⟨some 64, .pick (.tmp 56) (.tmp 63) (.const (.bool false)), none⟩,
          ⟨some 65, .move (.tmp 64), none⟩,
          ⟨some 66, .fieldAddr 5 (.tmp 9), some (65, true)⟩,
          ⟨some 67, .load false 1 (.tmp 66), some (65, true)⟩,
          ⟨some 68, .fieldAddr 5 (.tmp 3), some (65, true)⟩,
          ⟨some 69, .load false 1 (.tmp 68), some (65, true)⟩,
          ⟨some 70, .bin .geq .none (.tmp 67) (.tmp 69), some (65, true)⟩,
          ⟨some 71, .pick (.tmp 65) (.tmp 70) (.const (.bool false)), none⟩,
          ⟨some 53, .move (.tmp 71), none⟩])
       (.keep [2, 3, 4, 5, 6, 8, 9, 53] [2, 4, 5, 6, 8, 9] (.cond (.tmp 53)
        (.seq (.regionD [⟨some 72, .load true 12 (.tmp 2), none⟩,
           ⟨some 73, .call (.func 53) [(.tmp 72)], none⟩,
           ⟨none, .store 12 (.tmp 4) (.tmp 73), none⟩,
           ⟨some 74, .fieldAddr 6 (.tmp 9), none⟩,
           ⟨some 75, .load true 2 (.tmp 74), none⟩,
           ⟨none, .store 2 (.tmp 5) (.tmp 75), none⟩,
           ⟨some 76, .load true 5 (.tmp 8), none⟩,
           ⟨none, .store 5 (.tmp 6) (.tmp 76), none⟩,
           ⟨some 7, .move (.const (.int .i64 0)), none⟩] [(4, 0), (4, 2), (6, 0), (6, 2), (6, 3)])
        (.keep [4, 5, 6, 7] [4, 5, 6] (.ret)))
        (.skip))))))))))))))
  (.keep [2, 3, 4, 5, 6, 8] [2, 4, 5, 6, 8] (.seq (.region [⟨some 78, .load true 12 (.tmp 2), none⟩,
     ⟨some 79, .fieldAddr 6 (.tmp 3), none⟩,
     ⟨some 80, .load true 2 (.tmp 79), none⟩,
     ⟨some 81, .call (.func 54) [(.tmp 78), (.tmp 80)], none⟩,
     ⟨some 77, .move (.tmp 81), none⟩,
     ⟨some 82, .extract (.tmp 77) 0, none⟩,
     ⟨some 83, .extract (.tmp 77) 1, none⟩,
     ⟨some 10, .alloc true 2 [(.int .i64 0), (.int .i64 0)], none⟩,
     ⟨none, .store 2 (.tmp 10) (.tmp 82), none⟩,
     ⟨some 11, .move (.tmp 83), none⟩])
  (.keep [2, 3, 4, 5, 6, 8, 10, 11] [2, 4, 5, 6, 8, 10] (.seq (.seq (.region [⟨some 84, .move (.tmp 11), none⟩,
      ⟨some 85, .bin .neq .int (.tmp 84) (.const (.int .i64 0)), none⟩])
   (.keep [2, 3, 4, 5, 6, 8, 10, 85] [2, 4, 5, 6, 8, 10] (.cond (.tmp 85)
    (.seq (.regionD [⟨some 86, .build [.nils, (.bool false), (.int .i64 0), (.int .i64 0), (.str []), (.int .i64 0), (.int .i64 0), (.int .i64 0), (.int .i64 0), (.int .i64 0), (.str []), (.bool false)] [], none⟩,
       ⟨none, .store 12 (.tmp 4) (.tmp 86), none⟩,
       ⟨some 87, .build [(.int .i64 0), (.int .i64 0)] [], none⟩,
       ⟨none, .store 2 (.tmp 5) (.tmp 87), none⟩,
       ⟨some 88, .load true 5 (.tmp 8), none⟩,
       ⟨none, .store 5 (.tmp 6) (.tmp 88), none⟩,
       ⟨some 7, .move (.const (.int .i64 31)), none⟩] [(4, 0), (4, 2)])
    (.keep [4, 5, 6, 7] [4, 5, 6] (.ret)))
    (.skip))))
  (.keep [2, 3, 4, 5, 6, 8, 10] [2, 4, 5, 6, 8, 10] (.seq (.region [⟨some 89, .load true 12 (.tmp 2), none⟩,
     ⟨some 90, .call (.func 53) [(.tmp 89)], none⟩,
     ⟨none, .store 12 (.tmp 2) (.tmp 90), none⟩])
  (.keep [2, 3, 4, 5, 6, 8, 10] [2, 4, 5, 6, 8, 10] (.seq (.regionD [⟨some 92, .fieldAddr 1 (.tmp 2), none⟩,
     ⟨none, .store 1 (.tmp 92) (.const (.bool true)), none⟩,
     ⟨some 91, .load true 10 (.tmp 3), none⟩,
     ⟨some 93, .fieldAddr 2 (.tmp 2), none⟩,
     ⟨none, .store 10 (.tmp 93) (.tmp 91), none⟩] [(2, 0)])
  (.keep [2, 4, 5, 6, 8, 10] [2, 4, 5, 6, 8, 10] (.seq (.region [⟨some 94, .load true 2 (.tmp 10), none⟩,
     ⟨some 95, .fieldAddr 2 (.tmp 2), none⟩,
     ⟨some 96, .fieldAddr 6 (.tmp 95), none⟩,
     ⟨none, .store 2 (.tmp 96) (.tmp 94), none⟩])
  (.keep [2, 4, 5, 6, 8, 10] [2, 4, 5, 6, 8, 10] (.seq (.regionD [⟨some 97, .load true 12 (.tmp 2), none⟩,
     ⟨none, .store 12 (.tmp 4) (.tmp 97), none⟩,
     ⟨some 98, .load true 2 (.tmp 10), none⟩,
     ⟨none, .store 2 (.tmp 5) (.tmp 98), none⟩,
     ⟨some 99, .load true 5 (.tmp 8), none⟩,
     ⟨none, .store 5 (.tmp 6) (.tmp 99), none⟩,
     ⟨some 7, .move (.const (.int .i64 0)), none⟩] [(2, 0), (4, 0), (4, 2)])
  (.keep [4, 5, 6, 7] [4, 5, 6] (.ret))))))))))))))))))))⟩
/-- wampum/version.Write$1 -/
def F52 : FnIR := ⟨10, 2, [.tmp 3], [2],
  .seq (.region [⟨some 2, .box true 5 (.tmp 0), none⟩,
     ⟨some 3, .move (.const (.bool false)), none⟩])
  (.keep [1, 2] [2] (.seq (.region [⟨some 4, .fieldAddr 4 (.tmp 2), none⟩,
     ⟨some 5, .load false 1 (.tmp 4), none⟩,
     ⟨some 6, .fieldAddr 0 (.tmp 1), none⟩,
     ⟨some 7, .fieldAddr 0 (.tmp 6), none⟩,
     ⟨some 8, .load false 1 (.tmp 7), none⟩,
     ⟨some 9, .bin .eql .int (.tmp 5) (.tmp 8), none⟩,
     ⟨some 3, .move (.tmp 9), none⟩])
  (.keep [3] [] (.ret))))⟩
/-- slices.ContainsFunc[[]wampum/api.Version,wampum/api.Version] -/
def F51 : FnIR := ⟨9, 2, [.tmp 4], [],
  .seq (.region [⟨some 4, .move (.const (.bool false)), none⟩])
  (.keep [0, 1] [] (.seq (.region [⟨some 5, .move (.tmp 0), none⟩,
     ⟨some 6, .move (.tmp 1), none⟩,
     ⟨some 7, .call (.func 68) [(.tmp 5), (.tmp 6)], none⟩,
     ⟨some 8, .bin .geq .none (.tmp 7) (.const (.int .i64 0)), none⟩,
     ⟨some 4, .move (.tmp 8), none⟩])
  (.keep [4] [] (.ret))))⟩
/-- slices.IndexFunc[[]wampum/api.Version,wampum/api.Version] -/
def L68_0 : IC :=
  .keep [0, 1, 7, 8] [] (.seq (.region [⟨some 9, .bin .lss .none (.tmp 8) (.tmp 7), none⟩])
  (.keep [0, 1, 7, 8, 9] [] (.seq (.cond (.tmp 9)
    (.skip)
    (.exit 0))
  (.keep [0, 1, 7, 8] [] (.seq (.block 1 (.seq (.region [⟨some 10, .move (.tmp 8), none⟩,
       ⟨some 5, .move (.tmp 10), none⟩])
    (.keep [0, 1, 5, 7, 8] [] (.seq (.region [⟨some 11, .move (.tmp 1), none⟩,
       ⟨some 12, .move (.tmp 0), none⟩,
       ⟨some 13, .move (.tmp 5), none⟩,
       ⟨some 14, .indexAddr none 5 (.tmp 12) (.tmp 13), none⟩,
       ⟨some 15, .load true 5 (.tmp 14), none⟩,
       ⟨some 16, .call (.tmp 11) [(.tmp 15)], none⟩])
    (.keep [0, 1, 5, 7, 8, 16] [] (.cond (.tmp 16)
     (.seq (.region [⟨some 17, .move (.tmp 5), none⟩,
        ⟨some 4, .move (.tmp 17), none⟩])
     (.keep [4] [] (.ret)))
     (.skip)))))))
  (.keep [0, 1, 7, 8] [] (.region [⟨some 18, .bin .add .none (.tmp 8) (.const (.int .i64 1)), none⟩,
    ⟨some 8, .move (.tmp 18), none⟩])))))))
def F68 : FnIR := ⟨19, 2, [.tmp 4], [],
  .seq (.region [⟨some 4, .move (.const (.int .i64 0)), none⟩])
  (.keep [0, 1] [] (.seq (.seq (.region [⟨some 6, .move (.tmp 0), none⟩,
      ⟨some 7, .len .slice (.tmp 6), none⟩,
      ⟨some 8, .move (.const (.int .i64 0)), none⟩])
   (.keep [0, 1, 7, 8] [] (.block 0 (.loop L68_0))))
  (.keep [] [] (.seq (.region [⟨some 4, .move (.const (.int .i64 (-1))), none⟩])
  (.keep [4] [] (.ret))))))⟩
/-- wampum/version.copied -/
def F53 : FnIR := ⟨8, 1, [.cell 2 true 12], [1, 2],
  .seq (.region [⟨some 1, .box true 12 (.tmp 0), none⟩,
     ⟨some 2, .alloc true 12 [.nils, (.bool false), (.int .i64 0), (.int .i64 0), (.str []), (.int .i64 0), (.int .i64 0), (.int .i64 0), (.int .i64 0), (.int .i64 0), (.str []), (.bool false)], none⟩])
  (.keep [1, 2] [1, 2] (.seq (.region [⟨some 3, .fieldAddr 0 (.tmp 1), none⟩,
     ⟨some 4, .load false 1 (.tmp 3), none⟩,
     ⟨some 5, .call (.func 36) [(.tmp 4)], none⟩,
     ⟨some 6, .fieldAddr 0 (.tmp 1), none⟩,
     ⟨none, .store 1 (.tmp 6) (.tmp 5), none⟩])
  (.keep [1, 2] [1, 2] (.seq (.region [⟨some 7, .load true 12 (.tmp 1), none⟩,
     ⟨none, .store 12 (.tmp 2) (.tmp 7), none⟩])
  (.keep [2] [2] (.ret))))))⟩
/-- slices.Clone[[]wampum/api.Version,wampum/api.Version] -/
def F36 : FnIR := ⟨8, 1, [.tmp 2], [],
  .seq (.region [⟨some 2, .move (.const .nils), none⟩])
  (.keep [0] [] (.seq (.seq (.region [⟨some 3, .move (.tmp 0), none⟩,
      ⟨some 4, .bin .eql .slice (.tmp 3) (.const .nils), none⟩])
   (.keep [0, 4] [] (.cond (.tmp 4)
    (.seq (.region [⟨some 2, .move (.const .nils), none⟩])
    (.keep [2] [] (.ret)))
    (.skip))))
  (.keep [0] [] (.seq (.region [⟨some 5, .buildSlice 5 0 [] [], none⟩,
     ⟨some 6, .move (.tmp 0), none⟩,
     ⟨some 7, .append 5 48 (.tmp 5) (.tmp 6), none⟩,
     ⟨some 2, .move (.tmp 7), none⟩])
  (.keep [2] [] (.ret))))))⟩
/-- wampum/version.least -/
def F54 : FnIR := ⟨40, 2, [.cell 4 true 2, .tmp 5], [2, 3, 4, 6, 8],
  .seq (.region [⟨some 2, .box true 12 (.tmp 0), none⟩,
     ⟨some 3, .box true 2 (.tmp 1), none⟩,
     ⟨some 4, .alloc true 2 [(.int .i64 0), (.int .i64 0)], none⟩,
     ⟨some 5, .move (.const (.int .i64 0)), none⟩])
  (.keep [2, 3, 4] [2, 3, 4] (.seq (.seq (.region [⟨some 11, .load true 12 (.tmp 2), none⟩,
      ⟨some 12, .call (.func 58) [(.tmp 11)], none⟩,
      ⟨some 10, .move (.tmp 12), none⟩,
      ⟨some 13, .extract (.tmp 10) 0, none⟩,
      ⟨some 14, .extract (.tmp 10) 1, none⟩,
      ⟨some 6, .alloc true 2 [(.int .i64 0), (.int .i64 0)], none⟩,
      ⟨none, .store 2 (.tmp 6) (.tmp 13), none⟩,
      ⟨some 7, .move (.tmp 14), none⟩])
   (.keep [2, 3, 4, 6, 7] [2, 3, 4, 6] (.seq (.region [⟨some 15, .move (.tmp 7), none⟩])
   (.keep [2, 3, 4, 6, 15] [2, 3, 4, 6] (.cond (.tmp 15)
    (.seq (.region [⟨some 17, .load true 2 (.tmp 6), none⟩,
       ⟨some 18, .call (.func 69) [(.tmp 17)], none⟩,
       ⟨some 16, .move (.tmp 18), none⟩,
       ⟨some 19, .extract (.tmp 16) 0, none⟩,
       ⟨some 20, .extract (.tmp 16) 1, none⟩,
       ⟨some 8, .alloc true 2 [(.int .i64 0), (.int .i64 0)], none⟩,
       ⟨none, .store 2 (.tmp 8) (.tmp 19), none⟩,
       ⟨some 9, .move (.tmp 20), none⟩])
    (.keep [2, 3, 4, 8, 9] [2, 3, 4, 8] (.seq (.seq (.region [⟨some 21, .move (.tmp 9), none⟩,
        ⟨some 22, .bin .neq .int (.tmp 21) (.const (.int .i64 0)), none⟩])
     (.keep [2, 3, 4, 8, 9, 22] [2, 3, 4, 8] (.cond (.tmp 22)
      (.seq (.region [⟨some 23, .build [(.int .i64 0), (.int .i64 0)] [], none⟩,
         ⟨some 24, .move (.tmp 9), none⟩,
         ⟨none, .store 2 (.tmp 4) (.tmp 23), none⟩,
         ⟨some 5, .move (.tmp 24), none⟩])
      (.keep [4, 5] [4] (.ret)))
      (.skip))))
    (.keep [2, 3, 4, 8] [2, 3, 4, 8] (.region [⟨some 25, .load true 2 (.tmp 3), none⟩,
      ⟨some 26, .load true 2 (.tmp 8), none⟩,
      ⟨some 27, .call (.func 70) [(.tmp 25), (.tmp 26)], none⟩,
      ⟨none, .store 2 (.tmp 3) (.tmp 27), none⟩])))))
    (.skip))))))
  (.keep [2, 3, 4] [2, 3, 4] (.seq (.seq (.region [⟨some 28, .fieldAddr 1 (.tmp 2), none⟩,
      ⟨some 29, .load false 1 (.tmp 28), none⟩])
   (.keep [2, 3, 4, 29] [2, 3, 4] (.cond (.tmp 29)
    (.region [⟨some 30, .load true 2 (.tmp 3), none⟩,
      ⟨some 31, .fieldAddr 2 (.tmp 2), none⟩,
      ⟨some 32, .fieldAddr 6 (.tmp 31), none⟩,
      ⟨some 33, .load true 2 (.tmp 32), none⟩,
      ⟨some 34, .call (.func 70) [(.tmp 30), (.tmp 33)], none⟩,
      ⟨none, .store 2 (.tmp 3) (.tmp 34), none⟩])
    (.skip))))
  (.keep [3, 4] [3, 4] (.seq (.seq (.region [⟨some 35, .load true 2 (.tmp 3), none⟩,
      ⟨some 36, .call (.func 59) [(.tmp 35)], none⟩,
      ⟨some 37, .un .not (.tmp 36), none⟩])
   (.keep [3, 4, 37] [3, 4] (.cond (.tmp 37)
    (.seq (.region [⟨some 38, .build [(.int .i64 0), (.int .i64 0)] [], none⟩,
       ⟨none, .store 2 (.tmp 4) (.tmp 38), none⟩,
       ⟨some 5, .move (.const (.int .i64 31)), none⟩])
    (.keep [4, 5] [4] (.ret)))
    (.skip))))
  (.keep [3, 4] [3, 4] (.seq (.region [⟨some 39, .load true 2 (.tmp 3), none⟩,
     ⟨none, .store 2 (.tmp 4) (.tmp 39), none⟩,
     ⟨some 5, .move (.const (.int .i64 0)), none⟩])
  (.keep [4, 5] [4] (.ret))))))))))⟩
/-- wampum/version.last -/
def F58 : FnIR := ⟨18, 1, [.cell 2 true 2, .tmp 3], [1, 2],
  .seq (.region [⟨some 1, .box true 12 (.tmp 0), none⟩,
     ⟨some 2, .alloc true 2 [(.int .i64 0), (.int .i64 0)], none⟩,
     ⟨some 3, .move (.const (.bool false)), none⟩])
  (.keep [1, 2] [1, 2] (.seq (.seq (.region [⟨some 4, .fieldAddr 0 (.tmp 1), none⟩,
      ⟨some 5, .load false 1 (.tmp 4), none⟩,
      ⟨some 6, .len .slice (.tmp 5), none⟩,
      ⟨some 7, .bin .eql .int (.tmp 6) (.const (.int .i64 0)), none⟩])
   (.keep [1, 2, 7] [1, 2] (.cond (.tmp 7)
    (.seq (.region [⟨some 8, .build [(.int .i64 0), (.int .i64 0)] [], none⟩,
       ⟨none, .store 2 (.tmp 2) (.tmp 8), none⟩,
       ⟨some 3, .move (.const (.bool false)), none⟩])
    (.keep [2, 3] [2] (.ret)))
    (.skip))))
  (.keep [1, 2] [1, 2] (.seq (.region [⟨some 9, .fieldAddr 0 (.tmp 1), none⟩,
     ⟨some 10, .load false 1 (.tmp 9), none⟩,
     ⟨some 11, .fieldAddr 0 (.tmp 1), none⟩,
     ⟨some 12, .load false 1 (.tmp 11), none⟩,
     ⟨some 13, .len .slice (.tmp 12), none⟩,
     ⟨some 14, .bin .sub .none (.tmp 13) (.const (.int .i64 1)), none⟩,
     ⟨some 15, .indexAddr none 5 (.tmp 10) (.tmp 14), none⟩,
     ⟨some 16, .fieldAddr 0 (.tmp 15), none⟩,
     ⟨some 17, .load true 2 (.tmp 16), none⟩,
     ⟨none, .store 2 (.tmp 2) (.tmp 17), none⟩,
     ⟨some 3, .move (.const (.bool true)), none⟩])
  (.keep [2, 3] [2] (.ret))))))⟩
/-- wampum/stamp.Next -/
def F69 : FnIR := ⟨29, 1, [.cell 2 true 2, .tmp 3], [1, 2, 4],
  .seq (.region [⟨some 1, .box true 2 (.tmp 0), none⟩,
     ⟨some 2, .alloc true 2 [(.int .i64 0), (.int .i64 0)], none⟩,
     ⟨some 3, .move (.const (.int .i64 0)), none⟩])
  (.keep [1, 2] [1, 2] (.seq (.region [⟨some 5, .build [(.int .i64 0), (.int .i64 0)] [(0, 1, (.const (.int .i64 1099511627776))), (1, 1, (.const (.int .i64 65535)))], none⟩,
     ⟨some 4, .alloc true 2 [(.int .i64 0), (.int .i64 0)], none⟩,
     ⟨none, .store 2 (.tmp 4) (.tmp 5), none⟩])
  (.keep [1, 2, 4] [1, 2, 4] (.seq (.block 0 (.seq (.region [⟨some 7, .load true 2 (.tmp 1), none⟩,
       ⟨some 8, .call (.func 59) [(.tmp 7)], none⟩,
       ⟨some 9, .un .not (.tmp 8), none⟩,
       ⟨some 10, .move (.tmp 9), none⟩,
       ⟨some 11, .load true 2 (.tmp 1), some (10, false)⟩,
       ⟨some 12, .load true 2 (.tmp 4), some (10, false)⟩,
       ⟨some 13, .bin .eql (.struct [(0, false, 1, .int), (1, false, 1, .int)]) (.tmp 11) (.tmp 12), some (10, false)⟩,
       ⟨some 14, .pick (.tmp 10) (.const (.bool true)) (.tmp 13), none⟩,
       ⟨some 6, .move (.tmp 14), none⟩])
    (.keep [1, 2, 6] [1, 2] (.cond (.tmp 6)
     (.seq (.region [⟨some 15, .build [(.int .i64 0), (.int .i64 0)] [], none⟩,
        ⟨none, .store 2 (.tmp 2) (.tmp 15), none⟩,
        ⟨some 3, .move (.const (.int .i64 31)), none⟩])
     (.keep [2, 3] [2] (.ret)))
     (.seq (.region [⟨some 17, .fieldAddr 1 (.tmp 1), none⟩,
        ⟨some 18, .load false 1 (.tmp 17), none⟩,
        ⟨some 19, .bin .eql .int (.tmp 18) (.const (.int .i64 65535)), none⟩,
        ⟨some 16, .move (.tmp 19), none⟩])
     (.keep [1, 2, 16] [1, 2] (.cond (.tmp 16)
      (.seq (.region [⟨some 20, .fieldAddr 0 (.tmp 1), none⟩,
         ⟨some 21, .load false 1 (.tmp 20), none⟩,
         ⟨some 22, .bin .add .none (.tmp 21) (.const (.int .i64 1)), none⟩,
         ⟨some 23, .build [(.int .i64 0), (.int .i64 0)] [(0, 1, (.tmp 22))], none⟩,
         ⟨none, .store 2 (.tmp 2) (.tmp 23), none⟩,
         ⟨some 3, .move (.const (.int .i64 0)), none⟩])
      (.keep [2, 3] [2] (.ret)))
      (.skip))))))))
  (.keep [1, 2] [1, 2] (.seq (.region [⟨some 24, .fieldAddr 1 (.tmp 1), none⟩,
     ⟨some 25, .load false 1 (.tmp 24), none⟩,
     ⟨some 26, .bin .add .none (.tmp 25) (.const (.int .i64 1)), none⟩,
     ⟨some 27, .fieldAddr 1 (.tmp 1), none⟩,
     ⟨none, .store 1 (.tmp 27) (.tmp 26), none⟩])
  (.keep [1, 2] [1, 2] (.seq (.region [⟨some 28, .load true 2 (.tmp 1), none⟩,
     ⟨none, .store 2 (.tmp 2) (.tmp 28), none⟩,
     ⟨some 3, .move (.const (.int .i64 0)), none⟩])
  (.keep [2, 3] [2] (.ret))))))))))⟩
/-- wampum/stamp.Right -/
def F59 : FnIR := ⟨11, 1, [.tmp 2], [1],
  .seq (.region [⟨some 1, .box true 2 (.tmp 0), none⟩,
     ⟨some 2, .move (.const (.bool false)), none⟩])
  (.keep [1] [1] (.seq (.region [⟨some 3, .fieldAddr 0 (.tmp 1), none⟩,
     ⟨some 4, .load false 1 (.tmp 3), none⟩,
     ⟨some 5, .call (.func 71) [(.tmp 4), (.const (.int .i64 0)), (.const (.int .i64 1099511627776))], none⟩,
     ⟨some 6, .move (.tmp 5), none⟩,
     ⟨some 7, .fieldAddr 1 (.tmp 1), some (6, true)⟩,
     ⟨some 8, .load false 1 (.tmp 7), some (6, true)⟩,
     ⟨some 9, .call (.func 71) [(.tmp 8), (.const (.int .i64 0)), (.const (.int .i64 65535))], some (6, true)⟩,
     ⟨some 10, .pick (.tmp 6) (.tmp 9) (.const (.bool false)), none⟩,
     ⟨some 2, .move (.tmp 10), none⟩])
  (.keep [2] [] (.ret))))⟩
/-- wampum/stamp.within[int] -/
def F71 : FnIR := ⟨15, 3, [.tmp 6], [],
  .seq (.region [⟨some 6, .move (.const (.bool false)), none⟩])
  (.keep [0, 1, 2] [] (.seq (.region [⟨some 7, .move (.tmp 0), none⟩,
     ⟨some 8, .move (.tmp 1), none⟩,
     ⟨some 9, .bin .geq .none (.tmp 7) (.tmp 8), none⟩,
     ⟨some 10, .move (.tmp 9), none⟩,
     ⟨some 11, .move (.tmp 0), some (10, true)⟩,
     ⟨some 12, .move (.tmp 2), some (10, true)⟩,
     ⟨some 13, .bin .leq .none (.tmp 11) (.tmp 12), some (10, true)⟩,
     ⟨some 14, .pick (.tmp 10) (.tmp 13) (.const (.bool false)), none⟩,
     ⟨some 6, .move (.tmp 14), none⟩])
  (.keep [6] [] (.ret))))⟩
/-- wampum/stamp.Max -/
def F70 : FnIR := ⟨10, 2, [.cell 4 true 2], [2, 3, 4],
  .seq (.region [⟨some 2, .box true 2 (.tmp 0), none⟩,
     ⟨some 3, .box true 2 (.tmp 1), none⟩,
     ⟨some 4, .alloc true 2 [(.int .i64 0), (.int .i64 0)], none⟩])
  (.keep [2, 3, 4] [2, 3, 4] (.seq (.seq (.region [⟨some 5, .load true 2 (.tmp 2), none⟩,
      ⟨some 6, .load true 2 (.tmp 3), none⟩,
      ⟨some 7, .call (.func 72) [(.tmp 5), (.tmp 6)], none⟩])
   (.keep [2, 3, 4, 7] [2, 3, 4] (.cond (.tmp 7)
    (.seq (.region [⟨some 8, .load true 2 (.tmp 3), none⟩,
       ⟨none, .store 2 (.tmp 4) (.tmp 8), none⟩])
    (.keep [4] [4] (.ret)))
    (.skip))))
  (.keep [2, 4] [2, 4] (.seq (.region [⟨some 9, .load true 2 (.tmp 2), none⟩,
     ⟨none, .store 2 (.tmp 4) (.tmp 9), none⟩])
  (.keep [4] [4] (.ret))))))⟩
/-- wampum/stamp.Less -/
def F72 : FnIR := ⟨9, 2, [.tmp 4], [2, 3],
  .seq (.region [⟨some 2, .box true 2 (.tmp 0), none⟩,
     ⟨some 3, .box true 2 (.tmp 1), none⟩,
     ⟨some 4, .move (.const (.bool false)), none⟩])
  (.keep [2, 3] [2, 3] (.seq (.region [⟨some 5, .load true 2 (.tmp 2), none⟩,
     ⟨some 6, .load true 2 (.tmp 3), none⟩,
     ⟨some 7, .call (.func 39) [(.tmp 5), (.tmp 6)], none⟩,
     ⟨some 8, .bin .lss .none (.tmp 7) (.const (.int .i64 0)), none⟩,
     ⟨some 4, .move (.tmp 8), none⟩])
  (.keep [4] [] (.ret))))⟩
/-- wampum/stamp.Compare -/
def F39 : FnIR := ⟨17, 2, [.tmp 4], [2, 3],
  .seq (.region [⟨some 2, .box true 2 (.tmp 0), none⟩,
     ⟨some 3, .box true 2 (.tmp 1), none⟩,
     ⟨some 4, .move (.const (.int .i64 0)), none⟩])
  (.keep [2, 3] [2, 3] (.seq (.regionD [⟨some 5, .fieldAddr 0 (.tmp 2), none⟩,
     ⟨some 6, .load false 1 (.tmp 5), none⟩,
     ⟨some 7, .fieldAddr 0 (.tmp 3), none⟩,
     ⟨some 8, .load false 1 (.tmp 7), none⟩,
     ⟨some 9, .call (.func 66) [(.tmp 6), (.tmp 8)], none⟩,
     ⟨some 10, .fieldAddr 1 (.tmp 2), none⟩,
     ⟨some 11, .load false 1 (.tmp 10), none⟩,
     ⟨some 12, .fieldAddr 1 (.tmp 3), none⟩,
     ⟨some 13, .load false 1 (.tmp 12), none⟩,
     ⟨some 14, .call (.func 66) [(.tmp 11), (.tmp 13)], none⟩,
     ⟨some 15, .buildSlice 1 2 [(.int .i64 0), (.int .i64 0)] [(0, 1, (.tmp 9)), (1, 1, (.tmp 14))], none⟩,
     ⟨some 16, .call (.func 65) [(.tmp 15)], none⟩,
     ⟨some 4, .move (.tmp 16), none⟩] [(6, 0), (8, 0)])
  (.keep [4] [] (.ret))))⟩
/-- cmp.Compare[int] -/
def F66 : FnIR := ⟨20, 2, [.tmp 4], [],
  .seq (.region [⟨some 4, .move (.const (.int .i64 0)), none⟩])
  (.keep [0, 1] [] (.seq (.region [⟨some 7, .move (.tmp 0), none⟩,
     ⟨some 8, .call (.func 78) [(.tmp 7)], none⟩,
     ⟨some 5, .move (.tmp 8), none⟩])
  (.keep [0, 1, 5] [] (.seq (.region [⟨some 9, .move (.tmp 1), none⟩,
     ⟨some 10, .call (.func 78) [(.tmp 9)], none⟩,
     ⟨some 6, .move (.tmp 10), none⟩])
  (.keep [0, 1, 5, 6] [] (.seq (.seq (.region [⟨some 11, .move (.tmp 5), none⟩])
   (.keep [0, 1, 6, 11] [] (.cond (.tmp 11)
    (.seq (.seq (.region [⟨some 12, .move (.tmp 6), none⟩])
     (.keep [12] [] (.cond (.tmp 12)
      (.seq (.region [⟨some 4, .move (.const (.int .i64 0)), none⟩])
      (.keep [4] [] (.ret)))
      (.skip))))
    (.keep [] [] (.seq (.region [⟨some 4, .move (.const (.int .i64 (-1))), none⟩])
    (.keep [4] [] (.ret)))))
    (.skip))))
  (.keep [0, 1, 6] [] (.seq (.seq (.region [⟨some 13, .move (.tmp 6), none⟩])
   (.keep [0, 1, 13] [] (.cond (.tmp 13)
    (.seq (.region [⟨some 4, .move (.const (.int .i64 1)), none⟩])
    (.keep [4] [] (.ret)))
    (.skip))))
  (.keep [0, 1] [] (.seq (.seq (.region [⟨some 14, .move (.tmp 0), none⟩,
      ⟨some 15, .move (.tmp 1), none⟩,
      ⟨some 16, .bin .lss .none (.tmp 14) (.tmp 15), none⟩])
   (.keep [0, 1, 16] [] (.cond (.tmp 16)
    (.seq (.region [⟨some 4, .move (.const (.int .i64 (-1))), none⟩])
    (.keep [4] [] (.ret)))
    (.skip))))
  (.keep [0, 1] [] (.seq (.seq (.region [⟨some 17, .move (.tmp 0), none⟩,
      ⟨some 18, .move (.tmp 1), none⟩,
      ⟨some 19, .bin .gtr .none (.tmp 17) (.tmp 18), none⟩])
   (.keep [19] [] (.cond (.tmp 19)
    (.seq (.region [⟨some 4, .move (.const (.int .i64 1)), none⟩])
    (.keep [4] [] (.ret)))
    (.skip))))
  (.keep [] [] (.seq (.region [⟨some 4, .move (.const (.int .i64 0)), none⟩])
  (.keep [4] [] (.ret))))))))))))))))⟩
/-- cmp.isNaN[int] -/
def F78 : FnIR := ⟨6, 1, [.tmp 2], [],
  .seq (.region [⟨some 2, .move (.const (.bool false)), none⟩])
  (.keep [0] [] (.seq (.region [⟨some 3, .move (.tmp 0), none⟩,
     ⟨some 4, .move (.tmp 0), none⟩,
     ⟨some 5, .bin .neq .int (.tmp 3) (.tmp 4), none⟩,
     ⟨some 2, .move (.tmp 5), none⟩])
  (.keep [2] [] (.ret))))⟩
/-- cmp.Or[int] -/
def L65_0 : IC :=
  .keep [3, 6, 7, 8] [] (.seq (.region [⟨some 9, .bin .lss .none (.tmp 8) (.tmp 7), none⟩])
  (.keep [3, 6, 7, 8, 9] [] (.seq (.cond (.tmp 9)
    (.skip)
    (.exit 0))
  (.keep [3, 6, 7, 8] [] (.seq (.block 1 (.seq (.region [⟨some 10, .indexAddr none 1 (.tmp 6) (.tmp 8), none⟩,
       ⟨some 11, .load false 1 (.tmp 10), none⟩,
       ⟨some 5, .move (.tmp 11), none⟩])
    (.keep [3, 5, 6, 7, 8] [] (.seq (.region [⟨some 12, .move (.tmp 5), none⟩,
       ⟨some 13, .move (.tmp 3), none⟩,
       ⟨some 14, .bin .neq .int (.tmp 12) (.tmp 13), none⟩])
    (.keep [3, 5, 6, 7, 8, 14] [] (.cond (.tmp 14)
     (.seq (.region [⟨some 15, .move (.tmp 5), none⟩,
        ⟨some 2, .move (.tmp 15), none⟩])
     (.keep [2] [] (.ret)))
     (.skip)))))))
  (.keep [3, 6, 7, 8] [] (.region [⟨some 16, .bin .add .none (.tmp 8) (.const (.int .i64 1)), none⟩,
    ⟨some 8, .move (.tmp 16), none⟩])))))))
def F65 : FnIR := ⟨18, 1, [.tmp 2], [],
  .seq (.region [⟨some 2, .move (.const (.int .i64 0)), none⟩])
  (.keep [0] [] (.seq (.region [⟨some 3, .move (.const (.int .i64 0)), none⟩])
  (.keep [0, 3] [] (.seq (.seq (.region [⟨some 6, .move (.tmp 0), none⟩,
      ⟨some 7, .len .slice (.tmp 6), none⟩,
      ⟨some 8, .move (.const (.int .i64 0)), none⟩])
   (.keep [3, 6, 7, 8] [] (.block 0 (.loop L65_0))))
  (.keep [3] [] (.seq (.region [⟨some 17, .move (.tmp 3), none⟩,
     ⟨some 2, .move (.tmp 17), none⟩])
  (.keep [2] [] (.ret))))))))⟩
/-- (*wampum/store.Store).Read -/
def F16 : FnIR := ⟨84, 6, [.cell 12 false 1, .cell 13 true 2, .cell 14 true 5, .cell 15 false 1], [7, 20, 21, 23],
  .seq (.region [⟨some 7, .box true 2 (.tmp 1), none⟩,
     ⟨some 8, .box false 2 (.tmp 2), none⟩,
     ⟨some 9, .box false 2 (.tmp 3), none⟩,
     ⟨some 10, .box false 1 (.tmp 4), none⟩,
     ⟨some 11, .box false 1 (.tmp 5), none⟩,
     ⟨some 12, .alloc false 1 [.nils], none⟩,
     ⟨some 13, .alloc false 2 [(.int .i64 0), (.int .i64 0)], none⟩,
     ⟨some 14, .alloc false 5 [(.int .i64 0), (.int .i64 0), (.str []), (.int .i64 0), (.int .i64 0)], none⟩,
     ⟨some 15, .alloc false 1 [(.int .i64 0)], none⟩])
  (.keep [0, 7, 8, 9, 10, 11, 12, 13, 14, 15] [7] (.seq (.seq (.region [⟨some 25, .move (.tmp 0), none⟩,
      ⟨some 26, .load true 2 (.tmp 7), none⟩,
      ⟨some 27, .call (.func 28) [(.tmp 25), (.tmp 26)], none⟩,
      ⟨some 16, .move (.tmp 27), none⟩])
   (.keep [0, 7, 8, 9, 10, 11, 12, 13, 14, 15, 16] [7] (.seq (.region [⟨some 28, .move (.tmp 16), none⟩,
      ⟨some 29, .bin .neq .int (.tmp 28) (.const (.int .i64 0)), none⟩])
   (.keep [0, 7, 8, 9, 10, 11, 12, 13, 14, 15, 16, 29] [7] (.cond (.tmp 29)
    (.seq (.region [⟨some 30, .build [(.int .i64 0), (.int .i64 0)] [], none⟩,
       ⟨some 31, .build [(.int .i64 0), (.int .i64 0), (.str []), (.int .i64 0), (.int .i64 0)] [], none⟩,
       ⟨some 32, .move (.tmp 16), none⟩,
       ⟨none, .store 1 (.tmp 12) (.const .nils), none⟩,
       ⟨none, .store 2 (.tmp 13) (.tmp 30), none⟩,
       ⟨none, .store 5 (.tmp 14) (.tmp 31), none⟩,
       ⟨none, .store 1 (.tmp 15) (.tmp 32), none⟩])
    (.keep [12, 13, 14, 15] [] (.ret)))
    (.skip))))))
  (.keep [0, 7, 8, 9, 10, 11, 12, 13, 14, 15] [7] (.seq (.region [⟨some 17, .alloc false 1 [.nils], none⟩])
  (.keep [0, 7, 8, 9, 10, 11, 12, 13, 14, 15, 17] [7] (.seq (.region [⟨some 18, .alloc false 1 [.nils], none⟩])
  (.keep [0, 7, 8, 9, 10, 11, 12, 13, 14, 15, 17, 18] [7] (.seq (.seq (.region [⟨some 33, .move (.tmp 0), none⟩,
      ⟨some 34, .load true 2 (.tmp 7), none⟩,
      ⟨some 35, .call (.func 29) [(.tmp 33), (.tmp 34)], none⟩])
   (.keep [8, 9, 10, 11, 12, 13, 14, 15, 17, 18, 35] [] (.block 0 (.rangeF (.tmp 35) [36, 37]
     (.seq (.region [⟨some 19, .move (.tmp 36), none⟩])
     (.keep [8, 9, 10, 11, 12, 13, 14, 15, 17, 18, 19, 37] [] (.region [⟨some 20, .alloc true 12 [.nils, (.bool false), (.int .i64 0), (.int .i64 0), (.str []), (.int .i64 0), (.int .i64 0), (.int .i64 0), (.int .i64 0), (.int .i64 0), (.str []), (.bool false)], none⟩,
       ⟨none, .store 12 (.tmp 20) (.tmp 37), none⟩])))
     (.keep [8, 9, 10, 11, 12, 13, 14, 15, 17, 18, 19, 20] [20] (.block 1 (.seq (.seq (.region [⟨some 38, .load false 1 (.tmp 17), none⟩,
          ⟨some 39, .len .slice (.tmp 38), none⟩,
          ⟨some 40, .bin .eql .int (.tmp 39) (.const (.int .i64 50)), none⟩])
       (.keep [8, 9, 10, 11, 12, 13, 14, 15, 17, 18, 19, 20, 40] [20] (.cond (.tmp 40)
        (.exit 0)
        (.skip))))
      (.keep [8, 9, 10, 11, 12, 13, 14, 15, 17, 18, 19, 20] [20] (.seq (.region [⟨some 42, .load true 12 (.tmp 20), none⟩,
         ⟨some 43, .load true 2 (.tmp 8), none⟩,
         ⟨some 44, .load true 2 (.tmp 9), none⟩,
         ⟨some 45, .load false 1 (.tmp 10), none⟩,
         ⟨some 46, .load false 1 (.tmp 11), none⟩,
         ⟨some 47, .call (.func 37) [(.tmp 42), (.tmp 43), (.tmp 44), (.tmp 45), (.tmp 46)], none⟩,
         ⟨some 41, .move (.tmp 47), none⟩,
         ⟨some 48, .extract (.tmp 41) 0, none⟩,
         ⟨some 49, .extract (.tmp 41) 1, none⟩,
         ⟨some 50, .extract (.tmp 41) 2, none⟩,
         ⟨some 51, .extract (.tmp 41) 3, none⟩,
         ⟨some 21, .alloc true 5 [(.int .i64 0), (.int .i64 0), (.str []), (.bool false), (.int .i64 0)], none⟩,
         ⟨some 23, .alloc true 5 [(.int .i64 0), (.int .i64 0), (.str []), (.int .i64 0), (.int .i64 0)], none⟩,
         ⟨none, .store 5 (.tmp 21) (.tmp 48), none⟩,
         ⟨some 22, .move (.tmp 49), none⟩,
         ⟨none, .store 5 (.tmp 23) (.tmp 50), none⟩,
         ⟨some 24, .move (.tmp 51), none⟩])
      (.keep [12, 13, 14, 15, 17, 18, 19, 21, 22, 23, 24] [21, 23] (.block 2 (.seq (.region [⟨some 53, .move (.tmp 24), none⟩,
          ⟨some 54, .bin .eql .int (.tmp 53) (.const (.int .i64 81)), none⟩,
          ⟨some 52, .move (.tmp 54), none⟩])
       (.keep [12, 13, 14, 15, 17, 18, 19, 21, 22, 23, 24, 52] [21, 23] (.cond (.tmp 52)
        (.seq (.regionD [⟨none, .store 1 (.tmp 12) (.const .nils), none⟩,
           ⟨some 55, .build [(.int .i64 0), (.int .i64 0)] [], none⟩,
           ⟨none, .store 2 (.tmp 13) (.tmp 55), none⟩,
           ⟨some 56, .load true 5 (.tmp 23), none⟩,
           ⟨none, .store 5 (.tmp 14) (.tmp 56), none⟩,
           ⟨some 57, .move (.tmp 24), none⟩,
           ⟨none, .store 1 (.tmp 15) (.tmp 57), none⟩] [(3, 0), (3, 1)])
        (.keep [] [] (.ret)))
        (.seq (.region [⟨some 59, .move (.tmp 24), none⟩,
           ⟨some 60, .bin .eql .int (.tmp 59) (.const (.int .i64 82)), none⟩,
           ⟨some 58, .move (.tmp 60), none⟩])
        (.keep [17, 18, 19, 21, 22, 58] [21] (.cond (.tmp 58)
         (.region [⟨some 61, .load false 1 (.tmp 18), none⟩,
           ⟨some 62, .fieldAddr 0 (.tmp 21), none⟩,
           ⟨some 63, .load true 2 (.tmp 62), none⟩,
           ⟨some 64, .buildSlice 2 1 [(.int .i64 0), (.int .i64 0)] [(0, 2, (.tmp 63))], none⟩,
           ⟨some 65, .append 2 16 (.tmp 61) (.tmp 64), none⟩,
           ⟨none, .store 1 (.tmp 18) (.tmp 65), none⟩])
         (.seq (.region [⟨some 67, .move (.tmp 22), none⟩,
            ⟨some 66, .move (.tmp 67), none⟩])
         (.keep [17, 19, 21, 66] [21] (.cond (.tmp 66)
          (.region [⟨some 68, .load false 1 (.tmp 17), none⟩,
            ⟨some 69, .move (.tmp 19), none⟩,
            ⟨some 70, .fieldAddr 2 (.tmp 21), none⟩,
            ⟨some 71, .load false 1 (.tmp 70), none⟩,
            ⟨some 72, .build [(.str []), (.str [])] [(0, 1, (.tmp 69)), (1, 1, (.tmp 71))], none⟩,
            ⟨some 73, .buildSlice 2 1 [(.str []), (.str [])] [(0, 2, (.tmp 72))], none⟩,
            ⟨some 74, .append 2 32 (.tmp 68) (.tmp 73), none⟩,
            ⟨none, .store 1 (.tmp 17) (.tmp 74), none⟩])
          (.skip)))))))))))))))))))))
  (.keep [12, 13, 14, 15, 17, 18] [] (.seq (.seq (.region [⟨some 75, .load false 1 (.tmp 18), none⟩,
      ⟨some 76, .len .slice (.tmp 75), none⟩,
      ⟨some 77, .bin .gtr .none (.tmp 76) (.const (.int .i64 0)), none⟩])
   (.keep [12, 13, 14, 15, 17, 18, 77] [] (.cond (.tmp 77)
    (.seq (.region [⟨some 78, .load false 1 (.tmp 18), none⟩,
       ⟨some 79, .call (.func 38) [(.tmp 78), (.func 39)], none⟩,
       ⟨some 80, .build [(.int .i64 0), (.int .i64 0), (.str []), (.int .i64 0), (.int .i64 0)] [], none⟩,
       ⟨none, .store 1 (.tmp 12) (.const .nils), none⟩,
       ⟨none, .store 2 (.tmp 13) (.tmp 79), none⟩,
       ⟨none, .store 5 (.tmp 14) (.tmp 80), none⟩,
       ⟨none, .store 1 (.tmp 15) (.const (.int .i64 82)), none⟩])
    (.keep [12, 13, 14, 15] [] (.ret)))
    (.skip))))
  (.keep [12, 13, 14, 15, 17] [] (.seq (.region [⟨some 81, .load false 1 (.tmp 17), none⟩,
     ⟨some 82, .build [(.int .i64 0), (.int .i64 0)] [], none⟩,
     ⟨some 83, .build [(.int .i64 0), (.int .i64 0), (.str []), (.int .i64 0), (.int .i64 0)] [], none⟩,
     ⟨none, .store 1 (.tmp 12) (.tmp 81), none⟩,
     ⟨none, .store 2 (.tmp 13) (.tmp 82), none⟩,
     ⟨none, .store 5 (.tmp 14) (.tmp 83), none⟩,
     ⟨none, .store 1 (.tmp 15) (.const (.int .i64 0)), none⟩])
  (.keep [12, 13, 14, 15] [] (.ret))))))))))))))⟩
/-- (*wampum/store.Store).wrong -/
def F28 : FnIR := ⟨12, 2, [.tmp 4], [3],
  .seq (.region [⟨some 3, .box true 2 (.tmp 1), none⟩,
     ⟨some 4, .move (.const (.int .i64 0)), none⟩])
  (.keep [0, 3] [3] (.seq (.block 0 (.seq (.region [⟨some 6, .move (.tmp 0), none⟩,
       ⟨some 7, .bin .eql .ptr (.tmp 6) (.const .nilp), none⟩,
       ⟨some 5, .move (.tmp 7), none⟩])
    (.keep [3, 5] [3] (.cond (.tmp 5)
     (.seq (.region [⟨some 4, .move (.const (.int .i64 1)), none⟩])
     (.keep [4] [] (.ret)))
     (.seq (.region [⟨some 9, .load true 2 (.tmp 3), none⟩,
        ⟨some 10, .call (.func 55) [(.tmp 9)], none⟩,
        ⟨some 11, .un .not (.tmp 10), none⟩,
        ⟨some 8, .move (.tmp 11), none⟩])
     (.keep [8] [] (.cond (.tmp 8)
      (.seq (.region [⟨some 4, .move (.const (.int .i64 51)), none⟩])
      (.keep [4] [] (.ret)))
      (.skip))))))))
  (.keep [] [] (.seq (.region [⟨some 4, .move (.const (.int .i64 0)), none⟩])
  (.keep [4] [] (.ret))))))⟩
/-- wampum/span.Right -/
def F55 : FnIR := ⟨30, 1, [.tmp 2], [1],
  .seq (.region [⟨some 1, .box true 2 (.tmp 0), none⟩,
     ⟨some 2, .move (.const (.bool false)), none⟩])
  (.keep [1] [1] (.seq (.seq (.region [⟨some 3, .fieldAddr 0 (.tmp 1), none⟩,
      ⟨some 4, .load false 1 (.tmp 3), none⟩,
      ⟨some 5, .call (.func 26) [(.tmp 4)], none⟩,
      ⟨some 6, .un .not (.tmp 5), none⟩,
      ⟨some 7, .move (.tmp 6), none⟩,
      ⟨some 8, .fieldAddr 1 (.tmp 1), some (7, false)⟩,
      ⟨some 9, .load false 1 (.tmp 8), some (7, false)⟩,
      ⟨some 10, .bin .eql .str (.tmp 9) (.const (.str [])), some (7, false)⟩,
      ⟨some 11, .pick (.tmp 7) (.const (.bool true)) (.tmp 10), none⟩])
   (.keep [1, 11] [1] (.cond (.tmp 11)
    (.seq (.region [⟨some 12, .fieldAddr 0 (.tmp 1), none⟩,
       ⟨some 13, .load false 1 (.tmp 12), none⟩,
       ⟨some 14, .call (.func 26) [(.tmp 13)], none⟩,
       ⟨some 2, .move (.tmp 14), none⟩])
    (.keep [2] [] (.ret)))
    (.skip))))
  (.keep [1] [1] (.seq (.region [⟨some 15, .fieldAddr 1 (.tmp 1), none⟩,
     ⟨some 16, .load false 1 (.tmp 15), none⟩,
     ⟨some 17, .bin .eql .str (.tmp 16) (.const (.str [123])), none⟩,
     ⟨some 18, .move (.tmp 17), none⟩,
     ⟨some 19, .fieldAddr 1 (.tmp 1), some (18, false)⟩,
     ⟨some 20, .load false 1 (.tmp 19), some (18, false)⟩,
     ⟨some 21, .call (.func 26) [(.tmp 20)], some (18, false)⟩,
     ⟨some 22, .pick (.tmp 18) (.const (.bool true)) (.tmp 21), none⟩,
     ⟨some 23, .move (.tmp 22), none⟩,
     ⟨some 24, .fieldAddr 0 (.tmp 1), some (23, true)⟩,
     ⟨some 25, .load false 1 (.tmp 24), some (23, true)⟩,
     ⟨some 26, .fieldAddr 1 (.tmp 1), some (23, true)⟩,
     ⟨some 27, .load false 1 (.tmp 26), some (23, true)⟩,
     ⟨some 28, .bin .lss .none (.tmp 25) (.tmp 27), some (23, true)⟩,
     ⟨some 29, .pick (.tmp 23) (.tmp 28) (.const (.bool false)), none⟩,
     ⟨some 2, .move (.tmp 29), none⟩])
  (.keep [2] [] (.ret))))))⟩
/-- (*wampum/store.Store).in -/
def F29 : FnIR := ⟨6, 2, [.tmp 4], [],
  .seq (.region [⟨some 2, .box false 1 (.tmp 0), none⟩,
     ⟨some 3, .box false 2 (.tmp 1), none⟩,
     ⟨some 4, .move (.const .nilFunc), none⟩])
  (.keep [2, 3] [] (.seq (.region [⟨some 5, .mkFunc (.func 56) [] [(.tmp 2), (.tmp 3)], none⟩,
     ⟨some 4, .move (.tmp 5), none⟩])
  (.keep [4] [] (.ret))))⟩
/-- (*wampum/store.Store).in$1 -/
def L56_0 : IC :=
  .keep [0, 1, 2, 11, 12, 13] [] (.seq (.region [⟨some 14, .bin .lss .none (.tmp 13) (.tmp 12), none⟩])
  (.keep [0, 1, 2, 11, 12, 13, 14] [] (.seq (.cond (.tmp 14)
    (.skip)
    (.exit 0))
  (.keep [0, 1, 2, 11, 12, 13] [] (.seq (.block 1 (.seq (.region [⟨some 15, .indexAddr none 1 (.tmp 11) (.tmp 13), none⟩,
       ⟨some 16, .load false 1 (.tmp 15), none⟩,
       ⟨some 5, .move (.tmp 16), none⟩])
    (.keep [0, 1, 2, 5, 11, 12, 13] [] (.seq (.region [⟨some 17, .load true 2 (.tmp 2), none⟩,
       ⟨some 18, .move (.tmp 5), none⟩,
       ⟨some 19, .call (.func 57) [(.tmp 17), (.tmp 18)], none⟩,
       ⟨some 20, .move (.tmp 19), none⟩,
       ⟨some 21, .move (.tmp 0), some (20, true)⟩,
       ⟨some 22, .move (.tmp 5), some (20, true)⟩,
       ⟨some 23, .load false 1 (.tmp 1), some (20, true)⟩,
       ⟨some 24, .nilCheck (.tmp 23), some (20, true)⟩,
       ⟨some 25, .fieldAddr 0 (.tmp 24), some (20, true)⟩,
       ⟨some 26, .load false 1 (.tmp 25), some (20, true)⟩,
       ⟨some 27, .move (.tmp 5), some (20, true)⟩,
       ⟨some 28, .lookup .str false (.agg [.nils, (.bool false), (.int .i64 0), (.int .i64 0), (.str []), (.int .i64 0), (.int .i64 0), (.int .i64 0), (.int .i64 0), (.int .i64 0), (.str []), (.bool false)]) (.tmp 26) (.tmp 27), some (20, true)⟩,
       ⟨some 29, .call (.tmp 21) [(.tmp 22), (.tmp 28)], some (20, true)⟩,
       ⟨some 30, .un .not (.tmp 29), some (20, true)⟩,
       ⟨some 31, .pick (.tmp 20) (.tmp 30) (.const (.bool false)), none⟩])
    (.keep [0, 1, 2, 11, 12, 13, 31] [] (.cond (.tmp 31)
     (.ret)
     (.skip)))))))
  (.keep [0, 1, 2, 11, 12, 13] [] (.region [⟨some 32, .bin .add .none (.tmp 13) (.const (.int .i64 1)), none⟩,
    ⟨some 13, .move (.tmp 32), none⟩])))))))
def F56 : FnIR := ⟨33, 3, [], [],
  .seq (.region [⟨some 6, .load false 1 (.tmp 1), none⟩,
     ⟨some 7, .nilCheck (.tmp 6), none⟩,
     ⟨some 8, .fieldAddr 0 (.tmp 7), none⟩,
     ⟨some 9, .load false 1 (.tmp 8), none⟩,
     ⟨some 10, .call (.func 35) [(.tmp 9)], none⟩,
     ⟨some 11, .call (.func 34) [(.tmp 10)], none⟩,
     ⟨some 12, .len .slice (.tmp 11), none⟩,
     ⟨some 13, .move (.const (.int .i64 0)), none⟩])
  (.keep [0, 1, 2, 11, 12, 13] [] (.block 0 (.loop L56_0)))⟩
/-- maps.Keys[map[string]wampum/api.Chain,string,wampum/api.Chain] -/
def F35 : FnIR := ⟨4, 1, [.tmp 2], [],
  .seq (.region [⟨some 1, .box false 1 (.tmp 0), none⟩,
     ⟨some 2, .move (.const .nilFunc), none⟩])
  (.keep [1] [] (.seq (.region [⟨some 3, .mkFunc (.func 63) [] [(.tmp 1)], none⟩,
     ⟨some 2, .move (.tmp 3), none⟩])
  (.keep [2] [] (.ret))))⟩
/-- maps.Keys[map[string]wampum/api.Chain,string,wampum/api.Chain]$1 -/
def F63 : FnIR := ⟨14, 2, [], [],
  .seq (.region [⟨some 4, .load false 1 (.tmp 1), none⟩,
     ⟨some 5, .rangeM (.tmp 4), none⟩])
  (.keep [0, 5] [] (.mapR 6 7 (.tmp 5) 0 [] [] (.keep [0, 5] [] (.block 1 (.seq (.region [⟨some 8, .entryM (.tmp 5), none⟩,
       ⟨some 9, .extract (.tmp 8) 0, none⟩,
       ⟨some 3, .move (.tmp 9), none⟩])
    (.keep [0, 3, 5] [] (.seq (.region [⟨some 10, .move (.tmp 0), none⟩,
       ⟨some 11, .move (.tmp 3), none⟩,
       ⟨some 12, .call (.tmp 10) [(.tmp 11)], none⟩,
       ⟨some 13, .un .not (.tmp 12), none⟩])
    (.keep [0, 5, 13] [] (.cond (.tmp 13)
     (.ret)
     (.skip))))))))))⟩
/-- slices.Sorted[string] -/
def F34 : FnIR := ⟨9, 1, [.tmp 2], [],
  .seq (.region [⟨some 2, .move (.const .nils), none⟩])
  (.keep [0] [] (.seq (.region [⟨some 4, .move (.tmp 0), none⟩,
     ⟨some 5, .call (.func 61) [(.tmp 4)], none⟩,
     ⟨some 3, .move (.tmp 5), none⟩])
  (.keep [3] [] (.seq (.region [⟨some 6, .move (.tmp 3), none⟩,
     ⟨some 7, .call (.func 62) [(.tmp 6)], none⟩])
  (.keep [3] [] (.seq (.region [⟨some 8, .move (.tmp 3), none⟩,
     ⟨some 2, .move (.tmp 8), none⟩])
  (.keep [2] [] (.ret))))))))⟩
/-- slices.Collect[string] -/
def F61 : FnIR := ⟨5, 1, [.tmp 2], [],
  .seq (.region [⟨some 2, .move (.const .nils), none⟩])
  (.keep [0] [] (.seq (.region [⟨some 3, .move (.tmp 0), none⟩,
     ⟨some 4, .call (.func 73) [(.const .nils), (.tmp 3)], none⟩,
     ⟨some 2, .move (.tmp 4), none⟩])
  (.keep [2] [] (.ret))))⟩
/-- slices.AppendSeq[[]string,string] -/
def F73 : FnIR := ⟨13, 2, [.tmp 4], [],
  .seq (.region [⟨some 2, .box false 1 (.tmp 0), none⟩,
     ⟨some 4, .move (.const .nils), none⟩])
  (.keep [1, 2, 4] [] (.seq (.seq (.region [⟨some 6, .move (.tmp 1), none⟩])
   (.keep [2, 4, 6] [] (.block 0 (.rangeF (.tmp 6) [7]
     (.region [⟨some 5, .move (.tmp 7), none⟩])
     (.keep [2, 5] [] (.block 1 (.region [⟨some 8, .load false 1 (.tmp 2), none⟩,
        ⟨some 9, .move (.tmp 5), none⟩,
        ⟨some 10, .buildSlice 1 1 [(.str [])] [(0, 1, (.tmp 9))], none⟩,
        ⟨some 11, .append 1 16 (.tmp 8) (.tmp 10), none⟩,
        ⟨none, .store 1 (.tmp 2) (.tmp 11), none⟩])))))))
  (.keep [2] [] (.seq (.region [⟨some 12, .load false 1 (.tmp 2), none⟩,
     ⟨some 4, .move (.tmp 12), none⟩])
  (.keep [4] [] (.ret))))))⟩
/-- slices.Sort[[]string,string] -/
def F62 : FnIR := ⟨11, 1, [], [],
  .seq (.region [⟨some 3, .move (.tmp 0), none⟩,
     ⟨some 4, .len .slice (.tmp 3), none⟩,
     ⟨some 2, .move (.tmp 4), none⟩])
  (.keep [0, 2] [] (.region [⟨some 5, .move (.tmp 0), none⟩,
    ⟨some 6, .move (.tmp 2), none⟩,
    ⟨some 7, .move (.tmp 2), none⟩,
    ⟨some 8, .conv (.toInt .u64) (.tmp 7), none⟩,
    ⟨some 9, .call (.func 75) [(.tmp 8)], none⟩,
    ⟨some 10, .call (.func 74) [(.tmp 5), (.const (.int .i64 0)), (.tmp 6), (.tmp 9)], none⟩]))⟩
/-- math/bits.Len -/
def F75 : FnIR := ⟨8, 1, [.tmp 2], [],
  .seq (.region [⟨some 2, .move (.const (.int .i64 0)), none⟩])
  (.keep [0] [] (.seq (.cond (.const (.bool false))
    (.seq (.region [⟨some 3, .move (.tmp 0), none⟩,
       ⟨some 4, .conv (.toInt .u32) (.tmp 3), none⟩,
       ⟨some 5, .call (.func 89) [(.tmp 4)], none⟩,
       ⟨some 2, .move (.tmp 5), none⟩])
    (.keep [2] [] (.ret)))
    (.skip))
  (.keep [0] [] (.seq (.region [⟨some 6, .move (.tmp 0), none⟩,
     ⟨some 7, .call (.func 90) [(.tmp 6)], none⟩,
     ⟨some 2, .move (.tmp 7), none⟩])
  (.keep [2] [] (.ret))))))⟩
/-- math/bits.Len32 -/
def F89 : FnIR := ⟨19, 1, [.tmp 2], [],
  .seq (.region [⟨some 2, .move (.const (.int .i64 0)), none⟩])
  (.keep [0, 2] [] (.seq (.seq (.region [⟨some 3, .move (.tmp 0), none⟩,
      ⟨some 4, .bin .geq .none (.tmp 3) (.const (.int .u32 65536)), none⟩])
   (.keep [0, 2, 4] [] (.cond (.tmp 4)
    (.seq (.region [⟨some 5, .move (.tmp 0), none⟩,
       ⟨some 6, .bin .shr .none (.tmp 5) (.const (.int .u64 16)), none⟩,
       ⟨some 0, .move (.tmp 6), none⟩])
    (.keep [0] [] (.region [⟨some 2, .move (.const (.int .i64 16)), none⟩])))
    (.skip))))
  (.keep [0, 2] [] (.seq (.seq (.region [⟨some 7, .move (.tmp 0), none⟩,
      ⟨some 8, .bin .geq .none (.tmp 7) (.const (.int .u32 256)), none⟩])
   (.keep [0, 2, 8] [] (.cond (.tmp 8)
    (.seq (.region [⟨some 9, .move (.tmp 0), none⟩,
       ⟨some 10, .bin .shr .none (.tmp 9) (.const (.int .u64 8)), none⟩,
       ⟨some 0, .move (.tmp 10), none⟩])
    (.keep [0, 2] [] (.region [⟨some 11, .move (.tmp 2), none⟩,
      ⟨some 12, .bin .add .none (.tmp 11) (.const (.int .i64 8)), none⟩,
      ⟨some 2, .move (.tmp 12), none⟩])))
    (.skip))))
  (.keep [0, 2] [] (.seq (.region [⟨some 13, .move (.tmp 2), none⟩,
     ⟨some 14, .move (.tmp 0), none⟩,
     ⟨some 15, .conv (.toInt .u8) (.tmp 14), none⟩,
     ⟨some 16, .index none (.const (.str [0, 1, 2, 2, 3, 3, 3, 3, 4, 4, 4, 4, 4, 4, 4, 4, 5, 5, 5, 5, 5, 5, 5, 5, 5, 5, 5, 5, 5, 5, 5, 5, 6, 6, 6, 6, 6, 6, 6, 6, 6, 6, 6, 6, 6, 6, 6, 6, 6, 6, 6, 6, 6, 6, 6, 6, 6, 6, 6, 6, 6, 6, 6, 6, 7, 7, 7, 7, 7, 7, 7, 7, 7, 7, 7, 7, 7, 7, 7, 7, 7, 7, 7, 7, 7, 7, 7, 7, 7, 7, 7, 7, 7, 7, 7, 7, 7, 7, 7, 7, 7, 7, 7, 7, 7, 7, 7, 7, 7, 7, 7, 7, 7, 7, 7, 7, 7, 7, 7, 7, 7, 7, 7, 7, 7, 7, 7, 7, 8, 8, 8, 8, 8, 8, 8, 8, 8, 8, 8, 8, 8, 8, 8, 8, 8, 8, 8, 8, 8, 8, 8, 8, 8, 8, 8, 8, 8, 8, 8, 8, 8, 8, 8, 8, 8, 8, 8, 8, 8, 8, 8, 8, 8, 8, 8, 8, 8, 8, 8, 8, 8, 8, 8, 8, 8, 8, 8, 8, 8, 8, 8, 8, 8, 8, 8, 8, 8, 8, 8, 8, 8, 8, 8, 8, 8, 8, 8, 8, 8, 8, 8, 8, 8, 8, 8, 8, 8, 8, 8, 8, 8, 8, 8, 8, 8, 8, 8, 8, 8, 8, 8, 8, 8, 8, 8, 8, 8, 8, 8, 8, 8, 8, 8, 8, 8, 8, 8, 8, 8, 8, 8, 8, 8, 8, 8, 8])) (.tmp 15), none⟩,
     ⟨some 17, .conv (.toInt .i64) (.tmp 16), none⟩,
     ⟨some 18, .bin .add .none (.tmp 13) (.tmp 17), none⟩,
     ⟨some 2, .move (.tmp 18), none⟩])
  (.keep [2] [] (.ret))))))))⟩
/-- math/bits.Len64 -/
def F90 : FnIR := ⟨25, 1, [.tmp 2], [],
  .seq (.region [⟨some 2, .move (.const (.int .i64 0)), none⟩])
  (.keep [0, 2] [] (.seq (.seq (.region [⟨some 3, .move (.tmp 0), none⟩,
      ⟨some 4, .bin .geq .none (.tmp 3) (.const (.int .u64 4294967296)), none⟩])
   (.keep [0, 2, 4] [] (.cond (.tmp 4)
    (.seq (.region [⟨some 5, .move (.tmp 0), none⟩,
       ⟨some 6, .bin .shr .none (.tmp 5) (.const (.int .u64 32)), none⟩,
       ⟨some 0, .move (.tmp 6), none⟩])
    (.keep [0] [] (.region [⟨some 2, .move (.const (.int .i64 32)), none⟩])))
    (.skip))))
  (.keep [0, 2] [] (.seq (.seq (.region [⟨some 7, .move (.tmp 0), none⟩,
      ⟨some 8, .bin .geq .none (.tmp 7) (.const (.int .u64 65536)), none⟩])
   (.keep [0, 2, 8] [] (.cond (.tmp 8)
    (.seq (.region [⟨some 9, .move (.tmp 0), none⟩,
       ⟨some 10, .bin .shr .none (.tmp 9) (.const (.int .u64 16)), none⟩,
       ⟨some 0, .move (.tmp 10), none⟩])
    (.keep [0, 2] [] (.region [⟨some 11, .move (.tmp 2), none⟩,
      ⟨some 12, .bin .add .none (.tmp 11) (.const (.int .i64 16)), none⟩,
      ⟨some 2, .move (.tmp 12), none⟩])))
    (.skip))))
  (.keep [0, 2] [] (.seq (.seq (.region [⟨some 13, .move (.tmp 0), none⟩,
      ⟨some 14, .bin .geq .none (.tmp 13) (.const (.int .u64 256)), none⟩])
   (.keep [0, 2, 14] [] (.cond (.tmp 14)
    (.seq (.region [⟨some 15, .move (.tmp 0), none⟩,
       ⟨some 16, .bin .shr .none (.tmp 15) (.const (.int .u64 8)), none⟩,
       ⟨some 0, .move (.tmp 16), none⟩])
    (.keep [0, 2] [] (.region [⟨some 17, .move (.tmp 2), none⟩,
      ⟨some 18, .bin .add .none (.tmp 17) (.const (.int .i64 8)), none⟩,
      ⟨some 2, .move (.tmp 18), none⟩])))
    (.skip))))
  (.keep [0, 2] [] (.seq (.region [⟨some 19, .move (.tmp 2), none⟩,
     ⟨some 20, .move (.tmp 0), none⟩,
     ⟨some 21, .conv (.toInt .u8) (.tmp 20), none⟩,
     ⟨some 22, .index none (.const (.str [0, 1, 2, 2, 3, 3, 3, 3, 4, 4, 4, 4, 4, 4, 4, 4, 5, 5, 5, 5, 5, 5, 5, 5, 5, 5, 5, 5, 5, 5, 5, 5, 6, 6, 6, 6, 6, 6, 6, 6, 6, 6, 6, 6, 6, 6, 6, 6, 6, 6, 6, 6, 6, 6, 6, 6, 6, 6, 6, 6, 6, 6, 6, 6, 7, 7, 7, 7, 7, 7, 7, 7, 7, 7, 7, 7, 7, 7, 7, 7, 7, 7, 7, 7, 7, 7, 7, 7, 7, 7, 7, 7, 7, 7, 7, 7, 7, 7, 7, 7, 7, 7, 7, 7, 7, 7, 7, 7, 7, 7, 7, 7, 7, 7, 7, 7, 7, 7, 7, 7, 7, 7, 7, 7, 7, 7, 7, 7, 8, 8, 8, 8, 8, 8, 8, 8, 8, 8, 8, 8, 8, 8, 8, 8, 8, 8, 8, 8, 8, 8, 8, 8, 8, 8, 8, 8, 8, 8, 8, 8, 8, 8, 8, 8, 8, 8, 8, 8, 8, 8, 8, 8, 8, 8, 8, 8, 8, 8, 8, 8, 8, 8, 8, 8, 8, 8, 8, 8, 8, 8, 8, 8, 8, 8, 8, 8, 8, 8, 8, 8, 8, 8, 8, 8, 8, 8, 8, 8, 8, 8, 8, 8, 8, 8, 8, 8, 8, 8, 8, 8, 8, 8, 8, 8, 8, 8, 8, 8, 8, 8, 8, 8, 8, 8, 8, 8, 8, 8, 8, 8, 8, 8, 8, 8, 8, 8, 8, 8, 8, 8, 8, 8, 8, 8, 8, 8])) (.tmp 21), none⟩,
     ⟨some 23, .conv (.toInt .i64) (.tmp 22), none⟩,
     ⟨some 24, .bin .add .none (.tmp 19) (.tmp 23), none⟩,
     ⟨some 2, .move (.tmp 24), none⟩])
  (.keep [2] [] (.ret))))))))))⟩
/-- slices.pdqsortOrdered[string] -/
def L74_0 : IC :=
  .keep [0, 1, 2, 3, 8, 9] [] (.block 1 (.seq (.region [⟨some 19, .move (.tmp 2), none⟩,
      ⟨some 20, .move (.tmp 1), none⟩,
      ⟨some 21, .bin .sub .none (.tmp 19) (.tmp 20), none⟩,
      ⟨some 10, .move (.tmp 21), none⟩])
   (.keep [0, 1, 2, 3, 8, 9, 10] [] (.seq (.seq (.region [⟨some 22, .move (.tmp 10), none⟩,
       ⟨some 23, .bin .leq .none (.tmp 22) (.const (.int .i64 12)), none⟩])
    (.keep [0, 1, 2, 3, 8, 9, 10, 23] [] (.cond (.tmp 23)
     (.seq (.region [⟨some 24, .move (.tmp 0), none⟩,
        ⟨some 25, .move (.tmp 1), none⟩,
        ⟨some 26, .move (.tmp 2), none⟩,
        ⟨some 27, .call (.func 80) [(.tmp 24), (.tmp 25), (.tmp 26)], none⟩])
     (.keep [] [] (.ret)))
     (.skip))))
   (.keep [0, 1, 2, 3, 8, 9, 10] [] (.seq (.seq (.region [⟨some 28, .move (.tmp 3), none⟩,
       ⟨some 29, .bin .eql .int (.tmp 28) (.const (.int .i64 0)), none⟩])
    (.keep [0, 1, 2, 3, 8, 9, 10, 29] [] (.cond (.tmp 29)
     (.seq (.region [⟨some 30, .move (.tmp 0), none⟩,
        ⟨some 31, .move (.tmp 1), none⟩,
        ⟨some 32, .move (.tmp 2), none⟩,
        ⟨some 33, .call (.func 81) [(.tmp 30), (.tmp 31), (.tmp 32)], none⟩])
     (.keep [] [] (.ret)))
     (.skip))))
   (.keep [0, 1, 2, 3, 8, 9, 10] [] (.seq (.seq (.region [⟨some 34, .move (.tmp 8), none⟩,
       ⟨some 35, .un .not (.tmp 34), none⟩])
    (.keep [0, 1, 2, 3, 8, 9, 10, 35] [] (.cond (.tmp 35)
     (.seq (.region [⟨some 36, .move (.tmp 0), none⟩,
        ⟨some 37, .move (.tmp 1), none⟩,
        ⟨some 38, .move (.tmp 2), none⟩,
        ⟨some 39, .call (.func 82) [(.tmp 36), (.tmp 37), (.tmp 38)], none⟩])
     (.keep [0, 1, 2, 3, 8, 9, 10] [] (.region [⟨some 40, .move (.tmp 3), none⟩,
       ⟨some 41, .bin .sub .none (.tmp 40) (.const (.int .i64 1)), none⟩,
       ⟨some 3, .move (.tmp 41), none⟩])))
     (.skip))))
   (.keep [0, 1, 2, 3, 8, 9, 10] [] (.seq (.region [⟨some 43, .move (.tmp 0), none⟩,
      ⟨some 44, .move (.tmp 1), none⟩,
      ⟨some 45, .move (.tmp 2), none⟩,
      ⟨some 46, .call (.func 83) [(.tmp 43), (.tmp 44), (.tmp 45)], none⟩,
      ⟨some 42, .move (.tmp 46), none⟩,
      ⟨some 47, .extract (.tmp 42) 0, none⟩,
      ⟨some 48, .extract (.tmp 42) 1, none⟩,
      ⟨some 11, .move (.tmp 47), none⟩,
      ⟨some 12, .move (.tmp 48), none⟩])
   (.keep [0, 1, 2, 3, 8, 9, 10, 11, 12] [] (.seq (.seq (.region [⟨some 49, .move (.tmp 12), none⟩,
       ⟨some 50, .bin .eql .int (.tmp 49) (.const (.int .i64 2)), none⟩])
    (.keep [0, 1, 2, 3, 8, 9, 10, 11, 12, 50] [] (.cond (.tmp 50)
     (.seq (.region [⟨some 51, .move (.tmp 0), none⟩,
        ⟨some 52, .move (.tmp 1), none⟩,
        ⟨some 53, .move (.tmp 2), none⟩,
        ⟨some 54, .call (.func 84) [(.tmp 51), (.tmp 52), (.tmp 53)], none⟩])
     (.keep [0, 1, 2, 3, 8, 9, 10, 11] [] (.seq (.region [⟨some 55, .move (.tmp 2), none⟩,
        ⟨some 56, .bin .sub .none (.tmp 55) (.const (.int .i64 1)), none⟩,
        ⟨some 57, .move (.tmp 11), none⟩,
        ⟨some 58, .move (.tmp 1), none⟩,
        ⟨some 59, .bin .sub .none (.tmp 57) (.tmp 58), none⟩,
        ⟨some 60, .bin .sub .none (.tmp 56) (.tmp 59), none⟩,
        ⟨some 11, .move (.tmp 60), none⟩])
     (.keep [0, 1, 2, 3, 8, 9, 10, 11] [] (.region [⟨some 12, .move (.const (.int .i64 1)), none⟩])))))
     (.skip))))
   (.keep [0, 1, 2, 3, 8, 9, 10, 11, 12] [] (.seq (.seq (.region [⟨some 61, .move (.tmp 8), none⟩,
       ⟨some 62, .move (.tmp 61), none⟩,
       ⟨some 63, .move (.tmp 9), some (62, true)⟩,
       ⟨some 64, .pick (.tmp 62) (.tmp 63) (.const (.bool false)), none⟩,
       ⟨some 65, .move (.tmp 64), none⟩,
       ⟨some 66, .move (.tmp 12), some (65, true)⟩,
       ⟨some 67, .bin .eql .int (.tmp 66) (.const (.int .i64 1)), some (65, true)⟩,
       ⟨some 68, .pick (.tmp 65) (.tmp 67) (.const (.bool false)), none⟩])
    (.keep [0, 1, 2, 3, 8, 9, 10, 11, 68] [] (.cond (.tmp 68)
     (.seq (.region [⟨some 69, .move (.tmp 0), none⟩,
        ⟨some 70, .move (.tmp 1), none⟩,
        ⟨some 71, .move (.tmp 2), none⟩,
        ⟨some 72, .call (.func 85) [(.tmp 69), (.tmp 70), (.tmp 71)], none⟩])
     (.keep [0, 1, 2, 3, 8, 9, 10, 11, 72] [] (.cond (.tmp 72)
      (.ret)
      (.skip))))
     (.skip))))
   (.keep [0, 1, 2, 3, 8, 9, 10, 11] [] (.seq (.seq (.regionD [⟨some 73, .move (.tmp 1), none⟩,
       ⟨some 74, .bin .gtr .none (.tmp 73) (.const (.int .i64 0)), none⟩,
       ⟨some 75, .move (.tmp 74), none⟩,
       ⟨some 76, .move (.tmp 0), some (75, true)⟩,
       ⟨some 77, .move (.tmp 1), some (75, true)⟩,
       ⟨some 78, .bin .sub .none (.tmp 77) (.const (.int .i64 1)), some (75, true)⟩,
       ⟨some 79, .indexAddr none 1 (.tmp 76) (.tmp 78), some (75, true)⟩,
       ⟨some 80, .load false 1 (.tmp 79), some (75, true)⟩,
       ⟨some 81, .move (.tmp 0), some (75, true)⟩,
       ⟨some 82, .move (.tmp 11), some (75, true)⟩,
       ⟨some 83, .indexAddr none 1 (.tmp 81) (.tmp 82), some (75, true)⟩,
       ⟨some 84, .load false 1 (.tmp 83), some (75, true)⟩,
       ⟨some 85, .call (.func 86) [(.tmp 80), (.tmp 84)], some (75, true)⟩,
       ⟨some 86, .un .not (.tmp 85), some (75, true)⟩,
       ⟨some 87, .pick (.tmp 75) (.tmp 86) (.const (.bool false)), none⟩] [])
    (.keep [0, 1, 2, 3, 8, 9, 10, 11, 87] [] (.cond (.tmp 87)
     (.seq (.region [⟨some 88, .move (.tmp 0), none⟩,
        ⟨some 89, .move (.tmp 1), none⟩,
        ⟨some 90, .move (.tmp 2), none⟩,
        ⟨some 91, .move (.tmp 11), none⟩,
        ⟨some 92, .call (.func 87) [(.tmp 88), (.tmp 89), (.tmp 90), (.tmp 91)], none⟩,
        ⟨some 13, .move (.tmp 92), none⟩])
     (.keep [0, 2, 3, 8, 9, 13] [] (.seq (.region [⟨some 93, .move (.tmp 13), none⟩,
        ⟨some 1, .move (.tmp 93), none⟩])
     (.keep [0, 1, 2, 3, 8, 9] [] (.exit 1)))))
     (.skip))))
   (.keep [0, 1, 2, 3, 10, 11] [] (.seq (.region [⟨some 95, .move (.tmp 0), none⟩,
      ⟨some 96, .move (.tmp 1), none⟩,
      ⟨some 97, .move (.tmp 2), none⟩,
      ⟨some 98, .move (.tmp 11), none⟩,
      ⟨some 99, .call (.func 88) [(.tmp 95), (.tmp 96), (.tmp 97), (.tmp 98)], none⟩,
      ⟨some 94, .move (.tmp 99), none⟩,
      ⟨some 100, .extract (.tmp 94) 0, none⟩,
      ⟨some 101, .extract (.tmp 94) 1, none⟩,
      ⟨some 14, .move (.tmp 100), none⟩,
      ⟨some 15, .move (.tmp 101), none⟩])
   (.keep [0, 1, 2, 3, 10, 14, 15] [] (.seq (.region [⟨some 102, .move (.tmp 15), none⟩,
      ⟨some 9, .move (.tmp 102), none⟩])
   (.keep [0, 1, 2, 3, 9, 10, 14] [] (.seq (.region [⟨some 103, .move (.tmp 14), none⟩,
      ⟨some 104, .move (.tmp 1), none⟩,
      ⟨some 105, .bin .sub .none (.tmp 103) (.tmp 104), none⟩,
      ⟨some 106, .move (.tmp 2), none⟩,
      ⟨some 107, .move (.tmp 14), none⟩,
      ⟨some 108, .bin .sub .none (.tmp 106) (.tmp 107), none⟩,
      ⟨some 16, .move (.tmp 105), none⟩,
      ⟨some 17, .move (.tmp 108), none⟩])
   (.keep [0, 1, 2, 3, 9, 10, 14, 16, 17] [] (.seq (.region [⟨some 109, .move (.tmp 10), none⟩,
      ⟨some 110, .bin .quo .none (.tmp 109) (.const (.int .i64 8)), none⟩,
      ⟨some 18, .move (.tmp 110), none⟩])
   (.keep [0, 1, 2, 3, 9, 14, 16, 17, 18] [] (.seq (.region [⟨some 111, .move (.tmp 16), none⟩,
      ⟨some 112, .move (.tmp 17), none⟩,
      ⟨some 113, .bin .lss .none (.tmp 111) (.tmp 112), none⟩])
   (.keep [0, 1, 2, 3, 9, 14, 16, 17, 18, 113] [] (.cond (.tmp 113)
    (.seq (.region [⟨some 114, .move (.tmp 16), none⟩,
       ⟨some 115, .move (.tmp 18), none⟩,
       ⟨some 116, .bin .geq .none (.tmp 114) (.tmp 115), none⟩,
       ⟨some 8, .move (.tmp 116), none⟩])
    (.keep [0, 1, 2, 3, 8, 9, 14] [] (.seq (.region [⟨some 117, .move (.tmp 0), none⟩,
       ⟨some 118, .move (.tmp 1), none⟩,
       ⟨some 119, .move (.tmp 14), none⟩,
       ⟨some 120, .move (.tmp 3), none⟩,
       ⟨some 121, .call (.func 74) [(.tmp 117), (.tmp 118), (.tmp 119), (.tmp 120)], none⟩])
    (.keep [0, 2, 3, 8, 9, 14] [] (.region [⟨some 122, .move (.tmp 14), none⟩,
      ⟨some 123, .bin .add .none (.tmp 122) (.const (.int .i64 1)), none⟩,
      ⟨some 1, .move (.tmp 123), none⟩])))))
    (.seq (.region [⟨some 124, .move (.tmp 17), none⟩,
       ⟨some 125, .move (.tmp 18), none⟩,
       ⟨some 126, .bin .geq .none (.tmp 124) (.tmp 125), none⟩,
       ⟨some 8, .move (.tmp 126), none⟩])
    (.keep [0, 1, 2, 3, 8, 9, 14] [] (.seq (.region [⟨some 127, .move (.tmp 0), none⟩,
       ⟨some 128, .move (.tmp 14), none⟩,
       ⟨some 129, .bin .add .none (.tmp 128) (.const (.int .i64 1)), none⟩,
       ⟨some 130, .move (.tmp 2), none⟩,
       ⟨some 131, .move (.tmp 3), none⟩,
       ⟨some 132, .call (.func 74) [(.tmp 127), (.tmp 129), (.tmp 130), (.tmp 131)], none⟩])
    (.keep [0, 1, 3, 8, 9, 14] [] (.region [⟨some 133, .move (.tmp 14), none⟩,
      ⟨some 2, .move (.tmp 133), none⟩])))))))))))))))))))))))))))))))))
def F74 : FnIR := ⟨134, 4, [], [],
  .seq (.region [⟨some 8, .move (.const (.bool true)), none⟩])
  (.keep [0, 1, 2, 3, 8] [] (.seq (.region [⟨some 9, .move (.const (.bool true)), none⟩])
  (.keep [0, 1, 2, 3, 8, 9] [] (.block 0 (.loop L74_0)))))⟩
/-- slices.insertionSortOrdered[string] -/
def L80_0 : IC :=
  .keep [0, 1, 2, 6, 7] [] (.seq (.seq (.regionD [⟨some 16, .move (.tmp 7), none⟩,
      ⟨some 17, .move (.tmp 1), none⟩,
      ⟨some 18, .bin .gtr .none (.tmp 16) (.tmp 17), none⟩,
      ⟨some 19, .move (.tmp 18), none⟩,
      ⟨some 20, .move (.tmp 0), some (19, true)⟩,
      ⟨some 21, .move (.tmp 7), some (19, true)⟩,
      ⟨some 22, .indexAddr none 1 (.tmp 20) (.tmp 21), some (19, true)⟩,
      ⟨some 23, .load false 1 (.tmp 22), some (19, true)⟩,
      ⟨some 24, .move (.tmp 0), some (19, true)⟩,
      ⟨some 25, .move (.tmp 7), some (19, true)⟩,
      ⟨some 26, .bin .sub .none (.tmp 25) (.const (.int .i64 1)), some (19, true)⟩,
      ⟨some 27, .indexAddr none 1 (.tmp 24) (.tmp 26), some (19, true)⟩,
      ⟨some 28, .load false 1 (.tmp 27), some (19, true)⟩,
      ⟨some 29, .call (.func 86) [(.tmp 23), (.tmp 28)], some (19, true)⟩,
      ⟨some 30, .pick (.tmp 19) (.tmp 29) (.const (.bool false)), none⟩] [])
   (.keep [0, 1, 2, 6, 7, 30] [] (.cond (.tmp 30)
    (.skip)
    (.exit 2))))
  (.keep [0, 1, 2, 6, 7] [] (.seq (.block 3 (.regionD [⟨some 33, .move (.tmp 0), none⟩,
      ⟨some 34, .move (.tmp 7), none⟩,
      ⟨some 38, .move (.tmp 0), none⟩,
      ⟨some 39, .move (.tmp 7), none⟩,
      ⟨some 40, .bin .sub .none (.tmp 39) (.const (.int .i64 1)), none⟩,
      ⟨some 41, .indexAddr none 1 (.tmp 38) (.tmp 40), none⟩,
      ⟨some 42, .load false 1 (.tmp 41), none⟩,
      ⟨some 43, .move (.tmp 0), none⟩,
      ⟨some 44, .move (.tmp 7), none⟩,
      ⟨some 45, .indexAddr none 1 (.tmp 43) (.tmp 44), none⟩,
      ⟨some 46, .load false 1 (.tmp 45), none⟩,
      ⟨some 47, .indexAddr none 1 (.tmp 33) (.tmp 34), none⟩,
      ⟨none, .store 1 (.tmp 47) (.tmp 42), none⟩,
      ⟨some 35, .move (.tmp 0), none⟩,
      ⟨some 36, .move (.tmp 7), none⟩,
      ⟨some 37, .bin .sub .none (.tmp 36) (.const (.int .i64 1)), none⟩,
      ⟨some 48, .indexAddr none 1 (.tmp 35) (.tmp 37), none⟩,
      ⟨none, .store 1 (.tmp 48) (.tmp 46), none⟩] []))
  (.keep [0, 1, 2, 6, 7] [] (.region [⟨some 31, .move (.tmp 7), none⟩,
    ⟨some 32, .bin .sub .none (.tmp 31) (.const (.int .i64 1)), none⟩,
    ⟨some 7, .move (.tmp 32), none⟩])))))
def L80_1 : IC :=
  .keep [0, 1, 2, 6] [] (.seq (.seq (.region [⟨some 10, .move (.tmp 6), none⟩,
      ⟨some 11, .move (.tmp 2), none⟩,
      ⟨some 12, .bin .lss .none (.tmp 10) (.tmp 11), none⟩])
   (.keep [0, 1, 2, 6, 12] [] (.cond (.tmp 12)
    (.skip)
    (.exit 0))))
  (.keep [0, 1, 2, 6] [] (.seq (.block 1 (.seq (.region [⟨some 15, .move (.tmp 6), none⟩,
       ⟨some 7, .move (.tmp 15), none⟩])
    (.keep [0, 1, 2, 6, 7] [] (.block 2 (.loop L80_0)))))
  (.keep [0, 1, 2, 6] [] (.region [⟨some 13, .move (.tmp 6), none⟩,
    ⟨some 14, .bin .add .none (.tmp 13) (.const (.int .i64 1)), none⟩,
    ⟨some 6, .move (.tmp 14), none⟩])))))
def F80 : FnIR := ⟨49, 3, [], [],
  .seq (.region [⟨some 8, .move (.tmp 1), none⟩,
     ⟨some 9, .bin .add .none (.tmp 8) (.const (.int .i64 1)), none⟩,
     ⟨some 6, .move (.tmp 9), none⟩])
  (.keep [0, 1, 2, 6] [] (.block 0 (.loop L80_1)))⟩
/-- cmp.Less[string] -/
def F86 : FnIR := ⟨17, 2, [.tmp 4], [],
  .seq (.region [⟨some 4, .move (.const (.bool false)), none⟩])
  (.keep [0, 1] [] (.seq (.region [⟨some 5, .move (.tmp 0), none⟩,
     ⟨some 6, .call (.func 96) [(.tmp 5)], none⟩,
     ⟨some 7, .move (.tmp 6), none⟩,
     ⟨some 8, .move (.tmp 1), some (7, true)⟩,
     ⟨some 9, .call (.func 96) [(.tmp 8)], some (7, true)⟩,
     ⟨some 10, .un .not (.tmp 9), some (7, true)⟩,
     ⟨some 11, .pick (.tmp 7) (.tmp 10) (.const (.bool false)), none⟩,
     ⟨some 12, .move (.tmp 11), none⟩,
     ⟨some 13, .move (.tmp 0), some (12, false)⟩,
     ⟨some 14, .move (.tmp 1), some (12, false)⟩,
     ⟨some 15, .bin .lss .none (.tmp 13) (.tmp 14), some (12, false)⟩,
     ⟨some 16, .pick (.tmp 12) (.const (.bool true)) (.tmp 15), none⟩,
     ⟨some 4, .move (.tmp 16), none⟩])
  (.keep [4] [] (.ret))))⟩
/-- cmp.isNaN[string] -/
def F96 : FnIR := ⟨6, 1, [.tmp 2], [],
  .seq (.region [⟨some 2, .move (.const (.bool false)), none⟩])
  (.keep [0] [] (.seq (.region [⟨some 3, .move (.tmp 0), none⟩,
     ⟨some 4, .move (.tmp 0), none⟩,
     ⟨some 5, .bin .neq .str (.tmp 3) (.tmp 4), none⟩,
     ⟨some 2, .move (.tmp 5), none⟩])
  (.keep [2] [] (.ret))))⟩
/-- slices.heapSortOrdered[string] -/
def L81_0 : IC :=
  .keep [0, 6, 7, 8, 9] [] (.seq (.seq (.region [⟨some 18, .move (.tmp 9), none⟩,
      ⟨some 19, .bin .geq .none (.tmp 18) (.const (.int .i64 0)), none⟩])
   (.keep [0, 6, 7, 8, 9, 19] [] (.cond (.tmp 19)
    (.skip)
    (.exit 0))))
  (.keep [0, 6, 7, 8, 9] [] (.seq (.block 1 (.region [⟨some 22, .move (.tmp 0), none⟩,
      ⟨some 23, .move (.tmp 9), none⟩,
      ⟨some 24, .move (.tmp 8), none⟩,
      ⟨some 25, .move (.tmp 6), none⟩,
      ⟨some 26, .call (.func 91) [(.tmp 22), (.tmp 23), (.tmp 24), (.tmp 25)], none⟩]))
  (.keep [0, 6, 7, 8, 9] [] (.region [⟨some 20, .move (.tmp 9), none⟩,
    ⟨some 21, .bin .sub .none (.tmp 20) (.const (.int .i64 1)), none⟩,
    ⟨some 9, .move (.tmp 21), none⟩])))))
def L81_1 : IC :=
  .keep [0, 6, 7, 10] [] (.seq (.seq (.region [⟨some 29, .move (.tmp 10), none⟩,
      ⟨some 30, .bin .geq .none (.tmp 29) (.const (.int .i64 0)), none⟩])
   (.keep [0, 6, 7, 10, 30] [] (.cond (.tmp 30)
    (.skip)
    (.exit 2))))
  (.keep [0, 6, 7, 10] [] (.seq (.block 3 (.seq (.regionD [⟨some 33, .move (.tmp 0), none⟩,
       ⟨some 34, .move (.tmp 6), none⟩,
       ⟨some 39, .move (.tmp 0), none⟩,
       ⟨some 40, .move (.tmp 6), none⟩,
       ⟨some 41, .move (.tmp 10), none⟩,
       ⟨some 42, .bin .add .none (.tmp 40) (.tmp 41), none⟩,
       ⟨some 43, .indexAddr none 1 (.tmp 39) (.tmp 42), none⟩,
       ⟨some 44, .load false 1 (.tmp 43), none⟩,
       ⟨some 45, .move (.tmp 0), none⟩,
       ⟨some 46, .move (.tmp 6), none⟩,
       ⟨some 47, .indexAddr none 1 (.tmp 45) (.tmp 46), none⟩,
       ⟨some 48, .load false 1 (.tmp 47), none⟩,
       ⟨some 49, .indexAddr none 1 (.tmp 33) (.tmp 34), none⟩,
       ⟨none, .store 1 (.tmp 49) (.tmp 44), none⟩,
       ⟨some 35, .move (.tmp 0), none⟩,
       ⟨some 36, .move (.tmp 6), none⟩,
       ⟨some 37, .move (.tmp 10), none⟩,
       ⟨some 38, .bin .add .none (.tmp 36) (.tmp 37), none⟩,
       ⟨some 50, .indexAddr none 1 (.tmp 35) (.tmp 38), none⟩,
       ⟨none, .store 1 (.tmp 50) (.tmp 48), none⟩] [])
    (.keep [0, 6, 7, 10] [] (.region [⟨some 51, .move (.tmp 0), none⟩,
      ⟨some 52, .move (.tmp 7), none⟩,
      ⟨some 53, .move (.tmp 10), none⟩,
      ⟨some 54, .move (.tmp 6), none⟩,
      ⟨some 55, .call (.func 91) [(.tmp 51), (.tmp 52), (.tmp 53), (.tmp 54)], none⟩]))))
  (.keep [0, 6, 7, 10] [] (.region [⟨some 31, .move (.tmp 10), none⟩,
    ⟨some 32, .bin .sub .none (.tmp 31) (.const (.int .i64 1)), none⟩,
    ⟨some 10, .move (.tmp 32), none⟩])))))
def F81 : FnIR := ⟨56, 3, [], [],
  .seq (.region [⟨some 11, .move (.tmp 1), none⟩,
     ⟨some 6, .move (.tmp 11), none⟩])
  (.keep [0, 1, 2, 6] [] (.seq (.region [⟨some 7, .move (.const (.int .i64 0)), none⟩])
  (.keep [0, 1, 2, 6, 7] [] (.seq (.region [⟨some 12, .move (.tmp 2), none⟩,
     ⟨some 13, .move (.tmp 1), none⟩,
     ⟨some 14, .bin .sub .none (.tmp 12) (.tmp 13), none⟩,
     ⟨some 8, .move (.tmp 14), none⟩])
  (.keep [0, 6, 7, 8] [] (.seq (.seq (.region [⟨some 15, .move (.tmp 8), none⟩,
      ⟨some 16, .bin .sub .none (.tmp 15) (.const (.int .i64 1)), none⟩,
      ⟨some 17, .bin .quo .none (.tmp 16) (.const (.int .i64 2)), none⟩,
      ⟨some 9, .move (.tmp 17), none⟩])
   (.keep [0, 6, 7, 8, 9] [] (.block 0 (.loop L81_0))))
  (.keep [0, 6, 7, 8] [] (.seq (.region [⟨some 27, .move (.tmp 8), none⟩,
     ⟨some 28, .bin .sub .none (.tmp 27) (.const (.int .i64 1)), none⟩,
     ⟨some 10, .move (.tmp 28), none⟩])
  (.keep [0, 6, 7, 10] [] (.block 2 (.loop L81_1)))))))))))⟩
/-- slices.siftDownOrdered[string] -/
def L91_0 : IC :=
  .keep [0, 2, 3, 8] [] (.block 1 (.seq (.region [⟨some 11, .move (.tmp 8), none⟩,
      ⟨some 12, .bin .mul .none (.const (.int .i64 2)) (.tmp 11), none⟩,
      ⟨some 13, .bin .add .none (.tmp 12) (.const (.int .i64 1)), none⟩,
      ⟨some 9, .move (.tmp 13), none⟩])
   (.keep [0, 2, 3, 8, 9] [] (.seq (.seq (.region [⟨some 14, .move (.tmp 9), none⟩,
       ⟨some 15, .move (.tmp 2), none⟩,
       ⟨some 16, .bin .geq .none (.tmp 14) (.tmp 15), none⟩])
    (.keep [0, 2, 3, 8, 9, 16] [] (.cond (.tmp 16)
     (.exit 0)
     (.skip))))
   (.keep [0, 2, 3, 8, 9] [] (.seq (.seq (.regionD [⟨some 17, .move (.tmp 9), none⟩,
       ⟨some 18, .bin .add .none (.tmp 17) (.const (.int .i64 1)), none⟩,
       ⟨some 19, .move (.tmp 2), none⟩,
       ⟨some 20, .bin .lss .none (.tmp 18) (.tmp 19), none⟩,
       ⟨some 21, .move (.tmp 20), none⟩,
       ⟨some 22, .move (.tmp 0), some (21, true)⟩,
       ⟨some 23, .move (.tmp 3), some (21, true)⟩,
       ⟨some 24, .move (.tmp 9), some (21, true)⟩,
       ⟨some 25, .bin .add .none (.tmp 23) (.tmp 24), some (21, true)⟩,
       ⟨some 26, .indexAddr none 1 (.tmp 22) (.tmp 25), some (21, true)⟩,
       ⟨some 27, .load false 1 (.tmp 26), some (21, true)⟩,
       ⟨some 28, .move (.tmp 0), some (21, true)⟩,
       ⟨some 29, .move (.tmp 3), some (21, true)⟩,
       ⟨some 30, .move (.tmp 9), some (21, true)⟩,
       ⟨some 31, .bin .add .none (.tmp 29) (.tmp 30), some (21, true)⟩,
       ⟨some 32, .bin .add .none (.tmp 31) (.const (.int .i64 1)), some (21, true)⟩,
       ⟨some 33, .indexAddr none 1 (.tmp 28) (.tmp 32), some (21, true)⟩,
       ⟨some 34, .load false 1 (.tmp 33), some (21, true)⟩,
       ⟨some 35, .call (.func 86) [(.tmp 27), (.tmp 34)], some (21, true)⟩,
       ⟨some 36, .pick (.tmp 21) (.tmp 35) (.const (.bool false)), none⟩] [])
    (.keep [0, 2, 3, 8, 9, 36] [] (.cond (.tmp 36)
     (.region [⟨some 37, .move (.tmp 9), none⟩,
       ⟨some 38, .bin .add .none (.tmp 37) (.const (.int .i64 1)), none⟩,
       ⟨some 9, .move (.tmp 38), none⟩])
     (.skip))))
   (.keep [0, 2, 3, 8, 9] [] (.seq (.seq (.regionD [⟨some 39, .move (.tmp 0), none⟩,
       ⟨some 40, .move (.tmp 3), none⟩,
       ⟨some 41, .move (.tmp 8), none⟩,
       ⟨some 42, .bin .add .none (.tmp 40) (.tmp 41), none⟩,
       ⟨some 43, .indexAddr none 1 (.tmp 39) (.tmp 42), none⟩,
       ⟨some 44, .load false 1 (.tmp 43), none⟩,
       ⟨some 45, .move (.tmp 0), none⟩,
       ⟨some 46, .move (.tmp 3), none⟩,
       ⟨some 47, .move (.tmp 9), none⟩,
       ⟨some 48, .bin .add .none (.tmp 46) (.tmp 47), none⟩,
       ⟨some 49, .indexAddr none 1 (.tmp 45) (.tmp 48), none⟩,
       ⟨some 50, .load false 1 (.tmp 49), none⟩,
       ⟨some 51, .call (.func 86) [(.tmp 44), (.tmp 50)], none⟩,
       ⟨some 52, .un .not (.tmp 51), none⟩] [])
    (.keep [0, 2, 3, 8, 9, 52] [] (.cond (.tmp 52)
     (.ret)
     (.skip))))
   (.keep [0, 2, 3, 8, 9] [] (.seq (.regionD [⟨some 53, .move (.tmp 0), none⟩,
      ⟨some 54, .move (.tmp 3), none⟩,
      ⟨some 55, .move (.tmp 8), none⟩,
      ⟨some 56, .bin .add .none (.tmp 54) (.tmp 55), none⟩,
      ⟨some 61, .move (.tmp 0), none⟩,
      ⟨some 62, .move (.tmp 3), none⟩,
      ⟨some 63, .move (.tmp 9), none⟩,
      ⟨some 64, .bin .add .none (.tmp 62) (.tmp 63), none⟩,
      ⟨some 65, .indexAddr none 1 (.tmp 61) (.tmp 64), none⟩,
      ⟨some 66, .load false 1 (.tmp 65), none⟩,
      ⟨some 67, .move (.tmp 0), none⟩,
      ⟨some 68, .move (.tmp 3), none⟩,
      ⟨some 69, .move (.tmp 8), none⟩,
      ⟨some 70, .bin .add .none (.tmp 68) (.tmp 69), none⟩,
      ⟨some 71, .indexAddr none 1 (.tmp 67) (.tmp 70), none⟩,
      ⟨some 72, .load false 1 (.tmp 71), none⟩,
      ⟨some 73, .indexAddr none 1 (.tmp 53) (.tmp 56), none⟩,
      ⟨none, .store 1 (.tmp 73) (.tmp 66), none⟩,
      ⟨some 57, .move (.tmp 0), none⟩,
      ⟨some 58, .move (.tmp 3), none⟩,
      ⟨some 59, .move (.tmp 9), none⟩,
      ⟨some 60, .bin .add .none (.tmp 58) (.tmp 59), none⟩,
      ⟨some 74, .indexAddr none 1 (.tmp 57) (.tmp 60), none⟩,
      ⟨none, .store 1 (.tmp 74) (.tmp 72), none⟩] [])
   (.keep [0, 2, 3, 9] [] (.region [⟨some 75, .move (.tmp 9), none⟩,
     ⟨some 8, .move (.tmp 75), none⟩]))))))))))))
def F91 : FnIR := ⟨76, 4, [], [],
  .seq (.region [⟨some 10, .move (.tmp 1), none⟩,
     ⟨some 8, .move (.tmp 10), none⟩])
  (.keep [0, 2, 3, 8] [] (.block 0 (.loop L91_0)))⟩
/-- slices.breakPatternsOrdered[string] -/
def L82_0 : IC :=
  .keep [0, 1, 6, 7, 8, 9] [] (.seq (.seq (.region [⟨some 26, .move (.tmp 9), none⟩,
      ⟨some 27, .move (.tmp 1), none⟩,
      ⟨some 28, .move (.tmp 6), none⟩,
      ⟨some 29, .bin .quo .none (.tmp 28) (.const (.int .i64 4)), none⟩,
      ⟨some 30, .bin .mul .none (.tmp 29) (.const (.int .i64 2)), none⟩,
      ⟨some 31, .bin .add .none (.tmp 27) (.tmp 30), none⟩,
      ⟨some 32, .bin .add .none (.tmp 31) (.const (.int .i64 1)), none⟩,
      ⟨some 33, .bin .leq .none (.tmp 26) (.tmp 32), none⟩])
   (.keep [0, 1, 6, 7, 8, 9, 33] [] (.cond (.tmp 33)
    (.skip)
    (.exit 0))))
  (.keep [0, 1, 6, 7, 8, 9] [] (.seq (.block 1 (.seq (.region [⟨some 36, .call (.func 93) [(.tmp 7)], none⟩,
       ⟨some 37, .move (.tmp 8), none⟩,
       ⟨some 38, .bin .sub .none (.tmp 37) (.const (.int .u64 1)), none⟩,
       ⟨some 39, .bin .and .none (.tmp 36) (.tmp 38), none⟩,
       ⟨some 40, .conv (.toInt .i64) (.tmp 39), none⟩,
       ⟨some 10, .move (.tmp 40), none⟩])
    (.keep [0, 1, 6, 7, 8, 9, 10] [] (.seq (.seq (.region [⟨some 41, .move (.tmp 10), none⟩,
        ⟨some 42, .move (.tmp 6), none⟩,
        ⟨some 43, .bin .geq .none (.tmp 41) (.tmp 42), none⟩])
     (.keep [0, 1, 6, 7, 8, 9, 10, 43] [] (.cond (.tmp 43)
      (.region [⟨some 44, .move (.tmp 10), none⟩,
        ⟨some 45, .move (.tmp 6), none⟩,
        ⟨some 46, .bin .sub .none (.tmp 44) (.tmp 45), none⟩,
        ⟨some 10, .move (.tmp 46), none⟩])
      (.skip))))
    (.keep [0, 1, 6, 7, 8, 9, 10] [] (.regionD [⟨some 47, .move (.tmp 0), none⟩,
      ⟨some 48, .move (.tmp 9), none⟩,
      ⟨some 53, .move (.tmp 0), none⟩,
      ⟨some 54, .move (.tmp 1), none⟩,
      ⟨some 55, .move (.tmp 10), none⟩,
      ⟨some 56, .bin .add .none (.tmp 54) (.tmp 55), none⟩,
      ⟨some 57, .indexAddr none 1 (.tmp 53) (.tmp 56), none⟩,
      ⟨some 58, .load false 1 (.tmp 57), none⟩,
      ⟨some 59, .move (.tmp 0), none⟩,
      ⟨some 60, .move (.tmp 9), none⟩,
      ⟨some 61, .indexAddr none 1 (.tmp 59) (.tmp 60), none⟩,
      ⟨some 62, .load false 1 (.tmp 61), none⟩,
      ⟨some 63, .indexAddr none 1 (.tmp 47) (.tmp 48), none⟩,
      ⟨none, .store 1 (.tmp 63) (.tmp 58), none⟩,
      ⟨some 49, .move (.tmp 0), none⟩,
      ⟨some 50, .move (.tmp 1), none⟩,
      ⟨some 51, .move (.tmp 10), none⟩,
      ⟨some 52, .bin .add .none (.tmp 50) (.tmp 51), none⟩,
      ⟨some 64, .indexAddr none 1 (.tmp 49) (.tmp 52), none⟩,
      ⟨none, .store 1 (.tmp 64) (.tmp 62), none⟩] []))))))
  (.keep [0, 1, 6, 7, 8, 9] [] (.region [⟨some 34, .move (.tmp 9), none⟩,
    ⟨some 35, .bin .add .none (.tmp 34) (.const (.int .i64 1)), none⟩,
    ⟨some 9, .move (.tmp 35), none⟩])))))
def F82 : FnIR := ⟨65, 3, [], [],
  .seq (.region [⟨some 11, .move (.tmp 2), none⟩,
     ⟨some 12, .move (.tmp 1), none⟩,
     ⟨some 13, .bin .sub .none (.tmp 11) (.tmp 12), none⟩,
     ⟨some 6, .move (.tmp 13), none⟩])
  (.keep [0, 1, 6] [] (.seq (.region [⟨some 14, .move (.tmp 6), none⟩,
     ⟨some 15, .bin .geq .none (.tmp 14) (.const (.int .i64 8)), none⟩])
  (.keep [0, 1, 6, 15] [] (.cond (.tmp 15)
   (.seq (.region [⟨some 16, .move (.tmp 6), none⟩,
      ⟨some 17, .conv (.toInt .u64) (.tmp 16), none⟩,
      ⟨some 7, .alloc false 1 [(.int .u64 0)], none⟩,
      ⟨none, .store 1 (.tmp 7) (.tmp 17), none⟩])
   (.keep [0, 1, 6, 7] [] (.seq (.region [⟨some 18, .move (.tmp 6), none⟩,
      ⟨some 19, .call (.func 92) [(.tmp 18)], none⟩,
      ⟨some 8, .move (.tmp 19), none⟩])
   (.keep [0, 1, 6, 7, 8] [] (.seq (.region [⟨some 20, .move (.tmp 1), none⟩,
      ⟨some 21, .move (.tmp 6), none⟩,
      ⟨some 22, .bin .quo .none (.tmp 21) (.const (.int .i64 4)), none⟩,
      ⟨some 23, .bin .mul .none (.tmp 22) (.const (.int .i64 2)), none⟩,
      ⟨some 24, .bin .add .none (.tmp 20) (.tmp 23), none⟩,
      ⟨some 25, .bin .sub .none (.tmp 24) (.const (.int .i64 1)), none⟩,
      ⟨some 9, .move (.tmp 25), none⟩])
   (.keep [0, 1, 6, 7, 8, 9] [] (.block 0 (.loop L82_0))))))))
   (.skip)))))⟩
/-- slices.nextPowerOfTwo -/
def F92 : FnIR := ⟨7, 1, [.tmp 2], [],
  .seq (.region [⟨some 2, .move (.const (.int .u64 0)), none⟩])
  (.keep [0] [] (.seq (.region [⟨some 3, .move (.tmp 0), none⟩,
     ⟨some 4, .conv (.toInt .u64) (.tmp 3), none⟩,
     ⟨some 5, .call (.func 75) [(.tmp 4)], none⟩,
     ⟨some 6, .bin .shl .none (.const (.int .u64 1)) (.tmp 5), none⟩,
     ⟨some 2, .move (.tmp 6), none⟩])
  (.keep [2] [] (.ret))))⟩
/-- (*slices.xorshift).Next -/
def F93 : FnIR := ⟨33, 1, [.tmp 2], [],
  .seq (.region [⟨some 2, .move (.const (.int .u64 0)), none⟩])
  (.keep [0] [] (.seq (.regionD [⟨some 3, .move (.tmp 0), none⟩,
     ⟨some 4, .nilCheck (.tmp 3), none⟩,
     ⟨some 5, .load false 1 (.tmp 4), none⟩,
     ⟨some 6, .move (.tmp 0), none⟩,
     ⟨some 7, .nilCheck (.tmp 6), none⟩,
     ⟨some 8, .load false 1 (.tmp 7), none⟩,
     ⟨some 9, .bin .shl .none (.tmp 8) (.const (.int .u64 13)), none⟩,
     ⟨some 10, .bin .xor .none (.tmp 5) (.tmp 9), none⟩,
     ⟨some 11, .nilCheck (.tmp 3), none⟩,
     ⟨none, .store 1 (.tmp 11) (.tmp 10), none⟩] [])
  (.keep [0] [] (.seq (.regionD [⟨some 12, .move (.tmp 0), none⟩,
     ⟨some 13, .nilCheck (.tmp 12), none⟩,
     ⟨some 14, .load false 1 (.tmp 13), none⟩,
     ⟨some 15, .move (.tmp 0), none⟩,
     ⟨some 16, .nilCheck (.tmp 15), none⟩,
     ⟨some 17, .load false 1 (.tmp 16), none⟩,
     ⟨some 18, .bin .shr .none (.tmp 17) (.const (.int .u64 7)), none⟩,
     ⟨some 19, .bin .xor .none (.tmp 14) (.tmp 18), none⟩,
     ⟨some 20, .nilCheck (.tmp 12), none⟩,
     ⟨none, .store 1 (.tmp 20) (.tmp 19), none⟩] [])
  (.keep [0] [] (.seq (.regionD [⟨some 21, .move (.tmp 0), none⟩,
     ⟨some 22, .nilCheck (.tmp 21), none⟩,
     ⟨some 23, .load false 1 (.tmp 22), none⟩,
     ⟨some 24, .move (.tmp 0), none⟩,
     ⟨some 25, .nilCheck (.tmp 24), none⟩,
     ⟨some 26, .load false 1 (.tmp 25), none⟩,
     ⟨some 27, .bin .shl .none (.tmp 26) (.const (.int .u64 17)), none⟩,
     ⟨some 28, .bin .xor .none (.tmp 23) (.tmp 27), none⟩,
     ⟨some 29, .nilCheck (.tmp 21), none⟩,
     ⟨none, .store 1 (.tmp 29) (.tmp 28), none⟩] [])
  (.keep [0] [] (.seq (.region [⟨some 30, .move (.tmp 0), none⟩,
     ⟨some 31, .nilCheck (.tmp 30), none⟩,
     ⟨some 32, .load false 1 (.tmp 31), none⟩,
     ⟨some 2, .move (.tmp 32), none⟩])
  (.keep [2] [] (.ret))))))))))⟩
/-- slices.choosePivotOrdered[string] -/
def F83 : FnIR := ⟨57, 3, [.tmp 6, .tmp 7], [],
  .seq (.region [⟨some 6, .move (.const (.int .i64 0)), none⟩,
     ⟨some 7, .move (.const (.int .i64 0)), none⟩])
  (.keep [0, 1, 2] [] (.seq (.region [⟨some 13, .move (.tmp 2), none⟩,
     ⟨some 14, .move (.tmp 1), none⟩,
     ⟨some 15, .bin .sub .none (.tmp 13) (.tmp 14), none⟩,
     ⟨some 8, .move (.tmp 15), none⟩])
  (.keep [0, 1, 8] [] (.seq (.region [⟨some 9, .alloc false 1 [(.int .i64 0)], none⟩])
  (.keep [0, 1, 8, 9] [] (.seq (.region [⟨some 16, .move (.tmp 1), none⟩,
     ⟨some 17, .move (.tmp 8), none⟩,
     ⟨some 18, .bin .quo .none (.tmp 17) (.const (.int .i64 4)), none⟩,
     ⟨some 19, .bin .mul .none (.tmp 18) (.const (.int .i64 1)), none⟩,
     ⟨some 20, .bin .add .none (.tmp 16) (.tmp 19), none⟩,
     ⟨some 10, .move (.tmp 20), none⟩])
  (.keep [0, 1, 8, 9, 10] [] (.seq (.region [⟨some 21, .move (.tmp 1), none⟩,
     ⟨some 22, .move (.tmp 8), none⟩,
     ⟨some 23, .bin .quo .none (.tmp 22) (.const (.int .i64 4)), none⟩,
     ⟨some 24, .bin .mul .none (.tmp 23) (.const (.int .i64 2)), none⟩,
     ⟨some 25, .bin .add .none (.tmp 21) (.tmp 24), none⟩,
     ⟨some 11, .move (.tmp 25), none⟩])
  (.keep [0, 1, 8, 9, 10, 11] [] (.seq (.region [⟨some 26, .move (.tmp 1), none⟩,
     ⟨some 27, .move (.tmp 8), none⟩,
     ⟨some 28, .bin .quo .none (.tmp 27) (.const (.int .i64 4)), none⟩,
     ⟨some 29, .bin .mul .none (.tmp 28) (.const (.int .i64 3)), none⟩,
     ⟨some 30, .bin .add .none (.tmp 26) (.tmp 29), none⟩,
     ⟨some 12, .move (.tmp 30), none⟩])
  (.keep [0, 8, 9, 10, 11, 12] [] (.seq (.seq (.region [⟨some 31, .move (.tmp 8), none⟩,
      ⟨some 32, .bin .geq .none (.tmp 31) (.const (.int .i64 8)), none⟩])
   (.keep [0, 8, 9, 10, 11, 12, 32] [] (.cond (.tmp 32)
    (.seq (.seq (.region [⟨some 33, .move (.tmp 8), none⟩,
        ⟨some 34, .bin .geq .none (.tmp 33) (.const (.int .i64 50)), none⟩])
     (.keep [0, 9, 10, 11, 12, 34] [] (.cond (.tmp 34)
      (.seq (.region [⟨some 35, .move (.tmp 0), none⟩,
         ⟨some 36, .move (.tmp 10), none⟩,
         ⟨some 37, .call (.func 94) [(.tmp 35), (.tmp 36), (.tmp 9)], none⟩,
         ⟨some 10, .move (.tmp 37), none⟩])
      (.keep [0, 9, 10, 11, 12] [] (.seq (.region [⟨some 38, .move (.tmp 0), none⟩,
         ⟨some 39, .move (.tmp 11), none⟩,
         ⟨some 40, .call (.func 94) [(.tmp 38), (.tmp 39), (.tmp 9)], none⟩,
         ⟨some 11, .move (.tmp 40), none⟩])
      (.keep [0, 9, 10, 11, 12] [] (.region [⟨some 41, .move (.tmp 0), none⟩,
        ⟨some 42, .move (.tmp 12), none⟩,
        ⟨some 43, .call (.func 94) [(.tmp 41), (.tmp 42), (.tmp 9)], none⟩,
        ⟨some 12, .move (.tmp 43), none⟩])))))
      (.skip))))
    (.keep [0, 9, 10, 11, 12] [] (.region [⟨some 44, .move (.tmp 0), none⟩,
      ⟨some 45, .move (.tmp 10), none⟩,
      ⟨some 46, .move (.tmp 11), none⟩,
      ⟨some 47, .move (.tmp 12), none⟩,
      ⟨some 48, .call (.func 95) [(.tmp 44), (.tmp 45), (.tmp 46), (.tmp 47), (.tmp 9)], none⟩,
      ⟨some 11, .move (.tmp 48), none⟩])))
    (.skip))))
  (.keep [9, 11] [] (.seq (.region [⟨some 49, .load false 1 (.tmp 9), none⟩])
  (.keep [11, 49] [] (.block 0 (.seq (.region [⟨some 52, .bin .eql .int (.tmp 49) (.const (.int .i64 0)), none⟩,
      ⟨some 51, .move (.tmp 52), none⟩])
   (.keep [11, 49, 51] [] (.cond (.tmp 51)
    (.seq (.region [⟨some 53, .move (.tmp 11), none⟩,
       ⟨some 6, .move (.tmp 53), none⟩,
       ⟨some 7, .move (.const (.int .i64 1)), none⟩])
    (.keep [6, 7] [] (.ret)))
    (.seq (.region [⟨some 55, .bin .eql .int (.tmp 49) (.const (.int .i64 12)), none⟩,
       ⟨some 54, .move (.tmp 55), none⟩])
    (.keep [11, 54] [] (.cond (.tmp 54)
     (.seq (.region [⟨some 56, .move (.tmp 11), none⟩,
        ⟨some 6, .move (.tmp 56), none⟩,
        ⟨some 7, .move (.const (.int .i64 2)), none⟩])
     (.keep [6, 7] [] (.ret)))
     (.seq (.region [⟨some 50, .move (.tmp 11), none⟩,
        ⟨some 6, .move (.tmp 50), none⟩,
        ⟨some 7, .move (.const (.int .i64 0)), none⟩])
     (.keep [6, 7] [] (.ret)))))))))))))))))))))))))⟩
/-- slices.medianAdjacentOrdered[string] -/
def F94 : FnIR := ⟨15, 3, [.tmp 6], [],
  .seq (.region [⟨some 6, .move (.const (.int .i64 0)), none⟩])
  (.keep [0, 1, 2] [] (.seq (.region [⟨some 7, .move (.tmp 0), none⟩,
     ⟨some 8, .move (.tmp 1), none⟩,
     ⟨some 9, .bin .sub .none (.tmp 8) (.const (.int .i64 1)), none⟩,
     ⟨some 10, .move (.tmp 1), none⟩,
     ⟨some 11, .move (.tmp 1), none⟩,
     ⟨some 12, .bin .add .none (.tmp 11) (.const (.int .i64 1)), none⟩,
     ⟨some 13, .move (.tmp 2), none⟩,
     ⟨some 14, .call (.func 95) [(.tmp 7), (.tmp 9), (.tmp 10), (.tmp 12), (.tmp 13)], none⟩,
     ⟨some 6, .move (.tmp 14), none⟩])
  (.keep [6] [] (.ret))))⟩
/-- slices.medianOrdered[string] -/
def F95 : FnIR := ⟨36, 5, [.tmp 10], [],
  .seq (.region [⟨some 10, .move (.const (.int .i64 0)), none⟩])
  (.keep [0, 1, 2, 3, 4] [] (.seq (.region [⟨some 12, .move (.tmp 0), none⟩,
     ⟨some 13, .move (.tmp 1), none⟩,
     ⟨some 14, .move (.tmp 2), none⟩,
     ⟨some 15, .move (.tmp 4), none⟩,
     ⟨some 16, .call (.func 97) [(.tmp 12), (.tmp 13), (.tmp 14), (.tmp 15)], none⟩,
     ⟨some 11, .move (.tmp 16), none⟩,
     ⟨some 17, .extract (.tmp 11) 0, none⟩,
     ⟨some 18, .extract (.tmp 11) 1, none⟩,
     ⟨some 1, .move (.tmp 17), none⟩,
     ⟨some 2, .move (.tmp 18), none⟩])
  (.keep [0, 1, 2, 3, 4] [] (.seq (.region [⟨some 20, .move (.tmp 0), none⟩,
     ⟨some 21, .move (.tmp 2), none⟩,
     ⟨some 22, .move (.tmp 3), none⟩,
     ⟨some 23, .move (.tmp 4), none⟩,
     ⟨some 24, .call (.func 97) [(.tmp 20), (.tmp 21), (.tmp 22), (.tmp 23)], none⟩,
     ⟨some 19, .move (.tmp 24), none⟩,
     ⟨some 25, .extract (.tmp 19) 0, none⟩,
     ⟨some 26, .extract (.tmp 19) 1, none⟩,
     ⟨some 2, .move (.tmp 25), none⟩,
     ⟨some 3, .move (.tmp 26), none⟩])
  (.keep [0, 1, 2, 4] [] (.seq (.region [⟨some 28, .move (.tmp 0), none⟩,
     ⟨some 29, .move (.tmp 1), none⟩,
     ⟨some 30, .move (.tmp 2), none⟩,
     ⟨some 31, .move (.tmp 4), none⟩,
     ⟨some 32, .call (.func 97) [(.tmp 28), (.tmp 29), (.tmp 30), (.tmp 31)], none⟩,
     ⟨some 27, .move (.tmp 32), none⟩,
     ⟨some 33, .extract (.tmp 27) 0, none⟩,
     ⟨some 34, .extract (.tmp 27) 1, none⟩,
     ⟨some 1, .move (.tmp 33), none⟩,
     ⟨some 2, .move (.tmp 34), none⟩])
  (.keep [2] [] (.seq (.region [⟨some 35, .move (.tmp 2), none⟩,
     ⟨some 10, .move (.tmp 35), none⟩])
  (.keep [10] [] (.ret))))))))))⟩
/-- slices.order2Ordered[string] -/
def F97 : FnIR := ⟨28, 4, [.tmp 8, .tmp 9], [],
  .seq (.region [⟨some 8, .move (.const (.int .i64 0)), none⟩,
     ⟨some 9, .move (.const (.int .i64 0)), none⟩])
  (.keep [0, 1, 2, 3] [] (.seq (.seq (.regionD [⟨some 10, .move (.tmp 0), none⟩,
      ⟨some 11, .move (.tmp 2), none⟩,
      ⟨some 12, .indexAddr none 1 (.tmp 10) (.tmp 11), none⟩,
      ⟨some 13, .load false 1 (.tmp 12), none⟩,
      ⟨some 14, .move (.tmp 0), none⟩,
      ⟨some 15, .move (.tmp 1), none⟩,
      ⟨some 16, .indexAddr none 1 (.tmp 14) (.tmp 15), none⟩,
      ⟨some 17, .load false 1 (.tmp 16), none⟩,
      ⟨some 18, .call (.func 86) [(.tmp 13), (.tmp 17)], none⟩] [])
   (.keep [1, 2, 3, 18] [] (.cond (.tmp 18)
    (.seq (.region [⟨some 19, .move (.tmp 3), none⟩,
       ⟨some 20, .nilCheck (.tmp 19), none⟩,
       ⟨some 21, .load false 1 (.tmp 20), none⟩,
       ⟨some 22, .bin .add .none (.tmp 21) (.const (.int .i64 1)), none⟩,
       ⟨some 23, .nilCheck (.tmp 19), none⟩,
       ⟨none, .store 1 (.tmp 23) (.tmp 22), none⟩])
    (.keep [1, 2] [] (.seq (.region [⟨some 24, .move (.tmp 2), none⟩,
       ⟨some 25, .move (.tmp 1), none⟩,
       ⟨some 8, .move (.tmp 24), none⟩,
       ⟨some 9, .move (.tmp 25), none⟩])
    (.keep [8, 9] [] (.ret)))))
    (.skip))))
  (.keep [1, 2] [] (.seq (.region [⟨some 26, .move (.tmp 1), none⟩,
     ⟨some 27, .move (.tmp 2), none⟩,
     ⟨some 8, .move (.tmp 26), none⟩,
     ⟨some 9, .move (.tmp 27), none⟩])
  (.keep [8, 9] [] (.ret))))))⟩
/-- slices.reverseRangeOrdered[string] -/
def L84_0 : IC :=
  .keep [0, 6, 7] [] (.seq (.seq (.region [⟨some 11, .move (.tmp 6), none⟩,
      ⟨some 12, .move (.tmp 7), none⟩,
      ⟨some 13, .bin .lss .none (.tmp 11) (.tmp 12), none⟩])
   (.keep [0, 6, 7, 13] [] (.cond (.tmp 13)
    (.skip)
    (.exit 0))))
  (.keep [0, 6, 7] [] (.block 1 (.seq (.regionD [⟨some 14, .move (.tmp 0), none⟩,
      ⟨some 15, .move (.tmp 6), none⟩,
      ⟨some 18, .move (.tmp 0), none⟩,
      ⟨some 19, .move (.tmp 7), none⟩,
      ⟨some 20, .indexAddr none 1 (.tmp 18) (.tmp 19), none⟩,
      ⟨some 21, .load false 1 (.tmp 20), none⟩,
      ⟨some 22, .move (.tmp 0), none⟩,
      ⟨some 23, .move (.tmp 6), none⟩,
      ⟨some 24, .indexAddr none 1 (.tmp 22) (.tmp 23), none⟩,
      ⟨some 25, .load false 1 (.tmp 24), none⟩,
      ⟨some 26, .indexAddr none 1 (.tmp 14) (.tmp 15), none⟩,
      ⟨none, .store 1 (.tmp 26) (.tmp 21), none⟩,
      ⟨some 16, .move (.tmp 0), none⟩,
      ⟨some 17, .move (.tmp 7), none⟩,
      ⟨some 27, .indexAddr none 1 (.tmp 16) (.tmp 17), none⟩,
      ⟨none, .store 1 (.tmp 27) (.tmp 25), none⟩] [])
   (.keep [0, 6, 7] [] (.seq (.region [⟨some 28, .move (.tmp 6), none⟩,
      ⟨some 29, .bin .add .none (.tmp 28) (.const (.int .i64 1)), none⟩,
      ⟨some 6, .move (.tmp 29), none⟩])
   (.keep [0, 6, 7] [] (.region [⟨some 30, .move (.tmp 7), none⟩,
     ⟨some 31, .bin .sub .none (.tmp 30) (.const (.int .i64 1)), none⟩,
     ⟨some 7, .move (.tmp 31), none⟩]))))))))
def F84 : FnIR := ⟨32, 3, [], [],
  .seq (.region [⟨some 8, .move (.tmp 1), none⟩,
     ⟨some 6, .move (.tmp 8), none⟩])
  (.keep [0, 2, 6] [] (.seq (.region [⟨some 9, .move (.tmp 2), none⟩,
     ⟨some 10, .bin .sub .none (.tmp 9) (.const (.int .i64 1)), none⟩,
     ⟨some 7, .move (.tmp 10), none⟩])
  (.keep [0, 6, 7] [] (.block 0 (.loop L84_0)))))⟩
theorem fits15 : FnFits Try.prog 15 F15 := ⟨Try.f15, _, Try.func15, rfl, by decide, rfl, by decide, by kernel_rfl, by kernel_rfl⟩
theorem fits6 : FnFits Try.prog 6 F6 := ⟨Try.f6, _, Try.func6, rfl, by decide, rfl, by decide, by kernel_rfl, by kernel_rfl⟩
theorem fits9 : FnFits Try.prog 9 F9 := ⟨Try.f9, _, Try.func9, rfl, by decide, rfl, by decide, by kernel_rfl, by kernel_rfl⟩
theorem fits25 : FnFits Try.prog 25 F25 := ⟨Try.f25, _, Try.func25, rfl, by decide, rfl, by decide, by kernel_rfl, by kernel_rfl⟩
theorem fits49 : FnFits Try.prog 49 F49 := ⟨Try.f49, _, Try.func49, rfl, by decide, rfl, by decide, by kernel_rfl, by kernel_rfl⟩
theorem fits67 : FnFits Try.prog 67 F67 := ⟨Try.f67, _, Try.func67, rfl, by decide, rfl, by decide, by kernel_rfl, by kernel_rfl⟩
theorem fits79 : FnFits Try.prog 79 F79 := ⟨Try.f79, _, Try.func79, rfl, by decide, rfl, by decide, by kernel_rfl, by kernel_rfl⟩
theorem fits50 : FnFits Try.prog 50 F50 := ⟨Try.f50, _, Try.func50, rfl, by decide, rfl, by decide, by kernel_rfl, by kernel_rfl⟩
theorem fits26 : FnFits Try.prog 26 F26 := ⟨Try.f26, _, Try.func26, rfl, by decide, rfl, by decide, by kernel_rfl, by kernel_rfl⟩
theorem fits27 : FnFits Try.prog 27 F27 := ⟨Try.f27, _, Try.func27, rfl, by decide, rfl, by decide, by kernel_rfl, by kernel_rfl⟩
theorem fits52 : FnFits Try.prog 52 F52 := ⟨Try.f52, _, Try.func52, rfl, by decide, rfl, by decide, by kernel_rfl, by kernel_rfl⟩
theorem fits51 : FnFits Try.prog 51 F51 := ⟨Try.f51, _, Try.func51, rfl, by decide, rfl, by decide, by kernel_rfl, by kernel_rfl⟩
theorem fits68 : FnFits Try.prog 68 F68 := ⟨Try.f68, _, Try.func68, rfl, by decide, rfl, by decide, by kernel_rfl, by kernel_rfl⟩
theorem fits53 : FnFits Try.prog 53 F53 := ⟨Try.f53, _, Try.func53, rfl, by decide, rfl, by decide, by kernel_rfl, by kernel_rfl⟩
theorem fits36 : FnFits Try.prog 36 F36 := ⟨Try.f36, _, Try.func36, rfl, by decide, rfl, by decide, by kernel_rfl, by kernel_rfl⟩
theorem fits54 : FnFits Try.prog 54 F54 := ⟨Try.f54, _, Try.func54, rfl, by decide, rfl, by decide, by kernel_rfl, by kernel_rfl⟩
theorem fits58 : FnFits Try.prog 58 F58 := ⟨Try.f58, _, Try.func58, rfl, by decide, rfl, by decide, by kernel_rfl, by kernel_rfl⟩
theorem fits69 : FnFits Try.prog 69 F69 := ⟨Try.f69, _, Try.func69, rfl, by decide, rfl, by decide, by kernel_rfl, by kernel_rfl⟩
theorem fits59 : FnFits Try.prog 59 F59 := ⟨Try.f59, _, Try.func59, rfl, by decide, rfl, by decide, by kernel_rfl, by kernel_rfl⟩
theorem fits71 : FnFits Try.prog 71 F71 := ⟨Try.f71, _, Try.func71, rfl, by decide, rfl, by decide, by kernel_rfl, by kernel_rfl⟩
theorem fits70 : FnFits Try.prog 70 F70 := ⟨Try.f70, _, Try.func70, rfl, by decide, rfl, by decide, by kernel_rfl, by kernel_rfl⟩
theorem fits72 : FnFits Try.prog 72 F72 := ⟨Try.f72, _, Try.func72, rfl, by decide, rfl, by decide, by kernel_rfl, by kernel_rfl⟩
theorem fits39 : FnFits Try.prog 39 F39 := ⟨Try.f39, _, Try.func39, rfl, by decide, rfl, by decide, by kernel_rfl, by kernel_rfl⟩
theorem fits66 : FnFits Try.prog 66 F66 := ⟨Try.f66, _, Try.func66, rfl, by decide, rfl, by decide, by kernel_rfl, by kernel_rfl⟩
theorem fits78 : FnFits Try.prog 78 F78 := ⟨Try.f78, _, Try.func78, rfl, by decide, rfl, by decide, by kernel_rfl, by kernel_rfl⟩
theorem fits65 : FnFits Try.prog 65 F65 := ⟨Try.f65, _, Try.func65, rfl, by decide, rfl, by decide, by kernel_rfl, by kernel_rfl⟩
theorem fits16 : FnFits Try.prog 16 F16 := ⟨Try.f16, _, Try.func16, rfl, by decide, rfl, by decide, by kernel_rfl, by kernel_rfl⟩
theorem fits28 : FnFits Try.prog 28 F28 := ⟨Try.f28, _, Try.func28, rfl, by decide, rfl, by decide, by kernel_rfl, by kernel_rfl⟩
theorem fits55 : FnFits Try.prog 55 F55 := ⟨Try.f55, _, Try.func55, rfl, by decide, rfl, by decide, by kernel_rfl, by kernel_rfl⟩
theorem fits29 : FnFits Try.prog 29 F29 := ⟨Try.f29, _, Try.func29, rfl, by decide, rfl, by decide, by kernel_rfl, by kernel_rfl⟩
theorem fits56 : FnFits Try.prog 56 F56 := ⟨Try.f56, _, Try.func56, rfl, by decide, rfl, by decide, by kernel_rfl, by kernel_rfl⟩
theorem fits35 : FnFits Try.prog 35 F35 := ⟨Try.f35, _, Try.func35, rfl, by decide, rfl, by decide, by kernel_rfl, by kernel_rfl⟩
theorem fits63 : FnFits Try.prog 63 F63 := ⟨Try.f63, _, Try.func63, rfl, by decide, rfl, by decide, by kernel_rfl, by kernel_rfl⟩
theorem fits34 : FnFits Try.prog 34 F34 := ⟨Try.f34, _, Try.func34, rfl, by decide, rfl, by decide, by kernel_rfl, by kernel_rfl⟩
theorem fits61 : FnFits Try.prog 61 F61 := ⟨Try.f61, _, Try.func61, rfl, by decide, rfl, by decide, by kernel_rfl, by kernel_rfl⟩
theorem fits73 : FnFits Try.prog 73 F73 := ⟨Try.f73, _, Try.func73, rfl, by decide, rfl, by decide, by kernel_rfl, by kernel_rfl⟩
theorem fits62 : FnFits Try.prog 62 F62 := ⟨Try.f62, _, Try.func62, rfl, by decide, rfl, by decide, by kernel_rfl, by kernel_rfl⟩
theorem fits75 : FnFits Try.prog 75 F75 := ⟨Try.f75, _, Try.func75, rfl, by decide, rfl, by decide, by kernel_rfl, by kernel_rfl⟩
theorem fits89 : FnFits Try.prog 89 F89 := ⟨Try.f89, _, Try.func89, rfl, by decide, rfl, by decide, by kernel_rfl, by kernel_rfl⟩
theorem fits90 : FnFits Try.prog 90 F90 := ⟨Try.f90, _, Try.func90, rfl, by decide, rfl, by decide, by kernel_rfl, by kernel_rfl⟩
theorem fits74 : FnFits Try.prog 74 F74 := ⟨Try.f74, _, Try.func74, rfl, by decide, rfl, by decide, by kernel_rfl, by kernel_rfl⟩
theorem fits80 : FnFits Try.prog 80 F80 := ⟨Try.f80, _, Try.func80, rfl, by decide, rfl, by decide, by kernel_rfl, by kernel_rfl⟩
theorem fits86 : FnFits Try.prog 86 F86 := ⟨Try.f86, _, Try.func86, rfl, by decide, rfl, by decide, by kernel_rfl, by kernel_rfl⟩
theorem fits96 : FnFits Try.prog 96 F96 := ⟨Try.f96, _, Try.func96, rfl, by decide, rfl, by decide, by kernel_rfl, by kernel_rfl⟩
theorem fits81 : FnFits Try.prog 81 F81 := ⟨Try.f81, _, Try.func81, rfl, by decide, rfl, by decide, by kernel_rfl, by kernel_rfl⟩
theorem fits91 : FnFits Try.prog 91 F91 := ⟨Try.f91, _, Try.func91, rfl, by decide, rfl, by decide, by kernel_rfl, by kernel_rfl⟩
theorem fits82 : FnFits Try.prog 82 F82 := ⟨Try.f82, _, Try.func82, rfl, by decide, rfl, by decide, by kernel_rfl, by kernel_rfl⟩
theorem fits92 : FnFits Try.prog 92 F92 := ⟨Try.f92, _, Try.func92, rfl, by decide, rfl, by decide, by kernel_rfl, by kernel_rfl⟩
theorem fits93 : FnFits Try.prog 93 F93 := ⟨Try.f93, _, Try.func93, rfl, by decide, rfl, by decide, by kernel_rfl, by kernel_rfl⟩
theorem fits83 : FnFits Try.prog 83 F83 := ⟨Try.f83, _, Try.func83, rfl, by decide, rfl, by decide, by kernel_rfl, by kernel_rfl⟩
theorem fits94 : FnFits Try.prog 94 F94 := ⟨Try.f94, _, Try.func94, rfl, by decide, rfl, by decide, by kernel_rfl, by kernel_rfl⟩
theorem fits95 : FnFits Try.prog 95 F95 := ⟨Try.f95, _, Try.func95, rfl, by decide, rfl, by decide, by kernel_rfl, by kernel_rfl⟩
theorem fits97 : FnFits Try.prog 97 F97 := ⟨Try.f97, _, Try.func97, rfl, by decide, rfl, by decide, by kernel_rfl, by kernel_rfl⟩
theorem fits84 : FnFits Try.prog 84 F84 := ⟨Try.f84, _, Try.func84, rfl, by decide, rfl, by decide, by kernel_rfl, by kernel_rfl⟩
end Go.Proofs.Ytgokjbjbdnbcdaa.AlS9
