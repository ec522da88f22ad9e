/- Functions of the program in our form (G5K). No condition. -/
import Derived.Test.YtdnnpgmekbnlbaaAmU
import Derived.Test.YtdnnpgmekbnlbaaRows
import Derived.Test.YtdnnpgmekbnlbaaSo
set_option linter.unusedVariables false
set_option linter.unusedSimpArgs false
namespace Go.Proofs.Ytdnnpgmekbnlbaa
open Go.Wam

/-- wampum/wampumlaw05.SpanTells -/
def F7 : FnIR := ⟨84, 3, [.tmp 6], [3, 4, 9, 11],
  .seq (.region [⟨some 3, .box true 2 (.tmp 0), none⟩,
     ⟨some 4, .box true 2 (.tmp 1), none⟩,
     ⟨some 6, .move (.const (.bool false)), none⟩])
  (.keep [2, 3, 4] [3, 4] (.seq (.region [⟨some 13, .load true 2 (.tmp 3), none⟩,
     ⟨some 14, .call (.func 13) [(.tmp 13)], none⟩,
     ⟨some 7, .move (.tmp 14), none⟩])
  (.keep [2, 3, 4, 7] [3, 4] (.seq (.region [⟨some 15, .load true 2 (.tmp 4), none⟩,
     ⟨some 16, .call (.func 13) [(.tmp 15)], none⟩,
     ⟨some 8, .move (.tmp 16), none⟩])
  (.keep [2, 3, 4, 7, 8] [3, 4] (.seq (.seq (.region [⟨some 17, .move (.tmp 7), none⟩,
      ⟨some 18, .un .not (.tmp 17), none⟩,
      ⟨some 19, .move (.tmp 18), none⟩,
      ⟨some 20, .move (.tmp 8), some (19, false)⟩,
      ⟨some 21, .un .not (.tmp 20), some (19, false)⟩,
      ⟨some 22, .pick (.tmp 19) (.const (.bool true)) (.tmp 21), none⟩,
      ⟨some 23, .move (.tmp 22), none⟩,
      ⟨some 24, .move (.tmp 2), some (23, false)⟩,
      ⟨some 25, .len .str (.tmp 24), some (23, false)⟩,
      ⟨some 26, .bin .gtr .none (.tmp 25) (.const (.int .i64 200)), some (23, false)⟩,
      ⟨some 27, .pick (.tmp 23) (.const (.bool true)) (.tmp 26), none⟩])
   (.keep [2, 3, 4, 27] [3, 4] (.cond (.tmp 27)
    (.seq (.region [⟨some 28, .call (.func 28) [], none⟩,
       ⟨some 6, .move (.tmp 28), none⟩])
    (.keep [6] [] (.ret)))
    (.skip))))
  (.keep [2, 3, 4] [3, 4] (.seq (.region [⟨some 30, .load true 2 (.tmp 3), none⟩,
     ⟨some 31, .load true 2 (.tmp 4), none⟩,
     ⟨some 32, .call (.func 29) [(.tmp 30), (.tmp 31)], none⟩,
     ⟨some 29, .move (.tmp 32), none⟩,
     ⟨some 33, .extract (.tmp 29) 0, none⟩,
     ⟨some 34, .extract (.tmp 29) 1, none⟩,
     ⟨some 9, .alloc true 2 [(.str []), (.str [])], none⟩,
     ⟨none, .store 2 (.tmp 9) (.tmp 33), none⟩,
     ⟨some 10, .move (.tmp 34), none⟩])
  (.keep [2, 3, 4, 9, 10] [3, 4, 9] (.seq (.region [⟨some 36, .load true 2 (.tmp 3), none⟩,
     ⟨some 37, .load true 2 (.tmp 4), none⟩,
     ⟨some 38, .call (.func 30) [(.tmp 36), (.tmp 37)], none⟩,
     ⟨some 35, .move (.tmp 38), none⟩,
     ⟨some 39, .extract (.tmp 35) 0, none⟩,
     ⟨some 40, .extract (.tmp 35) 1, none⟩,
     ⟨some 11, .alloc true 2 [(.str []), (.str [])], none⟩,
     ⟨none, .store 2 (.tmp 11) (.tmp 39), none⟩,
     ⟨some 12, .move (.tmp 40), none⟩])
  (.keep [2, 3, 4, 9, 10, 11, 12] [3, 4, 9, 11] (.seq (.regionD [⟨some 41, .call (.func 28) [], none⟩,
     ⟨some 42, .move (.tmp 41), none⟩,
     ⟨some 43, .move (.tmp 2), some (42, true)⟩,
     ⟨some 44, .call (.func 31) [(.tmp 43)], some (42, true)⟩,
     ⟨some 45, .move (.tmp 2), some (42, true)⟩,
     ⟨some 46, .call (.func 32) [(.tmp 45)], some (42, true)⟩,
     ⟨some 47, .bin .eql .bool (.tmp 44) (.tmp 46), some (42, true)⟩,
     ⟨some 48, .pick (.tmp 42) (.tmp 47) (.const (.bool false)), none⟩,
     ⟨some 49, .move (.tmp 48), none⟩,
     ⟨some 50, .load true 2 (.tmp 3), some (49, true)⟩,
     ⟨some 51, .call (.func 33) [(.tmp 50)], some (49, true)⟩,
     ⟨some 52, .load true 2 (.tmp 3), some (49, true)⟩,
     ⟨some 53, .call (.func 15) [(.tmp 52)], some (49, true)⟩,
     ⟨some 54, .bin .eql .bool (.tmp 51) (.tmp 53), some (49, true)⟩,
     ⟨some 55, .pick (.tmp 49) (.tmp 54) (.const (.bool false)), none⟩,
     ⟨some 56, .move (.tmp 55), none⟩,
     ⟨some 57, .load true 2 (.tmp 3), some (56, true)⟩,
     ⟨some 58, .move (.tmp 2), some (56, true)⟩,
     ⟨some 59, .call (.func 34) [(.tmp 57), (.tmp 58)], some (56, true)⟩,
     ⟨some 60, .load true 2 (.tmp 3), some (56, true)⟩,
     ⟨some 61, .move (.tmp 2), some (56, true)⟩,
     ⟨some 62, .call (.func 35) [(.tmp 60), (.tmp 61)], some (56, true)⟩,
     ⟨some 63, .bin .eql .bool (.tmp 59) (.tmp 62), some (56, true)⟩,
     ⟨some 64, .pick (.tmp 56) (.tmp 63) (.const (.bool false)), none⟩,
     ⟨some 65, .move (.tmp 64), none⟩,
     ⟨some 66, .load true 2 (.tmp 3), some (65, true)⟩,
     ⟨some 67, .load true 2 (.tmp 4), some (65, true)⟩,
     ⟨some 68, .call (.func 36) [(.tmp 66), (.tmp 67)], some (65, true)⟩,
     ⟨some 69, .load true 2 (.tmp 3), some (65, true)⟩,
     ⟨some 70, .load true 2 (.tmp 4), some (65, true)⟩,
     ⟨some 71, .call (.func 17) [(.tmp 69), (.tmp 70)], some (65, true)⟩,
     ⟨some 72, .bin .eql .bool (.tmp 68) (.tmp 71), some (65, true)⟩,
     ⟨some 73, .pick (.tmp 65) (.tmp 72) (.const (.bool false)), none⟩,
     ⟨some 74, .move (.tmp 73), none⟩,
     ⟨some 75, .load true 2 (.tmp 9), some (74, true)⟩,
     ⟨some 76, .load true 2 (.tmp 11), some (74, true)⟩,
     ⟨some 77, .bin .eql (.struct [(0, false, 1, .str), (1, false, 1, .str)]) (.tmp 75) (.tmp 76), some (74, true)⟩,
     ⟨some 78, .pick (.tmp 74) (.tmp 77) (.const (.bool false)), none⟩,
     ⟨some 79, .move (.tmp 78), none⟩,
     ⟨some 80, .move (.tmp 10), some (79, true)⟩,
     ⟨some 81, .move (.tmp 12), some (79, true)⟩,
     ⟨some 82, .bin .eql .bool (.tmp 80) (.tmp 81), some (79, true)⟩,
     ⟨some 83, .pick (.tmp 79) (.tmp 82) (.const (.bool false)), none⟩,
     ⟨some 6, .move (.tmp 83), none⟩] [(11, 6), (19, 13), (28, 22), (29, 22)])
  (.keep [6] [] (.ret))))))))))))))⟩
/-- wampum/wampumlaw05.Fits -/
def F13 : FnIR := ⟨13, 1, [.tmp 2], [1],
  .seq (.region [⟨some 1, .box true 2 (.tmp 0), none⟩,
     ⟨some 2, .move (.const (.bool false)), none⟩])
  (.keep [1] [1] (.seq (.region [⟨some 3, .fieldAddr 0 (.tmp 1), none⟩,
     ⟨some 4, .load false 1 (.tmp 3), none⟩,
     ⟨some 5, .len .str (.tmp 4), none⟩,
     ⟨some 6, .bin .leq .none (.tmp 5) (.const (.int .i64 200)), none⟩,
     ⟨some 7, .move (.tmp 6), none⟩,
     ⟨some 8, .fieldAddr 1 (.tmp 1), some (7, true)⟩,
     ⟨some 9, .load false 1 (.tmp 8), some (7, true)⟩,
     ⟨some 10, .len .str (.tmp 9), some (7, true)⟩,
     ⟨some 11, .bin .leq .none (.tmp 10) (.const (.int .i64 200)), some (7, true)⟩,
     ⟨some 12, .pick (.tmp 7) (.tmp 11) (.const (.bool false)), none⟩,
     ⟨some 2, .move (.tmp 12), none⟩])
  (.keep [2] [] (.ret))))⟩
/-- wampum/wampumlaw05.alive -/
def F28 : FnIR := ⟨40, 0, [.tmp 0], [1],
  .seq (.region [⟨some 0, .move (.const (.bool false)), none⟩])
  (.keep [] [] (.seq (.region [⟨some 4, .build [(.str []), (.str [])] [(0, 1, (.const (.str [98]))), (1, 1, (.const (.str [109])))], none⟩,
     ⟨some 5, .build [(.str []), (.str [])] [(0, 1, (.const (.str [102]))), (1, 1, (.const (.str [123])))], none⟩,
     ⟨some 6, .call (.func 29) [(.tmp 4), (.tmp 5)], none⟩,
     ⟨some 3, .move (.tmp 6), none⟩,
     ⟨some 7, .extract (.tmp 3) 0, none⟩,
     ⟨some 8, .extract (.tmp 3) 1, none⟩,
     ⟨some 1, .alloc true 2 [(.str []), (.str [])], none⟩,
     ⟨none, .store 2 (.tmp 1) (.tmp 7), none⟩,
     ⟨some 2, .move (.tmp 8), none⟩])
  (.keep [1, 2] [1] (.seq (.region [⟨some 9, .move (.tmp 2), none⟩,
     ⟨some 10, .move (.tmp 9), none⟩,
     ⟨some 11, .load true 2 (.tmp 1), some (10, true)⟩,
     ⟨some 12, .build [(.str []), (.str [])] [(0, 1, (.const (.str [102]))), (1, 1, (.const (.str [109])))], some (10, true)⟩,
     ⟨some 13, .bin .eql (.struct [(0, false, 1, .str), (1, false, 1, .str)]) (.tmp 11) (.tmp 12), some (10, true)⟩,
     ⟨some 14, .pick (.tmp 10) (.tmp 13) (.const (.bool false)), none⟩,
     ⟨some 15, .move (.tmp 14), none⟩,
     ⟨some 16, .load true 2 (.tmp 1), some (15, true)⟩,
     ⟨some 17, .call (.func 34) [(.tmp 16), (.const (.str [102, 122]))], some (15, true)⟩,
     ⟨some 18, .pick (.tmp 15) (.tmp 17) (.const (.bool false)), none⟩,
     ⟨some 19, .move (.tmp 18), none⟩,
     ⟨some 20, .load true 2 (.tmp 1), some (19, true)⟩,
     ⟨some 21, .call (.func 34) [(.tmp 20), (.const (.str [109]))], some (19, true)⟩,
     ⟨some 22, .un .not (.tmp 21), some (19, true)⟩,
     ⟨some 23, .pick (.tmp 19) (.tmp 22) (.const (.bool false)), none⟩,
     ⟨some 24, .move (.tmp 23), none⟩,
     ⟨some 25, .load true 2 (.tmp 1), some (24, true)⟩,
     ⟨some 26, .build [(.str []), (.str [])] [(0, 1, (.const (.str [103])))], some (24, true)⟩,
     ⟨some 27, .call (.func 36) [(.tmp 25), (.tmp 26)], some (24, true)⟩,
     ⟨some 28, .pick (.tmp 24) (.tmp 27) (.const (.bool false)), none⟩,
     ⟨some 29, .move (.tmp 28), none⟩,
     ⟨some 30, .call (.func 40) [], some (29, true)⟩,
     ⟨some 31, .call (.func 33) [(.tmp 30)], some (29, true)⟩,
     ⟨some 32, .pick (.tmp 29) (.tmp 31) (.const (.bool false)), none⟩,
     ⟨some 33, .move (.tmp 32), none⟩,
     ⟨some 34, .load true 2 (.tmp 1), some (33, true)⟩,
     ⟨some 35, .buildSlice 1 3 [(.str []), (.str []), (.str [])] [(0, 1, (.const (.str [103]))), (1, 1, (.const (.str [97]))), (2, 1, (.const (.str [103])))], some (33, true)⟩,
     ⟨some 36, .call (.func 37) [(.tmp 34), (.tmp 35)], some (33, true)⟩,
     ⟨some 37, .len .slice (.tmp 36), some (33, true)⟩,
     ⟨some 38, .bin .eql .int (.tmp 37) (.const (.int .i64 1)), some (33, true)⟩,
     ⟨some 39, .pick (.tmp 33) (.tmp 38) (.const (.bool false)), none⟩,
     ⟨some 0, .move (.tmp 39), none⟩])
  (.keep [0] [] (.ret))))))⟩
/-- wampum/span.Clip -/
def F29 : FnIR := ⟨33, 2, [.cell 4 true 2, .tmp 5], [2, 3, 4],
  .seq (.region [⟨some 2, .box true 2 (.tmp 0), none⟩,
     ⟨some 3, .box true 2 (.tmp 1), none⟩,
     ⟨some 4, .alloc true 2 [(.str []), (.str [])], none⟩,
     ⟨some 5, .move (.const (.bool false)), none⟩])
  (.keep [2, 3, 4] [2, 3, 4] (.seq (.block 0 (.seq (.region [⟨some 7, .load true 2 (.tmp 2), none⟩,
       ⟨some 8, .load true 2 (.tmp 3), none⟩,
       ⟨some 9, .call (.func 36) [(.tmp 7), (.tmp 8)], none⟩,
       ⟨some 10, .un .not (.tmp 9), none⟩,
       ⟨some 6, .move (.tmp 10), none⟩])
    (.keep [2, 3, 4, 6] [2, 3, 4] (.cond (.tmp 6)
     (.seq (.region [⟨some 11, .build [(.str []), (.str [])] [], none⟩,
        ⟨none, .store 2 (.tmp 4) (.tmp 11), none⟩,
        ⟨some 5, .move (.const (.bool false)), none⟩])
     (.keep [4, 5] [4] (.ret)))
     (.seq (.region [⟨some 13, .fieldAddr 1 (.tmp 2), none⟩,
        ⟨some 14, .load false 1 (.tmp 13), none⟩,
        ⟨some 15, .bin .eql .str (.tmp 14) (.const (.str [])), none⟩,
        ⟨some 12, .move (.tmp 15), none⟩])
     (.keep [2, 3, 4, 12] [2, 3, 4] (.cond (.tmp 12)
      (.seq (.region [⟨some 16, .load true 2 (.tmp 2), none⟩,
         ⟨none, .store 2 (.tmp 4) (.tmp 16), none⟩,
         ⟨some 5, .move (.const (.bool true)), none⟩])
      (.keep [4, 5] [4] (.ret)))
      (.seq (.region [⟨some 18, .fieldAddr 1 (.tmp 3), none⟩,
         ⟨some 19, .load false 1 (.tmp 18), none⟩,
         ⟨some 20, .bin .eql .str (.tmp 19) (.const (.str [])), none⟩,
         ⟨some 17, .move (.tmp 20), none⟩])
      (.keep [2, 3, 4, 17] [2, 3, 4] (.cond (.tmp 17)
       (.seq (.region [⟨some 21, .load true 2 (.tmp 3), none⟩,
          ⟨none, .store 2 (.tmp 4) (.tmp 21), none⟩,
          ⟨some 5, .move (.const (.bool true)), none⟩])
       (.keep [4, 5] [4] (.ret)))
       (.skip)))))))))))
  (.keep [2, 3, 4] [2, 3, 4] (.seq (.region [⟨some 22, .fieldAddr 0 (.tmp 2), none⟩,
     ⟨some 23, .load false 1 (.tmp 22), none⟩,
     ⟨some 24, .fieldAddr 0 (.tmp 3), none⟩,
     ⟨some 25, .load false 1 (.tmp 24), none⟩,
     ⟨some 26, .maxs (.tmp 23) [(.tmp 25)], none⟩,
     ⟨some 27, .fieldAddr 1 (.tmp 2), none⟩,
     ⟨some 28, .load false 1 (.tmp 27), none⟩,
     ⟨some 29, .fieldAddr 1 (.tmp 3), none⟩,
     ⟨some 30, .load false 1 (.tmp 29), none⟩,
     ⟨some 31, .mins (.tmp 28) [(.tmp 30)], none⟩,
     ⟨some 32, .build [(.str []), (.str [])] [(0, 1, (.tmp 26)), (1, 1, (.tmp 31))], none⟩,
     ⟨none, .store 2 (.tmp 4) (.tmp 32), none⟩,
     ⟨some 5, .move (.const (.bool true)), none⟩])
  (.keep [4, 5] [4] (.ret))))))⟩
/-- wampum/span.Meet -/
def F36 : FnIR := ⟨23, 2, [.tmp 4], [2, 3],
  .seq (.region [⟨some 2, .box true 2 (.tmp 0), none⟩,
     ⟨some 3, .box true 2 (.tmp 1), none⟩,
     ⟨some 4, .move (.const (.bool false)), none⟩])
  (.keep [2, 3] [2, 3] (.seq (.region [⟨some 5, .load true 2 (.tmp 2), none⟩,
     ⟨some 6, .call (.func 33) [(.tmp 5)], none⟩,
     ⟨some 7, .move (.tmp 6), none⟩,
     ⟨some 8, .load true 2 (.tmp 3), some (7, true)⟩,
     ⟨some 9, .call (.func 33) [(.tmp 8)], some (7, true)⟩,
     ⟨some 10, .pick (.tmp 7) (.tmp 9) (.const (.bool false)), none⟩,
     ⟨some 11, .move (.tmp 10), none⟩,
     ⟨some 12, .load true 2 (.tmp 2), some (11, true)⟩,
     ⟨some 13, .fieldAddr 0 (.tmp 3), some (11, true)⟩,
     ⟨some 14, .load false 1 (.tmp 13), some (11, true)⟩,
     ⟨some 15, .call (.func 34) [(.tmp 12), (.tmp 14)], some (11, true)⟩,
     ⟨some 16, .move (.tmp 15), some (11, true)⟩,
     ⟨some 17, .load true 2 (.tmp 3), some (16, false)⟩,
     ⟨some 18, .fieldAddr 0 (.tmp 2), some (16, false)⟩,
     ⟨some 19, .load false 1 (.tmp 18), some (16, false)⟩,
     ⟨some 20, .call (.func 34) [(.tmp 17), (.tmp 19)], some (16, false)⟩,
     ⟨some 21, .pick (.tmp 16) (.const (.bool true)) (.tmp 20), some (11, true)⟩,
     ⟨some 22, .pick (.tmp 11) (.tmp 21) (.const (.bool false)), none⟩,
     ⟨some 4, .move (.tmp 22), none⟩])
  (.keep [4] [] (.ret))))⟩
/-- wampum/span.Right -/
def F33 : FnIR := ⟨30, 1, [.tmp 2], [1],
  .seq (.region [⟨some 1, .box true 2 (.tmp 0), none⟩,
     ⟨some 2, .move (.const (.bool false)), none⟩])
  (.keep [1] [1] (.seq (.seq (.region [⟨some 3, .fieldAddr 0 (.tmp 1), none⟩,
      ⟨some 4, .load false 1 (.tmp 3), none⟩,
      ⟨some 5, .call (.func 31) [(.tmp 4)], none⟩,
      ⟨some 6, .un .not (.tmp 5), none⟩,
      ⟨some 7, .move (.tmp 6), none⟩,
      ⟨some 8, .fieldAddr 1 (.tmp 1), some (7, false)⟩,
      ⟨some 9, .load false 1 (.tmp 8), some (7, false)⟩,
      ⟨some 10, .bin .eql .str (.tmp 9) (.const (.str [])), some (7, false)⟩,
      ⟨some 11, .pick (.tmp 7) (.const (.bool true)) (.tmp 10), none⟩])
   (.keep [1, 11] [1] (.cond (.tmp 11)
    (.seq (.region [⟨some 12, .fieldAddr 0 (.tmp 1), none⟩,
       ⟨some 13, .load false 1 (.tmp 12), none⟩,
       ⟨some 14, .call (.func 31) [(.tmp 13)], none⟩,
       ⟨some 2, .move (.tmp 14), none⟩])
    (.keep [2] [] (.ret)))
    (.skip))))
  (.keep [1] [1] (.seq (.region [⟨some 15, .fieldAddr 1 (.tmp 1), none⟩,
     ⟨some 16, .load false 1 (.tmp 15), none⟩,
     ⟨some 17, .bin .eql .str (.tmp 16) (.const (.str [123])), none⟩,
     ⟨some 18, .move (.tmp 17), none⟩,
     ⟨some 19, .fieldAddr 1 (.tmp 1), some (18, false)⟩,
     ⟨some 20, .load false 1 (.tmp 19), some (18, false)⟩,
     ⟨some 21, .call (.func 31) [(.tmp 20)], some (18, false)⟩,
     ⟨some 22, .pick (.tmp 18) (.const (.bool true)) (.tmp 21), none⟩,
     ⟨some 23, .move (.tmp 22), none⟩,
     ⟨some 24, .fieldAddr 0 (.tmp 1), some (23, true)⟩,
     ⟨some 25, .load false 1 (.tmp 24), some (23, true)⟩,
     ⟨some 26, .fieldAddr 1 (.tmp 1), some (23, true)⟩,
     ⟨some 27, .load false 1 (.tmp 26), some (23, true)⟩,
     ⟨some 28, .bin .lss .none (.tmp 25) (.tmp 27), some (23, true)⟩,
     ⟨some 29, .pick (.tmp 23) (.tmp 28) (.const (.bool false)), none⟩,
     ⟨some 2, .move (.tmp 29), none⟩])
  (.keep [2] [] (.ret))))))⟩
/-- wampum/span.Key -/
def L31_0 : IC :=
  .keep [0, 5, 6] [] (.seq (.region [⟨some 7, .bin .lss .none (.tmp 6) (.tmp 5), none⟩])
  (.keep [0, 5, 6, 7] [] (.seq (.cond (.tmp 7)
    (.skip)
    (.exit 0))
  (.keep [0, 5, 6] [] (.seq (.block 1 (.seq (.region [⟨some 8, .move (.tmp 6), none⟩,
       ⟨some 3, .move (.tmp 8), none⟩])
    (.keep [0, 3, 5, 6] [] (.seq (.region [⟨some 9, .move (.tmp 0), none⟩,
       ⟨some 10, .move (.tmp 3), none⟩,
       ⟨some 11, .index none (.tmp 9) (.tmp 10), none⟩,
       ⟨some 12, .bin .lss .none (.tmp 11) (.const (.int .u8 97)), none⟩,
       ⟨some 13, .move (.tmp 12), none⟩,
       ⟨some 14, .move (.tmp 0), some (13, false)⟩,
       ⟨some 15, .move (.tmp 3), some (13, false)⟩,
       ⟨some 16, .index none (.tmp 14) (.tmp 15), some (13, false)⟩,
       ⟨some 17, .bin .gtr .none (.tmp 16) (.const (.int .u8 122)), some (13, false)⟩,
       ⟨some 18, .pick (.tmp 13) (.const (.bool true)) (.tmp 17), none⟩])
    (.keep [0, 5, 6, 18] [] (.cond (.tmp 18)
     (.seq (.region [⟨some 2, .move (.const (.bool false)), none⟩])
     (.keep [2] [] (.ret)))
     (.skip)))))))
  (.keep [0, 5, 6] [] (.region [⟨some 19, .bin .add .none (.tmp 6) (.const (.int .i64 1)), none⟩,
    ⟨some 6, .move (.tmp 19), none⟩])))))))
def F31 : FnIR := ⟨27, 1, [.tmp 2], [],
  .seq (.region [⟨some 2, .move (.const (.bool false)), none⟩])
  (.keep [0] [] (.seq (.seq (.region [⟨some 4, .move (.tmp 0), none⟩,
      ⟨some 5, .len .str (.tmp 4), none⟩,
      ⟨some 6, .move (.const (.int .i64 0)), none⟩])
   (.keep [0, 5, 6] [] (.block 0 (.loop L31_0))))
  (.keep [0] [] (.seq (.region [⟨some 20, .move (.tmp 0), none⟩,
     ⟨some 21, .bin .neq .str (.tmp 20) (.const (.str [])), none⟩,
     ⟨some 22, .move (.tmp 21), none⟩,
     ⟨some 23, .move (.tmp 0), some (22, true)⟩,
     ⟨some 24, .len .str (.tmp 23), some (22, true)⟩,
     ⟨some 25, .bin .leq .none (.tmp 24) (.const (.int .i64 8)), some (22, true)⟩,
     ⟨some 26, .pick (.tmp 22) (.tmp 25) (.const (.bool false)), none⟩,
     ⟨some 2, .move (.tmp 26), none⟩])
  (.keep [2] [] (.ret))))))⟩
/-- wampum/span.Has -/
def F34 : FnIR := ⟨32, 2, [.tmp 4], [2],
  .seq (.region [⟨some 2, .box true 2 (.tmp 0), none⟩,
     ⟨some 4, .move (.const (.bool false)), none⟩])
  (.keep [1, 2] [2] (.seq (.block 0 (.seq (.region [⟨some 6, .load true 2 (.tmp 2), none⟩,
       ⟨some 7, .call (.func 33) [(.tmp 6)], none⟩,
       ⟨some 8, .un .not (.tmp 7), none⟩,
       ⟨some 9, .move (.tmp 8), none⟩,
       ⟨some 10, .move (.tmp 1), some (9, false)⟩,
       ⟨some 11, .call (.func 31) [(.tmp 10)], some (9, false)⟩,
       ⟨some 12, .un .not (.tmp 11), some (9, false)⟩,
       ⟨some 13, .pick (.tmp 9) (.const (.bool true)) (.tmp 12), none⟩,
       ⟨some 5, .move (.tmp 13), none⟩])
    (.keep [1, 2, 5] [2] (.cond (.tmp 5)
     (.seq (.region [⟨some 4, .move (.const (.bool false)), none⟩])
     (.keep [4] [] (.ret)))
     (.seq (.region [⟨some 15, .fieldAddr 1 (.tmp 2), none⟩,
        ⟨some 16, .load false 1 (.tmp 15), none⟩,
        ⟨some 17, .bin .eql .str (.tmp 16) (.const (.str [])), none⟩,
        ⟨some 14, .move (.tmp 17), none⟩])
     (.keep [1, 2, 14] [2] (.cond (.tmp 14)
      (.seq (.region [⟨some 18, .move (.tmp 1), none⟩,
         ⟨some 19, .fieldAddr 0 (.tmp 2), none⟩,
         ⟨some 20, .load false 1 (.tmp 19), none⟩,
         ⟨some 21, .bin .eql .str (.tmp 18) (.tmp 20), none⟩,
         ⟨some 4, .move (.tmp 21), none⟩])
      (.keep [4] [] (.ret)))
      (.skip))))))))
  (.keep [1, 2] [2] (.seq (.region [⟨some 22, .fieldAddr 0 (.tmp 2), none⟩,
     ⟨some 23, .load false 1 (.tmp 22), none⟩,
     ⟨some 24, .move (.tmp 1), none⟩,
     ⟨some 25, .bin .leq .none (.tmp 23) (.tmp 24), none⟩,
     ⟨some 26, .move (.tmp 25), none⟩,
     ⟨some 27, .move (.tmp 1), some (26, true)⟩,
     ⟨some 28, .fieldAddr 1 (.tmp 2), some (26, true)⟩,
     ⟨some 29, .load false 1 (.tmp 28), some (26, true)⟩,
     ⟨some 30, .bin .lss .none (.tmp 27) (.tmp 29), some (26, true)⟩,
     ⟨some 31, .pick (.tmp 26) (.tmp 30) (.const (.bool false)), none⟩,
     ⟨some 4, .move (.tmp 31), none⟩])
  (.keep [4] [] (.ret))))))⟩
/-- wampum/span.All -/
def F40 : FnIR := ⟨2, 0, [.cell 0 true 2], [0],
  .seq (.region [⟨some 0, .alloc true 2 [(.str []), (.str [])], none⟩])
  (.keep [0] [0] (.seq (.region [⟨some 1, .build [(.str []), (.str [])] [(0, 1, (.const (.str [97]))), (1, 1, (.const (.str [123])))], none⟩,
     ⟨none, .store 2 (.tmp 0) (.tmp 1), none⟩])
  (.keep [0] [0] (.ret))))⟩
/-- wampum/span.Keys -/
def F37 : FnIR := ⟨14, 2, [.tmp 4], [],
  .seq (.region [⟨some 2, .box false 2 (.tmp 0), none⟩,
     ⟨some 4, .move (.const .nils), none⟩])
  (.keep [1, 2] [] (.seq (.region [⟨some 6, .move (.tmp 1), none⟩,
     ⟨some 7, .call (.func 50) [(.tmp 6)], none⟩,
     ⟨some 8, .mkFunc (.func 51) [] [(.tmp 2)], none⟩,
     ⟨some 9, .call (.func 49) [(.tmp 7), (.tmp 8)], none⟩,
     ⟨some 5, .move (.tmp 9), none⟩])
  (.keep [5] [] (.seq (.region [⟨some 10, .move (.tmp 5), none⟩,
     ⟨some 11, .call (.func 52) [(.tmp 10)], none⟩])
  (.keep [5] [] (.seq (.region [⟨some 12, .move (.tmp 5), none⟩,
     ⟨some 13, .call (.func 53) [(.tmp 12)], none⟩,
     ⟨some 4, .move (.tmp 13), none⟩])
  (.keep [4] [] (.ret))))))))⟩
/-- slices.Clone[[]string,string] -/
def F50 : FnIR := ⟨8, 1, [.tmp 2], [],
  .seq (.region [⟨some 2, .move (.const .nils), none⟩])
  (.keep [0] [] (.seq (.seq (.region [⟨some 3, .move (.tmp 0), none⟩,
      ⟨some 4, .bin .eql .slice (.tmp 3) (.const .nils), none⟩])
   (.keep [0, 4] [] (.cond (.tmp 4)
    (.seq (.region [⟨some 2, .move (.const .nils), none⟩])
    (.keep [2] [] (.ret)))
    (.skip))))
  (.keep [0] [] (.seq (.region [⟨some 5, .buildSlice 1 0 [] [], none⟩,
     ⟨some 6, .move (.tmp 0), none⟩,
     ⟨some 7, .append 1 16 (.tmp 5) (.tmp 6), none⟩,
     ⟨some 2, .move (.tmp 7), none⟩])
  (.keep [2] [] (.ret))))))⟩
/-- wampum/span.Keys$1 -/
def F51 : FnIR := ⟨8, 2, [.tmp 3], [],
  .seq (.region [⟨some 3, .move (.const (.bool false)), none⟩])
  (.keep [0, 1] [] (.seq (.region [⟨some 4, .load true 2 (.tmp 1), none⟩,
     ⟨some 5, .move (.tmp 0), none⟩,
     ⟨some 6, .call (.func 34) [(.tmp 4), (.tmp 5)], none⟩,
     ⟨some 7, .un .not (.tmp 6), none⟩,
     ⟨some 3, .move (.tmp 7), none⟩])
  (.keep [3] [] (.ret))))⟩
/-- slices.DeleteFunc[[]string,string] -/
def L49_0 : IC :=
  .keep [0, 1, 5, 6] [] (.seq (.seq (.region [⟨some 16, .move (.tmp 6), none⟩,
      ⟨some 17, .move (.tmp 0), none⟩,
      ⟨some 18, .len .slice (.tmp 17), none⟩,
      ⟨some 19, .bin .lss .none (.tmp 16) (.tmp 18), none⟩])
   (.keep [0, 1, 5, 6, 19] [] (.cond (.tmp 19)
    (.skip)
    (.exit 0))))
  (.keep [0, 1, 5, 6] [] (.seq (.block 1 (.seq (.region [⟨some 22, .move (.tmp 0), none⟩,
       ⟨some 23, .move (.tmp 6), none⟩,
       ⟨some 24, .indexAddr none 1 (.tmp 22) (.tmp 23), none⟩,
       ⟨some 25, .load false 1 (.tmp 24), none⟩,
       ⟨some 7, .move (.tmp 25), none⟩])
    (.keep [0, 1, 5, 6, 7] [] (.seq (.region [⟨some 26, .move (.tmp 1), none⟩,
       ⟨some 27, .move (.tmp 7), none⟩,
       ⟨some 28, .call (.tmp 26) [(.tmp 27)], none⟩,
       ⟨some 29, .un .not (.tmp 28), none⟩])
    (.keep [0, 1, 5, 6, 7, 29] [] (.cond (.tmp 29)
     (.seq (.region [⟨some 30, .move (.tmp 0), none⟩,
        ⟨some 31, .move (.tmp 5), none⟩,
        ⟨some 32, .move (.tmp 7), none⟩,
        ⟨some 33, .indexAddr none 1 (.tmp 30) (.tmp 31), none⟩,
        ⟨none, .store 1 (.tmp 33) (.tmp 32), none⟩])
     (.keep [0, 1, 5, 6] [] (.region [⟨some 34, .move (.tmp 5), none⟩,
       ⟨some 35, .bin .add .none (.tmp 34) (.const (.int .i64 1)), none⟩,
       ⟨some 5, .move (.tmp 35), none⟩])))
     (.skip)))))))
  (.keep [0, 1, 5, 6] [] (.region [⟨some 20, .move (.tmp 6), none⟩,
    ⟨some 21, .bin .add .none (.tmp 20) (.const (.int .i64 1)), none⟩,
    ⟨some 6, .move (.tmp 21), none⟩])))))
def F49 : FnIR := ⟨42, 2, [.tmp 4], [],
  .seq (.region [⟨some 4, .move (.const .nils), none⟩])
  (.keep [0, 1] [] (.seq (.region [⟨some 8, .move (.tmp 0), none⟩,
     ⟨some 9, .move (.tmp 1), none⟩,
     ⟨some 10, .call (.func 62) [(.tmp 8), (.tmp 9)], none⟩,
     ⟨some 5, .move (.tmp 10), none⟩])
  (.keep [0, 1, 5] [] (.seq (.seq (.region [⟨some 11, .move (.tmp 5), none⟩,
      ⟨some 12, .bin .eql .int (.tmp 11) (.const (.int .i64 (-1))), none⟩])
   (.keep [0, 1, 5, 12] [] (.cond (.tmp 12)
    (.seq (.region [⟨some 13, .move (.tmp 0), none⟩,
       ⟨some 4, .move (.tmp 13), none⟩])
    (.keep [4] [] (.ret)))
    (.skip))))
  (.keep [0, 1, 5] [] (.seq (.seq (.region [⟨some 14, .move (.tmp 5), none⟩,
      ⟨some 15, .bin .add .none (.tmp 14) (.const (.int .i64 1)), none⟩,
      ⟨some 6, .move (.tmp 15), none⟩])
   (.keep [0, 1, 5, 6] [] (.block 0 (.loop L49_0))))
  (.keep [0, 5] [] (.seq (.region [⟨some 36, .move (.tmp 0), none⟩,
     ⟨some 37, .move (.tmp 5), none⟩,
     ⟨some 38, .slice (.slice 1) (.tmp 36) (some (.tmp 37)) none none, none⟩,
     ⟨none, .clear 1 [(.str [])] (.tmp 38), none⟩])
  (.keep [0, 5] [] (.seq (.region [⟨some 39, .move (.tmp 0), none⟩,
     ⟨some 40, .move (.tmp 5), none⟩,
     ⟨some 41, .slice (.slice 1) (.tmp 39) none (some (.tmp 40)) none, none⟩,
     ⟨some 4, .move (.tmp 41), none⟩])
  (.keep [4] [] (.ret))))))))))))⟩
/-- slices.IndexFunc[[]string,string] -/
def L62_0 : IC :=
  .keep [0, 1, 7, 8] [] (.seq (.region [⟨some 9, .bin .lss .none (.tmp 8) (.tmp 7), none⟩])
  (.keep [0, 1, 7, 8, 9] [] (.seq (.cond (.tmp 9)
    (.skip)
    (.exit 0))
  (.keep [0, 1, 7, 8] [] (.seq (.block 1 (.seq (.region [⟨some 10, .move (.tmp 8), none⟩,
       ⟨some 5, .move (.tmp 10), none⟩])
    (.keep [0, 1, 5, 7, 8] [] (.seq (.region [⟨some 11, .move (.tmp 1), none⟩,
       ⟨some 12, .move (.tmp 0), none⟩,
       ⟨some 13, .move (.tmp 5), none⟩,
       ⟨some 14, .indexAddr none 1 (.tmp 12) (.tmp 13), none⟩,
       ⟨some 15, .load false 1 (.tmp 14), none⟩,
       ⟨some 16, .call (.tmp 11) [(.tmp 15)], none⟩])
    (.keep [0, 1, 5, 7, 8, 16] [] (.cond (.tmp 16)
     (.seq (.region [⟨some 17, .move (.tmp 5), none⟩,
        ⟨some 4, .move (.tmp 17), none⟩])
     (.keep [4] [] (.ret)))
     (.skip)))))))
  (.keep [0, 1, 7, 8] [] (.region [⟨some 18, .bin .add .none (.tmp 8) (.const (.int .i64 1)), none⟩,
    ⟨some 8, .move (.tmp 18), none⟩])))))))
def F62 : FnIR := ⟨19, 2, [.tmp 4], [],
  .seq (.region [⟨some 4, .move (.const (.int .i64 0)), none⟩])
  (.keep [0, 1] [] (.seq (.seq (.region [⟨some 6, .move (.tmp 0), none⟩,
      ⟨some 7, .len .slice (.tmp 6), none⟩,
      ⟨some 8, .move (.const (.int .i64 0)), none⟩])
   (.keep [0, 1, 7, 8] [] (.block 0 (.loop L62_0))))
  (.keep [] [] (.seq (.region [⟨some 4, .move (.const (.int .i64 (-1))), none⟩])
  (.keep [4] [] (.ret))))))⟩
/-- slices.Compact[[]string,string] -/
def L53_0 : IC :=
  .keep [0, 3, 4, 5] [] (.seq (.seq (.region [⟨some 29, .move (.tmp 5), none⟩,
      ⟨some 30, .move (.tmp 4), none⟩,
      ⟨some 31, .len .slice (.tmp 30), none⟩,
      ⟨some 32, .bin .lss .none (.tmp 29) (.tmp 31), none⟩])
   (.keep [0, 3, 4, 5, 32] [] (.cond (.tmp 32)
    (.skip)
    (.exit 2))))
  (.keep [0, 3, 4, 5] [] (.seq (.block 3 (.seq (.regionD [⟨some 35, .move (.tmp 4), none⟩,
       ⟨some 36, .move (.tmp 5), none⟩,
       ⟨some 37, .indexAddr none 1 (.tmp 35) (.tmp 36), none⟩,
       ⟨some 38, .load false 1 (.tmp 37), none⟩,
       ⟨some 39, .move (.tmp 4), none⟩,
       ⟨some 40, .move (.tmp 5), none⟩,
       ⟨some 41, .bin .sub .none (.tmp 40) (.const (.int .i64 1)), none⟩,
       ⟨some 42, .indexAddr none 1 (.tmp 39) (.tmp 41), none⟩,
       ⟨some 43, .load false 1 (.tmp 42), none⟩,
       ⟨some 44, .bin .neq .str (.tmp 38) (.tmp 43), none⟩] [])
    (.keep [0, 3, 4, 5, 44] [] (.cond (.tmp 44)
     (.seq (.region [⟨some 45, .move (.tmp 0), none⟩,
        ⟨some 46, .move (.tmp 3), none⟩,
        ⟨some 47, .move (.tmp 4), none⟩,
        ⟨some 48, .move (.tmp 5), none⟩,
        ⟨some 49, .indexAddr none 1 (.tmp 47) (.tmp 48), none⟩,
        ⟨some 50, .load false 1 (.tmp 49), none⟩,
        ⟨some 51, .indexAddr none 1 (.tmp 45) (.tmp 46), none⟩,
        ⟨none, .store 1 (.tmp 51) (.tmp 50), none⟩])
     (.keep [0, 3, 4, 5] [] (.region [⟨some 52, .move (.tmp 3), none⟩,
       ⟨some 53, .bin .add .none (.tmp 52) (.const (.int .i64 1)), none⟩,
       ⟨some 3, .move (.tmp 53), none⟩])))
     (.skip)))))
  (.keep [0, 3, 4, 5] [] (.region [⟨some 33, .move (.tmp 5), none⟩,
    ⟨some 34, .bin .add .none (.tmp 33) (.const (.int .i64 1)), none⟩,
    ⟨some 5, .move (.tmp 34), none⟩])))))
def L53_1 : IC :=
  .keep [0, 3] [] (.seq (.seq (.region [⟨some 10, .move (.tmp 3), none⟩,
      ⟨some 11, .move (.tmp 0), none⟩,
      ⟨some 12, .len .slice (.tmp 11), none⟩,
      ⟨some 13, .bin .lss .none (.tmp 10) (.tmp 12), none⟩])
   (.keep [0, 3, 13] [] (.cond (.tmp 13)
    (.skip)
    (.exit 0))))
  (.keep [0, 3] [] (.seq (.block 1 (.seq (.regionD [⟨some 16, .move (.tmp 0), none⟩,
       ⟨some 17, .move (.tmp 3), none⟩,
       ⟨some 18, .indexAddr none 1 (.tmp 16) (.tmp 17), none⟩,
       ⟨some 19, .load false 1 (.tmp 18), none⟩,
       ⟨some 20, .move (.tmp 0), none⟩,
       ⟨some 21, .move (.tmp 3), none⟩,
       ⟨some 22, .bin .sub .none (.tmp 21) (.const (.int .i64 1)), none⟩,
       ⟨some 23, .indexAddr none 1 (.tmp 20) (.tmp 22), none⟩,
       ⟨some 24, .load false 1 (.tmp 23), none⟩,
       ⟨some 25, .bin .eql .str (.tmp 19) (.tmp 24), none⟩] [])
    (.keep [0, 3, 25] [] (.cond (.tmp 25)
     (.seq (.region [⟨some 26, .move (.tmp 0), none⟩,
        ⟨some 27, .move (.tmp 3), none⟩,
        ⟨some 28, .slice (.slice 1) (.tmp 26) (some (.tmp 27)) none none, none⟩,
        ⟨some 4, .move (.tmp 28), none⟩])
     (.keep [0, 3, 4] [] (.seq (.seq (.region [⟨some 5, .move (.const (.int .i64 1)), none⟩])
      (.keep [0, 3, 4, 5] [] (.block 2 (.loop L53_0))))
     (.keep [0, 3] [] (.seq (.region [⟨some 54, .move (.tmp 0), none⟩,
        ⟨some 55, .move (.tmp 3), none⟩,
        ⟨some 56, .slice (.slice 1) (.tmp 54) (some (.tmp 55)) none none, none⟩,
        ⟨none, .clear 1 [(.str [])] (.tmp 56), none⟩])
     (.keep [0, 3] [] (.seq (.region [⟨some 57, .move (.tmp 0), none⟩,
        ⟨some 58, .move (.tmp 3), none⟩,
        ⟨some 59, .slice (.slice 1) (.tmp 57) none (some (.tmp 58)) none, none⟩,
        ⟨some 2, .move (.tmp 59), none⟩])
     (.keep [2] [] (.ret)))))))))
     (.skip)))))
  (.keep [0, 3] [] (.region [⟨some 14, .move (.tmp 3), none⟩,
    ⟨some 15, .bin .add .none (.tmp 14) (.const (.int .i64 1)), none⟩,
    ⟨some 3, .move (.tmp 15), none⟩])))))
def F53 : FnIR := ⟨61, 1, [.tmp 2], [],
  .seq (.region [⟨some 2, .move (.const .nils), none⟩])
  (.keep [0] [] (.seq (.seq (.region [⟨some 6, .move (.tmp 0), none⟩,
      ⟨some 7, .len .slice (.tmp 6), none⟩,
      ⟨some 8, .bin .lss .none (.tmp 7) (.const (.int .i64 2)), none⟩])
   (.keep [0, 8] [] (.cond (.tmp 8)
    (.seq (.region [⟨some 9, .move (.tmp 0), none⟩,
       ⟨some 2, .move (.tmp 9), none⟩])
    (.keep [2] [] (.ret)))
    (.skip))))
  (.keep [0] [] (.seq (.seq (.region [⟨some 3, .move (.const (.int .i64 1)), none⟩])
   (.keep [0, 3] [] (.block 0 (.loop L53_1))))
  (.keep [0] [] (.seq (.region [⟨some 60, .move (.tmp 0), none⟩,
     ⟨some 2, .move (.tmp 60), none⟩])
  (.keep [2] [] (.ret))))))))⟩
/-- wampum/wampumref05.Clip -/
def F30 : FnIR := ⟨40, 2, [.cell 4 true 2, .tmp 5], [2, 3, 4, 7],
  .seq (.region [⟨some 2, .box true 2 (.tmp 0), none⟩,
     ⟨some 3, .box true 2 (.tmp 1), none⟩,
     ⟨some 4, .alloc true 2 [(.str []), (.str [])], none⟩,
     ⟨some 5, .move (.const (.bool false)), none⟩])
  (.keep [2, 3, 4] [2, 3, 4] (.seq (.region [⟨some 8, .load true 2 (.tmp 2), none⟩,
     ⟨some 9, .load true 2 (.tmp 3), none⟩,
     ⟨some 10, .call (.func 17) [(.tmp 8), (.tmp 9)], none⟩,
     ⟨some 6, .move (.tmp 10), none⟩])
  (.keep [2, 3, 4, 6] [2, 3, 4] (.seq (.seq (.region [⟨some 11, .move (.tmp 6), none⟩,
      ⟨some 12, .un .not (.tmp 11), none⟩])
   (.keep [2, 3, 4, 12] [2, 3, 4] (.cond (.tmp 12)
    (.seq (.region [⟨some 13, .build [(.str []), (.str [])] [], none⟩,
       ⟨none, .store 2 (.tmp 4) (.tmp 13), none⟩,
       ⟨some 5, .move (.const (.bool false)), none⟩])
    (.keep [4, 5] [4] (.ret)))
    (.skip))))
  (.keep [2, 3, 4] [2, 3, 4] (.seq (.seq (.region [⟨some 14, .fieldAddr 1 (.tmp 2), none⟩,
      ⟨some 15, .load false 1 (.tmp 14), none⟩,
      ⟨some 16, .bin .eql .str (.tmp 15) (.const (.str [])), none⟩])
   (.keep [2, 3, 4, 16] [2, 3, 4] (.cond (.tmp 16)
    (.seq (.region [⟨some 17, .load true 2 (.tmp 2), none⟩,
       ⟨none, .store 2 (.tmp 4) (.tmp 17), none⟩,
       ⟨some 5, .move (.const (.bool true)), none⟩])
    (.keep [4, 5] [4] (.ret)))
    (.skip))))
  (.keep [2, 3, 4] [2, 3, 4] (.seq (.seq (.region [⟨some 18, .fieldAddr 1 (.tmp 3), none⟩,
      ⟨some 19, .load false 1 (.tmp 18), none⟩,
      ⟨some 20, .bin .eql .str (.tmp 19) (.const (.str [])), none⟩])
   (.keep [2, 3, 4, 20] [2, 3, 4] (.cond (.tmp 20)
    (.seq (.region [⟨some 21, .load true 2 (.tmp 3), none⟩,
       ⟨none, .store 2 (.tmp 4) (.tmp 21), none⟩,
       ⟨some 5, .move (.const (.bool true)), none⟩])
    (.keep [4, 5] [4] (.ret)))
    (.skip))))
  (.keep [2, 3, 4] [2, 3, 4] (.seq (.region [⟨some 22, .load true 2 (.tmp 2), none⟩,
     ⟨some 7, .alloc true 2 [(.str []), (.str [])], none⟩,
     ⟨none, .store 2 (.tmp 7) (.tmp 22), none⟩])
  (.keep [2, 3, 4, 7] [2, 3, 4, 7] (.seq (.seq (.region [⟨some 23, .fieldAddr 0 (.tmp 3), none⟩,
      ⟨some 24, .load false 1 (.tmp 23), none⟩,
      ⟨some 25, .fieldAddr 0 (.tmp 2), none⟩,
      ⟨some 26, .load false 1 (.tmp 25), none⟩,
      ⟨some 27, .bin .gtr .none (.tmp 24) (.tmp 26), none⟩])
   (.keep [2, 3, 4, 7, 27] [2, 3, 4, 7] (.cond (.tmp 27)
    (.region [⟨some 28, .fieldAddr 0 (.tmp 3), none⟩,
      ⟨some 29, .load false 1 (.tmp 28), none⟩,
      ⟨some 30, .fieldAddr 0 (.tmp 7), none⟩,
      ⟨none, .store 1 (.tmp 30) (.tmp 29), none⟩])
    (.skip))))
  (.keep [2, 3, 4, 7] [2, 3, 4, 7] (.seq (.seq (.region [⟨some 31, .fieldAddr 1 (.tmp 3), none⟩,
      ⟨some 32, .load false 1 (.tmp 31), none⟩,
      ⟨some 33, .fieldAddr 1 (.tmp 2), none⟩,
      ⟨some 34, .load false 1 (.tmp 33), none⟩,
      ⟨some 35, .bin .lss .none (.tmp 32) (.tmp 34), none⟩])
   (.keep [3, 4, 7, 35] [3, 4, 7] (.cond (.tmp 35)
    (.region [⟨some 36, .fieldAddr 1 (.tmp 3), none⟩,
      ⟨some 37, .load false 1 (.tmp 36), none⟩,
      ⟨some 38, .fieldAddr 1 (.tmp 7), none⟩,
      ⟨none, .store 1 (.tmp 38) (.tmp 37), none⟩])
    (.skip))))
  (.keep [4, 7] [4, 7] (.seq (.region [⟨some 39, .load true 2 (.tmp 7), none⟩,
     ⟨none, .store 2 (.tmp 4) (.tmp 39), none⟩,
     ⟨some 5, .move (.const (.bool true)), none⟩])
  (.keep [4, 5] [4] (.ret))))))))))))))))))⟩
/-- wampum/wampumref05.Meet -/
def F17 : FnIR := ⟨31, 2, [.tmp 4], [2, 3],
  .seq (.region [⟨some 2, .box true 2 (.tmp 0), none⟩,
     ⟨some 3, .box true 2 (.tmp 1), none⟩,
     ⟨some 4, .move (.const (.bool false)), none⟩])
  (.keep [2, 3] [2, 3] (.seq (.region [⟨some 9, .load true 2 (.tmp 2), none⟩,
     ⟨some 10, .fieldAddr 0 (.tmp 3), none⟩,
     ⟨some 11, .load false 1 (.tmp 10), none⟩,
     ⟨some 12, .call (.func 35) [(.tmp 9), (.tmp 11)], none⟩,
     ⟨some 5, .move (.tmp 12), none⟩])
  (.keep [2, 3, 5] [2, 3] (.seq (.region [⟨some 13, .load true 2 (.tmp 3), none⟩,
     ⟨some 14, .fieldAddr 0 (.tmp 2), none⟩,
     ⟨some 15, .load false 1 (.tmp 14), none⟩,
     ⟨some 16, .call (.func 35) [(.tmp 13), (.tmp 15)], none⟩,
     ⟨some 6, .move (.tmp 16), none⟩])
  (.keep [2, 3, 5, 6] [2, 3] (.seq (.region [⟨some 17, .load true 2 (.tmp 2), none⟩,
     ⟨some 18, .call (.func 15) [(.tmp 17)], none⟩,
     ⟨some 7, .move (.tmp 18), none⟩])
  (.keep [3, 5, 6, 7] [3] (.seq (.region [⟨some 19, .load true 2 (.tmp 3), none⟩,
     ⟨some 20, .call (.func 15) [(.tmp 19)], none⟩,
     ⟨some 8, .move (.tmp 20), none⟩])
  (.keep [5, 6, 7, 8] [] (.seq (.region [⟨some 21, .move (.tmp 7), none⟩,
     ⟨some 22, .move (.tmp 21), none⟩,
     ⟨some 23, .move (.tmp 8), some (22, true)⟩,
     ⟨some 24, .pick (.tmp 22) (.tmp 23) (.const (.bool false)), none⟩,
     ⟨some 25, .move (.tmp 24), none⟩,
     ⟨some 26, .move (.tmp 5), some (25, true)⟩,
     ⟨some 27, .move (.tmp 26), some (25, true)⟩,
     ⟨some 28, .move (.tmp 6), some (27, false)⟩,
     ⟨some 29, .pick (.tmp 27) (.const (.bool true)) (.tmp 28), some (25, true)⟩,
     ⟨some 30, .pick (.tmp 25) (.tmp 29) (.const (.bool false)), none⟩,
     ⟨some 4, .move (.tmp 30), none⟩])
  (.keep [4] [] (.ret))))))))))))⟩
/-- wampum/wampumref05.Has -/
def F35 : FnIR := ⟨40, 2, [.tmp 4], [2],
  .seq (.region [⟨some 2, .box true 2 (.tmp 0), none⟩,
     ⟨some 4, .move (.const (.bool false)), none⟩])
  (.keep [1, 2] [2] (.seq (.region [⟨some 7, .load true 2 (.tmp 2), none⟩,
     ⟨some 8, .call (.func 15) [(.tmp 7)], none⟩,
     ⟨some 5, .move (.tmp 8), none⟩])
  (.keep [1, 2, 5] [2] (.seq (.region [⟨some 9, .move (.tmp 1), none⟩,
     ⟨some 10, .call (.func 32) [(.tmp 9)], none⟩,
     ⟨some 6, .move (.tmp 10), none⟩])
  (.keep [1, 2, 5, 6] [2] (.seq (.seq (.region [⟨some 11, .fieldAddr 1 (.tmp 2), none⟩,
      ⟨some 12, .load false 1 (.tmp 11), none⟩,
      ⟨some 13, .bin .eql .str (.tmp 12) (.const (.str [])), none⟩])
   (.keep [1, 2, 5, 6, 13] [2] (.cond (.tmp 13)
    (.seq (.region [⟨some 14, .move (.tmp 5), none⟩,
       ⟨some 15, .move (.tmp 14), none⟩,
       ⟨some 16, .move (.tmp 6), some (15, true)⟩,
       ⟨some 17, .pick (.tmp 15) (.tmp 16) (.const (.bool false)), none⟩,
       ⟨some 18, .move (.tmp 17), none⟩,
       ⟨some 19, .move (.tmp 1), some (18, true)⟩,
       ⟨some 20, .fieldAddr 0 (.tmp 2), some (18, true)⟩,
       ⟨some 21, .load false 1 (.tmp 20), some (18, true)⟩,
       ⟨some 22, .bin .eql .str (.tmp 19) (.tmp 21), some (18, true)⟩,
       ⟨some 23, .pick (.tmp 18) (.tmp 22) (.const (.bool false)), none⟩,
       ⟨some 4, .move (.tmp 23), none⟩])
    (.keep [4] [] (.ret)))
    (.skip))))
  (.keep [1, 2, 5, 6] [2] (.seq (.region [⟨some 24, .move (.tmp 5), none⟩,
     ⟨some 25, .move (.tmp 24), none⟩,
     ⟨some 26, .move (.tmp 6), some (25, true)⟩,
     ⟨some 27, .pick (.tmp 25) (.tmp 26) (.const (.bool false)), none⟩,
     ⟨some 28, .move (.tmp 27), none⟩,
     ⟨some 29, .move (.tmp 1), some (28, true)⟩,
     ⟨some 30, .fieldAddr 0 (.tmp 2), some (28, true)⟩,
     ⟨some 31, .load false 1 (.tmp 30), some (28, true)⟩,
     ⟨some 32, .bin .geq .none (.tmp 29) (.tmp 31), some (28, true)⟩,
     ⟨some 33, .pick (.tmp 28) (.tmp 32) (.const (.bool false)), none⟩,
     ⟨some 34, .move (.tmp 33), none⟩,
     ⟨some 35, .move (.tmp 1), some (34, true)⟩,
     ⟨some 36, .fieldAddr 1 (.tmp 2), some (34, true)⟩,
     ⟨some 37, .load false 1 (.tmp 36), some (34, true)⟩,
     ⟨some 38, .bin .lss .none (.tmp 35) (.tmp 37), some (34, true)⟩,
     ⟨some 39, .pick (.tmp 34) (.tmp 38) (.const (.bool false)), none⟩,
     ⟨some 4, .move (.tmp 39), none⟩])
  (.keep [4] [] (.ret))))))))))⟩
/-- wampum/wampumref05.Right -/
def F15 : FnIR := ⟨32, 1, [.tmp 2], [1],
  .seq (.region [⟨some 1, .box true 2 (.tmp 0), none⟩,
     ⟨some 2, .move (.const (.bool false)), none⟩])
  (.keep [1] [1] (.seq (.region [⟨some 5, .fieldAddr 0 (.tmp 1), none⟩,
     ⟨some 6, .load false 1 (.tmp 5), none⟩,
     ⟨some 7, .call (.func 32) [(.tmp 6)], none⟩,
     ⟨some 3, .move (.tmp 7), none⟩])
  (.keep [1, 3] [1] (.seq (.region [⟨some 8, .fieldAddr 1 (.tmp 1), none⟩,
     ⟨some 9, .load false 1 (.tmp 8), none⟩,
     ⟨some 10, .call (.func 32) [(.tmp 9)], none⟩,
     ⟨some 4, .move (.tmp 10), none⟩])
  (.keep [1, 3, 4] [1] (.seq (.region [⟨some 11, .move (.tmp 3), none⟩,
     ⟨some 12, .move (.tmp 11), none⟩,
     ⟨some 13, .fieldAddr 1 (.tmp 1), some (12, true)⟩,
     ⟨some 14, .load false 1 (.tmp 13), some (12, true)⟩,
     ⟨some 15, .bin .eql .str (.tmp 14) (.const (.str [])), some (12, true)⟩,
     ⟨some 16, .move (.tmp 15), some (12, true)⟩,
     ⟨some 17, .move (.tmp 4), some (16, false)⟩,
     ⟨some 18, .move (.tmp 17), some (16, false)⟩,
     ⟨some 19, .fieldAddr 1 (.tmp 1), some (18, false)⟩,
     ⟨some 20, .load false 1 (.tmp 19), some (18, false)⟩,
     ⟨some 21, .bin .eql .str (.tmp 20) (.const (.str [123])), some (18, false)⟩,
     ⟨some 22, .pick (.tmp 18) (.const (.bool true)) (.tmp 21), some (16, false)⟩,
     ⟨some 23, .move (.tmp 22), some (16, false)⟩,
     ⟨some 24, .fieldAddr 1 (.tmp 1), some (23, true)⟩,
     ⟨some 25, .load false 1 (.tmp 24), some (23, true)⟩,
     ⟨some 26, .fieldAddr 0 (.tmp 1), some (23, true)⟩,
     ⟨some 27, .load false 1 (.tmp 26), some (23, true)⟩,
     ⟨some 28, .bin .gtr .none (.tmp 25) (.tmp 27), some (23, true)⟩,
     ⟨some 29, .pick (.tmp 23) (.tmp 28) (.const (.bool false)), some (16, false)⟩,
     ⟨some 30, .pick (.tmp 16) (.const (.bool true)) (.tmp 29), some (12, true)⟩,
     ⟨some 31, .pick (.tmp 12) (.tmp 30) (.const (.bool false)), none⟩,
     ⟨some 2, .move (.tmp 31), none⟩])
  (.keep [2] [] (.ret))))))))⟩
/-- wampum/wampumref05.Key -/
def L32_0 : IC :=
  .keep [0, 3] [] (.seq (.seq (.region [⟨some 4, .move (.tmp 3), none⟩,
      ⟨some 5, .move (.tmp 0), none⟩,
      ⟨some 6, .len .str (.tmp 5), none⟩,
      ⟨some 7, .bin .lss .none (.tmp 4) (.tmp 6), none⟩])
   (.keep [0, 3, 7] [] (.cond (.tmp 7)
    (.skip)
    (.exit 0))))
  (.keep [0, 3] [] (.seq (.block 1 (.seq (.region [⟨some 10, .move (.tmp 0), none⟩,
       ⟨some 11, .move (.tmp 3), none⟩,
       ⟨some 12, .index none (.tmp 10) (.tmp 11), none⟩,
       ⟨some 13, .bin .lss .none (.tmp 12) (.const (.int .u8 97)), none⟩,
       ⟨some 14, .move (.tmp 13), none⟩,
       ⟨some 15, .move (.tmp 0), some (14, false)⟩,
       ⟨some 16, .move (.tmp 3), some (14, false)⟩,
       ⟨some 17, .index none (.tmp 15) (.tmp 16), some (14, false)⟩,
       ⟨some 18, .bin .gtr .none (.tmp 17) (.const (.int .u8 122)), some (14, false)⟩,
       ⟨some 19, .pick (.tmp 14) (.const (.bool true)) (.tmp 18), none⟩])
    (.keep [0, 3, 19] [] (.cond (.tmp 19)
     (.seq (.region [⟨some 2, .move (.const (.bool false)), none⟩])
     (.keep [2] [] (.ret)))
     (.skip)))))
  (.keep [0, 3] [] (.region [⟨some 8, .move (.tmp 3), none⟩,
    ⟨some 9, .bin .add .none (.tmp 8) (.const (.int .i64 1)), none⟩,
    ⟨some 3, .move (.tmp 9), none⟩])))))
def F32 : FnIR := ⟨28, 1, [.tmp 2], [],
  .seq (.region [⟨some 2, .move (.const (.bool false)), none⟩])
  (.keep [0] [] (.seq (.seq (.region [⟨some 3, .move (.const (.int .i64 0)), none⟩])
   (.keep [0, 3] [] (.block 0 (.loop L32_0))))
  (.keep [0] [] (.seq (.region [⟨some 20, .move (.tmp 0), none⟩,
     ⟨some 21, .len .str (.tmp 20), none⟩,
     ⟨some 22, .bin .geq .none (.tmp 21) (.const (.int .i64 1)), none⟩,
     ⟨some 23, .move (.tmp 22), none⟩,
     ⟨some 24, .move (.tmp 0), some (23, true)⟩,
     ⟨some 25, .len .str (.tmp 24), some (23, true)⟩,
     ⟨some 26, .bin .leq .none (.tmp 25) (.const (.int .i64 8)), some (23, true)⟩,
     ⟨some 27, .pick (.tmp 23) (.tmp 26) (.const (.bool false)), none⟩,
     ⟨some 2, .move (.tmp 27), none⟩])
  (.keep [2] [] (.ret))))))⟩
/-- wampum/wampumlaw05.SpanKeys -/
def L8_0 : IC :=
  .keep [1, 2, 6] [2] (.seq (.seq (.region [⟨some 19, .move (.tmp 6), none⟩,
      ⟨some 20, .move (.tmp 1), none⟩,
      ⟨some 21, .len .slice (.tmp 20), none⟩,
      ⟨some 22, .bin .lss .none (.tmp 19) (.tmp 21), none⟩])
   (.keep [1, 2, 6, 22] [2] (.cond (.tmp 22)
    (.skip)
    (.exit 0))))
  (.keep [1, 2, 6] [2] (.seq (.block 1 (.seq (.region [⟨some 25, .move (.tmp 1), none⟩,
       ⟨some 26, .move (.tmp 6), none⟩,
       ⟨some 27, .indexAddr none 1 (.tmp 25) (.tmp 26), none⟩,
       ⟨some 28, .load false 1 (.tmp 27), none⟩,
       ⟨some 29, .len .str (.tmp 28), none⟩,
       ⟨some 30, .bin .gtr .none (.tmp 29) (.const (.int .i64 200)), none⟩])
    (.keep [1, 2, 6, 30] [2] (.cond (.tmp 30)
     (.seq (.region [⟨some 31, .call (.func 28) [], none⟩,
        ⟨some 4, .move (.tmp 31), none⟩])
     (.keep [4] [] (.ret)))
     (.skip)))))
  (.keep [1, 2, 6] [2] (.region [⟨some 23, .move (.tmp 6), none⟩,
    ⟨some 24, .bin .add .none (.tmp 23) (.const (.int .i64 1)), none⟩,
    ⟨some 6, .move (.tmp 24), none⟩])))))
def F8 : FnIR := ⟨51, 2, [.tmp 4], [2],
  .seq (.region [⟨some 2, .box true 2 (.tmp 0), none⟩,
     ⟨some 4, .move (.const (.bool false)), none⟩])
  (.keep [1, 2] [2] (.seq (.region [⟨some 9, .load true 2 (.tmp 2), none⟩,
     ⟨some 10, .call (.func 13) [(.tmp 9)], none⟩,
     ⟨some 5, .move (.tmp 10), none⟩])
  (.keep [1, 2, 5] [2] (.seq (.seq (.region [⟨some 11, .move (.tmp 5), none⟩,
      ⟨some 12, .un .not (.tmp 11), none⟩,
      ⟨some 13, .move (.tmp 12), none⟩,
      ⟨some 14, .move (.tmp 1), some (13, false)⟩,
      ⟨some 15, .len .slice (.tmp 14), some (13, false)⟩,
      ⟨some 16, .bin .gtr .none (.tmp 15) (.const (.int .i64 200)), some (13, false)⟩,
      ⟨some 17, .pick (.tmp 13) (.const (.bool true)) (.tmp 16), none⟩])
   (.keep [1, 2, 17] [2] (.cond (.tmp 17)
    (.seq (.region [⟨some 18, .call (.func 28) [], none⟩,
       ⟨some 4, .move (.tmp 18), none⟩])
    (.keep [4] [] (.ret)))
    (.skip))))
  (.keep [1, 2] [2] (.seq (.seq (.region [⟨some 6, .move (.const (.int .i64 0)), none⟩])
   (.keep [1, 2, 6] [2] (.block 0 (.loop L8_0))))
  (.keep [1, 2] [2] (.seq (.region [⟨some 32, .buildSlice 1 0 [] [], none⟩,
     ⟨some 33, .move (.tmp 1), none⟩,
     ⟨some 34, .append 1 16 (.tmp 32) (.tmp 33), none⟩,
     ⟨some 7, .move (.tmp 34), none⟩])
  (.keep [1, 2, 7] [2] (.seq (.region [⟨some 35, .load true 2 (.tmp 2), none⟩,
     ⟨some 36, .move (.tmp 1), none⟩,
     ⟨some 37, .call (.func 37) [(.tmp 35), (.tmp 36)], none⟩,
     ⟨some 8, .move (.tmp 37), none⟩])
  (.keep [1, 2, 7, 8] [2] (.seq (.region [⟨some 38, .call (.func 28) [], none⟩,
     ⟨some 39, .move (.tmp 38), none⟩,
     ⟨some 40, .move (.tmp 8), some (39, true)⟩,
     ⟨some 41, .load true 2 (.tmp 2), some (39, true)⟩,
     ⟨some 42, .move (.tmp 1), some (39, true)⟩,
     ⟨some 43, .call (.func 39) [(.tmp 41), (.tmp 42)], some (39, true)⟩,
     ⟨some 44, .call (.func 38) [(.tmp 40), (.tmp 43)], some (39, true)⟩,
     ⟨some 45, .pick (.tmp 39) (.tmp 44) (.const (.bool false)), none⟩,
     ⟨some 46, .move (.tmp 45), none⟩,
     ⟨some 47, .move (.tmp 1), some (46, true)⟩,
     ⟨some 48, .move (.tmp 7), some (46, true)⟩,
     ⟨some 49, .call (.func 38) [(.tmp 47), (.tmp 48)], some (46, true)⟩,
     ⟨some 50, .pick (.tmp 46) (.tmp 49) (.const (.bool false)), none⟩,
     ⟨some 4, .move (.tmp 50), none⟩])
  (.keep [4] [] (.ret))))))))))))))⟩
/-- wampum/wampumref05.Keys -/
def L39_0 : IC :=
  .keep [1, 2, 5, 6, 7, 8] [2] (.seq (.seq (.regionD [⟨some 22, .move (.tmp 8), none⟩,
      ⟨some 23, .move (.tmp 5), none⟩,
      ⟨some 24, .len .slice (.tmp 23), none⟩,
      ⟨some 25, .bin .lss .none (.tmp 22) (.tmp 24), none⟩,
      ⟨some 26, .move (.tmp 25), none⟩,
      ⟨some 27, .move (.tmp 5), some (26, true)⟩,
      ⟨some 28, .move (.tmp 8), some (26, true)⟩,
      ⟨some 29, .indexAddr none 1 (.tmp 27) (.tmp 28), some (26, true)⟩,
      ⟨some 30, .load false 1 (.tmp 29), some (26, true)⟩,
      ⟨some 31, .move (.tmp 1), some (26, true)⟩,
      ⟨some 32, .move (.tmp 6), some (26, true)⟩,
      ⟨some 33, .indexAddr none 1 (.tmp 31) (.tmp 32), some (26, true)⟩,
      ⟨some 34, .load false 1 (.tmp 33), some (26, true)⟩,
      ⟨some 35, .bin .lss .none (.tmp 30) (.tmp 34), some (26, true)⟩,
      ⟨some 36, .pick (.tmp 26) (.tmp 35) (.const (.bool false)), none⟩] [])
   (.keep [1, 2, 5, 6, 7, 8, 36] [2] (.cond (.tmp 36)
    (.skip)
    (.exit 2))))
  (.keep [1, 2, 5, 6, 7, 8] [2] (.block 3 (.region [⟨some 37, .move (.tmp 8), none⟩,
     ⟨some 38, .bin .add .none (.tmp 37) (.const (.int .i64 1)), none⟩,
     ⟨some 8, .move (.tmp 38), none⟩]))))
def L39_1 : IC :=
  .keep [1, 2, 5, 6] [2] (.seq (.seq (.region [⟨some 10, .move (.tmp 6), none⟩,
      ⟨some 11, .move (.tmp 1), none⟩,
      ⟨some 12, .len .slice (.tmp 11), none⟩,
      ⟨some 13, .bin .lss .none (.tmp 10) (.tmp 12), none⟩])
   (.keep [1, 2, 5, 6, 13] [2] (.cond (.tmp 13)
    (.skip)
    (.exit 0))))
  (.keep [1, 2, 5, 6] [2] (.seq (.block 1 (.seq (.regionD [⟨some 16, .load true 2 (.tmp 2), none⟩,
       ⟨some 17, .move (.tmp 1), none⟩,
       ⟨some 18, .move (.tmp 6), none⟩,
       ⟨some 19, .indexAddr none 1 (.tmp 17) (.tmp 18), none⟩,
       ⟨some 20, .load false 1 (.tmp 19), none⟩,
       ⟨some 21, .call (.func 35) [(.tmp 16), (.tmp 20)], none⟩,
       ⟨some 7, .move (.tmp 21), none⟩] [])
    (.keep [1, 2, 5, 6, 7] [2] (.seq (.region [⟨some 8, .move (.const (.int .i64 0)), none⟩])
    (.keep [1, 2, 5, 6, 7, 8] [2] (.seq (.block 2 (.loop L39_0))
    (.keep [1, 2, 5, 6, 7, 8] [2] (.seq (.regionD [⟨some 39, .move (.tmp 7), none⟩,
       ⟨some 40, .move (.tmp 39), none⟩,
       ⟨some 41, .move (.tmp 8), some (40, true)⟩,
       ⟨some 42, .move (.tmp 5), some (40, true)⟩,
       ⟨some 43, .len .slice (.tmp 42), some (40, true)⟩,
       ⟨some 44, .bin .eql .int (.tmp 41) (.tmp 43), some (40, true)⟩,
       ⟨some 45, .move (.tmp 44), some (40, true)⟩,
       ⟨some 46, .move (.tmp 5), some (45, false)⟩,
       ⟨some 47, .move (.tmp 8), some (45, false)⟩,
       ⟨some 48, .indexAddr none 1 (.tmp 46) (.tmp 47), some (45, false)⟩,
       ⟨some 49, .load false 1 (.tmp 48), some (45, false)⟩,
       ⟨some 50, .move (.tmp 1), some (45, false)⟩,
       ⟨some 51, .move (.tmp 6), some (45, false)⟩,
       ⟨some 52, .indexAddr none 1 (.tmp 50) (.tmp 51), some (45, false)⟩,
       ⟨some 53, .load false 1 (.tmp 52), some (45, false)⟩,
       ⟨some 54, .bin .neq .str (.tmp 49) (.tmp 53), some (45, false)⟩,
       ⟨some 55, .pick (.tmp 45) (.const (.bool true)) (.tmp 54), some (40, true)⟩,
       ⟨some 56, .pick (.tmp 40) (.tmp 55) (.const (.bool false)), none⟩] [])
    (.keep [1, 2, 5, 6, 8, 56] [2] (.cond (.tmp 56)
     (.seq (.region [⟨some 57, .buildSlice 1 0 [] [], none⟩,
        ⟨some 58, .move (.tmp 5), none⟩,
        ⟨some 59, .move (.tmp 8), none⟩,
        ⟨some 60, .slice (.slice 1) (.tmp 58) none (some (.tmp 59)) none, none⟩,
        ⟨some 61, .append 1 16 (.tmp 57) (.tmp 60), none⟩,
        ⟨some 9, .move (.tmp 61), none⟩])
     (.keep [1, 2, 5, 6, 8, 9] [2] (.seq (.region [⟨some 62, .move (.tmp 9), none⟩,
        ⟨some 63, .move (.tmp 1), none⟩,
        ⟨some 64, .move (.tmp 6), none⟩,
        ⟨some 65, .indexAddr none 1 (.tmp 63) (.tmp 64), none⟩,
        ⟨some 66, .load false 1 (.tmp 65), none⟩,
        ⟨some 67, .buildSlice 1 1 [(.str [])] [(0, 1, (.tmp 66))], none⟩,
        ⟨some 68, .append 1 16 (.tmp 62) (.tmp 67), none⟩,
        ⟨some 9, .move (.tmp 68), none⟩])
     (.keep [1, 2, 5, 6, 8, 9] [2] (.seq (.region [⟨some 69, .move (.tmp 9), none⟩,
        ⟨some 70, .move (.tmp 5), none⟩,
        ⟨some 71, .move (.tmp 8), none⟩,
        ⟨some 72, .slice (.slice 1) (.tmp 70) (some (.tmp 71)) none none, none⟩,
        ⟨some 73, .append 1 16 (.tmp 69) (.tmp 72), none⟩,
        ⟨some 9, .move (.tmp 73), none⟩])
     (.keep [1, 2, 6, 9] [2] (.region [⟨some 74, .move (.tmp 9), none⟩,
       ⟨some 5, .move (.tmp 74), none⟩])))))))
     (.skip)))))))))))
  (.keep [1, 2, 5, 6] [2] (.region [⟨some 14, .move (.tmp 6), none⟩,
    ⟨some 15, .bin .add .none (.tmp 14) (.const (.int .i64 1)), none⟩,
    ⟨some 6, .move (.tmp 15), none⟩])))))
def F39 : FnIR := ⟨76, 2, [.tmp 4], [2],
  .seq (.region [⟨some 2, .box true 2 (.tmp 0), none⟩,
     ⟨some 4, .move (.const .nils), none⟩])
  (.keep [1, 2] [2] (.seq (.region [⟨some 5, .move (.const .nils), none⟩])
  (.keep [1, 2, 5] [2] (.seq (.seq (.region [⟨some 6, .move (.const (.int .i64 0)), none⟩])
   (.keep [1, 2, 5, 6] [2] (.block 0 (.loop L39_1))))
  (.keep [5] [] (.seq (.region [⟨some 75, .move (.tmp 5), none⟩,
     ⟨some 4, .move (.tmp 75), none⟩])
  (.keep [4] [] (.ret))))))))⟩
/-- wampum/wampumref05.Same -/
def L38_0 : IC :=
  .keep [0, 1, 5] [] (.seq (.seq (.region [⟨some 11, .move (.tmp 5), none⟩,
      ⟨some 12, .move (.tmp 0), none⟩,
      ⟨some 13, .len .slice (.tmp 12), none⟩,
      ⟨some 14, .bin .lss .none (.tmp 11) (.tmp 13), none⟩])
   (.keep [0, 1, 5, 14] [] (.cond (.tmp 14)
    (.skip)
    (.exit 0))))
  (.keep [0, 1, 5] [] (.seq (.block 1 (.seq (.regionD [⟨some 17, .move (.tmp 0), none⟩,
       ⟨some 18, .move (.tmp 5), none⟩,
       ⟨some 19, .indexAddr none 1 (.tmp 17) (.tmp 18), none⟩,
       ⟨some 20, .load false 1 (.tmp 19), none⟩,
       ⟨some 21, .move (.tmp 1), none⟩,
       ⟨some 22, .move (.tmp 5), none⟩,
       ⟨some 23, .indexAddr none 1 (.tmp 21) (.tmp 22), none⟩,
       ⟨some 24, .load false 1 (.tmp 23), none⟩,
       ⟨some 25, .bin .neq .str (.tmp 20) (.tmp 24), none⟩] [])
    (.keep [0, 1, 5, 25] [] (.cond (.tmp 25)
     (.seq (.region [⟨some 4, .move (.const (.bool false)), none⟩])
     (.keep [4] [] (.ret)))
     (.skip)))))
  (.keep [0, 1, 5] [] (.region [⟨some 15, .move (.tmp 5), none⟩,
    ⟨some 16, .bin .add .none (.tmp 15) (.const (.int .i64 1)), none⟩,
    ⟨some 5, .move (.tmp 16), none⟩])))))
def F38 : FnIR := ⟨26, 2, [.tmp 4], [],
  .seq (.region [⟨some 4, .move (.const (.bool false)), none⟩])
  (.keep [0, 1] [] (.seq (.seq (.region [⟨some 6, .move (.tmp 0), none⟩,
      ⟨some 7, .len .slice (.tmp 6), none⟩,
      ⟨some 8, .move (.tmp 1), none⟩,
      ⟨some 9, .len .slice (.tmp 8), none⟩,
      ⟨some 10, .bin .neq .int (.tmp 7) (.tmp 9), none⟩])
   (.keep [0, 1, 10] [] (.cond (.tmp 10)
    (.seq (.region [⟨some 4, .move (.const (.bool false)), none⟩])
    (.keep [4] [] (.ret)))
    (.skip))))
  (.keep [0, 1] [] (.seq (.seq (.region [⟨some 5, .move (.const (.int .i64 0)), none⟩])
   (.keep [0, 1, 5] [] (.block 0 (.loop L38_0))))
  (.keep [] [] (.seq (.region [⟨some 4, .move (.const (.bool true)), none⟩])
  (.keep [4] [] (.ret))))))))⟩
/-- wampum/wampumlaw05.SpanBoth -/
def F9 : FnIR := ⟨136, 3, [.tmp 6], [3, 4, 9, 11, 13],
  .seq (.region [⟨some 3, .box true 2 (.tmp 0), none⟩,
     ⟨some 4, .box true 2 (.tmp 1), none⟩,
     ⟨some 6, .move (.const (.bool false)), none⟩])
  (.keep [2, 3, 4] [3, 4] (.seq (.region [⟨some 16, .load true 2 (.tmp 3), none⟩,
     ⟨some 17, .call (.func 13) [(.tmp 16)], none⟩,
     ⟨some 7, .move (.tmp 17), none⟩])
  (.keep [2, 3, 4, 7] [3, 4] (.seq (.region [⟨some 18, .load true 2 (.tmp 4), none⟩,
     ⟨some 19, .call (.func 13) [(.tmp 18)], none⟩,
     ⟨some 8, .move (.tmp 19), none⟩])
  (.keep [2, 3, 4, 7, 8] [3, 4] (.seq (.seq (.region [⟨some 20, .move (.tmp 7), none⟩,
      ⟨some 21, .un .not (.tmp 20), none⟩,
      ⟨some 22, .move (.tmp 21), none⟩,
      ⟨some 23, .move (.tmp 8), some (22, false)⟩,
      ⟨some 24, .un .not (.tmp 23), some (22, false)⟩,
      ⟨some 25, .pick (.tmp 22) (.const (.bool true)) (.tmp 24), none⟩,
      ⟨some 26, .move (.tmp 25), none⟩,
      ⟨some 27, .move (.tmp 2), some (26, false)⟩,
      ⟨some 28, .len .str (.tmp 27), some (26, false)⟩,
      ⟨some 29, .bin .gtr .none (.tmp 28) (.const (.int .i64 200)), some (26, false)⟩,
      ⟨some 30, .pick (.tmp 26) (.const (.bool true)) (.tmp 29), none⟩])
   (.keep [2, 3, 4, 30] [3, 4] (.cond (.tmp 30)
    (.seq (.region [⟨some 31, .call (.func 28) [], none⟩,
       ⟨some 6, .move (.tmp 31), none⟩])
    (.keep [6] [] (.ret)))
    (.skip))))
  (.keep [2, 3, 4] [3, 4] (.seq (.region [⟨some 33, .load true 2 (.tmp 3), none⟩,
     ⟨some 34, .load true 2 (.tmp 4), none⟩,
     ⟨some 35, .call (.func 29) [(.tmp 33), (.tmp 34)], none⟩,
     ⟨some 32, .move (.tmp 35), none⟩,
     ⟨some 36, .extract (.tmp 32) 0, none⟩,
     ⟨some 37, .extract (.tmp 32) 1, none⟩,
     ⟨some 9, .alloc true 2 [(.str []), (.str [])], none⟩,
     ⟨none, .store 2 (.tmp 9) (.tmp 36), none⟩,
     ⟨some 10, .move (.tmp 37), none⟩])
  (.keep [2, 3, 4, 9, 10] [3, 4, 9] (.seq (.region [⟨some 39, .load true 2 (.tmp 4), none⟩,
     ⟨some 40, .load true 2 (.tmp 3), none⟩,
     ⟨some 41, .call (.func 29) [(.tmp 39), (.tmp 40)], none⟩,
     ⟨some 38, .move (.tmp 41), none⟩,
     ⟨some 42, .extract (.tmp 38) 0, none⟩,
     ⟨some 43, .extract (.tmp 38) 1, none⟩,
     ⟨some 11, .alloc true 2 [(.str []), (.str [])], none⟩,
     ⟨none, .store 2 (.tmp 11) (.tmp 42), none⟩,
     ⟨some 12, .move (.tmp 43), none⟩])
  (.keep [2, 3, 4, 9, 10, 11, 12] [3, 4, 9, 11] (.seq (.seq (.regionD [⟨some 44, .move (.tmp 10), none⟩,
      ⟨some 45, .move (.tmp 12), none⟩,
      ⟨some 46, .bin .neq .bool (.tmp 44) (.tmp 45), none⟩,
      ⟨some 47, .move (.tmp 46), none⟩,
      ⟨some 48, .load true 2 (.tmp 9), some (47, false)⟩,
      ⟨some 49, .load true 2 (.tmp 11), some (47, false)⟩,
      ⟨some 50, .bin .neq (.struct [(0, false, 1, .str), (1, false, 1, .str)]) (.tmp 48) (.tmp 49), some (47, false)⟩,
      ⟨some 51, .pick (.tmp 47) (.const (.bool true)) (.tmp 50), none⟩,
      ⟨some 52, .move (.tmp 51), none⟩,
      ⟨some 54, .load true 2 (.tmp 3), some (52, false)⟩,
      ⟨some 55, .load true 2 (.tmp 4), some (52, false)⟩,
      ⟨some 56, .call (.func 36) [(.tmp 54), (.tmp 55)], some (52, false)⟩,
      ⟨some 53, .move (.tmp 10), some (52, false)⟩,
      ⟨some 57, .bin .neq .bool (.tmp 53) (.tmp 56), some (52, false)⟩,
      ⟨some 58, .pick (.tmp 52) (.const (.bool true)) (.tmp 57), none⟩,
      ⟨some 59, .move (.tmp 58), none⟩,
      ⟨some 60, .load true 2 (.tmp 3), some (59, false)⟩,
      ⟨some 61, .load true 2 (.tmp 4), some (59, false)⟩,
      ⟨some 62, .call (.func 36) [(.tmp 60), (.tmp 61)], some (59, false)⟩,
      ⟨some 63, .load true 2 (.tmp 4), some (59, false)⟩,
      ⟨some 64, .load true 2 (.tmp 3), some (59, false)⟩,
      ⟨some 65, .call (.func 36) [(.tmp 63), (.tmp 64)], some (59, false)⟩,
      ⟨some 66, .bin .neq .bool (.tmp 62) (.tmp 65), some (59, false)⟩,
      ⟨some 67, .pick (.tmp 59) (.const (.bool true)) (.tmp 66), none⟩,
      ⟨some 68, .move (.tmp 67), none⟩,
      ⟨some 69, .move (.tmp 2), some (68, false)⟩,
      ⟨some 70, .call (.func 31) [(.tmp 69)], some (68, false)⟩,
      ⟨some 71, .call (.func 40) [], some (68, false)⟩,
      ⟨some 72, .move (.tmp 2), some (68, false)⟩,
      ⟨some 73, .call (.func 34) [(.tmp 71), (.tmp 72)], some (68, false)⟩,
      ⟨some 74, .bin .neq .bool (.tmp 70) (.tmp 73), some (68, false)⟩,
      ⟨some 75, .pick (.tmp 68) (.const (.bool true)) (.tmp 74), none⟩] [(19, 12), (20, 12)])
   (.keep [2, 3, 4, 9, 10, 75] [3, 4, 9] (.cond (.tmp 75)
    (.seq (.region [⟨some 6, .move (.const (.bool false)), none⟩])
    (.keep [6] [] (.ret)))
    (.skip))))
  (.keep [2, 3, 4, 9, 10] [3, 4, 9] (.seq (.seq (.regionD [⟨some 76, .load true 2 (.tmp 9), none⟩,
      ⟨some 77, .move (.tmp 2), none⟩,
      ⟨some 78, .call (.func 34) [(.tmp 76), (.tmp 77)], none⟩,
      ⟨some 79, .load true 2 (.tmp 3), none⟩,
      ⟨some 80, .move (.tmp 2), none⟩,
      ⟨some 81, .call (.func 34) [(.tmp 79), (.tmp 80)], none⟩,
      ⟨some 82, .move (.tmp 81), none⟩,
      ⟨some 83, .load true 2 (.tmp 4), some (82, true)⟩,
      ⟨some 84, .move (.tmp 2), some (82, true)⟩,
      ⟨some 85, .call (.func 34) [(.tmp 83), (.tmp 84)], some (82, true)⟩,
      ⟨some 86, .pick (.tmp 82) (.tmp 85) (.const (.bool false)), none⟩,
      ⟨some 87, .bin .neq .bool (.tmp 78) (.tmp 86), none⟩] [(3, 0)])
   (.keep [3, 4, 9, 10, 87] [3, 4, 9] (.cond (.tmp 87)
    (.seq (.region [⟨some 6, .move (.const (.bool false)), none⟩])
    (.keep [6] [] (.ret)))
    (.skip))))
  (.keep [3, 4, 9, 10] [3, 4, 9] (.seq (.seq (.region [⟨some 88, .move (.tmp 10), none⟩,
      ⟨some 89, .un .not (.tmp 88), none⟩])
   (.keep [3, 4, 9, 89] [3, 4, 9] (.cond (.tmp 89)
    (.seq (.region [⟨some 90, .call (.func 28) [], none⟩,
       ⟨some 91, .move (.tmp 90), none⟩,
       ⟨some 92, .load true 2 (.tmp 9), some (91, true)⟩,
       ⟨some 93, .build [(.str []), (.str [])] [], some (91, true)⟩,
       ⟨some 94, .bin .eql (.struct [(0, false, 1, .str), (1, false, 1, .str)]) (.tmp 92) (.tmp 93), some (91, true)⟩,
       ⟨some 95, .pick (.tmp 91) (.tmp 94) (.const (.bool false)), none⟩,
       ⟨some 6, .move (.tmp 95), none⟩])
    (.keep [6] [] (.ret)))
    (.skip))))
  (.keep [3, 4, 9] [3, 4, 9] (.seq (.region [⟨some 97, .load true 2 (.tmp 9), none⟩,
     ⟨some 98, .load true 2 (.tmp 3), none⟩,
     ⟨some 99, .call (.func 29) [(.tmp 97), (.tmp 98)], none⟩,
     ⟨some 96, .move (.tmp 99), none⟩,
     ⟨some 100, .extract (.tmp 96) 0, none⟩,
     ⟨some 101, .extract (.tmp 96) 1, none⟩,
     ⟨some 13, .alloc true 2 [(.str []), (.str [])], none⟩,
     ⟨none, .store 2 (.tmp 13) (.tmp 100), none⟩,
     ⟨some 14, .move (.tmp 101), none⟩])
  (.keep [3, 4, 9, 13, 14] [3, 4, 9, 13] (.seq (.region [⟨some 102, .fieldAddr 0 (.tmp 3), none⟩,
     ⟨some 103, .load false 1 (.tmp 102), none⟩,
     ⟨some 104, .fieldAddr 0 (.tmp 4), none⟩,
     ⟨some 105, .load false 1 (.tmp 104), none⟩,
     ⟨some 106, .maxs (.tmp 103) [(.tmp 105)], none⟩,
     ⟨some 15, .move (.tmp 106), none⟩])
  (.keep [3, 4, 9, 13, 14, 15] [3, 4, 9, 13] (.seq (.region [⟨some 107, .call (.func 28) [], none⟩,
     ⟨some 108, .move (.tmp 107), none⟩,
     ⟨some 109, .load true 2 (.tmp 9), some (108, true)⟩,
     ⟨some 110, .call (.func 33) [(.tmp 109)], some (108, true)⟩,
     ⟨some 111, .pick (.tmp 108) (.tmp 110) (.const (.bool false)), none⟩,
     ⟨some 112, .move (.tmp 111), none⟩,
     ⟨some 113, .move (.tmp 14), some (112, true)⟩,
     ⟨some 114, .pick (.tmp 112) (.tmp 113) (.const (.bool false)), none⟩,
     ⟨some 115, .move (.tmp 114), none⟩,
     ⟨some 116, .load true 2 (.tmp 13), some (115, true)⟩,
     ⟨some 117, .load true 2 (.tmp 9), some (115, true)⟩,
     ⟨some 118, .bin .eql (.struct [(0, false, 1, .str), (1, false, 1, .str)]) (.tmp 116) (.tmp 117), some (115, true)⟩,
     ⟨some 119, .pick (.tmp 115) (.tmp 118) (.const (.bool false)), none⟩,
     ⟨some 120, .move (.tmp 119), none⟩,
     ⟨some 121, .fieldAddr 0 (.tmp 9), some (120, true)⟩,
     ⟨some 122, .load false 1 (.tmp 121), some (120, true)⟩,
     ⟨some 123, .move (.tmp 15), some (120, true)⟩,
     ⟨some 124, .bin .eql .str (.tmp 122) (.tmp 123), some (120, true)⟩,
     ⟨some 125, .pick (.tmp 120) (.tmp 124) (.const (.bool false)), none⟩,
     ⟨some 126, .move (.tmp 125), none⟩,
     ⟨some 127, .load true 2 (.tmp 3), some (126, true)⟩,
     ⟨some 128, .move (.tmp 15), some (126, true)⟩,
     ⟨some 129, .call (.func 34) [(.tmp 127), (.tmp 128)], some (126, true)⟩,
     ⟨some 130, .pick (.tmp 126) (.tmp 129) (.const (.bool false)), none⟩,
     ⟨some 131, .move (.tmp 130), none⟩,
     ⟨some 132, .load true 2 (.tmp 4), some (131, true)⟩,
     ⟨some 133, .move (.tmp 15), some (131, true)⟩,
     ⟨some 134, .call (.func 34) [(.tmp 132), (.tmp 133)], some (131, true)⟩,
     ⟨some 135, .pick (.tmp 131) (.tmp 134) (.const (.bool false)), none⟩,
     ⟨some 6, .move (.tmp 135), none⟩])
  (.keep [6] [] (.ret))))))))))))))))))))))))⟩
/-- wampum/wampumlaw05.SpanParts -/
def F10 : FnIR := ⟨105, 3, [.tmp 6], [3, 8, 9, 12],
  .seq (.region [⟨some 3, .box true 2 (.tmp 0), none⟩,
     ⟨some 6, .move (.const (.bool false)), none⟩])
  (.keep [1, 2, 3] [3] (.seq (.region [⟨some 14, .load true 2 (.tmp 3), none⟩,
     ⟨some 15, .call (.func 13) [(.tmp 14)], none⟩,
     ⟨some 7, .move (.tmp 15), none⟩])
  (.keep [1, 2, 3, 7] [3] (.seq (.seq (.region [⟨some 16, .move (.tmp 7), none⟩,
      ⟨some 17, .un .not (.tmp 16), none⟩,
      ⟨some 18, .move (.tmp 17), none⟩,
      ⟨some 19, .move (.tmp 1), some (18, false)⟩,
      ⟨some 20, .len .str (.tmp 19), some (18, false)⟩,
      ⟨some 21, .bin .gtr .none (.tmp 20) (.const (.int .i64 200)), some (18, false)⟩,
      ⟨some 22, .pick (.tmp 18) (.const (.bool true)) (.tmp 21), none⟩,
      ⟨some 23, .move (.tmp 22), none⟩,
      ⟨some 24, .move (.tmp 2), some (23, false)⟩,
      ⟨some 25, .len .str (.tmp 24), some (23, false)⟩,
      ⟨some 26, .bin .gtr .none (.tmp 25) (.const (.int .i64 200)), some (23, false)⟩,
      ⟨some 27, .pick (.tmp 23) (.const (.bool true)) (.tmp 26), none⟩,
      ⟨some 28, .move (.tmp 27), none⟩,
      ⟨some 29, .fieldAddr 1 (.tmp 3), some (28, false)⟩,
      ⟨some 30, .load false 1 (.tmp 29), some (28, false)⟩,
      ⟨some 31, .bin .eql .str (.tmp 30) (.const (.str [])), some (28, false)⟩,
      ⟨some 32, .pick (.tmp 28) (.const (.bool true)) (.tmp 31), none⟩,
      ⟨some 33, .move (.tmp 32), none⟩,
      ⟨some 34, .load true 2 (.tmp 3), some (33, false)⟩,
      ⟨some 35, .move (.tmp 1), some (33, false)⟩,
      ⟨some 36, .call (.func 34) [(.tmp 34), (.tmp 35)], some (33, false)⟩,
      ⟨some 37, .un .not (.tmp 36), some (33, false)⟩,
      ⟨some 38, .pick (.tmp 33) (.const (.bool true)) (.tmp 37), none⟩,
      ⟨some 39, .move (.tmp 38), none⟩,
      ⟨some 40, .move (.tmp 1), some (39, false)⟩,
      ⟨some 41, .fieldAddr 0 (.tmp 3), some (39, false)⟩,
      ⟨some 42, .load false 1 (.tmp 41), some (39, false)⟩,
      ⟨some 43, .bin .eql .str (.tmp 40) (.tmp 42), some (39, false)⟩,
      ⟨some 44, .pick (.tmp 39) (.const (.bool true)) (.tmp 43), none⟩])
   (.keep [1, 2, 3, 44] [3] (.cond (.tmp 44)
    (.seq (.region [⟨some 45, .call (.func 28) [], none⟩,
       ⟨some 6, .move (.tmp 45), none⟩])
    (.keep [6] [] (.ret)))
    (.skip))))
  (.keep [1, 2, 3] [3] (.seq (.region [⟨some 46, .fieldAddr 0 (.tmp 3), none⟩,
     ⟨some 47, .load false 1 (.tmp 46), none⟩,
     ⟨some 48, .move (.tmp 1), none⟩,
     ⟨some 49, .build [(.str []), (.str [])] [(0, 1, (.tmp 47)), (1, 1, (.tmp 48))], none⟩,
     ⟨some 8, .alloc true 2 [(.str []), (.str [])], none⟩,
     ⟨none, .store 2 (.tmp 8) (.tmp 49), none⟩])
  (.keep [1, 2, 3, 8] [3, 8] (.seq (.region [⟨some 50, .move (.tmp 1), none⟩,
     ⟨some 51, .fieldAddr 1 (.tmp 3), none⟩,
     ⟨some 52, .load false 1 (.tmp 51), none⟩,
     ⟨some 53, .build [(.str []), (.str [])] [(0, 1, (.tmp 50)), (1, 1, (.tmp 52))], none⟩,
     ⟨some 9, .alloc true 2 [(.str []), (.str [])], none⟩,
     ⟨none, .store 2 (.tmp 9) (.tmp 53), none⟩])
  (.keep [2, 3, 8, 9] [3, 8, 9] (.seq (.region [⟨some 54, .load true 2 (.tmp 8), none⟩,
     ⟨some 55, .move (.tmp 2), none⟩,
     ⟨some 56, .call (.func 34) [(.tmp 54), (.tmp 55)], none⟩,
     ⟨some 10, .move (.tmp 56), none⟩])
  (.keep [2, 3, 8, 9, 10] [3, 8, 9] (.seq (.region [⟨some 57, .load true 2 (.tmp 9), none⟩,
     ⟨some 58, .move (.tmp 2), none⟩,
     ⟨some 59, .call (.func 34) [(.tmp 57), (.tmp 58)], none⟩,
     ⟨some 11, .move (.tmp 59), none⟩])
  (.keep [2, 3, 8, 9, 10, 11] [3, 8, 9] (.seq (.region [⟨some 61, .load true 2 (.tmp 8), none⟩,
     ⟨some 62, .load true 2 (.tmp 3), none⟩,
     ⟨some 63, .call (.func 29) [(.tmp 61), (.tmp 62)], none⟩,
     ⟨some 60, .move (.tmp 63), none⟩,
     ⟨some 64, .extract (.tmp 60) 0, none⟩,
     ⟨some 65, .extract (.tmp 60) 1, none⟩,
     ⟨some 12, .alloc true 2 [(.str []), (.str [])], none⟩,
     ⟨none, .store 2 (.tmp 12) (.tmp 64), none⟩,
     ⟨some 13, .move (.tmp 65), none⟩])
  (.keep [2, 3, 8, 9, 10, 11, 12, 13] [3, 8, 9, 12] (.seq (.region [⟨some 66, .call (.func 28) [], none⟩,
     ⟨some 67, .move (.tmp 66), none⟩,
     ⟨some 68, .load true 2 (.tmp 8), some (67, true)⟩,
     ⟨some 69, .call (.func 33) [(.tmp 68)], some (67, true)⟩,
     ⟨some 70, .pick (.tmp 67) (.tmp 69) (.const (.bool false)), none⟩,
     ⟨some 71, .move (.tmp 70), none⟩,
     ⟨some 72, .load true 2 (.tmp 9), some (71, true)⟩,
     ⟨some 73, .call (.func 33) [(.tmp 72)], some (71, true)⟩,
     ⟨some 74, .pick (.tmp 71) (.tmp 73) (.const (.bool false)), none⟩,
     ⟨some 75, .move (.tmp 74), none⟩,
     ⟨some 76, .load true 2 (.tmp 8), some (75, true)⟩,
     ⟨some 77, .load true 2 (.tmp 9), some (75, true)⟩,
     ⟨some 78, .call (.func 36) [(.tmp 76), (.tmp 77)], some (75, true)⟩,
     ⟨some 79, .un .not (.tmp 78), some (75, true)⟩,
     ⟨some 80, .pick (.tmp 75) (.tmp 79) (.const (.bool false)), none⟩,
     ⟨some 81, .move (.tmp 80), none⟩,
     ⟨some 82, .load true 2 (.tmp 3), some (81, true)⟩,
     ⟨some 83, .move (.tmp 2), some (81, true)⟩,
     ⟨some 84, .call (.func 34) [(.tmp 82), (.tmp 83)], some (81, true)⟩,
     ⟨some 85, .move (.tmp 10), some (81, true)⟩,
     ⟨some 86, .move (.tmp 11), some (81, true)⟩,
     ⟨some 87, .bin .neq .bool (.tmp 85) (.tmp 86), some (81, true)⟩,
     ⟨some 88, .bin .eql .bool (.tmp 84) (.tmp 87), some (81, true)⟩,
     ⟨some 89, .pick (.tmp 81) (.tmp 88) (.const (.bool false)), none⟩,
     ⟨some 90, .move (.tmp 89), none⟩,
     ⟨some 91, .move (.tmp 10), some (90, true)⟩,
     ⟨some 92, .move (.tmp 91), some (90, true)⟩,
     ⟨some 93, .move (.tmp 11), some (92, true)⟩,
     ⟨some 94, .pick (.tmp 92) (.tmp 93) (.const (.bool false)), some (90, true)⟩,
     ⟨some 95, .un .not (.tmp 94), some (90, true)⟩,
     ⟨some 96, .pick (.tmp 90) (.tmp 95) (.const (.bool false)), none⟩,
     ⟨some 97, .move (.tmp 96), none⟩,
     ⟨some 98, .move (.tmp 13), some (97, true)⟩,
     ⟨some 99, .pick (.tmp 97) (.tmp 98) (.const (.bool false)), none⟩,
     ⟨some 100, .move (.tmp 99), none⟩,
     ⟨some 101, .load true 2 (.tmp 12), some (100, true)⟩,
     ⟨some 102, .load true 2 (.tmp 8), some (100, true)⟩,
     ⟨some 103, .bin .eql (.struct [(0, false, 1, .str), (1, false, 1, .str)]) (.tmp 101) (.tmp 102), some (100, true)⟩,
     ⟨some 104, .pick (.tmp 100) (.tmp 103) (.const (.bool false)), none⟩,
     ⟨some 6, .move (.tmp 104), none⟩])
  (.keep [6] [] (.ret))))))))))))))))))⟩
/-- wampum/wampumlaw05.SpanMeets -/
def F11 : FnIR := ⟨77, 3, [.tmp 6], [3, 4, 9, 10],
  .seq (.region [⟨some 3, .box true 2 (.tmp 0), none⟩,
     ⟨some 4, .box true 2 (.tmp 1), none⟩,
     ⟨some 6, .move (.const (.bool false)), none⟩])
  (.keep [2, 3, 4] [3, 4] (.seq (.region [⟨some 13, .load true 2 (.tmp 3), none⟩,
     ⟨some 14, .call (.func 13) [(.tmp 13)], none⟩,
     ⟨some 7, .move (.tmp 14), none⟩])
  (.keep [2, 3, 4, 7] [3, 4] (.seq (.region [⟨some 15, .load true 2 (.tmp 4), none⟩,
     ⟨some 16, .call (.func 13) [(.tmp 15)], none⟩,
     ⟨some 8, .move (.tmp 16), none⟩])
  (.keep [2, 3, 4, 7, 8] [3, 4] (.seq (.seq (.region [⟨some 17, .move (.tmp 7), none⟩,
      ⟨some 18, .un .not (.tmp 17), none⟩,
      ⟨some 19, .move (.tmp 18), none⟩,
      ⟨some 20, .move (.tmp 8), some (19, false)⟩,
      ⟨some 21, .un .not (.tmp 20), some (19, false)⟩,
      ⟨some 22, .pick (.tmp 19) (.const (.bool true)) (.tmp 21), none⟩,
      ⟨some 23, .move (.tmp 22), none⟩,
      ⟨some 24, .move (.tmp 2), some (23, false)⟩,
      ⟨some 25, .len .str (.tmp 24), some (23, false)⟩,
      ⟨some 26, .bin .gtr .none (.tmp 25) (.const (.int .i64 200)), some (23, false)⟩,
      ⟨some 27, .pick (.tmp 23) (.const (.bool true)) (.tmp 26), none⟩])
   (.keep [2, 3, 4, 27] [3, 4] (.cond (.tmp 27)
    (.seq (.region [⟨some 28, .call (.func 28) [], none⟩,
       ⟨some 6, .move (.tmp 28), none⟩])
    (.keep [6] [] (.ret)))
    (.skip))))
  (.keep [2, 3, 4] [3, 4] (.seq (.region [⟨some 29, .move (.tmp 2), none⟩,
     ⟨some 30, .build [(.str []), (.str [])] [(0, 1, (.tmp 29))], none⟩,
     ⟨some 9, .alloc true 2 [(.str []), (.str [])], none⟩,
     ⟨none, .store 2 (.tmp 9) (.tmp 30), none⟩])
  (.keep [2, 3, 4, 9] [3, 4, 9] (.seq (.region [⟨some 32, .load true 2 (.tmp 3), none⟩,
     ⟨some 33, .load true 2 (.tmp 4), none⟩,
     ⟨some 34, .call (.func 29) [(.tmp 32), (.tmp 33)], none⟩,
     ⟨some 31, .move (.tmp 34), none⟩,
     ⟨some 35, .extract (.tmp 31) 0, none⟩,
     ⟨some 36, .extract (.tmp 31) 1, none⟩,
     ⟨some 10, .alloc true 2 [(.str []), (.str [])], none⟩,
     ⟨none, .store 2 (.tmp 10) (.tmp 35), none⟩,
     ⟨some 11, .move (.tmp 36), none⟩])
  (.keep [2, 3, 4, 9, 10, 11] [3, 4, 9, 10] (.seq (.region [⟨some 37, .load true 2 (.tmp 3), none⟩,
     ⟨some 38, .call (.func 33) [(.tmp 37)], none⟩,
     ⟨some 12, .move (.tmp 38), none⟩])
  (.keep [2, 3, 4, 9, 10, 11, 12] [3, 4, 9, 10] (.seq (.regionD [⟨some 39, .call (.func 28) [], none⟩,
     ⟨some 40, .move (.tmp 39), none⟩,
     ⟨some 41, .load true 2 (.tmp 9), some (40, true)⟩,
     ⟨some 42, .load true 2 (.tmp 3), some (40, true)⟩,
     ⟨some 43, .call (.func 36) [(.tmp 41), (.tmp 42)], some (40, true)⟩,
     ⟨some 44, .load true 2 (.tmp 3), some (40, true)⟩,
     ⟨some 45, .move (.tmp 2), some (40, true)⟩,
     ⟨some 46, .call (.func 34) [(.tmp 44), (.tmp 45)], some (40, true)⟩,
     ⟨some 47, .bin .eql .bool (.tmp 43) (.tmp 46), some (40, true)⟩,
     ⟨some 48, .pick (.tmp 40) (.tmp 47) (.const (.bool false)), none⟩,
     ⟨some 49, .move (.tmp 48), none⟩,
     ⟨some 50, .load true 2 (.tmp 3), some (49, true)⟩,
     ⟨some 51, .load true 2 (.tmp 3), some (49, true)⟩,
     ⟨some 52, .call (.func 36) [(.tmp 50), (.tmp 51)], some (49, true)⟩,
     ⟨some 53, .move (.tmp 12), some (49, true)⟩,
     ⟨some 54, .bin .eql .bool (.tmp 52) (.tmp 53), some (49, true)⟩,
     ⟨some 55, .pick (.tmp 49) (.tmp 54) (.const (.bool false)), none⟩,
     ⟨some 56, .move (.tmp 55), none⟩,
     ⟨some 58, .call (.func 40) [], some (56, true)⟩,
     ⟨some 57, .load true 2 (.tmp 3), some (56, true)⟩,
     ⟨some 59, .call (.func 36) [(.tmp 57), (.tmp 58)], some (56, true)⟩,
     ⟨some 60, .move (.tmp 12), some (56, true)⟩,
     ⟨some 61, .bin .eql .bool (.tmp 59) (.tmp 60), some (56, true)⟩,
     ⟨some 62, .pick (.tmp 56) (.tmp 61) (.const (.bool false)), none⟩,
     ⟨some 63, .move (.tmp 62), none⟩,
     ⟨some 64, .move (.tmp 11), some (63, true)⟩,
     ⟨some 65, .un .not (.tmp 64), some (63, true)⟩,
     ⟨some 66, .move (.tmp 65), some (63, true)⟩,
     ⟨some 67, .load true 2 (.tmp 10), some (66, false)⟩,
     ⟨some 68, .load true 2 (.tmp 3), some (66, false)⟩,
     ⟨some 69, .call (.func 36) [(.tmp 67), (.tmp 68)], some (66, false)⟩,
     ⟨some 70, .move (.tmp 69), some (66, false)⟩,
     ⟨some 71, .load true 2 (.tmp 10), some (70, true)⟩,
     ⟨some 72, .load true 2 (.tmp 4), some (70, true)⟩,
     ⟨some 73, .call (.func 36) [(.tmp 71), (.tmp 72)], some (70, true)⟩,
     ⟨some 74, .pick (.tmp 70) (.tmp 73) (.const (.bool false)), some (66, false)⟩,
     ⟨some 75, .pick (.tmp 66) (.const (.bool true)) (.tmp 74), some (63, true)⟩,
     ⟨some 76, .pick (.tmp 63) (.tmp 75) (.const (.bool false)), none⟩,
     ⟨some 6, .move (.tmp 76), none⟩] [(5, 1), (19, 14)])
  (.keep [6] [] (.ret))))))))))))))))⟩
/-- wampum/wampumlaw05.SpanListed -/
def L12_0 : IC :=
  .keep [1, 2, 6] [2] (.seq (.seq (.region [⟨some 24, .move (.tmp 6), none⟩,
      ⟨some 25, .move (.tmp 1), none⟩,
      ⟨some 26, .len .slice (.tmp 25), none⟩,
      ⟨some 27, .bin .lss .none (.tmp 24) (.tmp 26), none⟩])
   (.keep [1, 2, 6, 27] [2] (.cond (.tmp 27)
    (.skip)
    (.exit 0))))
  (.keep [1, 2, 6] [2] (.seq (.block 1 (.seq (.region [⟨some 30, .move (.tmp 1), none⟩,
       ⟨some 31, .move (.tmp 6), none⟩,
       ⟨some 32, .indexAddr none 1 (.tmp 30) (.tmp 31), none⟩,
       ⟨some 33, .load false 1 (.tmp 32), none⟩,
       ⟨some 34, .len .str (.tmp 33), none⟩,
       ⟨some 35, .bin .gtr .none (.tmp 34) (.const (.int .i64 200)), none⟩])
    (.keep [1, 2, 6, 35] [2] (.cond (.tmp 35)
     (.seq (.region [⟨some 36, .call (.func 28) [], none⟩,
        ⟨some 4, .move (.tmp 36), none⟩])
     (.keep [4] [] (.ret)))
     (.skip)))))
  (.keep [1, 2, 6] [2] (.region [⟨some 28, .move (.tmp 6), none⟩,
    ⟨some 29, .bin .add .none (.tmp 28) (.const (.int .i64 1)), none⟩,
    ⟨some 6, .move (.tmp 29), none⟩])))))
def L12_1 : IC :=
  .keep [1, 2, 7, 8, 9, 10] [2] (.seq (.seq (.region [⟨some 46, .move (.tmp 10), none⟩,
      ⟨some 47, .move (.tmp 1), none⟩,
      ⟨some 48, .len .slice (.tmp 47), none⟩,
      ⟨some 49, .bin .lss .none (.tmp 46) (.tmp 48), none⟩])
   (.keep [1, 2, 7, 8, 9, 10, 49] [2] (.cond (.tmp 49)
    (.skip)
    (.exit 4))))
  (.keep [1, 2, 7, 8, 9, 10] [2] (.seq (.block 5 (.regionD [⟨some 52, .move (.tmp 9), none⟩,
      ⟨some 53, .move (.tmp 52), none⟩,
      ⟨some 54, .move (.tmp 1), some (53, false)⟩,
      ⟨some 55, .move (.tmp 10), some (53, false)⟩,
      ⟨some 56, .indexAddr none 1 (.tmp 54) (.tmp 55), some (53, false)⟩,
      ⟨some 57, .load false 1 (.tmp 56), some (53, false)⟩,
      ⟨some 58, .move (.tmp 7), some (53, false)⟩,
      ⟨some 59, .move (.tmp 8), some (53, false)⟩,
      ⟨some 60, .indexAddr none 1 (.tmp 58) (.tmp 59), some (53, false)⟩,
      ⟨some 61, .load false 1 (.tmp 60), some (53, false)⟩,
      ⟨some 62, .bin .eql .str (.tmp 57) (.tmp 61), some (53, false)⟩,
      ⟨some 63, .pick (.tmp 53) (.const (.bool true)) (.tmp 62), none⟩,
      ⟨some 9, .move (.tmp 63), none⟩] []))
  (.keep [1, 2, 7, 8, 9, 10] [2] (.region [⟨some 50, .move (.tmp 10), none⟩,
    ⟨some 51, .bin .add .none (.tmp 50) (.const (.int .i64 1)), none⟩,
    ⟨some 10, .move (.tmp 51), none⟩])))))
def L12_2 : IC :=
  .keep [1, 2, 7, 8] [2] (.seq (.seq (.region [⟨some 40, .move (.tmp 8), none⟩,
      ⟨some 41, .move (.tmp 7), none⟩,
      ⟨some 42, .len .slice (.tmp 41), none⟩,
      ⟨some 43, .bin .lss .none (.tmp 40) (.tmp 42), none⟩])
   (.keep [1, 2, 7, 8, 43] [2] (.cond (.tmp 43)
    (.skip)
    (.exit 2))))
  (.keep [1, 2, 7, 8] [2] (.seq (.block 3 (.seq (.region [⟨some 9, .move (.const (.bool false)), none⟩])
    (.keep [1, 2, 7, 8, 9] [2] (.seq (.seq (.region [⟨some 10, .move (.const (.int .i64 0)), none⟩])
     (.keep [1, 2, 7, 8, 9, 10] [2] (.block 4 (.loop L12_1))))
    (.keep [1, 2, 7, 8, 9] [2] (.seq (.regionD [⟨some 64, .move (.tmp 9), none⟩,
       ⟨some 65, .un .not (.tmp 64), none⟩,
       ⟨some 66, .move (.tmp 65), none⟩,
       ⟨some 67, .load true 2 (.tmp 2), some (66, false)⟩,
       ⟨some 68, .move (.tmp 7), some (66, false)⟩,
       ⟨some 69, .move (.tmp 8), some (66, false)⟩,
       ⟨some 70, .indexAddr none 1 (.tmp 68) (.tmp 69), some (66, false)⟩,
       ⟨some 71, .load false 1 (.tmp 70), some (66, false)⟩,
       ⟨some 72, .call (.func 34) [(.tmp 67), (.tmp 71)], some (66, false)⟩,
       ⟨some 73, .un .not (.tmp 72), some (66, false)⟩,
       ⟨some 74, .pick (.tmp 66) (.const (.bool true)) (.tmp 73), none⟩,
       ⟨some 75, .move (.tmp 74), none⟩,
       ⟨some 76, .move (.tmp 8), some (75, false)⟩,
       ⟨some 77, .bin .gtr .none (.tmp 76) (.const (.int .i64 0)), some (75, false)⟩,
       ⟨some 78, .move (.tmp 77), some (75, false)⟩,
       ⟨some 79, .move (.tmp 7), some (78, true)⟩,
       ⟨some 80, .move (.tmp 8), some (78, true)⟩,
       ⟨some 81, .indexAddr none 1 (.tmp 79) (.tmp 80), some (78, true)⟩,
       ⟨some 82, .load false 1 (.tmp 81), some (78, true)⟩,
       ⟨some 83, .move (.tmp 7), some (78, true)⟩,
       ⟨some 84, .move (.tmp 8), some (78, true)⟩,
       ⟨some 85, .bin .sub .none (.tmp 84) (.const (.int .i64 1)), some (78, true)⟩,
       ⟨some 86, .indexAddr none 1 (.tmp 83) (.tmp 85), some (78, true)⟩,
       ⟨some 87, .load false 1 (.tmp 86), some (78, true)⟩,
       ⟨some 88, .bin .leq .none (.tmp 82) (.tmp 87), some (78, true)⟩,
       ⟨some 89, .pick (.tmp 78) (.tmp 88) (.const (.bool false)), some (75, false)⟩,
       ⟨some 90, .pick (.tmp 75) (.const (.bool true)) (.tmp 89), none⟩] [])
    (.keep [1, 2, 7, 8, 90] [2] (.cond (.tmp 90)
     (.seq (.region [⟨some 4, .move (.const (.bool false)), none⟩])
     (.keep [4] [] (.ret)))
     (.skip)))))))))
  (.keep [1, 2, 7, 8] [2] (.region [⟨some 44, .move (.tmp 8), none⟩,
    ⟨some 45, .bin .add .none (.tmp 44) (.const (.int .i64 1)), none⟩,
    ⟨some 8, .move (.tmp 45), none⟩])))))
def L12_3 : IC :=
  .keep [1, 2, 7, 11, 12, 13] [2] (.seq (.seq (.region [⟨some 97, .move (.tmp 13), none⟩,
      ⟨some 98, .move (.tmp 7), none⟩,
      ⟨some 99, .len .slice (.tmp 98), none⟩,
      ⟨some 100, .bin .lss .none (.tmp 97) (.tmp 99), none⟩])
   (.keep [1, 2, 7, 11, 12, 13, 100] [2] (.cond (.tmp 100)
    (.skip)
    (.exit 8))))
  (.keep [1, 2, 7, 11, 12, 13] [2] (.seq (.block 9 (.regionD [⟨some 103, .move (.tmp 12), none⟩,
      ⟨some 104, .move (.tmp 103), none⟩,
      ⟨some 105, .move (.tmp 1), some (104, false)⟩,
      ⟨some 106, .move (.tmp 11), some (104, false)⟩,
      ⟨some 107, .indexAddr none 1 (.tmp 105) (.tmp 106), some (104, false)⟩,
      ⟨some 108, .load false 1 (.tmp 107), some (104, false)⟩,
      ⟨some 109, .move (.tmp 7), some (104, false)⟩,
      ⟨some 110, .move (.tmp 13), some (104, false)⟩,
      ⟨some 111, .indexAddr none 1 (.tmp 109) (.tmp 110), some (104, false)⟩,
      ⟨some 112, .load false 1 (.tmp 111), some (104, false)⟩,
      ⟨some 113, .bin .eql .str (.tmp 108) (.tmp 112), some (104, false)⟩,
      ⟨some 114, .pick (.tmp 104) (.const (.bool true)) (.tmp 113), none⟩,
      ⟨some 12, .move (.tmp 114), none⟩] []))
  (.keep [1, 2, 7, 11, 12, 13] [2] (.region [⟨some 101, .move (.tmp 13), none⟩,
    ⟨some 102, .bin .add .none (.tmp 101) (.const (.int .i64 1)), none⟩,
    ⟨some 13, .move (.tmp 102), none⟩])))))
def L12_4 : IC :=
  .keep [1, 2, 7, 11] [2] (.seq (.seq (.region [⟨some 91, .move (.tmp 11), none⟩,
      ⟨some 92, .move (.tmp 1), none⟩,
      ⟨some 93, .len .slice (.tmp 92), none⟩,
      ⟨some 94, .bin .lss .none (.tmp 91) (.tmp 93), none⟩])
   (.keep [1, 2, 7, 11, 94] [2] (.cond (.tmp 94)
    (.skip)
    (.exit 6))))
  (.keep [1, 2, 7, 11] [2] (.seq (.block 7 (.seq (.region [⟨some 12, .move (.const (.bool false)), none⟩])
    (.keep [1, 2, 7, 11, 12] [2] (.seq (.seq (.region [⟨some 13, .move (.const (.int .i64 0)), none⟩])
     (.keep [1, 2, 7, 11, 12, 13] [2] (.block 8 (.loop L12_3))))
    (.keep [1, 2, 7, 11, 12] [2] (.seq (.regionD [⟨some 116, .load true 2 (.tmp 2), none⟩,
       ⟨some 117, .move (.tmp 1), none⟩,
       ⟨some 118, .move (.tmp 11), none⟩,
       ⟨some 119, .indexAddr none 1 (.tmp 117) (.tmp 118), none⟩,
       ⟨some 120, .load false 1 (.tmp 119), none⟩,
       ⟨some 121, .call (.func 34) [(.tmp 116), (.tmp 120)], none⟩,
       ⟨some 115, .move (.tmp 12), none⟩,
       ⟨some 122, .bin .neq .bool (.tmp 115) (.tmp 121), none⟩] [])
    (.keep [1, 2, 7, 11, 122] [2] (.cond (.tmp 122)
     (.seq (.region [⟨some 4, .move (.const (.bool false)), none⟩])
     (.keep [4] [] (.ret)))
     (.skip)))))))))
  (.keep [1, 2, 7, 11] [2] (.region [⟨some 95, .move (.tmp 11), none⟩,
    ⟨some 96, .bin .add .none (.tmp 95) (.const (.int .i64 1)), none⟩,
    ⟨some 11, .move (.tmp 96), none⟩])))))
def F12 : FnIR := ⟨131, 2, [.tmp 4], [2],
  .seq (.region [⟨some 2, .box true 2 (.tmp 0), none⟩,
     ⟨some 4, .move (.const (.bool false)), none⟩])
  (.keep [1, 2] [2] (.seq (.region [⟨some 14, .load true 2 (.tmp 2), none⟩,
     ⟨some 15, .call (.func 13) [(.tmp 14)], none⟩,
     ⟨some 5, .move (.tmp 15), none⟩])
  (.keep [1, 2, 5] [2] (.seq (.seq (.region [⟨some 16, .move (.tmp 5), none⟩,
      ⟨some 17, .un .not (.tmp 16), none⟩,
      ⟨some 18, .move (.tmp 17), none⟩,
      ⟨some 19, .move (.tmp 1), some (18, false)⟩,
      ⟨some 20, .len .slice (.tmp 19), some (18, false)⟩,
      ⟨some 21, .bin .gtr .none (.tmp 20) (.const (.int .i64 40)), some (18, false)⟩,
      ⟨some 22, .pick (.tmp 18) (.const (.bool true)) (.tmp 21), none⟩])
   (.keep [1, 2, 22] [2] (.cond (.tmp 22)
    (.seq (.region [⟨some 23, .call (.func 28) [], none⟩,
       ⟨some 4, .move (.tmp 23), none⟩])
    (.keep [4] [] (.ret)))
    (.skip))))
  (.keep [1, 2] [2] (.seq (.seq (.region [⟨some 6, .move (.const (.int .i64 0)), none⟩])
   (.keep [1, 2, 6] [2] (.block 0 (.loop L12_0))))
  (.keep [1, 2] [2] (.seq (.region [⟨some 37, .load true 2 (.tmp 2), none⟩,
     ⟨some 38, .move (.tmp 1), none⟩,
     ⟨some 39, .call (.func 37) [(.tmp 37), (.tmp 38)], none⟩,
     ⟨some 7, .move (.tmp 39), none⟩])
  (.keep [1, 2, 7] [2] (.seq (.seq (.region [⟨some 8, .move (.const (.int .i64 0)), none⟩])
   (.keep [1, 2, 7, 8] [2] (.block 2 (.loop L12_2))))
  (.keep [1, 2, 7] [2] (.seq (.seq (.region [⟨some 11, .move (.const (.int .i64 0)), none⟩])
   (.keep [1, 2, 7, 11] [2] (.block 6 (.loop L12_4))))
  (.keep [2, 7] [2] (.seq (.region [⟨some 123, .call (.func 28) [], none⟩,
     ⟨some 124, .move (.tmp 123), none⟩,
     ⟨some 125, .load true 2 (.tmp 2), some (124, true)⟩,
     ⟨some 126, .move (.tmp 7), some (124, true)⟩,
     ⟨some 127, .call (.func 37) [(.tmp 125), (.tmp 126)], some (124, true)⟩,
     ⟨some 128, .move (.tmp 7), some (124, true)⟩,
     ⟨some 129, .call (.func 38) [(.tmp 127), (.tmp 128)], some (124, true)⟩,
     ⟨some 130, .pick (.tmp 124) (.tmp 129) (.const (.bool false)), none⟩,
     ⟨some 4, .move (.tmp 130), none⟩])
  (.keep [4] [] (.ret))))))))))))))))⟩
def table : List (Nat × FnDef) := [(7, .ir F7), (13, .ir F13), (28, .ir F28), (29, .ir F29), (36, .ir F36), (33, .ir F33), (31, .ir F31), (34, .ir F34), (40, .ir F40), (37, .ir F37), (50, .ir F50), (51, .ir F51), (49, .ir F49), (62, .ir F62), (52, .prim sortG), (53, .ir F53), (30, .ir F30), (17, .ir F17), (35, .ir F35), (15, .ir F15), (32, .ir F32), (8, .ir F8), (39, .ir F39), (38, .ir F38), (9, .ir F9), (10, .ir F10), (11, .ir F11), (12, .ir F12)]
def T : FuncId → Option FnDef := fun f => Go.Wam.look f table
theorem T7 : T 7 = some (.ir F7) := rfl
theorem T13 : T 13 = some (.ir F13) := rfl
theorem T28 : T 28 = some (.ir F28) := rfl
theorem T29 : T 29 = some (.ir F29) := rfl
theorem T36 : T 36 = some (.ir F36) := rfl
theorem T33 : T 33 = some (.ir F33) := rfl
theorem T31 : T 31 = some (.ir F31) := rfl
theorem T34 : T 34 = some (.ir F34) := rfl
theorem T40 : T 40 = some (.ir F40) := rfl
theorem T37 : T 37 = some (.ir F37) := rfl
theorem T50 : T 50 = some (.ir F50) := rfl
theorem T51 : T 51 = some (.ir F51) := rfl
theorem T49 : T 49 = some (.ir F49) := rfl
theorem T62 : T 62 = some (.ir F62) := rfl
theorem T52 : T 52 = some (.prim sortG) := rfl
theorem T53 : T 53 = some (.ir F53) := rfl
theorem T30 : T 30 = some (.ir F30) := rfl
theorem T17 : T 17 = some (.ir F17) := rfl
theorem T35 : T 35 = some (.ir F35) := rfl
theorem T15 : T 15 = some (.ir F15) := rfl
theorem T32 : T 32 = some (.ir F32) := rfl
theorem T8 : T 8 = some (.ir F8) := rfl
theorem T39 : T 39 = some (.ir F39) := rfl
theorem T38 : T 38 = some (.ir F38) := rfl
theorem T9 : T 9 = some (.ir F9) := rfl
theorem T10 : T 10 = some (.ir F10) := rfl
theorem T11 : T 11 = some (.ir F11) := rfl
theorem T12 : T 12 = some (.ir F12) := rfl
theorem fits7 : FnFits Try.prog 7 F7 := ⟨Try.f7, _, Try.func7, rfl, by decide, rfl, by decide, by kernel_rfl, by kernel_rfl⟩
theorem fits13 : FnFits Try.prog 13 F13 := ⟨Try.f13, _, Try.func13, rfl, by decide, rfl, by decide, by kernel_rfl, by kernel_rfl⟩
theorem fits28 : FnFits Try.prog 28 F28 := ⟨Try.f28, _, Try.func28, rfl, by decide, rfl, by decide, by kernel_rfl, by kernel_rfl⟩
theorem fits29 : FnFits Try.prog 29 F29 := ⟨Try.f29, _, Try.func29, rfl, by decide, rfl, by decide, by kernel_rfl, by kernel_rfl⟩
theorem fits36 : FnFits Try.prog 36 F36 := ⟨Try.f36, _, Try.func36, rfl, by decide, rfl, by decide, by kernel_rfl, by kernel_rfl⟩
theorem fits33 : FnFits Try.prog 33 F33 := ⟨Try.f33, _, Try.func33, rfl, by decide, rfl, by decide, by kernel_rfl, by kernel_rfl⟩
theorem fits31 : FnFits Try.prog 31 F31 := ⟨Try.f31, _, Try.func31, rfl, by decide, rfl, by decide, by kernel_rfl, by kernel_rfl⟩
theorem fits34 : FnFits Try.prog 34 F34 := ⟨Try.f34, _, Try.func34, rfl, by decide, rfl, by decide, by kernel_rfl, by kernel_rfl⟩
theorem fits40 : FnFits Try.prog 40 F40 := ⟨Try.f40, _, Try.func40, rfl, by decide, rfl, by decide, by kernel_rfl, by kernel_rfl⟩
theorem fits37 : FnFits Try.prog 37 F37 := ⟨Try.f37, _, Try.func37, rfl, by decide, rfl, by decide, by kernel_rfl, by kernel_rfl⟩
theorem fits50 : FnFits Try.prog 50 F50 := ⟨Try.f50, _, Try.func50, rfl, by decide, rfl, by decide, by kernel_rfl, by kernel_rfl⟩
theorem fits51 : FnFits Try.prog 51 F51 := ⟨Try.f51, _, Try.func51, rfl, by decide, rfl, by decide, by kernel_rfl, by kernel_rfl⟩
theorem fits49 : FnFits Try.prog 49 F49 := ⟨Try.f49, _, Try.func49, rfl, by decide, rfl, by decide, by kernel_rfl, by kernel_rfl⟩
theorem fits62 : FnFits Try.prog 62 F62 := ⟨Try.f62, _, Try.func62, rfl, by decide, rfl, by decide, by kernel_rfl, by kernel_rfl⟩
theorem fits53 : FnFits Try.prog 53 F53 := ⟨Try.f53, _, Try.func53, rfl, by decide, rfl, by decide, by kernel_rfl, by kernel_rfl⟩
theorem fits30 : FnFits Try.prog 30 F30 := ⟨Try.f30, _, Try.func30, rfl, by decide, rfl, by decide, by kernel_rfl, by kernel_rfl⟩
theorem fits17 : FnFits Try.prog 17 F17 := ⟨Try.f17, _, Try.func17, rfl, by decide, rfl, by decide, by kernel_rfl, by kernel_rfl⟩
theorem fits35 : FnFits Try.prog 35 F35 := ⟨Try.f35, _, Try.func35, rfl, by decide, rfl, by decide, by kernel_rfl, by kernel_rfl⟩
theorem fits15 : FnFits Try.prog 15 F15 := ⟨Try.f15, _, Try.func15, rfl, by decide, rfl, by decide, by kernel_rfl, by kernel_rfl⟩
theorem fits32 : FnFits Try.prog 32 F32 := ⟨Try.f32, _, Try.func32, rfl, by decide, rfl, by decide, by kernel_rfl, by kernel_rfl⟩
theorem fits8 : FnFits Try.prog 8 F8 := ⟨Try.f8, _, Try.func8, rfl, by decide, rfl, by decide, by kernel_rfl, by kernel_rfl⟩
theorem fits39 : FnFits Try.prog 39 F39 := ⟨Try.f39, _, Try.func39, rfl, by decide, rfl, by decide, by kernel_rfl, by kernel_rfl⟩
theorem fits38 : FnFits Try.prog 38 F38 := ⟨Try.f38, _, Try.func38, rfl, by decide, rfl, by decide, by kernel_rfl, by kernel_rfl⟩
theorem fits9 : FnFits Try.prog 9 F9 := ⟨Try.f9, _, Try.func9, rfl, by decide, rfl, by decide, by kernel_rfl, by kernel_rfl⟩
theorem fits10 : FnFits Try.prog 10 F10 := ⟨Try.f10, _, Try.func10, rfl, by decide, rfl, by decide, by kernel_rfl, by kernel_rfl⟩
theorem fits11 : FnFits Try.prog 11 F11 := ⟨Try.f11, _, Try.func11, rfl, by decide, rfl, by decide, by kernel_rfl, by kernel_rfl⟩
theorem fits12 : FnFits Try.prog 12 F12 := ⟨Try.f12, _, Try.func12, rfl, by decide, rfl, by decide, by kernel_rfl, by kernel_rfl⟩
theorem fits52 : FitsD Try.prog 52 (.prim sortG) := sortTrip
theorem fits : TableOk Try.prog T := tableOk (t := table) ⟨fits7, fits13, fits28, fits29, fits36, fits33, fits31, fits34, fits40, fits37, fits50, fits51, fits49, fits62, fits52, fits53, fits30, fits17, fits35, fits15, fits32, fits8, fits39, fits38, fits9, fits10, fits11, fits12, trivial⟩
theorem own : ownKnob Try.prog.godebug = none := by kernel_rfl
theorem laidOut : laidOutB Try.prog = true := by kernel_rfl
theorem mixed : Try.prog.follows .mixedOrders = true := by kernel_rfl
end Go.Proofs.Ytdnnpgmekbnlbaa
