/- Functions of the program in our form (S9, E). No condition. -/
import Derived.Test.YtgokjbjbdnbcdaaAmNil
import Derived.Test.YtgokjbjbdnbcdaaRows
import Derived.KernelRfl
set_option linter.unusedVariables false
namespace Go.Proofs.Ytgokjbjbdnbcdaa.EvS9
open Go.Wam
/-- wampum/wampumlaw09.StoreNil -/
def F5 : FnIR := ⟨146, 1, [.tmp 2], [1, 6, 7, 9, 10, 14],
  .seq (.region [⟨some 1, .box true 21 (.tmp 0), none⟩,
     ⟨some 2, .move (.const (.bool false)), none⟩])
  (.keep [1] [1] (.seq (.region [⟨some 16, .load true 21 (.tmp 1), none⟩,
     ⟨some 17, .call (.func 7) [(.tmp 16)], none⟩,
     ⟨some 3, .move (.tmp 17), none⟩])
  (.keep [1, 3] [1] (.seq (.seq (.region [⟨some 18, .move (.tmp 3), none⟩,
      ⟨some 19, .un .not (.tmp 18), none⟩])
   (.keep [1, 19] [1] (.cond (.tmp 19)
    (.seq (.region [⟨some 20, .call (.func 15) [], none⟩,
       ⟨some 2, .move (.tmp 20), none⟩])
    (.keep [2] [] (.ret)))
    (.skip))))
  (.keep [1] [1] (.seq (.region [⟨some 4, .move (.const .nilp), none⟩])
  (.keep [1, 4] [1] (.seq (.region [⟨some 22, .move (.tmp 4), none⟩,
     ⟨some 23, .fieldAddr 4 (.tmp 1), none⟩,
     ⟨some 24, .load true 2 (.tmp 23), none⟩,
     ⟨some 25, .fieldAddr 17 (.tmp 1), none⟩,
     ⟨some 26, .indexAddr (some 2) 2 (.tmp 25) (.const (.int .i64 0)), none⟩,
     ⟨some 27, .load true 2 (.tmp 26), none⟩,
     ⟨some 28, .fieldAddr 17 (.tmp 1), none⟩,
     ⟨some 29, .indexAddr (some 2) 2 (.tmp 28) (.const (.int .i64 1)), none⟩,
     ⟨some 30, .load true 2 (.tmp 29), none⟩,
     ⟨some 31, .fieldAddr 1 (.tmp 1), none⟩,
     ⟨some 32, .load false 1 (.tmp 31), none⟩,
     ⟨some 33, .fieldAddr 2 (.tmp 1), none⟩,
     ⟨some 34, .load false 1 (.tmp 33), none⟩,
     ⟨some 35, .call (.func 16) [(.tmp 22), (.tmp 24), (.tmp 27), (.tmp 30), (.tmp 32), (.tmp 34)], none⟩,
     ⟨some 21, .move (.tmp 35), none⟩,
     ⟨some 36, .extract (.tmp 21) 0, none⟩,
     ⟨some 37, .extract (.tmp 21) 1, none⟩,
     ⟨some 38, .extract (.tmp 21) 2, none⟩,
     ⟨some 39, .extract (.tmp 21) 3, none⟩,
     ⟨some 6, .alloc true 2 [(.int .i64 0), (.int .i64 0)], none⟩,
     ⟨some 7, .alloc true 5 [(.int .i64 0), (.int .i64 0), (.str []), (.int .i64 0), (.int .i64 0)], none⟩,
     ⟨some 5, .move (.tmp 36), none⟩,
     ⟨none, .store 2 (.tmp 6) (.tmp 37), none⟩,
     ⟨none, .store 5 (.tmp 7) (.tmp 38), none⟩,
     ⟨some 8, .move (.tmp 39), none⟩])
  (.keep [1, 4, 5, 8] [1] (.seq (.region [⟨some 41, .move (.tmp 4), none⟩,
     ⟨some 42, .fieldAddr 3 (.tmp 1), none⟩,
     ⟨some 43, .load false 1 (.tmp 42), none⟩,
     ⟨some 44, .fieldAddr 6 (.tmp 1), none⟩,
     ⟨some 45, .load true 10 (.tmp 44), none⟩,
     ⟨some 46, .call (.func 9) [(.tmp 41), (.tmp 43), (.tmp 45)], none⟩,
     ⟨some 40, .move (.tmp 46), none⟩,
     ⟨some 47, .extract (.tmp 40) 0, none⟩,
     ⟨some 48, .extract (.tmp 40) 1, none⟩,
     ⟨some 49, .extract (.tmp 40) 2, none⟩,
     ⟨some 9, .alloc true 2 [(.int .i64 0), (.int .i64 0)], none⟩,
     ⟨some 10, .alloc true 5 [(.int .i64 0), (.int .i64 0), (.str []), (.int .i64 0), (.int .i64 0)], none⟩,
     ⟨none, .store 2 (.tmp 9) (.tmp 47), none⟩,
     ⟨none, .store 5 (.tmp 10) (.tmp 48), none⟩,
     ⟨some 11, .move (.tmp 49), none⟩])
  (.keep [1, 4, 5, 8, 11] [1] (.seq (.region [⟨some 51, .move (.tmp 4), none⟩,
     ⟨some 52, .fieldAddr 4 (.tmp 1), none⟩,
     ⟨some 53, .load true 2 (.tmp 52), none⟩,
     ⟨some 54, .fieldAddr 1 (.tmp 1), none⟩,
     ⟨some 55, .load false 1 (.tmp 54), none⟩,
     ⟨some 56, .fieldAddr 2 (.tmp 1), none⟩,
     ⟨some 57, .load false 1 (.tmp 56), none⟩,
     ⟨some 58, .fieldAddr 16 (.tmp 1), none⟩,
     ⟨some 59, .load false 1 (.tmp 58), none⟩,
     ⟨some 60, .fieldAddr 17 (.tmp 1), none⟩,
     ⟨some 61, .indexAddr (some 2) 2 (.tmp 60) (.const (.int .i64 0)), none⟩,
     ⟨some 62, .load true 2 (.tmp 61), none⟩,
     ⟨some 63, .call (.func 10) [(.tmp 51), (.tmp 53), (.tmp 55), (.tmp 57), (.tmp 59), (.tmp 62)], none⟩,
     ⟨some 50, .move (.tmp 63), none⟩,
     ⟨some 64, .extract (.tmp 50) 0, none⟩,
     ⟨some 65, .extract (.tmp 50) 1, none⟩,
     ⟨some 12, .move (.tmp 64), none⟩,
     ⟨some 13, .move (.tmp 65), none⟩])
  (.keep [1, 4, 5, 8, 11, 12, 13] [1] (.seq (.region [⟨some 67, .move (.tmp 4), none⟩,
     ⟨some 68, .fieldAddr 4 (.tmp 1), none⟩,
     ⟨some 69, .load true 2 (.tmp 68), none⟩,
     ⟨some 70, .fieldAddr 1 (.tmp 1), none⟩,
     ⟨some 71, .load false 1 (.tmp 70), none⟩,
     ⟨some 72, .fieldAddr 17 (.tmp 1), none⟩,
     ⟨some 73, .indexAddr (some 2) 2 (.tmp 72) (.const (.int .i64 0)), none⟩,
     ⟨some 74, .load true 2 (.tmp 73), none⟩,
     ⟨some 75, .fieldAddr 17 (.tmp 1), none⟩,
     ⟨some 76, .indexAddr (some 2) 2 (.tmp 75) (.const (.int .i64 1)), none⟩,
     ⟨some 77, .load true 2 (.tmp 76), none⟩,
     ⟨some 78, .call (.func 17) [(.tmp 67), (.tmp 69), (.tmp 71), (.tmp 74), (.tmp 77)], none⟩,
     ⟨some 66, .move (.tmp 78), none⟩,
     ⟨some 79, .extract (.tmp 66) 0, none⟩,
     ⟨some 80, .extract (.tmp 66) 1, none⟩,
     ⟨some 14, .alloc true 5 [(.int .i64 0), (.int .i64 0), (.str []), (.int .i64 0), (.int .i64 0)], none⟩,
     ⟨none, .store 5 (.tmp 14) (.tmp 79), none⟩,
     ⟨some 15, .move (.tmp 80), none⟩])
  (.keep [1, 4, 5, 8, 11, 12, 13, 15] [1] (.seq (.region [⟨some 81, .call (.func 15) [], none⟩,
     ⟨some 82, .move (.tmp 81), none⟩,
     ⟨some 83, .move (.tmp 5), some (82, true)⟩,
     ⟨some 84, .len .slice (.tmp 83), some (82, true)⟩,
     ⟨some 85, .bin .eql .int (.tmp 84) (.const (.int .i64 0)), some (82, true)⟩,
     ⟨some 86, .pick (.tmp 82) (.tmp 85) (.const (.bool false)), none⟩,
     ⟨some 87, .move (.tmp 86), none⟩,
     ⟨some 88, .move (.tmp 8), some (87, true)⟩,
     ⟨some 89, .bin .eql .int (.tmp 88) (.const (.int .i64 1)), some (87, true)⟩,
     ⟨some 90, .pick (.tmp 87) (.tmp 89) (.const (.bool false)), none⟩,
     ⟨some 91, .move (.tmp 90), none⟩,
     ⟨some 92, .move (.tmp 11), some (91, true)⟩,
     ⟨some 93, .bin .eql .int (.tmp 92) (.const (.int .i64 1)), some (91, true)⟩,
     ⟨some 94, .pick (.tmp 91) (.tmp 93) (.const (.bool false)), none⟩,
     ⟨some 95, .move (.tmp 94), none⟩,
     ⟨some 96, .move (.tmp 12), some (95, true)⟩,
     ⟨some 97, .bin .eql .int (.tmp 96) (.const (.int .i64 0)), some (95, true)⟩,
     ⟨some 98, .pick (.tmp 95) (.tmp 97) (.const (.bool false)), none⟩,
     ⟨some 99, .move (.tmp 98), none⟩,
     ⟨some 100, .move (.tmp 13), some (99, true)⟩,
     ⟨some 101, .bin .eql .int (.tmp 100) (.const (.int .i64 1)), some (99, true)⟩,
     ⟨some 102, .pick (.tmp 99) (.tmp 101) (.const (.bool false)), none⟩,
     ⟨some 103, .move (.tmp 102), none⟩,
     ⟨some 104, .move (.tmp 15), some (103, true)⟩,
     ⟨some 105, .bin .eql .int (.tmp 104) (.const (.int .i64 1)), some (103, true)⟩,
     ⟨some 106, .pick (.tmp 103) (.tmp 105) (.const (.bool false)), none⟩,
     ⟨some 107, .move (.tmp 106), none⟩,
     ⟨some 108, .move (.tmp 4), some (107, true)⟩,
     ⟨some 109, .fieldAddr 3 (.tmp 1), some (107, true)⟩,
     ⟨some 110, .load false 1 (.tmp 109), some (107, true)⟩,
     ⟨some 111, .fieldAddr 1 (.tmp 1), some (107, true)⟩,
     ⟨some 112, .load false 1 (.tmp 111), some (107, true)⟩,
     ⟨some 113, .fieldAddr 2 (.tmp 1), some (107, true)⟩,
     ⟨some 114, .load false 1 (.tmp 113), some (107, true)⟩,
     ⟨some 115, .fieldAddr 17 (.tmp 1), some (107, true)⟩,
     ⟨some 116, .indexAddr (some 2) 2 (.tmp 115) (.const (.int .i64 0)), some (107, true)⟩,
     ⟨some 117, .load true 2 (.tmp 116), some (107, true)⟩,
     ⟨some 118, .call (.func 20) [(.tmp 108), (.tmp 110), (.tmp 112), (.tmp 114), (.const (.int .i64 0)), (.tmp 117)], some (107, true)⟩,
     ⟨some 119, .un .not (.tmp 118), some (107, true)⟩,
     ⟨some 120, .pick (.tmp 107) (.tmp 119) (.const (.bool false)), none⟩,
     ⟨some 121, .move (.tmp 120), none⟩,
     ⟨some 122, .move (.tmp 4), some (121, true)⟩,
     ⟨some 123, .call (.func 11) [(.tmp 122)], some (121, true)⟩,
     ⟨some 124, .len .slice (.tmp 123), some (121, true)⟩,
     ⟨some 125, .bin .eql .int (.tmp 124) (.const (.int .i64 0)), some (121, true)⟩,
     ⟨some 126, .pick (.tmp 121) (.tmp 125) (.const (.bool false)), none⟩,
     ⟨some 127, .move (.tmp 126), none⟩,
     ⟨some 128, .move (.tmp 4), some (127, true)⟩,
     ⟨some 129, .fieldAddr 3 (.tmp 1), some (127, true)⟩,
     ⟨some 130, .load false 1 (.tmp 129), some (127, true)⟩,
     ⟨some 131, .call (.func 14) [(.tmp 128), (.tmp 130)], some (127, true)⟩,
     ⟨some 132, .field false 1 1 (.tmp 131), some (127, true)⟩,
     ⟨some 133, .un .not (.tmp 132), some (127, true)⟩,
     ⟨some 134, .pick (.tmp 127) (.tmp 133) (.const (.bool false)), none⟩,
     ⟨some 135, .move (.tmp 134), none⟩,
     ⟨some 136, .move (.tmp 4), some (135, true)⟩,
     ⟨some 137, .call (.func 21) [(.tmp 136)], some (135, true)⟩,
     ⟨some 138, .len .slice (.tmp 137), some (135, true)⟩,
     ⟨some 139, .bin .eql .int (.tmp 138) (.const (.int .i64 0)), some (135, true)⟩,
     ⟨some 140, .pick (.tmp 135) (.tmp 139) (.const (.bool false)), none⟩,
     ⟨some 141, .move (.tmp 140), none⟩,
     ⟨some 142, .move (.tmp 4), some (141, true)⟩,
     ⟨some 143, .call (.func 8) [(.tmp 142)], some (141, true)⟩,
     ⟨some 144, .bin .eql .ptr (.tmp 143) (.const .nilp), some (141, true)⟩,
     ⟨some 145, .pick (.tmp 141) (.tmp 144) (.const (.bool false)), none⟩,
     ⟨some 2, .move (.tmp 145), none⟩])
  (.keep [2] [] (.ret))))))))))))))))))⟩
/-- (*wampum/store.Store).Copy -/
def F8 : FnIR := ⟨12, 1, [.tmp 2], [],
  .seq (.region [⟨some 2, .move (.const .nilp), none⟩])
  (.keep [0] [] (.seq (.seq (.region [⟨some 3, .move (.tmp 0), none⟩,
      ⟨some 4, .bin .eql .ptr (.tmp 3) (.const .nilp), none⟩])
   (.keep [0, 4] [] (.cond (.tmp 4)
    (.seq (.region [⟨some 2, .move (.const .nilp), none⟩])
    (.keep [2] [] (.ret)))
    (.skip))))
  (.keep [0] [] (.seq (.region [⟨some 5, .move (.tmp 0), none⟩,
     ⟨some 6, .nilCheck (.tmp 5), none⟩,
     ⟨some 7, .fieldAddr 0 (.tmp 6), none⟩,
     ⟨some 8, .load false 1 (.tmp 7), none⟩,
     ⟨some 9, .call (.func 24) [(.tmp 8)], none⟩,
     ⟨some 10, .build [.nilm] [(0, 1, (.tmp 9))], none⟩,
     ⟨some 11, .box false 1 (.tmp 10), none⟩,
     ⟨some 2, .move (.tmp 11), none⟩])
  (.keep [2] [] (.ret))))))⟩
/-- (*wampum/store.Store).Put -/
def F9 : FnIR := ⟨60, 3, [.cell 6 true 2, .cell 7 true 5, .tmp 8], [5, 6, 7, 9, 10, 11],
  .seq (.region [⟨some 5, .box true 10 (.tmp 2), none⟩,
     ⟨some 6, .alloc true 2 [(.int .i64 0), (.int .i64 0)], none⟩,
     ⟨some 7, .alloc true 5 [(.int .i64 0), (.int .i64 0), (.str []), (.int .i64 0), (.int .i64 0)], none⟩,
     ⟨some 8, .move (.const (.int .i64 0)), none⟩])
  (.keep [0, 1, 5, 6, 7] [5, 6, 7] (.seq (.block 0 (.seq (.region [⟨some 14, .move (.tmp 0), none⟩,
       ⟨some 15, .bin .eql .ptr (.tmp 14) (.const .nilp), none⟩,
       ⟨some 16, .move (.tmp 15), none⟩,
       ⟨some 17, .fieldAddr 8 (.tmp 5), some (16, false)⟩,
       ⟨some 18, .load false 1 (.tmp 17), some (16, false)⟩,
       ⟨some 19, .fieldAddr 9 (.tmp 5), some (16, false)⟩,
       ⟨some 20, .load false 1 (.tmp 19), some (16, false)⟩,
       ⟨some 21, .call (.func 25) [(.tmp 18), (.tmp 20)], some (16, false)⟩,
       ⟨some 22, .un .not (.tmp 21), some (16, false)⟩,
       ⟨some 23, .move (.tmp 22), some (16, false)⟩,
       ⟨some 24, .move (.tmp 1), some (23, true)⟩,
       ⟨some 25, .call (.func 26) [(.tmp 24)], some (23, true)⟩,
       ⟨some 26, .pick (.tmp 23) (.tmp 25) (.const (.bool false)), some (16, false)⟩,
       ⟨some 27, .pick (.tmp 16) (.const (.bool true)) (.tmp 26), none⟩,
       ⟨some 13, .move (.tmp 27), none⟩])
    (.keep [0, 1, 5, 6, 7, 13] [5, 6, 7] (.cond (.tmp 13)
     (.seq (.region [⟨some 28, .build [(.int .i64 0), (.int .i64 0)] [], none⟩,
        ⟨some 29, .build [(.int .i64 0), (.int .i64 0), (.str []), (.int .i64 0), (.int .i64 0)] [], none⟩,
        ⟨none, .store 2 (.tmp 6) (.tmp 28), none⟩,
        ⟨none, .store 5 (.tmp 7) (.tmp 29), none⟩,
        ⟨some 8, .move (.const (.int .i64 1)), none⟩])
     (.keep [6, 7, 8] [6, 7] (.ret)))
     (.seq (.region [⟨some 31, .move (.tmp 1), none⟩,
        ⟨some 32, .call (.func 26) [(.tmp 31)], none⟩,
        ⟨some 33, .un .not (.tmp 32), none⟩,
        ⟨some 30, .move (.tmp 33), none⟩])
     (.keep [0, 1, 5, 6, 7, 30] [5, 6, 7] (.cond (.tmp 30)
      (.seq (.region [⟨some 34, .build [(.int .i64 0), (.int .i64 0)] [], none⟩,
         ⟨some 35, .build [(.int .i64 0), (.int .i64 0), (.str []), (.int .i64 0), (.int .i64 0)] [], none⟩,
         ⟨none, .store 2 (.tmp 6) (.tmp 34), none⟩,
         ⟨none, .store 5 (.tmp 7) (.tmp 35), none⟩,
         ⟨some 8, .move (.const (.int .i64 51)), none⟩])
      (.keep [6, 7, 8] [6, 7] (.ret)))
      (.skip))))))))
  (.keep [0, 1, 5, 6, 7] [5, 6, 7] (.seq (.regionD [⟨some 37, .move (.tmp 0), none⟩,
     ⟨some 38, .nilCheck (.tmp 37), none⟩,
     ⟨some 39, .fieldAddr 0 (.tmp 38), none⟩,
     ⟨some 40, .load false 1 (.tmp 39), none⟩,
     ⟨some 41, .move (.tmp 1), none⟩,
     ⟨some 42, .lookup .str false (.agg [.nils, (.bool false), (.int .i64 0), (.int .i64 0), (.str []), (.int .i64 0), (.int .i64 0), (.int .i64 0), (.int .i64 0), (.int .i64 0), (.str []), (.bool false)]) (.tmp 40) (.tmp 41), none⟩,
     ⟨some 43, .load true 10 (.tmp 5), none⟩,
     ⟨some 44, .call (.func 27) [(.tmp 42), (.tmp 43)], none⟩,
     ⟨some 36, .move (.tmp 44), none⟩,
     ⟨some 45, .extract (.tmp 36) 0, none⟩,
     ⟨some 9, .alloc true 12 [.nils, (.bool false), (.int .i64 0), (.int .i64 0), (.str []), (.int .i64 0), (.int .i64 0), (.int .i64 0), (.int .i64 0), (.int .i64 0), (.str []), (.bool false)], none⟩,
     ⟨some 10, .alloc true 2 [(.int .i64 0), (.int .i64 0)], none⟩,
     ⟨some 11, .alloc true 5 [(.int .i64 0), (.int .i64 0), (.str []), (.int .i64 0), (.int .i64 0)], none⟩,
     ⟨none, .store 12 (.tmp 9) (.tmp 45), none⟩,
     ⟨some 46, .extract (.tmp 36) 1, none⟩,
     ⟨none, .store 2 (.tmp 10) (.tmp 46), none⟩,
     ⟨some 47, .extract (.tmp 36) 2, none⟩,
     ⟨none, .store 5 (.tmp 11) (.tmp 47), none⟩,
     ⟨some 48, .extract (.tmp 36) 3, none⟩,
     ⟨some 12, .move (.tmp 48), none⟩] [])
  (.keep [0, 1, 6, 7, 9, 10, 11, 12] [6, 7, 9, 10, 11] (.seq (.seq (.region [⟨some 49, .move (.tmp 12), none⟩,
      ⟨some 50, .bin .eql .int (.tmp 49) (.const (.int .i64 0)), none⟩])
   (.keep [0, 1, 6, 7, 9, 10, 11, 12, 50] [6, 7, 9, 10, 11] (.cond (.tmp 50)
    (.regionD [⟨some 51, .move (.tmp 0), none⟩,
      ⟨some 52, .nilCheck (.tmp 51), none⟩,
      ⟨some 53, .fieldAddr 0 (.tmp 52), none⟩,
      ⟨some 54, .load false 1 (.tmp 53), none⟩,
      ⟨some 55, .move (.tmp 1), none⟩,
      ⟨some 56, .load true 12 (.tmp 9), none⟩,
      ⟨none, .mapUpdate .str (.tmp 54) (.tmp 55) (.tmp 56), none⟩] [])
    (.skip))))
  (.keep [6, 7, 10, 11, 12] [6, 7, 10, 11] (.seq (.regionD [⟨some 57, .load true 2 (.tmp 10), none⟩,
     ⟨none, .store 2 (.tmp 6) (.tmp 57), none⟩,
     ⟨some 58, .load true 5 (.tmp 11), none⟩,
     ⟨none, .store 5 (.tmp 7) (.tmp 58), none⟩,
     ⟨some 59, .move (.tmp 12), none⟩,
     ⟨some 8, .move (.tmp 59), none⟩] [(2, 0)])
  (.keep [6, 7, 8] [6, 7] (.ret))))))))))⟩
/-- (*wampum/store.Store).Resolve -/
def F10 : FnIR := ⟨69, 6, [.cell 12 false 1, .cell 13 false 1], [7, 18, 19],
  .seq (.region [⟨some 7, .box true 2 (.tmp 1), none⟩,
     ⟨some 8, .box false 1 (.tmp 2), none⟩,
     ⟨some 9, .box false 1 (.tmp 3), none⟩,
     ⟨some 10, .box false 1 (.tmp 4), none⟩,
     ⟨some 11, .box false 2 (.tmp 5), none⟩,
     ⟨some 12, .alloc false 1 [(.int .i64 0)], none⟩,
     ⟨some 13, .alloc false 1 [(.int .i64 0)], none⟩])
  (.keep [0, 7, 8, 9, 10, 11, 12, 13] [7] (.seq (.seq (.region [⟨some 21, .move (.tmp 0), none⟩,
      ⟨some 22, .load true 2 (.tmp 7), none⟩,
      ⟨some 23, .call (.func 28) [(.tmp 21), (.tmp 22)], none⟩,
      ⟨some 14, .move (.tmp 23), none⟩])
   (.keep [0, 7, 8, 9, 10, 11, 12, 13, 14] [7] (.seq (.region [⟨some 24, .move (.tmp 14), none⟩,
      ⟨some 25, .bin .neq .int (.tmp 24) (.const (.int .i64 0)), none⟩])
   (.keep [0, 7, 8, 9, 10, 11, 12, 13, 14, 25] [7] (.cond (.tmp 25)
    (.seq (.region [⟨some 26, .move (.tmp 14), none⟩,
       ⟨none, .store 1 (.tmp 12) (.const (.int .i64 0)), none⟩,
       ⟨none, .store 1 (.tmp 13) (.tmp 26), none⟩])
    (.keep [12, 13] [] (.ret)))
    (.skip))))))
  (.keep [0, 7, 8, 9, 10, 11, 12, 13] [7] (.seq (.region [⟨some 15, .alloc false 1 [(.int .i64 0)], none⟩,
     ⟨none, .store 1 (.tmp 15) (.const (.int .i64 0)), none⟩])
  (.keep [0, 7, 8, 9, 10, 11, 12, 13, 15] [7] (.seq (.region [⟨some 27, .mkMap, none⟩,
     ⟨some 16, .alloc false 1 [.nilm], none⟩,
     ⟨none, .store 1 (.tmp 16) (.tmp 27), none⟩])
  (.keep [0, 7, 8, 9, 10, 11, 12, 13, 15, 16] [7] (.seq (.seq (.region [⟨some 28, .move (.tmp 0), none⟩,
      ⟨some 29, .load true 2 (.tmp 7), none⟩,
      ⟨some 30, .call (.func 29) [(.tmp 28), (.tmp 29)], none⟩])
   (.keep [0, 8, 9, 10, 11, 12, 13, 15, 16, 30] [] (.block 0 (.rangeF (.tmp 30) [31, 32]
     (.seq (.region [⟨some 17, .move (.tmp 31), none⟩])
     (.keep [8, 9, 10, 11, 12, 13, 15, 16, 17, 32] [] (.region [⟨some 18, .alloc true 12 [.nils, (.bool false), (.int .i64 0), (.int .i64 0), (.str []), (.int .i64 0), (.int .i64 0), (.int .i64 0), (.int .i64 0), (.int .i64 0), (.str []), (.bool false)], none⟩,
       ⟨none, .store 12 (.tmp 18) (.tmp 32), none⟩])))
     (.keep [8, 9, 10, 11, 12, 13, 15, 16, 17, 18] [18] (.block 1 (.seq (.region [⟨some 34, .load true 12 (.tmp 18), none⟩,
         ⟨some 35, .load false 1 (.tmp 8), none⟩,
         ⟨some 36, .load false 1 (.tmp 9), none⟩,
         ⟨some 37, .load false 1 (.tmp 10), none⟩,
         ⟨some 38, .load true 2 (.tmp 11), none⟩,
         ⟨some 39, .call (.func 30) [(.tmp 34), (.tmp 35), (.tmp 36), (.tmp 37), (.tmp 38)], none⟩,
         ⟨some 33, .move (.tmp 39), none⟩,
         ⟨some 40, .extract (.tmp 33) 0, none⟩,
         ⟨some 41, .extract (.tmp 33) 1, none⟩,
         ⟨some 19, .alloc true 12 [.nils, (.bool false), (.int .i64 0), (.int .i64 0), (.str []), (.int .i64 0), (.int .i64 0), (.int .i64 0), (.int .i64 0), (.int .i64 0), (.str []), (.bool false)], none⟩,
         ⟨none, .store 12 (.tmp 19) (.tmp 40), none⟩,
         ⟨some 20, .move (.tmp 41), none⟩])
      (.keep [12, 13, 15, 16, 17, 18, 19, 20] [18, 19] (.seq (.seq (.region [⟨some 42, .move (.tmp 20), none⟩,
          ⟨some 43, .bin .neq .int (.tmp 42) (.const (.int .i64 0)), none⟩])
       (.keep [12, 13, 15, 16, 17, 18, 19, 20, 43] [18, 19] (.cond (.tmp 43)
        (.seq (.region [⟨some 44, .move (.tmp 20), none⟩,
           ⟨none, .store 1 (.tmp 12) (.const (.int .i64 0)), none⟩,
           ⟨none, .store 1 (.tmp 13) (.tmp 44), none⟩])
        (.keep [] [] (.ret)))
        (.skip))))
      (.keep [15, 16, 17, 18, 19] [18, 19] (.seq (.region [⟨some 45, .fieldAddr 1 (.tmp 18), none⟩,
         ⟨some 46, .load false 1 (.tmp 45), none⟩,
         ⟨some 47, .move (.tmp 46), none⟩,
         ⟨some 48, .fieldAddr 1 (.tmp 19), some (47, true)⟩,
         ⟨some 49, .load false 1 (.tmp 48), some (47, true)⟩,
         ⟨some 50, .un .not (.tmp 49), some (47, true)⟩,
         ⟨some 51, .pick (.tmp 47) (.tmp 50) (.const (.bool false)), none⟩])
      (.keep [15, 16, 17, 19, 51] [19] (.cond (.tmp 51)
       (.seq (.region [⟨some 52, .load false 1 (.tmp 16), none⟩,
          ⟨some 53, .move (.tmp 17), none⟩,
          ⟨some 54, .load true 12 (.tmp 19), none⟩,
          ⟨none, .mapUpdate .str (.tmp 52) (.tmp 53) (.tmp 54), none⟩])
       (.keep [15] [] (.region [⟨some 55, .load false 1 (.tmp 15), none⟩,
         ⟨some 56, .bin .add .none (.tmp 55) (.const (.int .i64 1)), none⟩,
         ⟨none, .store 1 (.tmp 15) (.tmp 56), none⟩])))
       (.skip))))))))))))))
  (.keep [0, 12, 13, 15, 16] [] (.seq (.regionD [⟨some 57, .move (.tmp 0), none⟩,
     ⟨some 58, .nilCheck (.tmp 57), none⟩,
     ⟨some 59, .fieldAddr 0 (.tmp 58), none⟩,
     ⟨some 60, .load false 1 (.tmp 59), none⟩,
     ⟨some 61, .load false 1 (.tmp 16), none⟩,
     ⟨some 62, .call (.func 31) [(.tmp 60), (.tmp 61)], none⟩] [])
  (.keep [0, 12, 13, 15] [] (.seq (.region [⟨some 63, .move (.tmp 0), none⟩,
     ⟨some 64, .nilCheck (.tmp 63), none⟩,
     ⟨some 65, .fieldAddr 0 (.tmp 64), none⟩,
     ⟨some 66, .load false 1 (.tmp 65), none⟩,
     ⟨some 67, .call (.func 32) [(.tmp 66), (.func 33)], none⟩])
  (.keep [12, 13, 15] [] (.seq (.region [⟨some 68, .load false 1 (.tmp 15), none⟩,
     ⟨none, .store 1 (.tmp 12) (.tmp 68), none⟩,
     ⟨none, .store 1 (.tmp 13) (.const (.int .i64 0)), none⟩])
  (.keep [12, 13] [] (.ret))))))))))))))))⟩
/-- (*wampum/store.Store).Keys -/
def F11 : FnIR := ⟨11, 1, [.tmp 2], [],
  .seq (.region [⟨some 2, .move (.const .nils), none⟩])
  (.keep [0] [] (.seq (.seq (.region [⟨some 3, .move (.tmp 0), none⟩,
      ⟨some 4, .bin .eql .ptr (.tmp 3) (.const .nilp), none⟩])
   (.keep [0, 4] [] (.cond (.tmp 4)
    (.seq (.region [⟨some 2, .move (.const .nils), none⟩])
    (.keep [2] [] (.ret)))
    (.skip))))
  (.keep [0] [] (.seq (.region [⟨some 5, .move (.tmp 0), none⟩,
     ⟨some 6, .nilCheck (.tmp 5), none⟩,
     ⟨some 7, .fieldAddr 0 (.tmp 6), none⟩,
     ⟨some 8, .load false 1 (.tmp 7), none⟩,
     ⟨some 9, .call (.func 35) [(.tmp 8)], none⟩,
     ⟨some 10, .call (.func 34) [(.tmp 9)], none⟩,
     ⟨some 2, .move (.tmp 10), none⟩])
  (.keep [2] [] (.ret))))))⟩
/-- (*wampum/store.Store).Chain -/
def F14 : FnIR := ⟨20, 2, [.cell 4 true 12], [4, 5],
  .seq (.region [⟨some 4, .alloc true 12 [.nils, (.bool false), (.int .i64 0), (.int .i64 0), (.str []), (.int .i64 0), (.int .i64 0), (.int .i64 0), (.int .i64 0), (.int .i64 0), (.str []), (.bool false)], none⟩])
  (.keep [0, 1, 4] [4] (.seq (.seq (.region [⟨some 6, .move (.tmp 0), none⟩,
      ⟨some 7, .bin .eql .ptr (.tmp 6) (.const .nilp), none⟩])
   (.keep [0, 1, 4, 7] [4] (.cond (.tmp 7)
    (.seq (.region [⟨some 8, .build [.nils, (.bool false), (.int .i64 0), (.int .i64 0), (.str []), (.int .i64 0), (.int .i64 0), (.int .i64 0), (.int .i64 0), (.int .i64 0), (.str []), (.bool false)] [], none⟩,
       ⟨none, .store 12 (.tmp 4) (.tmp 8), none⟩])
    (.keep [4] [4] (.ret)))
    (.skip))))
  (.keep [0, 1, 4] [4] (.seq (.region [⟨some 9, .move (.tmp 0), none⟩,
     ⟨some 10, .nilCheck (.tmp 9), none⟩,
     ⟨some 11, .fieldAddr 0 (.tmp 10), none⟩,
     ⟨some 12, .load false 1 (.tmp 11), none⟩,
     ⟨some 13, .move (.tmp 1), none⟩,
     ⟨some 14, .lookup .str false (.agg [.nils, (.bool false), (.int .i64 0), (.int .i64 0), (.str []), (.int .i64 0), (.int .i64 0), (.int .i64 0), (.int .i64 0), (.int .i64 0), (.str []), (.bool false)]) (.tmp 12) (.tmp 13), none⟩,
     ⟨some 5, .alloc true 12 [.nils, (.bool false), (.int .i64 0), (.int .i64 0), (.str []), (.int .i64 0), (.int .i64 0), (.int .i64 0), (.int .i64 0), (.int .i64 0), (.str []), (.bool false)], none⟩,
     ⟨none, .store 12 (.tmp 5) (.tmp 14), none⟩])
  (.keep [4, 5] [4, 5] (.seq (.region [⟨some 15, .fieldAddr 0 (.tmp 5), none⟩,
     ⟨some 16, .load false 1 (.tmp 15), none⟩,
     ⟨some 17, .call (.func 36) [(.tmp 16)], none⟩,
     ⟨some 18, .fieldAddr 0 (.tmp 5), none⟩,
     ⟨none, .store 1 (.tmp 18) (.tmp 17), none⟩])
  (.keep [4, 5] [4, 5] (.seq (.region [⟨some 19, .load true 12 (.tmp 5), none⟩,
     ⟨none, .store 12 (.tmp 4) (.tmp 19), none⟩])
  (.keep [4] [4] (.ret))))))))))⟩
/-- (*wampum/store.Store).Read -/
def F16 : FnIR := ⟨84, 6, [.cell 12 false 1, .cell 13 true 2, .cell 14 true 5, .cell 15 false 1], [7, 20, 21, 23],
  .seq (.region [⟨some 7, .box true 2 (.tmp 1), none⟩,
     ⟨some 8, .box false 2 (.tmp 2), none⟩,
     ⟨some 9, .box false 2 (.tmp 3), none⟩,
     ⟨some 10, .box false 1 (.tmp 4), none⟩,
     ⟨some 11, .box false 1 (.tmp 5), none⟩,
     ⟨some 12, .alloc false 1 [.nils], none⟩,
     ⟨some 13, .alloc false 2 [(.int .i64 0), (.int .i64 0)], none⟩,
     ⟨some 14, .alloc false 5 [(.int .i64 0), (.int .i64 0), (.str []), (.int .i64 0), (.int .i64 0)], none⟩,
     ⟨some 15, .alloc false 1 [(.int .i64 0)], none⟩])
  (.keep [0, 7, 8, 9, 10, 11, 12, 13, 14, 15] [7] (.seq (.seq (.region [⟨some 25, .move (.tmp 0), none⟩,
      ⟨some 26, .load true 2 (.tmp 7), none⟩,
      ⟨some 27, .call (.func 28) [(.tmp 25), (.tmp 26)], none⟩,
      ⟨some 16, .move (.tmp 27), none⟩])
   (.keep [0, 7, 8, 9, 10, 11, 12, 13, 14, 15, 16] [7] (.seq (.region [⟨some 28, .move (.tmp 16), none⟩,
      ⟨some 29, .bin .neq .int (.tmp 28) (.const (.int .i64 0)), none⟩])
   (.keep [0, 7, 8, 9, 10, 11, 12, 13, 14, 15, 16, 29] [7] (.cond (.tmp 29)
    (.seq (.region [⟨some 30, .build [(.int .i64 0), (.int .i64 0)] [], none⟩,
       ⟨some 31, .build [(.int .i64 0), (.int .i64 0), (.str []), (.int .i64 0), (.int .i64 0)] [], none⟩,
       ⟨some 32, .move (.tmp 16), none⟩,
       ⟨none, .store 1 (.tmp 12) (.const .nils), none⟩,
       ⟨none, .store 2 (.tmp 13) (.tmp 30), none⟩,
       ⟨none, .store 5 (.tmp 14) (.tmp 31), none⟩,
       ⟨none, .store 1 (.tmp 15) (.tmp 32), none⟩])
    (.keep [12, 13, 14, 15] [] (.ret)))
    (.skip))))))
  (.keep [0, 7, 8, 9, 10, 11, 12, 13, 14, 15] [7] (.seq (.region [⟨some 17, .alloc false 1 [.nils], none⟩])
  (.keep [0, 7, 8, 9, 10, 11, 12, 13, 14, 15, 17] [7] (.seq (.region [⟨some 18, .alloc false 1 [.nils], none⟩])
  (.keep [0, 7, 8, 9, 10, 11, 12, 13, 14, 15, 17, 18] [7] (.seq (.seq (.region [⟨some 33, .move (.tmp 0), none⟩,
      ⟨some 34, .load true 2 (.tmp 7), none⟩,
      ⟨some 35, .call (.func 29) [(.tmp 33), (.tmp 34)], none⟩])
   (.keep [8, 9, 10, 11, 12, 13, 14, 15, 17, 18, 35] [] (.block 0 (.rangeF (.tmp 35) [36, 37]
     (.seq (.region [⟨some 19, .move (.tmp 36), none⟩])
     (.keep [8, 9, 10, 11, 12, 13, 14, 15, 17, 18, 19, 37] [] (.region [⟨some 20, .alloc true 12 [.nils, (.bool false), (.int .i64 0), (.int .i64 0), (.str []), (.int .i64 0), (.int .i64 0), (.int .i64 0), (.int .i64 0), (.int .i64 0), (.str []), (.bool false)], none⟩,
       ⟨none, .store 12 (.tmp 20) (.tmp 37), none⟩])))
     (.keep [8, 9, 10, 11, 12, 13, 14, 15, 17, 18, 19, 20] [20] (.block 1 (.seq (.seq (.region [⟨some 38, .load false 1 (.tmp 17), none⟩,
          ⟨some 39, .len .slice (.tmp 38), none⟩,
          ⟨some 40, .bin .eql .int (.tmp 39) (.const (.int .i64 50)), none⟩])
       (.keep [8, 9, 10, 11, 12, 13, 14, 15, 17, 18, 19, 20, 40] [20] (.cond (.tmp 40)
        (.exit 0)
        (.skip))))
      (.keep [8, 9, 10, 11, 12, 13, 14, 15, 17, 18, 19, 20] [20] (.seq (.region [⟨some 42, .load true 12 (.tmp 20), none⟩,
         ⟨some 43, .load true 2 (.tmp 8), none⟩,
         ⟨some 44, .load true 2 (.tmp 9), none⟩,
         ⟨some 45, .load false 1 (.tmp 10), none⟩,
         ⟨some 46, .load false 1 (.tmp 11), none⟩,
         ⟨some 47, .call (.func 37) [(.tmp 42), (.tmp 43), (.tmp 44), (.tmp 45), (.tmp 46)], none⟩,
         ⟨some 41, .move (.tmp 47), none⟩,
         ⟨some 48, .extract (.tmp 41) 0, none⟩,
         ⟨some 49, .extract (.tmp 41) 1, none⟩,
         ⟨some 50, .extract (.tmp 41) 2, none⟩,
         ⟨some 51, .extract (.tmp 41) 3, none⟩,
         ⟨some 21, .alloc true 5 [(.int .i64 0), (.int .i64 0), (.str []), (.bool false), (.int .i64 0)], none⟩,
         ⟨some 23, .alloc true 5 [(.int .i64 0), (.int .i64 0), (.str []), (.int .i64 0), (.int .i64 0)], none⟩,
         ⟨none, .store 5 (.tmp 21) (.tmp 48), none⟩,
         ⟨some 22, .move (.tmp 49), none⟩,
         ⟨none, .store 5 (.tmp 23) (.tmp 50), none⟩,
         ⟨some 24, .move (.tmp 51), none⟩])
      (.keep [12, 13, 14, 15, 17, 18, 19, 21, 22, 23, 24] [21, 23] (.block 2 (.seq (.region [⟨some 53, .move (.tmp 24), none⟩,
          ⟨some 54, .bin .eql .int (.tmp 53) (.const (.int .i64 81)), none⟩,
          ⟨some 52, .move (.tmp 54), none⟩])
       (.keep [12, 13, 14, 15, 17, 18, 19, 21, 22, 23, 24, 52] [21, 23] (.cond (.tmp 52)
        (.seq (.regionD [⟨none, .store 1 (.tmp 12) (.const .nils), none⟩,
           ⟨some 55, .build [(.int .i64 0), (.int .i64 0)] [], none⟩,
           ⟨none, .store 2 (.tmp 13) (.tmp 55), none⟩,
           ⟨some 56, .load true 5 (.tmp 23), none⟩,
           ⟨none, .store 5 (.tmp 14) (.tmp 56), none⟩,
           ⟨some 57, .move (.tmp 24), none⟩,
           ⟨none, .store 1 (.tmp 15) (.tmp 57), none⟩] [(3, 0), (3, 1)])
        (.keep [] [] (.ret)))
        (.seq (.region [⟨some 59, .move (.tmp 24), none⟩,
           ⟨some 60, .bin .eql .int (.tmp 59) (.const (.int .i64 82)), none⟩,
           ⟨some 58, .move (.tmp 60), none⟩])
        (.keep [17, 18, 19, 21, 22, 58] [21] (.cond (.tmp 58)
         (.region [⟨some 61, .load false 1 (.tmp 18), none⟩,
           ⟨some 62, .fieldAddr 0 (.tmp 21), none⟩,
           ⟨some 63, .load true 2 (.tmp 62), none⟩,
           ⟨some 64, .buildSlice 2 1 [(.int .i64 0), (.int .i64 0)] [(0, 2, (.tmp 63))], none⟩,
           ⟨some 65, .append 2 16 (.tmp 61) (.tmp 64), none⟩,
           ⟨none, .store 1 (.tmp 18) (.tmp 65), none⟩])
         (.seq (.region [⟨some 67, .move (.tmp 22), none⟩,
            ⟨some 66, .move (.tmp 67), none⟩])
         (.keep [17, 19, 21, 66] [21] (.cond (.tmp 66)
          (.region [⟨some 68, .load false 1 (.tmp 17), none⟩,
            ⟨some 69, .move (.tmp 19), none⟩,
            ⟨some 70, .fieldAddr 2 (.tmp 21), none⟩,
            ⟨some 71, .load false 1 (.tmp 70), none⟩,
            ⟨some 72, .build [(.str []), (.str [])] [(0, 1, (.tmp 69)), (1, 1, (.tmp 71))], none⟩,
            ⟨some 73, .buildSlice 2 1 [(.str []), (.str [])] [(0, 2, (.tmp 72))], none⟩,
            ⟨some 74, .append 2 32 (.tmp 68) (.tmp 73), none⟩,
            ⟨none, .store 1 (.tmp 17) (.tmp 74), none⟩])
          (.skip)))))))))))))))))))))
  (.keep [12, 13, 14, 15, 17, 18] [] (.seq (.seq (.region [⟨some 75, .load false 1 (.tmp 18), none⟩,
      ⟨some 76, .len .slice (.tmp 75), none⟩,
      ⟨some 77, .bin .gtr .none (.tmp 76) (.const (.int .i64 0)), none⟩])
   (.keep [12, 13, 14, 15, 17, 18, 77] [] (.cond (.tmp 77)
    (.seq (.region [⟨some 78, .load false 1 (.tmp 18), none⟩,
       ⟨some 79, .call (.func 38) [(.tmp 78), (.func 39)], none⟩,
       ⟨some 80, .build [(.int .i64 0), (.int .i64 0), (.str []), (.int .i64 0), (.int .i64 0)] [], none⟩,
       ⟨none, .store 1 (.tmp 12) (.const .nils), none⟩,
       ⟨none, .store 2 (.tmp 13) (.tmp 79), none⟩,
       ⟨none, .store 5 (.tmp 14) (.tmp 80), none⟩,
       ⟨none, .store 1 (.tmp 15) (.const (.int .i64 82)), none⟩])
    (.keep [12, 13, 14, 15] [] (.ret)))
    (.skip))))
  (.keep [12, 13, 14, 15, 17] [] (.seq (.region [⟨some 81, .load false 1 (.tmp 17), none⟩,
     ⟨some 82, .build [(.int .i64 0), (.int .i64 0)] [], none⟩,
     ⟨some 83, .build [(.int .i64 0), (.int .i64 0), (.str []), (.int .i64 0), (.int .i64 0)] [], none⟩,
     ⟨none, .store 1 (.tmp 12) (.tmp 81), none⟩,
     ⟨none, .store 2 (.tmp 13) (.tmp 82), none⟩,
     ⟨none, .store 5 (.tmp 14) (.tmp 83), none⟩,
     ⟨none, .store 1 (.tmp 15) (.const (.int .i64 0)), none⟩])
  (.keep [12, 13, 14, 15] [] (.ret))))))))))))))⟩
/-- (*wampum/store.Store).Refresh -/
def F17 : FnIR := ⟨48, 5, [.cell 10 true 5, .cell 11 false 1], [6, 15, 16],
  .seq (.region [⟨some 6, .box true 2 (.tmp 1), none⟩,
     ⟨some 7, .box false 1 (.tmp 2), none⟩,
     ⟨some 8, .box false 2 (.tmp 3), none⟩,
     ⟨some 9, .box false 2 (.tmp 4), none⟩,
     ⟨some 10, .alloc false 5 [(.int .i64 0), (.int .i64 0), (.str []), (.int .i64 0), (.int .i64 0)], none⟩,
     ⟨some 11, .alloc false 1 [(.int .i64 0)], none⟩])
  (.keep [0, 6, 7, 8, 9, 10, 11] [6] (.seq (.seq (.region [⟨some 18, .move (.tmp 0), none⟩,
      ⟨some 19, .load true 2 (.tmp 6), none⟩,
      ⟨some 20, .call (.func 28) [(.tmp 18), (.tmp 19)], none⟩,
      ⟨some 12, .move (.tmp 20), none⟩])
   (.keep [0, 6, 7, 8, 9, 10, 11, 12] [6] (.seq (.region [⟨some 21, .move (.tmp 12), none⟩,
      ⟨some 22, .bin .neq .int (.tmp 21) (.const (.int .i64 0)), none⟩])
   (.keep [0, 6, 7, 8, 9, 10, 11, 12, 22] [6] (.cond (.tmp 22)
    (.seq (.region [⟨some 23, .build [(.int .i64 0), (.int .i64 0), (.str []), (.int .i64 0), (.int .i64 0)] [], none⟩,
       ⟨some 24, .move (.tmp 12), none⟩,
       ⟨none, .store 5 (.tmp 10) (.tmp 23), none⟩,
       ⟨none, .store 1 (.tmp 11) (.tmp 24), none⟩])
    (.keep [10, 11] [] (.ret)))
    (.skip))))))
  (.keep [0, 6, 7, 8, 9, 10, 11] [6] (.seq (.region [⟨some 13, .alloc false 1 [(.int .i64 0)], none⟩,
     ⟨none, .store 1 (.tmp 13) (.const (.int .i64 0)), none⟩])
  (.keep [0, 6, 7, 8, 9, 10, 11, 13] [6] (.seq (.seq (.region [⟨some 25, .move (.tmp 0), none⟩,
      ⟨some 26, .load true 2 (.tmp 6), none⟩,
      ⟨some 27, .call (.func 29) [(.tmp 25), (.tmp 26)], none⟩])
   (.keep [7, 8, 9, 10, 11, 13, 27] [] (.block 0 (.rangeF (.tmp 27) [28, 29]
     (.region [⟨some 15, .alloc true 12 [.nils, (.bool false), (.int .i64 0), (.int .i64 0), (.str []), (.int .i64 0), (.int .i64 0), (.int .i64 0), (.int .i64 0), (.int .i64 0), (.str []), (.bool false)], none⟩,
       ⟨none, .store 12 (.tmp 15) (.tmp 29), none⟩])
     (.keep [7, 8, 9, 10, 11, 13, 15] [15] (.block 1 (.seq (.region [⟨some 31, .load true 12 (.tmp 15), none⟩,
         ⟨some 32, .load false 1 (.tmp 7), none⟩,
         ⟨some 33, .load true 2 (.tmp 8), none⟩,
         ⟨some 34, .load true 2 (.tmp 9), none⟩,
         ⟨some 35, .call (.func 40) [(.tmp 31), (.tmp 32), (.tmp 33), (.tmp 34)], none⟩,
         ⟨some 30, .move (.tmp 35), none⟩,
         ⟨some 36, .extract (.tmp 30) 0, none⟩,
         ⟨some 37, .extract (.tmp 30) 1, none⟩,
         ⟨some 16, .alloc true 5 [(.int .i64 0), (.int .i64 0), (.str []), (.int .i64 0), (.int .i64 0)], none⟩,
         ⟨none, .store 5 (.tmp 16) (.tmp 36), none⟩,
         ⟨some 17, .move (.tmp 37), none⟩])
      (.keep [10, 11, 13, 16, 17] [16] (.seq (.region [⟨some 38, .move (.tmp 17), none⟩])
      (.keep [10, 11, 13, 16, 17, 38] [16] (.block 2 (.seq (.region [⟨some 41, .bin .eql .int (.tmp 38) (.const (.int .i64 0)), none⟩,
          ⟨some 40, .move (.tmp 41), none⟩])
       (.keep [10, 11, 13, 16, 17, 38, 40] [16] (.cond (.tmp 40)
        (.skip)
        (.seq (.region [⟨some 43, .bin .eql .int (.tmp 38) (.const (.int .i64 81)), none⟩,
           ⟨some 42, .move (.tmp 43), none⟩])
        (.keep [10, 11, 13, 16, 17, 42] [16] (.cond (.tmp 42)
         (.seq (.region [⟨some 44, .load true 5 (.tmp 16), none⟩,
            ⟨some 45, .move (.tmp 17), none⟩,
            ⟨none, .store 5 (.tmp 10) (.tmp 44), none⟩,
            ⟨none, .store 1 (.tmp 11) (.tmp 45), none⟩])
         (.keep [] [] (.ret)))
         (.region [⟨some 39, .move (.tmp 17), none⟩,
           ⟨none, .store 1 (.tmp 13) (.tmp 39), none⟩]))))))))))))))))))
  (.keep [10, 11, 13] [] (.seq (.regionD [⟨some 46, .build [(.int .i64 0), (.int .i64 0), (.str []), (.int .i64 0), (.int .i64 0)] [], none⟩,
     ⟨none, .store 5 (.tmp 10) (.tmp 46), none⟩,
     ⟨some 47, .load false 1 (.tmp 13), none⟩,
     ⟨none, .store 1 (.tmp 11) (.tmp 47), none⟩] [(2, 0)])
  (.keep [10, 11] [] (.ret))))))))))⟩
/-- (*wampum/store.Store).Query -/
def F20 : FnIR := ⟨28, 6, [.tmp 12], [11],
  .seq (.region [⟨some 11, .box true 2 (.tmp 5), none⟩,
     ⟨some 12, .move (.const (.bool false)), none⟩])
  (.keep [0, 1, 2, 3, 4, 11] [11] (.seq (.regionD [⟨some 13, .move (.tmp 0), none⟩,
     ⟨some 14, .bin .neq .ptr (.tmp 13) (.const .nilp), none⟩,
     ⟨some 15, .move (.tmp 14), none⟩,
     ⟨some 16, .move (.tmp 0), some (15, true)⟩,
     ⟨some 17, .nilCheck (.tmp 16), some (15, true)⟩,
     ⟨some 18, .fieldAddr 0 (.tmp 17), some (15, true)⟩,
     ⟨some 19, .load false 1 (.tmp 18), some (15, true)⟩,
     ⟨some 20, .move (.tmp 1), some (15, true)⟩,
     ⟨some 21, .lookup .str false (.agg [.nils, (.bool false), (.int .i64 0), (.int .i64 0), (.str []), (.int .i64 0), (.int .i64 0), (.int .i64 0), (.int .i64 0), (.int .i64 0), (.str []), (.bool false)]) (.tmp 19) (.tmp 20), some (15, true)⟩,
     ⟨some 22, .move (.tmp 2), some (15, true)⟩,
     ⟨some 23, .move (.tmp 3), some (15, true)⟩,
     ⟨some 24, .move (.tmp 4), some (15, true)⟩,
     ⟨some 25, .load true 2 (.tmp 11), some (15, true)⟩,
     ⟨some 26, .call (.func 41) [(.tmp 21), (.tmp 22), (.tmp 23), (.tmp 24), (.tmp 25)], some (15, true)⟩,
     ⟨some 27, .pick (.tmp 15) (.tmp 26) (.const (.bool false)), none⟩,
     ⟨some 12, .move (.tmp 27), none⟩] [])
  (.keep [12] [] (.ret))))⟩
/-- (*wampum/store.Store).Bytes -/
def L21_0 : IC :=
  .keep [3, 5, 29, 30, 31] [5] (.seq (.region [⟨some 32, .bin .lss .none (.tmp 31) (.tmp 30), none⟩])
  (.keep [3, 5, 29, 30, 31, 32] [5] (.seq (.cond (.tmp 32)
    (.skip)
    (.exit 2))
  (.keep [3, 5, 29, 30, 31] [5] (.seq (.block 3 (.seq (.region [⟨some 33, .indexAddr none 5 (.tmp 29) (.tmp 31), none⟩,
       ⟨some 34, .load true 5 (.tmp 33), none⟩,
       ⟨some 7, .alloc true 5 [(.int .i64 0), (.int .i64 0), (.str []), (.bool false), (.int .i64 0)], none⟩,
       ⟨none, .store 5 (.tmp 7) (.tmp 34), none⟩])
    (.keep [3, 5, 7, 29, 30, 31] [5, 7] (.regionD [⟨some 35, .load false 1 (.tmp 3), none⟩,
      ⟨some 36, .fieldAddr 0 (.tmp 7), none⟩,
      ⟨some 37, .load true 2 (.tmp 36), none⟩,
      ⟨some 38, .call (.func 46) [(.tmp 35), (.tmp 37)], none⟩,
      ⟨some 39, .fieldAddr 2 (.tmp 7), none⟩,
      ⟨some 40, .load false 1 (.tmp 39), none⟩,
      ⟨some 41, .call (.func 44) [(.tmp 38), (.tmp 40)], none⟩,
      ⟨some 42, .fieldAddr 3 (.tmp 7), none⟩,
      ⟨some 43, .load false 1 (.tmp 42), none⟩,
      ⟨some 44, .call (.func 45) [(.tmp 41), (.tmp 43)], none⟩,
      ⟨some 45, .fieldAddr 4 (.tmp 7), none⟩,
      ⟨some 46, .load false 1 (.tmp 45), none⟩,
      ⟨some 47, .call (.func 42) [(.tmp 44), (.tmp 46)], none⟩,
      ⟨none, .store 1 (.tmp 3) (.tmp 47), none⟩] [(5, 0), (8, 0), (8, 4), (11, 0), (11, 4), (11, 7)]))))
  (.keep [3, 5, 29, 30, 31] [5] (.region [⟨some 48, .bin .add .none (.tmp 31) (.const (.int .i64 1)), none⟩,
    ⟨some 31, .move (.tmp 48), none⟩])))))))
def F21 : FnIR := ⟨60, 1, [.tmp 2], [5, 7],
  .seq (.region [⟨some 2, .move (.const .nils), none⟩])
  (.keep [0, 2] [] (.seq (.seq (.region [⟨some 8, .move (.tmp 0), none⟩,
      ⟨some 9, .bin .eql .ptr (.tmp 8) (.const .nilp), none⟩])
   (.keep [0, 2, 9] [] (.cond (.tmp 9)
    (.seq (.region [⟨some 2, .move (.const .nils), none⟩])
    (.keep [2] [] (.ret)))
    (.skip))))
  (.keep [0, 2] [] (.seq (.region [⟨some 10, .move (.tmp 0), none⟩,
     ⟨some 11, .nilCheck (.tmp 10), none⟩,
     ⟨some 12, .fieldAddr 0 (.tmp 11), none⟩,
     ⟨some 13, .load false 1 (.tmp 12), none⟩,
     ⟨some 14, .len .map (.tmp 13), none⟩,
     ⟨some 15, .call (.func 42) [(.const .nils), (.tmp 14)], none⟩,
     ⟨some 3, .alloc false 1 [.nils], none⟩,
     ⟨none, .store 1 (.tmp 3) (.tmp 15), none⟩])
  (.keep [0, 2, 3] [] (.seq (.seq (.region [⟨some 16, .move (.tmp 0), none⟩,
      ⟨some 17, .call (.func 43) [], none⟩,
      ⟨some 18, .call (.func 29) [(.tmp 16), (.tmp 17)], none⟩])
   (.keep [2, 3, 18] [] (.block 0 (.rangeF (.tmp 18) [19, 20]
     (.seq (.region [⟨some 4, .move (.tmp 19), none⟩])
     (.keep [3, 4, 20] [] (.region [⟨some 5, .alloc true 12 [.nils, (.bool false), (.int .i64 0), (.int .i64 0), (.str []), (.int .i64 0), (.int .i64 0), (.int .i64 0), (.int .i64 0), (.int .i64 0), (.str []), (.bool false)], none⟩,
       ⟨none, .store 12 (.tmp 5) (.tmp 20), none⟩])))
     (.keep [3, 4, 5] [5] (.block 1 (.seq (.regionD [⟨some 21, .load false 1 (.tmp 3), none⟩,
         ⟨some 22, .move (.tmp 4), none⟩,
         ⟨some 23, .call (.func 44) [(.tmp 21), (.tmp 22)], none⟩,
         ⟨some 24, .fieldAddr 0 (.tmp 5), none⟩,
         ⟨some 25, .load false 1 (.tmp 24), none⟩,
         ⟨some 26, .len .slice (.tmp 25), none⟩,
         ⟨some 27, .call (.func 42) [(.tmp 23), (.tmp 26)], none⟩,
         ⟨none, .store 1 (.tmp 3) (.tmp 27), none⟩] [(4, 0)])
      (.keep [3, 5] [5] (.seq (.seq (.region [⟨some 28, .fieldAddr 0 (.tmp 5), none⟩,
          ⟨some 29, .load false 1 (.tmp 28), none⟩,
          ⟨some 30, .len .slice (.tmp 29), none⟩,
          ⟨some 31, .move (.const (.int .i64 0)), none⟩])
       (.keep [3, 5, 29, 30, 31] [5] (.block 2 (.loop L21_0))))
      (.keep [3, 5] [5] (.seq (.region [⟨some 49, .load false 1 (.tmp 3), none⟩,
         ⟨some 50, .fieldAddr 1 (.tmp 5), none⟩,
         ⟨some 51, .load false 1 (.tmp 50), none⟩,
         ⟨some 52, .call (.func 45) [(.tmp 49), (.tmp 51)], none⟩,
         ⟨none, .store 1 (.tmp 3) (.tmp 52), none⟩])
      (.keep [3, 5] [5] (.seq (.region [⟨some 53, .fieldAddr 1 (.tmp 5), none⟩,
         ⟨some 54, .load false 1 (.tmp 53), none⟩])
      (.keep [3, 5, 54] [5] (.cond (.tmp 54)
       (.region [⟨some 55, .load false 1 (.tmp 3), none⟩,
         ⟨some 56, .fieldAddr 2 (.tmp 5), none⟩,
         ⟨some 57, .load true 10 (.tmp 56), none⟩,
         ⟨some 58, .call (.func 47) [(.tmp 55), (.tmp 57)], none⟩,
         ⟨none, .store 1 (.tmp 3) (.tmp 58), none⟩])
       (.skip))))))))))))))))
  (.keep [3] [] (.seq (.region [⟨some 59, .load false 1 (.tmp 3), none⟩,
     ⟨some 2, .move (.tmp 59), none⟩])
  (.keep [2] [] (.ret))))))))))⟩
/-- (*wampum/store.Store).wrong -/
def F28 : FnIR := ⟨12, 2, [.tmp 4], [3],
  .seq (.region [⟨some 3, .box true 2 (.tmp 1), none⟩,
     ⟨some 4, .move (.const (.int .i64 0)), none⟩])
  (.keep [0, 3] [3] (.seq (.block 0 (.seq (.region [⟨some 6, .move (.tmp 0), none⟩,
       ⟨some 7, .bin .eql .ptr (.tmp 6) (.const .nilp), none⟩,
       ⟨some 5, .move (.tmp 7), none⟩])
    (.keep [3, 5] [3] (.cond (.tmp 5)
     (.seq (.region [⟨some 4, .move (.const (.int .i64 1)), none⟩])
     (.keep [4] [] (.ret)))
     (.seq (.region [⟨some 9, .load true 2 (.tmp 3), none⟩,
        ⟨some 10, .call (.func 55) [(.tmp 9)], none⟩,
        ⟨some 11, .un .not (.tmp 10), none⟩,
        ⟨some 8, .move (.tmp 11), none⟩])
     (.keep [8] [] (.cond (.tmp 8)
      (.seq (.region [⟨some 4, .move (.const (.int .i64 51)), none⟩])
      (.keep [4] [] (.ret)))
      (.skip))))))))
  (.keep [] [] (.seq (.region [⟨some 4, .move (.const (.int .i64 0)), none⟩])
  (.keep [4] [] (.ret))))))⟩
theorem fits5 : FnFits Try.prog 5 F5 := ⟨Try.f5, _, Try.func5, rfl, by decide, rfl, by decide, by kernel_rfl, by kernel_rfl⟩
theorem fits8 : FnFits Try.prog 8 F8 := ⟨Try.f8, _, Try.func8, rfl, by decide, rfl, by decide, by kernel_rfl, by kernel_rfl⟩
theorem fits9 : FnFits Try.prog 9 F9 := ⟨Try.f9, _, Try.func9, rfl, by decide, rfl, by decide, by kernel_rfl, by kernel_rfl⟩
theorem fits10 : FnFits Try.prog 10 F10 := ⟨Try.f10, _, Try.func10, rfl, by decide, rfl, by decide, by kernel_rfl, by kernel_rfl⟩
theorem fits11 : FnFits Try.prog 11 F11 := ⟨Try.f11, _, Try.func11, rfl, by decide, rfl, by decide, by kernel_rfl, by kernel_rfl⟩
theorem fits14 : FnFits Try.prog 14 F14 := ⟨Try.f14, _, Try.func14, rfl, by decide, rfl, by decide, by kernel_rfl, by kernel_rfl⟩
theorem fits16 : FnFits Try.prog 16 F16 := ⟨Try.f16, _, Try.func16, rfl, by decide, rfl, by decide, by kernel_rfl, by kernel_rfl⟩
theorem fits17 : FnFits Try.prog 17 F17 := ⟨Try.f17, _, Try.func17, rfl, by decide, rfl, by decide, by kernel_rfl, by kernel_rfl⟩
theorem fits20 : FnFits Try.prog 20 F20 := ⟨Try.f20, _, Try.func20, rfl, by decide, rfl, by decide, by kernel_rfl, by kernel_rfl⟩
theorem fits21 : FnFits Try.prog 21 F21 := ⟨Try.f21, _, Try.func21, rfl, by decide, rfl, by decide, by kernel_rfl, by kernel_rfl⟩
theorem fits28 : FnFits Try.prog 28 F28 := ⟨Try.f28, _, Try.func28, rfl, by decide, rfl, by decide, by kernel_rfl, by kernel_rfl⟩
end Go.Proofs.Ytgokjbjbdnbcdaa.EvS9
