/- Functions of the program in our form (C11). No condition. -/
import Derived.Test.YtglfchdpcididaaAmU
import Derived.Test.YtglfchdpcididaaRows
set_option linter.unusedVariables false
set_option linter.unusedSimpArgs false
namespace Go.Proofs.Ytglfchdpcididaa
open Go.Wam

/-- wampum/wampumlaw11.LatchTwo -/
def L6_0 : IC :=
  .keep [0, 3, 4, 5, 12, 13] [] (.seq (.seq (.region [⟨some 95, .move (.tmp 13), none⟩,
      ⟨some 96, .move (.tmp 12), none⟩,
      ⟨some 97, .bin .lss .none (.tmp 95) (.tmp 96), none⟩])
   (.keep [0, 3, 4, 5, 12, 13, 97] [] (.cond (.tmp 97)
    (.skip)
    (.exit 4))))
  (.keep [0, 3, 4, 5, 12, 13] [] (.seq (.block 5 (.seq (.region [⟨some 100, .move (.tmp 3), none⟩,
       ⟨some 101, .move (.tmp 4), none⟩,
       ⟨some 102, .move (.tmp 12), none⟩,
       ⟨some 103, .indexAddr none 4 (.tmp 101) (.tmp 102), none⟩,
       ⟨some 104, .fieldAddr 1 (.tmp 103), none⟩,
       ⟨some 105, .load false 1 (.tmp 104), none⟩,
       ⟨some 106, .call (.func 35) [(.tmp 100), (.tmp 105)], none⟩,
       ⟨some 107, .move (.tmp 106), none⟩,
       ⟨some 108, .move (.tmp 3), some (107, true)⟩,
       ⟨some 109, .move (.tmp 4), some (107, true)⟩,
       ⟨some 110, .move (.tmp 13), some (107, true)⟩,
       ⟨some 111, .indexAddr none 4 (.tmp 109) (.tmp 110), some (107, true)⟩,
       ⟨some 112, .fieldAddr 1 (.tmp 111), some (107, true)⟩,
       ⟨some 113, .load false 1 (.tmp 112), some (107, true)⟩,
       ⟨some 114, .call (.func 35) [(.tmp 108), (.tmp 113)], some (107, true)⟩,
       ⟨some 115, .pick (.tmp 107) (.tmp 114) (.const (.bool false)), none⟩,
       ⟨some 14, .move (.tmp 115), none⟩])
    (.keep [0, 3, 4, 5, 12, 13, 14] [] (.seq (.regionD [⟨some 116, .move (.tmp 4), none⟩,
       ⟨some 117, .move (.tmp 12), none⟩,
       ⟨some 118, .indexAddr none 4 (.tmp 116) (.tmp 117), none⟩,
       ⟨some 119, .fieldAddr 2 (.tmp 118), none⟩,
       ⟨some 120, .load false 1 (.tmp 119), none⟩,
       ⟨some 121, .move (.tmp 4), none⟩,
       ⟨some 122, .move (.tmp 13), none⟩,
       ⟨some 123, .indexAddr none 4 (.tmp 121) (.tmp 122), none⟩,
       ⟨some 124, .fieldAddr 2 (.tmp 123), none⟩,
       ⟨some 125, .load false 1 (.tmp 124), none⟩,
       ⟨some 126, .call (.func 36) [(.tmp 120), (.tmp 125)], none⟩,
       ⟨some 15, .move (.tmp 126), none⟩] [])
    (.keep [0, 3, 4, 5, 12, 13, 14, 15] [] (.seq (.region [⟨some 127, .move (.tmp 14), none⟩,
       ⟨some 128, .move (.tmp 127), none⟩,
       ⟨some 129, .move (.tmp 15), some (128, true)⟩,
       ⟨some 130, .pick (.tmp 128) (.tmp 129) (.const (.bool false)), none⟩,
       ⟨some 131, .move (.tmp 130), none⟩,
       ⟨some 132, .move (.tmp 4), some (131, true)⟩,
       ⟨some 133, .move (.tmp 12), some (131, true)⟩,
       ⟨some 134, .indexAddr none 4 (.tmp 132) (.tmp 133), some (131, true)⟩,
       ⟨some 135, .fieldAddr 3 (.tmp 134), some (131, true)⟩,
       ⟨some 136, .load false 1 (.tmp 135), some (131, true)⟩,
       ⟨some 137, .move (.tmp 136), some (131, true)⟩,
       ⟨some 138, .move (.tmp 4), some (137, false)⟩,
       ⟨some 139, .move (.tmp 13), some (137, false)⟩,
       ⟨some 140, .indexAddr none 4 (.tmp 138) (.tmp 139), some (137, false)⟩,
       ⟨some 141, .fieldAddr 3 (.tmp 140), some (137, false)⟩,
       ⟨some 142, .load false 1 (.tmp 141), some (137, false)⟩,
       ⟨some 143, .pick (.tmp 137) (.const (.bool true)) (.tmp 142), some (131, true)⟩,
       ⟨some 144, .pick (.tmp 131) (.tmp 143) (.const (.bool false)), none⟩])
    (.keep [0, 3, 4, 5, 12, 13, 144] [] (.cond (.tmp 144)
     (.seq (.region [⟨some 2, .move (.const (.bool false)), none⟩])
     (.keep [2] [] (.ret)))
     (.skip)))))))))
  (.keep [0, 3, 4, 5, 12, 13] [] (.region [⟨some 98, .move (.tmp 13), none⟩,
    ⟨some 99, .bin .add .none (.tmp 98) (.const (.int .i64 1)), none⟩,
    ⟨some 13, .move (.tmp 99), none⟩])))))
def L6_1 : IC :=
  .keep [0, 3, 4, 5, 12] [] (.seq (.seq (.region [⟨some 89, .move (.tmp 12), none⟩,
      ⟨some 90, .move (.tmp 4), none⟩,
      ⟨some 91, .len .slice (.tmp 90), none⟩,
      ⟨some 92, .bin .lss .none (.tmp 89) (.tmp 91), none⟩])
   (.keep [0, 3, 4, 5, 12, 92] [] (.cond (.tmp 92)
    (.skip)
    (.exit 2))))
  (.keep [0, 3, 4, 5, 12] [] (.seq (.block 3 (.seq (.region [⟨some 13, .move (.const (.int .i64 0)), none⟩])
    (.keep [0, 3, 4, 5, 12, 13] [] (.block 4 (.loop L6_0)))))
  (.keep [0, 3, 4, 5, 12] [] (.region [⟨some 93, .move (.tmp 12), none⟩,
    ⟨some 94, .bin .add .none (.tmp 93) (.const (.int .i64 1)), none⟩,
    ⟨some 12, .move (.tmp 94), none⟩])))))
def L6_2 : IC :=
  .keep [0, 3, 4, 5] [] (.seq (.seq (.region [⟨some 23, .move (.tmp 5), none⟩,
      ⟨some 24, .move (.tmp 0), none⟩,
      ⟨some 25, .len .slice (.tmp 24), none⟩,
      ⟨some 26, .bin .lss .none (.tmp 23) (.tmp 25), none⟩,
      ⟨some 27, .move (.tmp 26), none⟩,
      ⟨some 28, .move (.tmp 5), some (27, true)⟩,
      ⟨some 29, .bin .lss .none (.tmp 28) (.const (.int .i64 60)), some (27, true)⟩,
      ⟨some 30, .pick (.tmp 27) (.tmp 29) (.const (.bool false)), none⟩])
   (.keep [0, 3, 4, 5, 30] [] (.cond (.tmp 30)
    (.skip)
    (.exit 0))))
  (.keep [0, 3, 4, 5] [] (.seq (.block 1 (.seq (.region [⟨some 33, .move (.tmp 0), none⟩,
       ⟨some 34, .move (.tmp 5), none⟩,
       ⟨some 35, .indexAddr none 4 (.tmp 33) (.tmp 34), none⟩,
       ⟨some 36, .load true 4 (.tmp 35), none⟩,
       ⟨some 6, .alloc true 4 [(.int .i64 0), (.int .i64 0), .nils, (.bool false)], none⟩,
       ⟨none, .store 4 (.tmp 6) (.tmp 36), none⟩])
    (.keep [0, 3, 4, 5, 6] [6] (.seq (.region [⟨some 37, .load true 4 (.tmp 6), none⟩,
       ⟨some 38, .call (.func 31) [(.tmp 37)], none⟩,
       ⟨some 7, .move (.tmp 38), none⟩])
    (.keep [0, 3, 4, 5, 6, 7] [6] (.seq (.seq (.region [⟨some 39, .move (.tmp 7), none⟩,
        ⟨some 40, .un .not (.tmp 39), none⟩])
     (.keep [0, 3, 4, 5, 6, 40] [6] (.cond (.tmp 40)
      (.exit 1)
      (.skip))))
    (.keep [0, 3, 4, 5, 6] [6] (.seq (.seq (.region [⟨some 41, .fieldAddr 0 (.tmp 6), none⟩,
        ⟨some 42, .load false 1 (.tmp 41), none⟩,
        ⟨some 43, .bin .eql .int (.tmp 42) (.const (.int .i64 1)), none⟩])
     (.keep [0, 3, 4, 5, 6, 43] [6] (.cond (.tmp 43)
      (.seq (.region [⟨some 45, .move (.tmp 3), none⟩,
         ⟨some 46, .fieldAddr 1 (.tmp 6), none⟩,
         ⟨some 47, .load false 1 (.tmp 46), none⟩,
         ⟨some 48, .fieldAddr 2 (.tmp 6), none⟩,
         ⟨some 49, .load false 1 (.tmp 48), none⟩,
         ⟨some 50, .fieldAddr 3 (.tmp 6), none⟩,
         ⟨some 51, .load false 1 (.tmp 50), none⟩,
         ⟨some 52, .call (.func 32) [(.tmp 45), (.tmp 47), (.tmp 49), (.tmp 51)], none⟩,
         ⟨some 44, .move (.tmp 52), none⟩,
         ⟨some 53, .extract (.tmp 44) 0, none⟩,
         ⟨some 54, .extract (.tmp 44) 1, none⟩,
         ⟨some 8, .move (.tmp 53), none⟩,
         ⟨some 9, .move (.tmp 54), none⟩])
      (.keep [0, 3, 4, 5, 6, 9] [6] (.seq (.region [⟨some 55, .move (.tmp 9), none⟩,
         ⟨some 56, .bin .eql .int (.tmp 55) (.const (.int .i64 0)), none⟩])
      (.keep [0, 3, 4, 5, 6, 56] [6] (.cond (.tmp 56)
       (.region [⟨some 57, .move (.tmp 4), none⟩,
         ⟨some 58, .load true 4 (.tmp 6), none⟩,
         ⟨some 59, .buildSlice 4 1 [(.int .i64 0), (.int .i64 0), .nils, (.bool false)] [(0, 4, (.tmp 58))], none⟩,
         ⟨some 60, .append 4 48 (.tmp 57) (.tmp 59), none⟩,
         ⟨some 4, .move (.tmp 60), none⟩])
       (.skip))))))
      (.skip))))
    (.keep [0, 3, 4, 5, 6] [6] (.seq (.seq (.region [⟨some 61, .fieldAddr 0 (.tmp 6), none⟩,
        ⟨some 62, .load false 1 (.tmp 61), none⟩,
        ⟨some 63, .bin .eql .int (.tmp 62) (.const (.int .i64 2)), none⟩])
     (.keep [0, 3, 4, 5, 6, 63] [6] (.cond (.tmp 63)
      (.seq (.region [⟨some 65, .move (.tmp 3), none⟩,
         ⟨some 66, .fieldAddr 1 (.tmp 6), none⟩,
         ⟨some 67, .load false 1 (.tmp 66), none⟩,
         ⟨some 68, .call (.func 33) [(.tmp 65), (.tmp 67)], none⟩,
         ⟨some 64, .move (.tmp 68), none⟩,
         ⟨some 69, .extract (.tmp 64) 0, none⟩,
         ⟨some 70, .extract (.tmp 64) 1, none⟩,
         ⟨some 10, .move (.tmp 69), none⟩,
         ⟨some 11, .move (.tmp 70), none⟩])
      (.keep [0, 3, 4, 5, 6, 11] [6] (.seq (.region [⟨some 71, .move (.tmp 11), none⟩,
         ⟨some 72, .bin .eql .int (.tmp 71) (.const (.int .i64 0)), none⟩])
      (.keep [0, 3, 4, 5, 6, 72] [6] (.cond (.tmp 72)
       (.region [⟨some 73, .move (.tmp 4), none⟩,
         ⟨some 74, .fieldAddr 1 (.tmp 6), none⟩,
         ⟨some 75, .load false 1 (.tmp 74), none⟩,
         ⟨some 76, .call (.func 34) [(.tmp 73), (.tmp 75)], none⟩,
         ⟨some 4, .move (.tmp 76), none⟩])
       (.skip))))))
      (.skip))))
    (.keep [0, 3, 4, 5] [] (.seq (.seq (.region [⟨some 77, .move (.tmp 4), none⟩,
        ⟨some 78, .len .slice (.tmp 77), none⟩,
        ⟨some 79, .bin .gtr .none (.tmp 78) (.const (.int .i64 0)), none⟩,
        ⟨some 80, .move (.tmp 79), none⟩,
        ⟨some 81, .move (.tmp 3), some (80, true)⟩,
        ⟨some 82, .move (.tmp 4), some (80, true)⟩,
        ⟨some 83, .indexAddr none 4 (.tmp 82) (.const (.int .i64 0)), some (80, true)⟩,
        ⟨some 84, .fieldAddr 1 (.tmp 83), some (80, true)⟩,
        ⟨some 85, .load false 1 (.tmp 84), some (80, true)⟩,
        ⟨some 86, .call (.func 35) [(.tmp 81), (.tmp 85)], some (80, true)⟩,
        ⟨some 87, .un .not (.tmp 86), some (80, true)⟩,
        ⟨some 88, .pick (.tmp 80) (.tmp 87) (.const (.bool false)), none⟩])
     (.keep [0, 3, 4, 5, 88] [] (.cond (.tmp 88)
      (.seq (.region [⟨some 2, .move (.const (.bool false)), none⟩])
      (.keep [2] [] (.ret)))
      (.skip))))
    (.keep [0, 3, 4, 5] [] (.seq (.region [⟨some 12, .move (.const (.int .i64 0)), none⟩])
    (.keep [0, 3, 4, 5, 12] [] (.block 2 (.loop L6_1)))))))))))))))))
  (.keep [0, 3, 4, 5] [] (.region [⟨some 31, .move (.tmp 5), none⟩,
    ⟨some 32, .bin .add .none (.tmp 31) (.const (.int .i64 1)), none⟩,
    ⟨some 5, .move (.tmp 32), none⟩])))))
def F6 : FnIR := ⟨145, 1, [.tmp 2], [6],
  .seq (.region [⟨some 2, .move (.const (.bool false)), none⟩])
  (.keep [0] [] (.seq (.region [⟨some 16, .call (.func 29) [], none⟩,
     ⟨some 3, .move (.tmp 16), none⟩])
  (.keep [0, 3] [] (.seq (.seq (.region [⟨some 17, .call (.func 30) [], none⟩,
      ⟨some 18, .un .not (.tmp 17), none⟩,
      ⟨some 19, .move (.tmp 18), none⟩,
      ⟨some 20, .move (.tmp 3), some (19, false)⟩,
      ⟨some 21, .bin .eql .ptr (.tmp 20) (.const .nilp), some (19, false)⟩,
      ⟨some 22, .pick (.tmp 19) (.const (.bool true)) (.tmp 21), none⟩])
   (.keep [0, 3, 22] [] (.cond (.tmp 22)
    (.seq (.region [⟨some 2, .move (.const (.bool false)), none⟩])
    (.keep [2] [] (.ret)))
    (.skip))))
  (.keep [0, 3] [] (.seq (.region [⟨some 4, .move (.const .nils), none⟩])
  (.keep [0, 3, 4] [] (.seq (.seq (.region [⟨some 5, .move (.const (.int .i64 0)), none⟩])
   (.keep [0, 3, 4, 5] [] (.block 0 (.loop L6_2))))
  (.keep [] [] (.seq (.region [⟨some 2, .move (.const (.bool true)), none⟩])
  (.keep [2] [] (.ret))))))))))))⟩
/-- wampum/latch.New -/
def F29 : FnIR := ⟨3, 0, [.tmp 0], [],
  .seq (.region [⟨some 0, .move (.const .nilp), none⟩])
  (.keep [] [] (.seq (.region [⟨some 1, .build [.nils] [], none⟩,
     ⟨some 2, .box false 1 (.tmp 1), none⟩,
     ⟨some 0, .move (.tmp 2), none⟩])
  (.keep [0] [] (.ret))))⟩
/-- wampum/wampumlaw11.alive -/
def F30 : FnIR := ⟨76, 0, [.tmp 0], [],
  .seq (.region [⟨some 0, .move (.const (.bool false)), none⟩])
  (.keep [] [] (.seq (.region [⟨some 10, .call (.func 29) [], none⟩,
     ⟨some 1, .move (.tmp 10), none⟩])
  (.keep [1] [] (.seq (.region [⟨some 12, .move (.tmp 1), none⟩,
     ⟨some 13, .build [(.str []), (.str [])] [(0, 1, (.const (.str [97]))), (1, 1, (.const (.str [99])))], none⟩,
     ⟨some 14, .buildSlice 2 1 [(.str []), (.str [])] [(0, 2, (.tmp 13))], none⟩,
     ⟨some 15, .call (.func 32) [(.tmp 12), (.const (.int .i64 1)), (.tmp 14), (.const (.bool true))], none⟩,
     ⟨some 11, .move (.tmp 15), none⟩,
     ⟨some 16, .extract (.tmp 11) 0, none⟩,
     ⟨some 17, .extract (.tmp 11) 1, none⟩,
     ⟨some 2, .move (.tmp 16), none⟩,
     ⟨some 3, .move (.tmp 17), none⟩])
  (.keep [1, 2, 3] [] (.seq (.region [⟨some 19, .move (.tmp 1), none⟩,
     ⟨some 20, .build [(.str []), (.str [])] [(0, 1, (.const (.str [98])))], none⟩,
     ⟨some 21, .buildSlice 2 1 [(.str []), (.str [])] [(0, 2, (.tmp 20))], none⟩,
     ⟨some 22, .call (.func 32) [(.tmp 19), (.const (.int .i64 2)), (.tmp 21), (.const (.bool false))], none⟩,
     ⟨some 18, .move (.tmp 22), none⟩,
     ⟨some 23, .extract (.tmp 18) 0, none⟩,
     ⟨some 24, .extract (.tmp 18) 1, none⟩,
     ⟨some 4, .move (.tmp 23), none⟩,
     ⟨some 5, .move (.tmp 24), none⟩])
  (.keep [1, 2, 3, 4, 5] [] (.seq (.region [⟨some 26, .move (.tmp 1), none⟩,
     ⟨some 27, .build [(.str []), (.str [])] [(0, 1, (.const (.str [99])))], none⟩,
     ⟨some 28, .buildSlice 2 1 [(.str []), (.str [])] [(0, 2, (.tmp 27))], none⟩,
     ⟨some 29, .call (.func 32) [(.tmp 26), (.const (.int .i64 3)), (.tmp 28), (.const (.bool true))], none⟩,
     ⟨some 25, .move (.tmp 29), none⟩,
     ⟨some 30, .extract (.tmp 25) 0, none⟩,
     ⟨some 31, .extract (.tmp 25) 1, none⟩,
     ⟨some 6, .move (.tmp 30), none⟩,
     ⟨some 7, .move (.tmp 31), none⟩])
  (.keep [1, 2, 3, 4, 5, 6, 7] [] (.seq (.region [⟨some 33, .move (.tmp 1), none⟩,
     ⟨some 34, .call (.func 33) [(.tmp 33), (.const (.int .i64 1))], none⟩,
     ⟨some 32, .move (.tmp 34), none⟩,
     ⟨some 35, .extract (.tmp 32) 0, none⟩,
     ⟨some 36, .extract (.tmp 32) 1, none⟩,
     ⟨some 8, .move (.tmp 35), none⟩,
     ⟨some 9, .move (.tmp 36), none⟩])
  (.keep [1, 2, 3, 4, 5, 6, 7, 8, 9] [] (.seq (.region [⟨some 37, .move (.tmp 3), none⟩,
     ⟨some 38, .bin .eql .int (.tmp 37) (.const (.int .i64 0)), none⟩,
     ⟨some 39, .move (.tmp 38), none⟩,
     ⟨some 40, .move (.tmp 5), some (39, true)⟩,
     ⟨some 41, .bin .eql .int (.tmp 40) (.const (.int .i64 0)), some (39, true)⟩,
     ⟨some 42, .pick (.tmp 39) (.tmp 41) (.const (.bool false)), none⟩,
     ⟨some 43, .move (.tmp 42), none⟩,
     ⟨some 44, .move (.tmp 7), some (43, true)⟩,
     ⟨some 45, .bin .eql .int (.tmp 44) (.const (.int .i64 0)), some (43, true)⟩,
     ⟨some 46, .pick (.tmp 43) (.tmp 45) (.const (.bool false)), none⟩,
     ⟨some 47, .move (.tmp 46), none⟩,
     ⟨some 48, .move (.tmp 9), some (47, true)⟩,
     ⟨some 49, .bin .eql .int (.tmp 48) (.const (.int .i64 0)), some (47, true)⟩,
     ⟨some 50, .pick (.tmp 47) (.tmp 49) (.const (.bool false)), none⟩,
     ⟨some 51, .move (.tmp 50), none⟩,
     ⟨some 52, .move (.tmp 2), some (51, true)⟩,
     ⟨some 53, .pick (.tmp 51) (.tmp 52) (.const (.bool false)), none⟩,
     ⟨some 54, .move (.tmp 53), none⟩,
     ⟨some 55, .move (.tmp 4), some (54, true)⟩,
     ⟨some 56, .un .not (.tmp 55), some (54, true)⟩,
     ⟨some 57, .pick (.tmp 54) (.tmp 56) (.const (.bool false)), none⟩,
     ⟨some 58, .move (.tmp 57), none⟩,
     ⟨some 59, .move (.tmp 6), some (58, true)⟩,
     ⟨some 60, .pick (.tmp 58) (.tmp 59) (.const (.bool false)), none⟩,
     ⟨some 61, .move (.tmp 60), none⟩,
     ⟨some 62, .move (.tmp 8), some (61, true)⟩,
     ⟨some 63, .len .slice (.tmp 62), some (61, true)⟩,
     ⟨some 64, .bin .eql .int (.tmp 63) (.const (.int .i64 1)), some (61, true)⟩,
     ⟨some 65, .pick (.tmp 61) (.tmp 64) (.const (.bool false)), none⟩,
     ⟨some 66, .move (.tmp 65), none⟩,
     ⟨some 67, .move (.tmp 8), some (66, true)⟩,
     ⟨some 68, .indexAddr none 1 (.tmp 67) (.const (.int .i64 0)), some (66, true)⟩,
     ⟨some 69, .load false 1 (.tmp 68), some (66, true)⟩,
     ⟨some 70, .bin .eql .int (.tmp 69) (.const (.int .i64 2)), some (66, true)⟩,
     ⟨some 71, .pick (.tmp 66) (.tmp 70) (.const (.bool false)), none⟩,
     ⟨some 72, .move (.tmp 71), none⟩,
     ⟨some 73, .move (.tmp 1), some (72, true)⟩,
     ⟨some 74, .call (.func 35) [(.tmp 73), (.const (.int .i64 2))], some (72, true)⟩,
     ⟨some 75, .pick (.tmp 72) (.tmp 74) (.const (.bool false)), none⟩,
     ⟨some 0, .move (.tmp 75), none⟩])
  (.keep [0] [] (.ret))))))))))))))⟩
/-- (*wampum/latch.Latches).Claim -/
def L32_0 : IC :=
  .keep [0, 10, 43, 44, 45] [] (.seq (.region [⟨some 46, .bin .lss .none (.tmp 45) (.tmp 44), none⟩])
  (.keep [0, 10, 43, 44, 45, 46] [] (.seq (.cond (.tmp 46)
    (.skip)
    (.exit 1))
  (.keep [0, 10, 43, 44, 45] [] (.seq (.block 2 (.seq (.region [⟨some 47, .indexAddr none 1 (.tmp 43) (.tmp 45), none⟩,
       ⟨some 48, .load false 1 (.tmp 47), none⟩,
       ⟨some 12, .move (.tmp 48), none⟩])
    (.keep [0, 10, 12, 43, 44, 45] [] (.seq (.region [⟨some 49, .move (.tmp 10), none⟩,
       ⟨some 50, .move (.tmp 12), none⟩,
       ⟨some 51, .call (.func 58) [(.tmp 49), (.tmp 50)], none⟩])
    (.keep [0, 10, 43, 44, 45, 51] [] (.cond (.tmp 51)
     (.region [⟨some 52, .move (.tmp 10), none⟩,
       ⟨some 53, .nilCheck (.tmp 52), none⟩,
       ⟨some 54, .fieldAddr 3 (.tmp 53), none⟩,
       ⟨some 55, .load false 1 (.tmp 54), none⟩,
       ⟨some 56, .bin .add .none (.tmp 55) (.const (.int .i64 1)), none⟩,
       ⟨some 57, .nilCheck (.tmp 52), none⟩,
       ⟨some 58, .fieldAddr 3 (.tmp 57), none⟩,
       ⟨none, .store 1 (.tmp 58) (.tmp 56), none⟩])
     (.skip)))))))
  (.keep [0, 10, 43, 44, 45] [] (.region [⟨some 59, .bin .add .none (.tmp 45) (.const (.int .i64 1)), none⟩,
    ⟨some 45, .move (.tmp 59), none⟩])))))))
def F32 : FnIR := ⟨75, 4, [.tmp 8, .tmp 9], [],
  .seq (.region [⟨some 8, .move (.const (.bool false)), none⟩,
     ⟨some 9, .move (.const (.int .i64 0)), none⟩])
  (.keep [0, 1, 2, 3] [] (.seq (.block 0 (.seq (.region [⟨some 14, .move (.tmp 0), none⟩,
       ⟨some 15, .bin .eql .ptr (.tmp 14) (.const .nilp), none⟩,
       ⟨some 13, .move (.tmp 15), none⟩])
    (.keep [0, 1, 2, 3, 13] [] (.cond (.tmp 13)
     (.seq (.region [⟨some 8, .move (.const (.bool false)), none⟩,
        ⟨some 9, .move (.const (.int .i64 1)), none⟩])
     (.keep [8, 9] [] (.ret)))
     (.seq (.region [⟨some 17, .move (.tmp 0), none⟩,
        ⟨some 18, .move (.tmp 1), none⟩,
        ⟨some 19, .call (.func 53) [(.tmp 17), (.tmp 18)], none⟩,
        ⟨some 20, .bin .geq .none (.tmp 19) (.const (.int .i64 0)), none⟩,
        ⟨some 16, .move (.tmp 20), none⟩])
     (.keep [0, 1, 2, 3, 16] [] (.cond (.tmp 16)
      (.seq (.region [⟨some 8, .move (.const (.bool false)), none⟩,
         ⟨some 9, .move (.const (.int .i64 111)), none⟩])
      (.keep [8, 9] [] (.ret)))
      (.seq (.region [⟨some 22, .move (.tmp 2), none⟩,
         ⟨some 23, .len .slice (.tmp 22), none⟩,
         ⟨some 24, .bin .eql .int (.tmp 23) (.const (.int .i64 0)), none⟩,
         ⟨some 25, .move (.tmp 24), none⟩,
         ⟨some 26, .move (.tmp 2), some (25, false)⟩,
         ⟨some 27, .len .slice (.tmp 26), some (25, false)⟩,
         ⟨some 28, .bin .gtr .none (.tmp 27) (.const (.int .i64 20)), some (25, false)⟩,
         ⟨some 29, .pick (.tmp 25) (.const (.bool true)) (.tmp 28), none⟩,
         ⟨some 30, .move (.tmp 29), none⟩,
         ⟨some 31, .move (.tmp 2), some (30, false)⟩,
         ⟨some 32, .call (.func 54) [(.tmp 31), (.func 55)], some (30, false)⟩,
         ⟨some 33, .pick (.tmp 30) (.const (.bool true)) (.tmp 32), none⟩,
         ⟨some 21, .move (.tmp 33), none⟩])
      (.keep [0, 1, 2, 3, 21] [] (.cond (.tmp 21)
       (.seq (.region [⟨some 8, .move (.const (.bool false)), none⟩,
          ⟨some 9, .move (.const (.int .i64 51)), none⟩])
       (.keep [8, 9] [] (.ret)))
       (.skip)))))))))))
  (.keep [0, 1, 2, 3] [] (.seq (.region [⟨some 34, .move (.tmp 1), none⟩,
     ⟨some 35, .move (.tmp 2), none⟩,
     ⟨some 36, .call (.func 57) [(.tmp 35)], none⟩,
     ⟨some 37, .move (.tmp 3), none⟩,
     ⟨some 38, .build [(.int .i64 0), .nils, (.bool false), (.int .i64 0)] [(0, 1, (.tmp 34)), (1, 1, (.tmp 36)), (2, 1, (.tmp 37))], none⟩,
     ⟨some 39, .box false 4 (.tmp 38), none⟩,
     ⟨some 10, .move (.tmp 39), none⟩])
  (.keep [0, 10] [] (.seq (.seq (.region [⟨some 40, .move (.tmp 0), none⟩,
      ⟨some 41, .nilCheck (.tmp 40), none⟩,
      ⟨some 42, .fieldAddr 0 (.tmp 41), none⟩,
      ⟨some 43, .load false 1 (.tmp 42), none⟩,
      ⟨some 44, .len .slice (.tmp 43), none⟩,
      ⟨some 45, .move (.const (.int .i64 0)), none⟩])
   (.keep [0, 10, 43, 44, 45] [] (.block 1 (.loop L32_0))))
  (.keep [0, 10] [] (.seq (.region [⟨some 60, .move (.tmp 0), none⟩,
     ⟨some 61, .move (.tmp 0), none⟩,
     ⟨some 62, .nilCheck (.tmp 61), none⟩,
     ⟨some 63, .fieldAddr 0 (.tmp 62), none⟩,
     ⟨some 64, .load false 1 (.tmp 63), none⟩,
     ⟨some 65, .move (.tmp 10), none⟩,
     ⟨some 66, .buildSlice 1 1 [.nilp] [(0, 1, (.tmp 65))], none⟩,
     ⟨some 67, .append 1 8 (.tmp 64) (.tmp 66), none⟩,
     ⟨some 68, .nilCheck (.tmp 60), none⟩,
     ⟨some 69, .fieldAddr 0 (.tmp 68), none⟩,
     ⟨none, .store 1 (.tmp 69) (.tmp 67), none⟩])
  (.keep [10] [] (.seq (.region [⟨some 70, .move (.tmp 10), none⟩,
     ⟨some 71, .nilCheck (.tmp 70), none⟩,
     ⟨some 72, .fieldAddr 3 (.tmp 71), none⟩,
     ⟨some 73, .load false 1 (.tmp 72), none⟩,
     ⟨some 74, .bin .eql .int (.tmp 73) (.const (.int .i64 0)), none⟩,
     ⟨some 8, .move (.tmp 74), none⟩,
     ⟨some 9, .move (.const (.int .i64 0)), none⟩])
  (.keep [8, 9] [] (.ret))))))))))))⟩
/-- (*wampum/latch.Latches).find -/
def F53 : FnIR := ⟨11, 2, [.tmp 4], [],
  .seq (.region [⟨some 3, .box false 1 (.tmp 1), none⟩,
     ⟨some 4, .move (.const (.int .i64 0)), none⟩])
  (.keep [0, 3] [] (.seq (.region [⟨some 5, .move (.tmp 0), none⟩,
     ⟨some 6, .nilCheck (.tmp 5), none⟩,
     ⟨some 7, .fieldAddr 0 (.tmp 6), none⟩,
     ⟨some 8, .load false 1 (.tmp 7), none⟩,
     ⟨some 9, .mkFunc (.func 67) [] [(.tmp 3)], none⟩,
     ⟨some 10, .call (.func 66) [(.tmp 8), (.tmp 9)], none⟩,
     ⟨some 4, .move (.tmp 10), none⟩])
  (.keep [4] [] (.ret))))⟩
/-- (*wampum/latch.Latches).find$1 -/
def F67 : FnIR := ⟨10, 2, [.tmp 3], [],
  .seq (.region [⟨some 3, .move (.const (.bool false)), none⟩])
  (.keep [0, 1] [] (.seq (.regionD [⟨some 4, .move (.tmp 0), none⟩,
     ⟨some 5, .nilCheck (.tmp 4), none⟩,
     ⟨some 6, .fieldAddr 0 (.tmp 5), none⟩,
     ⟨some 7, .load false 1 (.tmp 6), none⟩,
     ⟨some 8, .load false 1 (.tmp 1), none⟩,
     ⟨some 9, .bin .eql .int (.tmp 7) (.tmp 8), none⟩,
     ⟨some 3, .move (.tmp 9), none⟩] [])
  (.keep [3] [] (.ret))))⟩
/-- slices.IndexFunc[[]*wampum/latch.claim,*wampum/latch.claim] -/
def L66_0 : IC :=
  .keep [0, 1, 7, 8] [] (.seq (.region [⟨some 9, .bin .lss .none (.tmp 8) (.tmp 7), none⟩])
  (.keep [0, 1, 7, 8, 9] [] (.seq (.cond (.tmp 9)
    (.skip)
    (.exit 0))
  (.keep [0, 1, 7, 8] [] (.seq (.block 1 (.seq (.region [⟨some 10, .move (.tmp 8), none⟩,
       ⟨some 5, .move (.tmp 10), none⟩])
    (.keep [0, 1, 5, 7, 8] [] (.seq (.region [⟨some 11, .move (.tmp 1), none⟩,
       ⟨some 12, .move (.tmp 0), none⟩,
       ⟨some 13, .move (.tmp 5), none⟩,
       ⟨some 14, .indexAddr none 1 (.tmp 12) (.tmp 13), none⟩,
       ⟨some 15, .load false 1 (.tmp 14), none⟩,
       ⟨some 16, .call (.tmp 11) [(.tmp 15)], none⟩])
    (.keep [0, 1, 5, 7, 8, 16] [] (.cond (.tmp 16)
     (.seq (.region [⟨some 17, .move (.tmp 5), none⟩,
        ⟨some 4, .move (.tmp 17), none⟩])
     (.keep [4] [] (.ret)))
     (.skip)))))))
  (.keep [0, 1, 7, 8] [] (.region [⟨some 18, .bin .add .none (.tmp 8) (.const (.int .i64 1)), none⟩,
    ⟨some 8, .move (.tmp 18), none⟩])))))))
def F66 : FnIR := ⟨19, 2, [.tmp 4], [],
  .seq (.region [⟨some 4, .move (.const (.int .i64 0)), none⟩])
  (.keep [0, 1] [] (.seq (.seq (.region [⟨some 6, .move (.tmp 0), none⟩,
      ⟨some 7, .len .slice (.tmp 6), none⟩,
      ⟨some 8, .move (.const (.int .i64 0)), none⟩])
   (.keep [0, 1, 7, 8] [] (.block 0 (.loop L66_0))))
  (.keep [] [] (.seq (.region [⟨some 4, .move (.const (.int .i64 (-1))), none⟩])
  (.keep [4] [] (.ret))))))⟩
/-- slices.ContainsFunc[[]wampum/api.Span,wampum/api.Span] -/
def F54 : FnIR := ⟨9, 2, [.tmp 4], [],
  .seq (.region [⟨some 4, .move (.const (.bool false)), none⟩])
  (.keep [0, 1] [] (.seq (.region [⟨some 5, .move (.tmp 0), none⟩,
     ⟨some 6, .move (.tmp 1), none⟩,
     ⟨some 7, .call (.func 68) [(.tmp 5), (.tmp 6)], none⟩,
     ⟨some 8, .bin .geq .none (.tmp 7) (.const (.int .i64 0)), none⟩,
     ⟨some 4, .move (.tmp 8), none⟩])
  (.keep [4] [] (.ret))))⟩
/-- slices.IndexFunc[[]wampum/api.Span,wampum/api.Span] -/
def L68_0 : IC :=
  .keep [0, 1, 7, 8] [] (.seq (.region [⟨some 9, .bin .lss .none (.tmp 8) (.tmp 7), none⟩])
  (.keep [0, 1, 7, 8, 9] [] (.seq (.cond (.tmp 9)
    (.skip)
    (.exit 0))
  (.keep [0, 1, 7, 8] [] (.seq (.block 1 (.seq (.region [⟨some 10, .move (.tmp 8), none⟩,
       ⟨some 5, .move (.tmp 10), none⟩])
    (.keep [0, 1, 5, 7, 8] [] (.seq (.region [⟨some 11, .move (.tmp 1), none⟩,
       ⟨some 12, .move (.tmp 0), none⟩,
       ⟨some 13, .move (.tmp 5), none⟩,
       ⟨some 14, .indexAddr none 2 (.tmp 12) (.tmp 13), none⟩,
       ⟨some 15, .load true 2 (.tmp 14), none⟩,
       ⟨some 16, .call (.tmp 11) [(.tmp 15)], none⟩])
    (.keep [0, 1, 5, 7, 8, 16] [] (.cond (.tmp 16)
     (.seq (.region [⟨some 17, .move (.tmp 5), none⟩,
        ⟨some 4, .move (.tmp 17), none⟩])
     (.keep [4] [] (.ret)))
     (.skip)))))))
  (.keep [0, 1, 7, 8] [] (.region [⟨some 18, .bin .add .none (.tmp 8) (.const (.int .i64 1)), none⟩,
    ⟨some 8, .move (.tmp 18), none⟩])))))))
def F68 : FnIR := ⟨19, 2, [.tmp 4], [],
  .seq (.region [⟨some 4, .move (.const (.int .i64 0)), none⟩])
  (.keep [0, 1] [] (.seq (.seq (.region [⟨some 6, .move (.tmp 0), none⟩,
      ⟨some 7, .len .slice (.tmp 6), none⟩,
      ⟨some 8, .move (.const (.int .i64 0)), none⟩])
   (.keep [0, 1, 7, 8] [] (.block 0 (.loop L68_0))))
  (.keep [] [] (.seq (.region [⟨some 4, .move (.const (.int .i64 (-1))), none⟩])
  (.keep [4] [] (.ret))))))⟩
/-- (*wampum/latch.Latches).Claim$1 -/
def F55 : FnIR := ⟨6, 1, [.tmp 2], [1],
  .seq (.region [⟨some 1, .box true 2 (.tmp 0), none⟩,
     ⟨some 2, .move (.const (.bool false)), none⟩])
  (.keep [1] [1] (.seq (.region [⟨some 3, .load true 2 (.tmp 1), none⟩,
     ⟨some 4, .call (.func 56) [(.tmp 3)], none⟩,
     ⟨some 5, .un .not (.tmp 4), none⟩,
     ⟨some 2, .move (.tmp 5), none⟩])
  (.keep [2] [] (.ret))))⟩
/-- wampum/span.Right -/
def F56 : FnIR := ⟨30, 1, [.tmp 2], [1],
  .seq (.region [⟨some 1, .box true 2 (.tmp 0), none⟩,
     ⟨some 2, .move (.const (.bool false)), none⟩])
  (.keep [1] [1] (.seq (.seq (.region [⟨some 3, .fieldAddr 0 (.tmp 1), none⟩,
      ⟨some 4, .load false 1 (.tmp 3), none⟩,
      ⟨some 5, .call (.func 69) [(.tmp 4)], none⟩,
      ⟨some 6, .un .not (.tmp 5), none⟩,
      ⟨some 7, .move (.tmp 6), none⟩,
      ⟨some 8, .fieldAddr 1 (.tmp 1), some (7, false)⟩,
      ⟨some 9, .load false 1 (.tmp 8), some (7, false)⟩,
      ⟨some 10, .bin .eql .str (.tmp 9) (.const (.str [])), some (7, false)⟩,
      ⟨some 11, .pick (.tmp 7) (.const (.bool true)) (.tmp 10), none⟩])
   (.keep [1, 11] [1] (.cond (.tmp 11)
    (.seq (.region [⟨some 12, .fieldAddr 0 (.tmp 1), none⟩,
       ⟨some 13, .load false 1 (.tmp 12), none⟩,
       ⟨some 14, .call (.func 69) [(.tmp 13)], none⟩,
       ⟨some 2, .move (.tmp 14), none⟩])
    (.keep [2] [] (.ret)))
    (.skip))))
  (.keep [1] [1] (.seq (.region [⟨some 15, .fieldAddr 1 (.tmp 1), none⟩,
     ⟨some 16, .load false 1 (.tmp 15), none⟩,
     ⟨some 17, .bin .eql .str (.tmp 16) (.const (.str [123])), none⟩,
     ⟨some 18, .move (.tmp 17), none⟩,
     ⟨some 19, .fieldAddr 1 (.tmp 1), some (18, false)⟩,
     ⟨some 20, .load false 1 (.tmp 19), some (18, false)⟩,
     ⟨some 21, .call (.func 69) [(.tmp 20)], some (18, false)⟩,
     ⟨some 22, .pick (.tmp 18) (.const (.bool true)) (.tmp 21), none⟩,
     ⟨some 23, .move (.tmp 22), none⟩,
     ⟨some 24, .fieldAddr 0 (.tmp 1), some (23, true)⟩,
     ⟨some 25, .load false 1 (.tmp 24), some (23, true)⟩,
     ⟨some 26, .fieldAddr 1 (.tmp 1), some (23, true)⟩,
     ⟨some 27, .load false 1 (.tmp 26), some (23, true)⟩,
     ⟨some 28, .bin .lss .none (.tmp 25) (.tmp 27), some (23, true)⟩,
     ⟨some 29, .pick (.tmp 23) (.tmp 28) (.const (.bool false)), none⟩,
     ⟨some 2, .move (.tmp 29), none⟩])
  (.keep [2] [] (.ret))))))⟩
/-- wampum/span.Key -/
def L69_0 : IC :=
  .keep [0, 5, 6] [] (.seq (.region [⟨some 7, .bin .lss .none (.tmp 6) (.tmp 5), none⟩])
  (.keep [0, 5, 6, 7] [] (.seq (.cond (.tmp 7)
    (.skip)
    (.exit 0))
  (.keep [0, 5, 6] [] (.seq (.block 1 (.seq (.region [⟨some 8, .move (.tmp 6), none⟩,
       ⟨some 3, .move (.tmp 8), none⟩])
    (.keep [0, 3, 5, 6] [] (.seq (.region [⟨some 9, .move (.tmp 0), none⟩,
       ⟨some 10, .move (.tmp 3), none⟩,
       ⟨some 11, .index none (.tmp 9) (.tmp 10), none⟩,
       ⟨some 12, .bin .lss .none (.tmp 11) (.const (.int .u8 97)), none⟩,
       ⟨some 13, .move (.tmp 12), none⟩,
       ⟨some 14, .move (.tmp 0), some (13, false)⟩,
       ⟨some 15, .move (.tmp 3), some (13, false)⟩,
       ⟨some 16, .index none (.tmp 14) (.tmp 15), some (13, false)⟩,
       ⟨some 17, .bin .gtr .none (.tmp 16) (.const (.int .u8 122)), some (13, false)⟩,
       ⟨some 18, .pick (.tmp 13) (.const (.bool true)) (.tmp 17), none⟩])
    (.keep [0, 5, 6, 18] [] (.cond (.tmp 18)
     (.seq (.region [⟨some 2, .move (.const (.bool false)), none⟩])
     (.keep [2] [] (.ret)))
     (.skip)))))))
  (.keep [0, 5, 6] [] (.region [⟨some 19, .bin .add .none (.tmp 6) (.const (.int .i64 1)), none⟩,
    ⟨some 6, .move (.tmp 19), none⟩])))))))
def F69 : FnIR := ⟨27, 1, [.tmp 2], [],
  .seq (.region [⟨some 2, .move (.const (.bool false)), none⟩])
  (.keep [0] [] (.seq (.seq (.region [⟨some 4, .move (.tmp 0), none⟩,
      ⟨some 5, .len .str (.tmp 4), none⟩,
      ⟨some 6, .move (.const (.int .i64 0)), none⟩])
   (.keep [0, 5, 6] [] (.block 0 (.loop L69_0))))
  (.keep [0] [] (.seq (.region [⟨some 20, .move (.tmp 0), none⟩,
     ⟨some 21, .bin .neq .str (.tmp 20) (.const (.str [])), none⟩,
     ⟨some 22, .move (.tmp 21), none⟩,
     ⟨some 23, .move (.tmp 0), some (22, true)⟩,
     ⟨some 24, .len .str (.tmp 23), some (22, true)⟩,
     ⟨some 25, .bin .leq .none (.tmp 24) (.const (.int .i64 8)), some (22, true)⟩,
     ⟨some 26, .pick (.tmp 22) (.tmp 25) (.const (.bool false)), none⟩,
     ⟨some 2, .move (.tmp 26), none⟩])
  (.keep [2] [] (.ret))))))⟩
/-- slices.Clone[[]wampum/api.Span,wampum/api.Span] -/
def F57 : FnIR := ⟨8, 1, [.tmp 2], [],
  .seq (.region [⟨some 2, .move (.const .nils), none⟩])
  (.keep [0] [] (.seq (.seq (.region [⟨some 3, .move (.tmp 0), none⟩,
      ⟨some 4, .bin .eql .slice (.tmp 3) (.const .nils), none⟩])
   (.keep [0, 4] [] (.cond (.tmp 4)
    (.seq (.region [⟨some 2, .move (.const .nils), none⟩])
    (.keep [2] [] (.ret)))
    (.skip))))
  (.keep [0] [] (.seq (.region [⟨some 5, .buildSlice 2 0 [] [], none⟩,
     ⟨some 6, .move (.tmp 0), none⟩,
     ⟨some 7, .append 2 32 (.tmp 5) (.tmp 6), none⟩,
     ⟨some 2, .move (.tmp 7), none⟩])
  (.keep [2] [] (.ret))))))⟩
/-- (*wampum/latch.claim).collide -/
def F58 : FnIR := ⟨23, 2, [.tmp 4], [],
  .seq (.region [⟨some 3, .box false 1 (.tmp 1), none⟩,
     ⟨some 4, .move (.const (.bool false)), none⟩])
  (.keep [0, 3] [] (.seq (.region [⟨some 5, .move (.tmp 0), none⟩,
     ⟨some 6, .nilCheck (.tmp 5), none⟩,
     ⟨some 7, .fieldAddr 2 (.tmp 6), none⟩,
     ⟨some 8, .load false 1 (.tmp 7), none⟩,
     ⟨some 9, .move (.tmp 8), none⟩,
     ⟨some 10, .load false 1 (.tmp 3), some (9, false)⟩,
     ⟨some 11, .nilCheck (.tmp 10), some (9, false)⟩,
     ⟨some 12, .fieldAddr 2 (.tmp 11), some (9, false)⟩,
     ⟨some 13, .load false 1 (.tmp 12), some (9, false)⟩,
     ⟨some 14, .pick (.tmp 9) (.const (.bool true)) (.tmp 13), none⟩,
     ⟨some 15, .move (.tmp 14), none⟩,
     ⟨some 16, .move (.tmp 0), some (15, true)⟩,
     ⟨some 17, .nilCheck (.tmp 16), some (15, true)⟩,
     ⟨some 18, .fieldAddr 1 (.tmp 17), some (15, true)⟩,
     ⟨some 19, .load false 1 (.tmp 18), some (15, true)⟩,
     ⟨some 20, .mkFunc (.func 70) [] [(.tmp 3)], some (15, true)⟩,
     ⟨some 21, .call (.func 54) [(.tmp 19), (.tmp 20)], some (15, true)⟩,
     ⟨some 22, .pick (.tmp 15) (.tmp 21) (.const (.bool false)), none⟩,
     ⟨some 4, .move (.tmp 22), none⟩])
  (.keep [4] [] (.ret))))⟩
/-- (*wampum/latch.claim).collide$1 -/
def F70 : FnIR := ⟨10, 2, [.tmp 3], [],
  .seq (.region [⟨some 2, .box false 2 (.tmp 0), none⟩,
     ⟨some 3, .move (.const (.bool false)), none⟩])
  (.keep [1, 2] [] (.seq (.region [⟨some 4, .load false 1 (.tmp 1), none⟩,
     ⟨some 5, .nilCheck (.tmp 4), none⟩,
     ⟨some 6, .fieldAddr 1 (.tmp 5), none⟩,
     ⟨some 7, .load false 1 (.tmp 6), none⟩,
     ⟨some 8, .mkFunc (.func 71) [] [(.tmp 2)], none⟩,
     ⟨some 9, .call (.func 54) [(.tmp 7), (.tmp 8)], none⟩,
     ⟨some 3, .move (.tmp 9), none⟩])
  (.keep [3] [] (.ret))))⟩
/-- (*wampum/latch.claim).collide$1$1 -/
def F71 : FnIR := ⟨7, 2, [.tmp 3], [2],
  .seq (.region [⟨some 2, .box true 2 (.tmp 0), none⟩,
     ⟨some 3, .move (.const (.bool false)), none⟩])
  (.keep [1, 2] [2] (.seq (.region [⟨some 4, .load true 2 (.tmp 1), none⟩,
     ⟨some 5, .load true 2 (.tmp 2), none⟩,
     ⟨some 6, .call (.func 72) [(.tmp 4), (.tmp 5)], none⟩,
     ⟨some 3, .move (.tmp 6), none⟩])
  (.keep [3] [] (.ret))))⟩
/-- wampum/span.Meet -/
def F72 : FnIR := ⟨23, 2, [.tmp 4], [2, 3],
  .seq (.region [⟨some 2, .box true 2 (.tmp 0), none⟩,
     ⟨some 3, .box true 2 (.tmp 1), none⟩,
     ⟨some 4, .move (.const (.bool false)), none⟩])
  (.keep [2, 3] [2, 3] (.seq (.region [⟨some 5, .load true 2 (.tmp 2), none⟩,
     ⟨some 6, .call (.func 56) [(.tmp 5)], none⟩,
     ⟨some 7, .move (.tmp 6), none⟩,
     ⟨some 8, .load true 2 (.tmp 3), some (7, true)⟩,
     ⟨some 9, .call (.func 56) [(.tmp 8)], some (7, true)⟩,
     ⟨some 10, .pick (.tmp 7) (.tmp 9) (.const (.bool false)), none⟩,
     ⟨some 11, .move (.tmp 10), none⟩,
     ⟨some 12, .load true 2 (.tmp 2), some (11, true)⟩,
     ⟨some 13, .fieldAddr 0 (.tmp 3), some (11, true)⟩,
     ⟨some 14, .load false 1 (.tmp 13), some (11, true)⟩,
     ⟨some 15, .call (.func 76) [(.tmp 12), (.tmp 14)], some (11, true)⟩,
     ⟨some 16, .move (.tmp 15), some (11, true)⟩,
     ⟨some 17, .load true 2 (.tmp 3), some (16, false)⟩,
     ⟨some 18, .fieldAddr 0 (.tmp 2), some (16, false)⟩,
     ⟨some 19, .load false 1 (.tmp 18), some (16, false)⟩,
     ⟨some 20, .call (.func 76) [(.tmp 17), (.tmp 19)], some (16, false)⟩,
     ⟨some 21, .pick (.tmp 16) (.const (.bool true)) (.tmp 20), some (11, true)⟩,
     ⟨some 22, .pick (.tmp 11) (.tmp 21) (.const (.bool false)), none⟩,
     ⟨some 4, .move (.tmp 22), none⟩])
  (.keep [4] [] (.ret))))⟩
/-- wampum/span.Has -/
def F76 : FnIR := ⟨32, 2, [.tmp 4], [2],
  .seq (.region [⟨some 2, .box true 2 (.tmp 0), none⟩,
     ⟨some 4, .move (.const (.bool false)), none⟩])
  (.keep [1, 2] [2] (.seq (.block 0 (.seq (.region [⟨some 6, .load true 2 (.tmp 2), none⟩,
       ⟨some 7, .call (.func 56) [(.tmp 6)], none⟩,
       ⟨some 8, .un .not (.tmp 7), none⟩,
       ⟨some 9, .move (.tmp 8), none⟩,
       ⟨some 10, .move (.tmp 1), some (9, false)⟩,
       ⟨some 11, .call (.func 69) [(.tmp 10)], some (9, false)⟩,
       ⟨some 12, .un .not (.tmp 11), some (9, false)⟩,
       ⟨some 13, .pick (.tmp 9) (.const (.bool true)) (.tmp 12), none⟩,
       ⟨some 5, .move (.tmp 13), none⟩])
    (.keep [1, 2, 5] [2] (.cond (.tmp 5)
     (.seq (.region [⟨some 4, .move (.const (.bool false)), none⟩])
     (.keep [4] [] (.ret)))
     (.seq (.region [⟨some 15, .fieldAddr 1 (.tmp 2), none⟩,
        ⟨some 16, .load false 1 (.tmp 15), none⟩,
        ⟨some 17, .bin .eql .str (.tmp 16) (.const (.str [])), none⟩,
        ⟨some 14, .move (.tmp 17), none⟩])
     (.keep [1, 2, 14] [2] (.cond (.tmp 14)
      (.seq (.region [⟨some 18, .move (.tmp 1), none⟩,
         ⟨some 19, .fieldAddr 0 (.tmp 2), none⟩,
         ⟨some 20, .load false 1 (.tmp 19), none⟩,
         ⟨some 21, .bin .eql .str (.tmp 18) (.tmp 20), none⟩,
         ⟨some 4, .move (.tmp 21), none⟩])
      (.keep [4] [] (.ret)))
      (.skip))))))))
  (.keep [1, 2] [2] (.seq (.region [⟨some 22, .fieldAddr 0 (.tmp 2), none⟩,
     ⟨some 23, .load false 1 (.tmp 22), none⟩,
     ⟨some 24, .move (.tmp 1), none⟩,
     ⟨some 25, .bin .leq .none (.tmp 23) (.tmp 24), none⟩,
     ⟨some 26, .move (.tmp 25), none⟩,
     ⟨some 27, .move (.tmp 1), some (26, true)⟩,
     ⟨some 28, .fieldAddr 1 (.tmp 2), some (26, true)⟩,
     ⟨some 29, .load false 1 (.tmp 28), some (26, true)⟩,
     ⟨some 30, .bin .lss .none (.tmp 27) (.tmp 29), some (26, true)⟩,
     ⟨some 31, .pick (.tmp 26) (.tmp 30) (.const (.bool false)), none⟩,
     ⟨some 4, .move (.tmp 31), none⟩])
  (.keep [4] [] (.ret))))))⟩
/-- (*wampum/latch.Latches).Drop -/
def L33_0 : IC :=
  .keep [0, 6, 7, 8, 31, 32, 33] [] (.seq (.region [⟨some 34, .bin .lss .none (.tmp 33) (.tmp 32), none⟩])
  (.keep [0, 6, 7, 8, 31, 32, 33, 34] [] (.seq (.cond (.tmp 34)
    (.skip)
    (.exit 0))
  (.keep [0, 6, 7, 8, 31, 32, 33] [] (.seq (.block 1 (.seq (.region [⟨some 35, .indexAddr none 1 (.tmp 31) (.tmp 33), none⟩,
       ⟨some 36, .load false 1 (.tmp 35), none⟩,
       ⟨some 10, .move (.tmp 36), none⟩])
    (.keep [0, 6, 7, 8, 10, 31, 32, 33] [] (.seq (.seq (.region [⟨some 37, .move (.tmp 10), none⟩,
        ⟨some 38, .move (.tmp 7), none⟩,
        ⟨some 39, .call (.func 58) [(.tmp 37), (.tmp 38)], none⟩,
        ⟨some 40, .un .not (.tmp 39), none⟩])
     (.keep [0, 6, 7, 8, 10, 31, 32, 33, 40] [] (.cond (.tmp 40)
      (.exit 1)
      (.skip))))
    (.keep [0, 6, 7, 8, 10, 31, 32, 33] [] (.seq (.region [⟨some 41, .move (.tmp 10), none⟩,
       ⟨some 42, .nilCheck (.tmp 41), none⟩,
       ⟨some 43, .fieldAddr 3 (.tmp 42), none⟩,
       ⟨some 44, .load false 1 (.tmp 43), none⟩,
       ⟨some 45, .bin .sub .none (.tmp 44) (.const (.int .i64 1)), none⟩,
       ⟨some 46, .nilCheck (.tmp 41), none⟩,
       ⟨some 47, .fieldAddr 3 (.tmp 46), none⟩,
       ⟨none, .store 1 (.tmp 47) (.tmp 45), none⟩])
    (.keep [0, 6, 7, 8, 10, 31, 32, 33] [] (.seq (.region [⟨some 48, .move (.tmp 10), none⟩,
       ⟨some 49, .nilCheck (.tmp 48), none⟩,
       ⟨some 50, .fieldAddr 3 (.tmp 49), none⟩,
       ⟨some 51, .load false 1 (.tmp 50), none⟩,
       ⟨some 52, .bin .eql .int (.tmp 51) (.const (.int .i64 0)), none⟩])
    (.keep [0, 6, 7, 8, 10, 31, 32, 33, 52] [] (.cond (.tmp 52)
     (.region [⟨some 53, .move (.tmp 8), none⟩,
       ⟨some 54, .move (.tmp 10), none⟩,
       ⟨some 55, .nilCheck (.tmp 54), none⟩,
       ⟨some 56, .fieldAddr 0 (.tmp 55), none⟩,
       ⟨some 57, .load false 1 (.tmp 56), none⟩,
       ⟨some 58, .buildSlice 1 1 [(.int .i64 0)] [(0, 1, (.tmp 57))], none⟩,
       ⟨some 59, .append 1 8 (.tmp 53) (.tmp 58), none⟩,
       ⟨some 8, .move (.tmp 59), none⟩])
     (.skip)))))))))))
  (.keep [0, 6, 7, 8, 31, 32, 33] [] (.region [⟨some 60, .bin .add .none (.tmp 33) (.const (.int .i64 1)), none⟩,
    ⟨some 33, .move (.tmp 60), none⟩])))))))
def F33 : FnIR := ⟨73, 2, [.tmp 4, .tmp 5], [],
  .seq (.region [⟨some 4, .move (.const .nils), none⟩,
     ⟨some 5, .move (.const (.int .i64 0)), none⟩])
  (.keep [0, 1] [] (.seq (.seq (.region [⟨some 11, .move (.tmp 0), none⟩,
      ⟨some 12, .bin .eql .ptr (.tmp 11) (.const .nilp), none⟩])
   (.keep [0, 1, 12] [] (.cond (.tmp 12)
    (.seq (.region [⟨some 4, .move (.const .nils), none⟩,
       ⟨some 5, .move (.const (.int .i64 1)), none⟩])
    (.keep [4, 5] [] (.ret)))
    (.skip))))
  (.keep [0, 1] [] (.seq (.region [⟨some 13, .move (.tmp 0), none⟩,
     ⟨some 14, .move (.tmp 1), none⟩,
     ⟨some 15, .call (.func 53) [(.tmp 13), (.tmp 14)], none⟩,
     ⟨some 6, .move (.tmp 15), none⟩])
  (.keep [0, 6] [] (.seq (.seq (.region [⟨some 16, .move (.tmp 6), none⟩,
      ⟨some 17, .bin .lss .none (.tmp 16) (.const (.int .i64 0)), none⟩])
   (.keep [0, 6, 17] [] (.cond (.tmp 17)
    (.seq (.region [⟨some 4, .move (.const .nils), none⟩,
       ⟨some 5, .move (.const (.int .i64 111)), none⟩])
    (.keep [4, 5] [] (.ret)))
    (.skip))))
  (.keep [0, 6] [] (.seq (.region [⟨some 18, .move (.tmp 0), none⟩,
     ⟨some 19, .nilCheck (.tmp 18), none⟩,
     ⟨some 20, .fieldAddr 0 (.tmp 19), none⟩,
     ⟨some 21, .load false 1 (.tmp 20), none⟩,
     ⟨some 22, .move (.tmp 6), none⟩,
     ⟨some 23, .indexAddr none 1 (.tmp 21) (.tmp 22), none⟩,
     ⟨some 24, .load false 1 (.tmp 23), none⟩,
     ⟨some 7, .move (.tmp 24), none⟩])
  (.keep [0, 6, 7] [] (.seq (.region [⟨some 8, .move (.const .nils), none⟩])
  (.keep [0, 6, 7, 8] [] (.seq (.seq (.region [⟨some 25, .move (.tmp 0), none⟩,
      ⟨some 26, .nilCheck (.tmp 25), none⟩,
      ⟨some 27, .fieldAddr 0 (.tmp 26), none⟩,
      ⟨some 28, .load false 1 (.tmp 27), none⟩,
      ⟨some 29, .move (.tmp 6), none⟩,
      ⟨some 30, .bin .add .none (.tmp 29) (.const (.int .i64 1)), none⟩,
      ⟨some 31, .slice (.slice 1) (.tmp 28) (some (.tmp 30)) none none, none⟩,
      ⟨some 32, .len .slice (.tmp 31), none⟩,
      ⟨some 33, .move (.const (.int .i64 0)), none⟩])
   (.keep [0, 6, 7, 8, 31, 32, 33] [] (.block 0 (.loop L33_0))))
  (.keep [0, 6, 8] [] (.seq (.region [⟨some 61, .move (.tmp 0), none⟩,
     ⟨some 62, .move (.tmp 0), none⟩,
     ⟨some 63, .nilCheck (.tmp 62), none⟩,
     ⟨some 64, .fieldAddr 0 (.tmp 63), none⟩,
     ⟨some 65, .load false 1 (.tmp 64), none⟩,
     ⟨some 66, .move (.tmp 6), none⟩,
     ⟨some 67, .move (.tmp 6), none⟩,
     ⟨some 68, .bin .add .none (.tmp 67) (.const (.int .i64 1)), none⟩,
     ⟨some 69, .call (.func 59) [(.tmp 65), (.tmp 66), (.tmp 68)], none⟩,
     ⟨some 70, .nilCheck (.tmp 61), none⟩,
     ⟨some 71, .fieldAddr 0 (.tmp 70), none⟩,
     ⟨none, .store 1 (.tmp 71) (.tmp 69), none⟩])
  (.keep [8] [] (.seq (.region [⟨some 72, .move (.tmp 8), none⟩,
     ⟨some 4, .move (.tmp 72), none⟩,
     ⟨some 5, .move (.const (.int .i64 0)), none⟩])
  (.keep [4, 5] [] (.ret))))))))))))))))))⟩
/-- slices.Delete[[]*wampum/latch.claim,*wampum/latch.claim] -/
def F59 : FnIR := ⟨33, 3, [.tmp 6], [],
  .seq (.region [⟨some 6, .move (.const .nils), none⟩])
  (.keep [0, 1, 2] [] (.seq (.region [⟨some 8, .move (.tmp 0), none⟩,
     ⟨some 9, .move (.tmp 1), none⟩,
     ⟨some 10, .move (.tmp 2), none⟩,
     ⟨some 11, .move (.tmp 0), none⟩,
     ⟨some 12, .len .slice (.tmp 11), none⟩,
     ⟨some 13, .slice (.slice 1) (.tmp 8) (some (.tmp 9)) (some (.tmp 10)) (some (.tmp 12)), none⟩])
  (.keep [0, 1, 2] [] (.seq (.seq (.region [⟨some 14, .move (.tmp 1), none⟩,
      ⟨some 15, .move (.tmp 2), none⟩,
      ⟨some 16, .bin .eql .int (.tmp 14) (.tmp 15), none⟩])
   (.keep [0, 1, 2, 16] [] (.cond (.tmp 16)
    (.seq (.region [⟨some 17, .move (.tmp 0), none⟩,
       ⟨some 6, .move (.tmp 17), none⟩])
    (.keep [6] [] (.ret)))
    (.skip))))
  (.keep [0, 1, 2] [] (.seq (.region [⟨some 18, .move (.tmp 0), none⟩,
     ⟨some 19, .len .slice (.tmp 18), none⟩,
     ⟨some 7, .move (.tmp 19), none⟩])
  (.keep [0, 1, 2, 7] [] (.seq (.regionD [⟨some 20, .move (.tmp 0), none⟩,
     ⟨some 21, .move (.tmp 1), none⟩,
     ⟨some 22, .slice (.slice 1) (.tmp 20) none (some (.tmp 21)) none, none⟩,
     ⟨some 23, .move (.tmp 0), none⟩,
     ⟨some 24, .move (.tmp 2), none⟩,
     ⟨some 25, .slice (.slice 1) (.tmp 23) (some (.tmp 24)) none none, none⟩,
     ⟨some 26, .append 1 8 (.tmp 22) (.tmp 25), none⟩,
     ⟨some 0, .move (.tmp 26), none⟩] [])
  (.keep [0, 7] [] (.seq (.region [⟨some 27, .move (.tmp 0), none⟩,
     ⟨some 28, .move (.tmp 0), none⟩,
     ⟨some 29, .len .slice (.tmp 28), none⟩,
     ⟨some 30, .move (.tmp 7), none⟩,
     ⟨some 31, .slice (.slice 1) (.tmp 27) (some (.tmp 29)) (some (.tmp 30)) none, none⟩,
     ⟨none, .clear 1 [.nilp] (.tmp 31), none⟩])
  (.keep [0] [] (.seq (.region [⟨some 32, .move (.tmp 0), none⟩,
     ⟨some 6, .move (.tmp 32), none⟩])
  (.keep [6] [] (.ret))))))))))))))⟩
/-- (*wampum/latch.Latches).Free -/
def F35 : FnIR := ⟨26, 2, [.tmp 4], [],
  .seq (.region [⟨some 4, .move (.const (.bool false)), none⟩])
  (.keep [0, 1] [] (.seq (.seq (.region [⟨some 6, .move (.tmp 0), none⟩,
      ⟨some 7, .bin .eql .ptr (.tmp 6) (.const .nilp), none⟩])
   (.keep [0, 1, 7] [] (.cond (.tmp 7)
    (.seq (.region [⟨some 4, .move (.const (.bool false)), none⟩])
    (.keep [4] [] (.ret)))
    (.skip))))
  (.keep [0, 1] [] (.seq (.region [⟨some 8, .move (.tmp 0), none⟩,
     ⟨some 9, .move (.tmp 1), none⟩,
     ⟨some 10, .call (.func 53) [(.tmp 8), (.tmp 9)], none⟩,
     ⟨some 5, .move (.tmp 10), none⟩])
  (.keep [0, 5] [] (.seq (.region [⟨some 11, .move (.tmp 5), none⟩,
     ⟨some 12, .bin .geq .none (.tmp 11) (.const (.int .i64 0)), none⟩,
     ⟨some 13, .move (.tmp 12), none⟩,
     ⟨some 14, .move (.tmp 0), some (13, true)⟩,
     ⟨some 15, .nilCheck (.tmp 14), some (13, true)⟩,
     ⟨some 16, .fieldAddr 0 (.tmp 15), some (13, true)⟩,
     ⟨some 17, .load false 1 (.tmp 16), some (13, true)⟩,
     ⟨some 18, .move (.tmp 5), some (13, true)⟩,
     ⟨some 19, .indexAddr none 1 (.tmp 17) (.tmp 18), some (13, true)⟩,
     ⟨some 20, .load false 1 (.tmp 19), some (13, true)⟩,
     ⟨some 21, .nilCheck (.tmp 20), some (13, true)⟩,
     ⟨some 22, .fieldAddr 3 (.tmp 21), some (13, true)⟩,
     ⟨some 23, .load false 1 (.tmp 22), some (13, true)⟩,
     ⟨some 24, .bin .eql .int (.tmp 23) (.const (.int .i64 0)), some (13, true)⟩,
     ⟨some 25, .pick (.tmp 13) (.tmp 24) (.const (.bool false)), none⟩,
     ⟨some 4, .move (.tmp 25), none⟩])
  (.keep [4] [] (.ret))))))))⟩
/-- (wampum/wampumlaw11.Act).fits -/
def L31_0 : IC :=
  .keep [1, 3] [1] (.seq (.seq (.region [⟨some 5, .move (.tmp 3), none⟩,
      ⟨some 6, .fieldAddr 2 (.tmp 1), none⟩,
      ⟨some 7, .load false 1 (.tmp 6), none⟩,
      ⟨some 8, .len .slice (.tmp 7), none⟩,
      ⟨some 9, .bin .lss .none (.tmp 5) (.tmp 8), none⟩])
   (.keep [1, 3, 9] [1] (.cond (.tmp 9)
    (.skip)
    (.exit 0))))
  (.keep [1, 3] [1] (.seq (.block 1 (.seq (.region [⟨some 12, .fieldAddr 2 (.tmp 1), none⟩,
       ⟨some 13, .load false 1 (.tmp 12), none⟩,
       ⟨some 14, .move (.tmp 3), none⟩,
       ⟨some 15, .indexAddr none 2 (.tmp 13) (.tmp 14), none⟩,
       ⟨some 16, .load true 2 (.tmp 15), none⟩,
       ⟨some 17, .call (.func 52) [(.tmp 16)], none⟩,
       ⟨some 4, .move (.tmp 17), none⟩])
    (.keep [1, 3, 4] [1] (.seq (.region [⟨some 18, .move (.tmp 4), none⟩,
       ⟨some 19, .un .not (.tmp 18), none⟩,
       ⟨some 20, .move (.tmp 19), none⟩,
       ⟨some 21, .move (.tmp 3), some (20, false)⟩,
       ⟨some 22, .bin .eql .int (.tmp 21) (.const (.int .i64 30)), some (20, false)⟩,
       ⟨some 23, .pick (.tmp 20) (.const (.bool true)) (.tmp 22), none⟩])
    (.keep [1, 3, 23] [1] (.cond (.tmp 23)
     (.seq (.region [⟨some 2, .move (.const (.bool false)), none⟩])
     (.keep [2] [] (.ret)))
     (.skip)))))))
  (.keep [1, 3] [1] (.region [⟨some 10, .move (.tmp 3), none⟩,
    ⟨some 11, .bin .add .none (.tmp 10) (.const (.int .i64 1)), none⟩,
    ⟨some 3, .move (.tmp 11), none⟩])))))
def F31 : FnIR := ⟨24, 1, [.tmp 2], [1],
  .seq (.region [⟨some 1, .box true 4 (.tmp 0), none⟩,
     ⟨some 2, .move (.const (.bool false)), none⟩])
  (.keep [1] [1] (.seq (.seq (.region [⟨some 3, .move (.const (.int .i64 0)), none⟩])
   (.keep [1, 3] [1] (.block 0 (.loop L31_0))))
  (.keep [] [] (.seq (.region [⟨some 2, .move (.const (.bool true)), none⟩])
  (.keep [2] [] (.ret))))))⟩
/-- wampum/wampumlaw05.Fits -/
def F52 : FnIR := ⟨13, 1, [.tmp 2], [1],
  .seq (.region [⟨some 1, .box true 2 (.tmp 0), none⟩,
     ⟨some 2, .move (.const (.bool false)), none⟩])
  (.keep [1] [1] (.seq (.region [⟨some 3, .fieldAddr 0 (.tmp 1), none⟩,
     ⟨some 4, .load false 1 (.tmp 3), none⟩,
     ⟨some 5, .len .str (.tmp 4), none⟩,
     ⟨some 6, .bin .leq .none (.tmp 5) (.const (.int .i64 200)), none⟩,
     ⟨some 7, .move (.tmp 6), none⟩,
     ⟨some 8, .fieldAddr 1 (.tmp 1), some (7, true)⟩,
     ⟨some 9, .load false 1 (.tmp 8), some (7, true)⟩,
     ⟨some 10, .len .str (.tmp 9), some (7, true)⟩,
     ⟨some 11, .bin .leq .none (.tmp 10) (.const (.int .i64 200)), some (7, true)⟩,
     ⟨some 12, .pick (.tmp 7) (.tmp 11) (.const (.bool false)), none⟩,
     ⟨some 2, .move (.tmp 12), none⟩])
  (.keep [2] [] (.ret))))⟩
/-- wampum/wampumlaw11.without -/
def L34_0 : IC :=
  .keep [0, 1, 5, 6] [] (.seq (.seq (.region [⟨some 7, .move (.tmp 6), none⟩,
      ⟨some 8, .move (.tmp 0), none⟩,
      ⟨some 9, .len .slice (.tmp 8), none⟩,
      ⟨some 10, .bin .lss .none (.tmp 7) (.tmp 9), none⟩])
   (.keep [0, 1, 5, 6, 10] [] (.cond (.tmp 10)
    (.skip)
    (.exit 0))))
  (.keep [0, 1, 5, 6] [] (.seq (.block 1 (.seq (.region [⟨some 13, .move (.tmp 0), none⟩,
       ⟨some 14, .move (.tmp 6), none⟩,
       ⟨some 15, .indexAddr none 4 (.tmp 13) (.tmp 14), none⟩,
       ⟨some 16, .fieldAddr 1 (.tmp 15), none⟩,
       ⟨some 17, .load false 1 (.tmp 16), none⟩,
       ⟨some 18, .move (.tmp 1), none⟩,
       ⟨some 19, .bin .neq .int (.tmp 17) (.tmp 18), none⟩])
    (.keep [0, 1, 5, 6, 19] [] (.cond (.tmp 19)
     (.region [⟨some 20, .move (.tmp 5), none⟩,
       ⟨some 21, .move (.tmp 0), none⟩,
       ⟨some 22, .move (.tmp 6), none⟩,
       ⟨some 23, .indexAddr none 4 (.tmp 21) (.tmp 22), none⟩,
       ⟨some 24, .load true 4 (.tmp 23), none⟩,
       ⟨some 25, .buildSlice 4 1 [(.int .i64 0), (.int .i64 0), .nils, (.bool false)] [(0, 4, (.tmp 24))], none⟩,
       ⟨some 26, .append 4 48 (.tmp 20) (.tmp 25), none⟩,
       ⟨some 5, .move (.tmp 26), none⟩])
     (.skip)))))
  (.keep [0, 1, 5, 6] [] (.region [⟨some 11, .move (.tmp 6), none⟩,
    ⟨some 12, .bin .add .none (.tmp 11) (.const (.int .i64 1)), none⟩,
    ⟨some 6, .move (.tmp 12), none⟩])))))
def F34 : FnIR := ⟨28, 2, [.tmp 4], [],
  .seq (.region [⟨some 4, .move (.const .nils), none⟩])
  (.keep [0, 1] [] (.seq (.region [⟨some 5, .move (.const .nils), none⟩])
  (.keep [0, 1, 5] [] (.seq (.seq (.region [⟨some 6, .move (.const (.int .i64 0)), none⟩])
   (.keep [0, 1, 5, 6] [] (.block 0 (.loop L34_0))))
  (.keep [5] [] (.seq (.region [⟨some 27, .move (.tmp 5), none⟩,
     ⟨some 4, .move (.tmp 27), none⟩])
  (.keep [4] [] (.ret))))))))⟩
/-- wampum/wampumlaw11.meets -/
def L36_0 : IC :=
  .keep [0, 1, 5, 6] [] (.seq (.seq (.region [⟨some 14, .move (.tmp 6), none⟩,
      ⟨some 15, .move (.tmp 1), none⟩,
      ⟨some 16, .len .slice (.tmp 15), none⟩,
      ⟨some 17, .bin .lss .none (.tmp 14) (.tmp 16), none⟩])
   (.keep [0, 1, 5, 6, 17] [] (.cond (.tmp 17)
    (.skip)
    (.exit 2))))
  (.keep [0, 1, 5, 6] [] (.seq (.block 3 (.seq (.regionD [⟨some 20, .move (.tmp 0), none⟩,
       ⟨some 21, .move (.tmp 5), none⟩,
       ⟨some 22, .indexAddr none 2 (.tmp 20) (.tmp 21), none⟩,
       ⟨some 23, .load true 2 (.tmp 22), none⟩,
       ⟨some 24, .move (.tmp 1), none⟩,
       ⟨some 25, .move (.tmp 6), none⟩,
       ⟨some 26, .indexAddr none 2 (.tmp 24) (.tmp 25), none⟩,
       ⟨some 27, .load true 2 (.tmp 26), none⟩,
       ⟨some 28, .call (.func 60) [(.tmp 23), (.tmp 27)], none⟩,
       ⟨some 7, .move (.tmp 28), none⟩] [])
    (.keep [0, 1, 5, 6, 7] [] (.seq (.region [⟨some 29, .move (.tmp 7), none⟩])
    (.keep [0, 1, 5, 6, 29] [] (.cond (.tmp 29)
     (.seq (.region [⟨some 4, .move (.const (.bool true)), none⟩])
     (.keep [4] [] (.ret)))
     (.skip)))))))
  (.keep [0, 1, 5, 6] [] (.region [⟨some 18, .move (.tmp 6), none⟩,
    ⟨some 19, .bin .add .none (.tmp 18) (.const (.int .i64 1)), none⟩,
    ⟨some 6, .move (.tmp 19), none⟩])))))
def L36_1 : IC :=
  .keep [0, 1, 5] [] (.seq (.seq (.region [⟨some 8, .move (.tmp 5), none⟩,
      ⟨some 9, .move (.tmp 0), none⟩,
      ⟨some 10, .len .slice (.tmp 9), none⟩,
      ⟨some 11, .bin .lss .none (.tmp 8) (.tmp 10), none⟩])
   (.keep [0, 1, 5, 11] [] (.cond (.tmp 11)
    (.skip)
    (.exit 0))))
  (.keep [0, 1, 5] [] (.seq (.block 1 (.seq (.region [⟨some 6, .move (.const (.int .i64 0)), none⟩])
    (.keep [0, 1, 5, 6] [] (.block 2 (.loop L36_0)))))
  (.keep [0, 1, 5] [] (.region [⟨some 12, .move (.tmp 5), none⟩,
    ⟨some 13, .bin .add .none (.tmp 12) (.const (.int .i64 1)), none⟩,
    ⟨some 5, .move (.tmp 13), none⟩])))))
def F36 : FnIR := ⟨30, 2, [.tmp 4], [],
  .seq (.region [⟨some 4, .move (.const (.bool false)), none⟩])
  (.keep [0, 1] [] (.seq (.seq (.region [⟨some 5, .move (.const (.int .i64 0)), none⟩])
   (.keep [0, 1, 5] [] (.block 0 (.loop L36_1))))
  (.keep [] [] (.seq (.region [⟨some 4, .move (.const (.bool false)), none⟩])
  (.keep [4] [] (.ret))))))⟩
/-- wampum/wampumref05.Meet -/
def F60 : FnIR := ⟨31, 2, [.tmp 4], [2, 3],
  .seq (.region [⟨some 2, .box true 2 (.tmp 0), none⟩,
     ⟨some 3, .box true 2 (.tmp 1), none⟩,
     ⟨some 4, .move (.const (.bool false)), none⟩])
  (.keep [2, 3] [2, 3] (.seq (.region [⟨some 9, .load true 2 (.tmp 2), none⟩,
     ⟨some 10, .fieldAddr 0 (.tmp 3), none⟩,
     ⟨some 11, .load false 1 (.tmp 10), none⟩,
     ⟨some 12, .call (.func 73) [(.tmp 9), (.tmp 11)], none⟩,
     ⟨some 5, .move (.tmp 12), none⟩])
  (.keep [2, 3, 5] [2, 3] (.seq (.region [⟨some 13, .load true 2 (.tmp 3), none⟩,
     ⟨some 14, .fieldAddr 0 (.tmp 2), none⟩,
     ⟨some 15, .load false 1 (.tmp 14), none⟩,
     ⟨some 16, .call (.func 73) [(.tmp 13), (.tmp 15)], none⟩,
     ⟨some 6, .move (.tmp 16), none⟩])
  (.keep [2, 3, 5, 6] [2, 3] (.seq (.region [⟨some 17, .load true 2 (.tmp 2), none⟩,
     ⟨some 18, .call (.func 62) [(.tmp 17)], none⟩,
     ⟨some 7, .move (.tmp 18), none⟩])
  (.keep [3, 5, 6, 7] [3] (.seq (.region [⟨some 19, .load true 2 (.tmp 3), none⟩,
     ⟨some 20, .call (.func 62) [(.tmp 19)], none⟩,
     ⟨some 8, .move (.tmp 20), none⟩])
  (.keep [5, 6, 7, 8] [] (.seq (.region [⟨some 21, .move (.tmp 7), none⟩,
     ⟨some 22, .move (.tmp 21), none⟩,
     ⟨some 23, .move (.tmp 8), some (22, true)⟩,
     ⟨some 24, .pick (.tmp 22) (.tmp 23) (.const (.bool false)), none⟩,
     ⟨some 25, .move (.tmp 24), none⟩,
     ⟨some 26, .move (.tmp 5), some (25, true)⟩,
     ⟨some 27, .move (.tmp 26), some (25, true)⟩,
     ⟨some 28, .move (.tmp 6), some (27, false)⟩,
     ⟨some 29, .pick (.tmp 27) (.const (.bool true)) (.tmp 28), some (25, true)⟩,
     ⟨some 30, .pick (.tmp 25) (.tmp 29) (.const (.bool false)), none⟩,
     ⟨some 4, .move (.tmp 30), none⟩])
  (.keep [4] [] (.ret))))))))))))⟩
/-- wampum/wampumref05.Has -/
def F73 : FnIR := ⟨40, 2, [.tmp 4], [2],
  .seq (.region [⟨some 2, .box true 2 (.tmp 0), none⟩,
     ⟨some 4, .move (.const (.bool false)), none⟩])
  (.keep [1, 2] [2] (.seq (.region [⟨some 7, .load true 2 (.tmp 2), none⟩,
     ⟨some 8, .call (.func 62) [(.tmp 7)], none⟩,
     ⟨some 5, .move (.tmp 8), none⟩])
  (.keep [1, 2, 5] [2] (.seq (.region [⟨some 9, .move (.tmp 1), none⟩,
     ⟨some 10, .call (.func 44) [(.tmp 9)], none⟩,
     ⟨some 6, .move (.tmp 10), none⟩])
  (.keep [1, 2, 5, 6] [2] (.seq (.seq (.region [⟨some 11, .fieldAddr 1 (.tmp 2), none⟩,
      ⟨some 12, .load false 1 (.tmp 11), none⟩,
      ⟨some 13, .bin .eql .str (.tmp 12) (.const (.str [])), none⟩])
   (.keep [1, 2, 5, 6, 13] [2] (.cond (.tmp 13)
    (.seq (.region [⟨some 14, .move (.tmp 5), none⟩,
       ⟨some 15, .move (.tmp 14), none⟩,
       ⟨some 16, .move (.tmp 6), some (15, true)⟩,
       ⟨some 17, .pick (.tmp 15) (.tmp 16) (.const (.bool false)), none⟩,
       ⟨some 18, .move (.tmp 17), none⟩,
       ⟨some 19, .move (.tmp 1), some (18, true)⟩,
       ⟨some 20, .fieldAddr 0 (.tmp 2), some (18, true)⟩,
       ⟨some 21, .load false 1 (.tmp 20), some (18, true)⟩,
       ⟨some 22, .bin .eql .str (.tmp 19) (.tmp 21), some (18, true)⟩,
       ⟨some 23, .pick (.tmp 18) (.tmp 22) (.const (.bool false)), none⟩,
       ⟨some 4, .move (.tmp 23), none⟩])
    (.keep [4] [] (.ret)))
    (.skip))))
  (.keep [1, 2, 5, 6] [2] (.seq (.region [⟨some 24, .move (.tmp 5), none⟩,
     ⟨some 25, .move (.tmp 24), none⟩,
     ⟨some 26, .move (.tmp 6), some (25, true)⟩,
     ⟨some 27, .pick (.tmp 25) (.tmp 26) (.const (.bool false)), none⟩,
     ⟨some 28, .move (.tmp 27), none⟩,
     ⟨some 29, .move (.tmp 1), some (28, true)⟩,
     ⟨some 30, .fieldAddr 0 (.tmp 2), some (28, true)⟩,
     ⟨some 31, .load false 1 (.tmp 30), some (28, true)⟩,
     ⟨some 32, .bin .geq .none (.tmp 29) (.tmp 31), some (28, true)⟩,
     ⟨some 33, .pick (.tmp 28) (.tmp 32) (.const (.bool false)), none⟩,
     ⟨some 34, .move (.tmp 33), none⟩,
     ⟨some 35, .move (.tmp 1), some (34, true)⟩,
     ⟨some 36, .fieldAddr 1 (.tmp 2), some (34, true)⟩,
     ⟨some 37, .load false 1 (.tmp 36), some (34, true)⟩,
     ⟨some 38, .bin .lss .none (.tmp 35) (.tmp 37), some (34, true)⟩,
     ⟨some 39, .pick (.tmp 34) (.tmp 38) (.const (.bool false)), none⟩,
     ⟨some 4, .move (.tmp 39), none⟩])
  (.keep [4] [] (.ret))))))))))⟩
/-- wampum/wampumref05.Right -/
def F62 : FnIR := ⟨32, 1, [.tmp 2], [1],
  .seq (.region [⟨some 1, .box true 2 (.tmp 0), none⟩,
     ⟨some 2, .move (.const (.bool false)), none⟩])
  (.keep [1] [1] (.seq (.region [⟨some 5, .fieldAddr 0 (.tmp 1), none⟩,
     ⟨some 6, .load false 1 (.tmp 5), none⟩,
     ⟨some 7, .call (.func 44) [(.tmp 6)], none⟩,
     ⟨some 3, .move (.tmp 7), none⟩])
  (.keep [1, 3] [1] (.seq (.region [⟨some 8, .fieldAddr 1 (.tmp 1), none⟩,
     ⟨some 9, .load false 1 (.tmp 8), none⟩,
     ⟨some 10, .call (.func 44) [(.tmp 9)], none⟩,
     ⟨some 4, .move (.tmp 10), none⟩])
  (.keep [1, 3, 4] [1] (.seq (.region [⟨some 11, .move (.tmp 3), none⟩,
     ⟨some 12, .move (.tmp 11), none⟩,
     ⟨some 13, .fieldAddr 1 (.tmp 1), some (12, true)⟩,
     ⟨some 14, .load false 1 (.tmp 13), some (12, true)⟩,
     ⟨some 15, .bin .eql .str (.tmp 14) (.const (.str [])), some (12, true)⟩,
     ⟨some 16, .move (.tmp 15), some (12, true)⟩,
     ⟨some 17, .move (.tmp 4), some (16, false)⟩,
     ⟨some 18, .move (.tmp 17), some (16, false)⟩,
     ⟨some 19, .fieldAddr 1 (.tmp 1), some (18, false)⟩,
     ⟨some 20, .load false 1 (.tmp 19), some (18, false)⟩,
     ⟨some 21, .bin .eql .str (.tmp 20) (.const (.str [123])), some (18, false)⟩,
     ⟨some 22, .pick (.tmp 18) (.const (.bool true)) (.tmp 21), some (16, false)⟩,
     ⟨some 23, .move (.tmp 22), some (16, false)⟩,
     ⟨some 24, .fieldAddr 1 (.tmp 1), some (23, true)⟩,
     ⟨some 25, .load false 1 (.tmp 24), some (23, true)⟩,
     ⟨some 26, .fieldAddr 0 (.tmp 1), some (23, true)⟩,
     ⟨some 27, .load false 1 (.tmp 26), some (23, true)⟩,
     ⟨some 28, .bin .gtr .none (.tmp 25) (.tmp 27), some (23, true)⟩,
     ⟨some 29, .pick (.tmp 23) (.tmp 28) (.const (.bool false)), some (16, false)⟩,
     ⟨some 30, .pick (.tmp 16) (.const (.bool true)) (.tmp 29), some (12, true)⟩,
     ⟨some 31, .pick (.tmp 12) (.tmp 30) (.const (.bool false)), none⟩,
     ⟨some 2, .move (.tmp 31), none⟩])
  (.keep [2] [] (.ret))))))))⟩
/-- wampum/wampumref05.Key -/
def L44_0 : IC :=
  .keep [0, 3] [] (.seq (.seq (.region [⟨some 4, .move (.tmp 3), none⟩,
      ⟨some 5, .move (.tmp 0), none⟩,
      ⟨some 6, .len .str (.tmp 5), none⟩,
      ⟨some 7, .bin .lss .none (.tmp 4) (.tmp 6), none⟩])
   (.keep [0, 3, 7] [] (.cond (.tmp 7)
    (.skip)
    (.exit 0))))
  (.keep [0, 3] [] (.seq (.block 1 (.seq (.region [⟨some 10, .move (.tmp 0), none⟩,
       ⟨some 11, .move (.tmp 3), none⟩,
       ⟨some 12, .index none (.tmp 10) (.tmp 11), none⟩,
       ⟨some 13, .bin .lss .none (.tmp 12) (.const (.int .u8 97)), none⟩,
       ⟨some 14, .move (.tmp 13), none⟩,
       ⟨some 15, .move (.tmp 0), some (14, false)⟩,
       ⟨some 16, .move (.tmp 3), some (14, false)⟩,
       ⟨some 17, .index none (.tmp 15) (.tmp 16), some (14, false)⟩,
       ⟨some 18, .bin .gtr .none (.tmp 17) (.const (.int .u8 122)), some (14, false)⟩,
       ⟨some 19, .pick (.tmp 14) (.const (.bool true)) (.tmp 18), none⟩])
    (.keep [0, 3, 19] [] (.cond (.tmp 19)
     (.seq (.region [⟨some 2, .move (.const (.bool false)), none⟩])
     (.keep [2] [] (.ret)))
     (.skip)))))
  (.keep [0, 3] [] (.region [⟨some 8, .move (.tmp 3), none⟩,
    ⟨some 9, .bin .add .none (.tmp 8) (.const (.int .i64 1)), none⟩,
    ⟨some 3, .move (.tmp 9), none⟩])))))
def F44 : FnIR := ⟨28, 1, [.tmp 2], [],
  .seq (.region [⟨some 2, .move (.const (.bool false)), none⟩])
  (.keep [0] [] (.seq (.seq (.region [⟨some 3, .move (.const (.int .i64 0)), none⟩])
   (.keep [0, 3] [] (.block 0 (.loop L44_0))))
  (.keep [0] [] (.seq (.region [⟨some 20, .move (.tmp 0), none⟩,
     ⟨some 21, .len .str (.tmp 20), none⟩,
     ⟨some 22, .bin .geq .none (.tmp 21) (.const (.int .i64 1)), none⟩,
     ⟨some 23, .move (.tmp 22), none⟩,
     ⟨some 24, .move (.tmp 0), some (23, true)⟩,
     ⟨some 25, .len .str (.tmp 24), some (23, true)⟩,
     ⟨some 26, .bin .leq .none (.tmp 25) (.const (.int .i64 8)), some (23, true)⟩,
     ⟨some 27, .pick (.tmp 23) (.tmp 26) (.const (.bool false)), none⟩,
     ⟨some 2, .move (.tmp 27), none⟩])
  (.keep [2] [] (.ret))))))⟩
/-- wampum/wampumlaw11.LatchPlays -/
def L9_0 : IC :=
  .keep [0, 3, 4, 5, 16, 18] [] (.seq (.seq (.region [⟨some 107, .move (.tmp 18), none⟩,
      ⟨some 108, .move (.tmp 16), none⟩,
      ⟨some 109, .len .slice (.tmp 108), none⟩,
      ⟨some 110, .bin .lss .none (.tmp 107) (.tmp 109), none⟩])
   (.keep [0, 3, 4, 5, 16, 18, 110] [] (.cond (.tmp 110)
    (.skip)
    (.exit 2))))
  (.keep [0, 3, 4, 5, 16, 18] [] (.seq (.block 3 (.seq (.regionD [⟨some 113, .move (.tmp 3), none⟩,
       ⟨some 114, .move (.tmp 16), none⟩,
       ⟨some 115, .move (.tmp 18), none⟩,
       ⟨some 116, .indexAddr none 1 (.tmp 114) (.tmp 115), none⟩,
       ⟨some 117, .load false 1 (.tmp 116), none⟩,
       ⟨some 118, .call (.func 35) [(.tmp 113), (.tmp 117)], none⟩,
       ⟨some 119, .move (.tmp 4), none⟩,
       ⟨some 120, .move (.tmp 16), none⟩,
       ⟨some 121, .move (.tmp 18), none⟩,
       ⟨some 122, .indexAddr none 1 (.tmp 120) (.tmp 121), none⟩,
       ⟨some 123, .load false 1 (.tmp 122), none⟩,
       ⟨some 124, .call (.func 43) [(.tmp 119), (.tmp 123)], none⟩,
       ⟨some 125, .bin .neq .bool (.tmp 118) (.tmp 124), none⟩] [(10, 0)])
    (.keep [0, 3, 4, 5, 16, 18, 125] [] (.cond (.tmp 125)
     (.seq (.region [⟨some 2, .move (.const (.bool false)), none⟩])
     (.keep [2] [] (.ret)))
     (.skip)))))
  (.keep [0, 3, 4, 5, 16, 18] [] (.region [⟨some 111, .move (.tmp 18), none⟩,
    ⟨some 112, .bin .add .none (.tmp 111) (.const (.int .i64 1)), none⟩,
    ⟨some 18, .move (.tmp 112), none⟩])))))
def L9_1 : IC :=
  .keep [0, 3, 4, 5] [] (.seq (.seq (.region [⟨some 22, .move (.tmp 5), none⟩,
      ⟨some 23, .move (.tmp 0), none⟩,
      ⟨some 24, .len .slice (.tmp 23), none⟩,
      ⟨some 25, .bin .lss .none (.tmp 22) (.tmp 24), none⟩,
      ⟨some 26, .move (.tmp 25), none⟩,
      ⟨some 27, .move (.tmp 5), some (26, true)⟩,
      ⟨some 28, .bin .lss .none (.tmp 27) (.const (.int .i64 60)), some (26, true)⟩,
      ⟨some 29, .pick (.tmp 26) (.tmp 28) (.const (.bool false)), none⟩])
   (.keep [0, 3, 4, 5, 29] [] (.cond (.tmp 29)
    (.skip)
    (.exit 0))))
  (.keep [0, 3, 4, 5] [] (.seq (.block 1 (.seq (.region [⟨some 32, .move (.tmp 0), none⟩,
       ⟨some 33, .move (.tmp 5), none⟩,
       ⟨some 34, .indexAddr none 4 (.tmp 32) (.tmp 33), none⟩,
       ⟨some 35, .load true 4 (.tmp 34), none⟩,
       ⟨some 6, .alloc true 4 [(.int .i64 0), (.int .i64 0), .nils, (.bool false)], none⟩,
       ⟨none, .store 4 (.tmp 6) (.tmp 35), none⟩])
    (.keep [0, 3, 4, 5, 6] [6] (.seq (.region [⟨some 36, .load true 4 (.tmp 6), none⟩,
       ⟨some 37, .call (.func 31) [(.tmp 36)], none⟩,
       ⟨some 7, .move (.tmp 37), none⟩])
    (.keep [0, 3, 4, 5, 6, 7] [6] (.seq (.seq (.region [⟨some 38, .move (.tmp 7), none⟩,
        ⟨some 39, .un .not (.tmp 38), none⟩])
     (.keep [0, 3, 4, 5, 6, 39] [6] (.cond (.tmp 39)
      (.exit 1)
      (.skip))))
    (.keep [0, 3, 4, 5, 6] [6] (.seq (.seq (.region [⟨some 40, .fieldAddr 0 (.tmp 6), none⟩,
        ⟨some 41, .load false 1 (.tmp 40), none⟩,
        ⟨some 42, .bin .eql .int (.tmp 41) (.const (.int .i64 1)), none⟩])
     (.keep [0, 3, 4, 5, 6, 42] [6] (.cond (.tmp 42)
      (.seq (.region [⟨some 44, .move (.tmp 3), none⟩,
         ⟨some 45, .fieldAddr 1 (.tmp 6), none⟩,
         ⟨some 46, .load false 1 (.tmp 45), none⟩,
         ⟨some 47, .fieldAddr 2 (.tmp 6), none⟩,
         ⟨some 48, .load false 1 (.tmp 47), none⟩,
         ⟨some 49, .fieldAddr 3 (.tmp 6), none⟩,
         ⟨some 50, .load false 1 (.tmp 49), none⟩,
         ⟨some 51, .call (.func 32) [(.tmp 44), (.tmp 46), (.tmp 48), (.tmp 50)], none⟩,
         ⟨some 43, .move (.tmp 51), none⟩,
         ⟨some 52, .extract (.tmp 43) 0, none⟩,
         ⟨some 53, .extract (.tmp 43) 1, none⟩,
         ⟨some 8, .move (.tmp 52), none⟩,
         ⟨some 9, .move (.tmp 53), none⟩])
      (.keep [0, 3, 4, 5, 6, 8, 9] [6] (.seq (.region [⟨some 55, .move (.tmp 4), none⟩,
         ⟨some 56, .fieldAddr 1 (.tmp 6), none⟩,
         ⟨some 57, .load false 1 (.tmp 56), none⟩,
         ⟨some 58, .fieldAddr 2 (.tmp 6), none⟩,
         ⟨some 59, .load false 1 (.tmp 58), none⟩,
         ⟨some 60, .fieldAddr 3 (.tmp 6), none⟩,
         ⟨some 61, .load false 1 (.tmp 60), none⟩,
         ⟨some 62, .call (.func 38) [(.tmp 55), (.tmp 57), (.tmp 59), (.tmp 61)], none⟩,
         ⟨some 54, .move (.tmp 62), none⟩,
         ⟨some 63, .extract (.tmp 54) 0, none⟩,
         ⟨some 64, .extract (.tmp 54) 1, none⟩,
         ⟨some 10, .move (.tmp 63), none⟩,
         ⟨some 11, .move (.tmp 64), none⟩])
      (.keep [0, 3, 4, 5, 6, 8, 9, 10, 11] [6] (.seq (.region [⟨some 65, .move (.tmp 8), none⟩,
         ⟨some 66, .move (.tmp 10), none⟩,
         ⟨some 67, .bin .neq .bool (.tmp 65) (.tmp 66), none⟩,
         ⟨some 68, .move (.tmp 67), none⟩,
         ⟨some 69, .move (.tmp 9), some (68, false)⟩,
         ⟨some 70, .move (.tmp 11), some (68, false)⟩,
         ⟨some 71, .bin .neq .int (.tmp 69) (.tmp 70), some (68, false)⟩,
         ⟨some 72, .pick (.tmp 68) (.const (.bool true)) (.tmp 71), none⟩])
      (.keep [0, 3, 4, 5, 6, 72] [6] (.cond (.tmp 72)
       (.seq (.region [⟨some 2, .move (.const (.bool false)), none⟩])
       (.keep [2] [] (.ret)))
       (.skip))))))))
      (.skip))))
    (.keep [0, 3, 4, 5, 6] [6] (.seq (.seq (.region [⟨some 73, .fieldAddr 0 (.tmp 6), none⟩,
        ⟨some 74, .load false 1 (.tmp 73), none⟩,
        ⟨some 75, .bin .eql .int (.tmp 74) (.const (.int .i64 2)), none⟩])
     (.keep [0, 3, 4, 5, 6, 75] [6] (.cond (.tmp 75)
      (.seq (.region [⟨some 77, .move (.tmp 3), none⟩,
         ⟨some 78, .fieldAddr 1 (.tmp 6), none⟩,
         ⟨some 79, .load false 1 (.tmp 78), none⟩,
         ⟨some 80, .call (.func 33) [(.tmp 77), (.tmp 79)], none⟩,
         ⟨some 76, .move (.tmp 80), none⟩,
         ⟨some 81, .extract (.tmp 76) 0, none⟩,
         ⟨some 82, .extract (.tmp 76) 1, none⟩,
         ⟨some 12, .move (.tmp 81), none⟩,
         ⟨some 13, .move (.tmp 82), none⟩])
      (.keep [0, 3, 4, 5, 6, 12, 13] [6] (.seq (.region [⟨some 84, .move (.tmp 4), none⟩,
         ⟨some 85, .fieldAddr 1 (.tmp 6), none⟩,
         ⟨some 86, .load false 1 (.tmp 85), none⟩,
         ⟨some 87, .call (.func 39) [(.tmp 84), (.tmp 86)], none⟩,
         ⟨some 83, .move (.tmp 87), none⟩,
         ⟨some 88, .extract (.tmp 83) 0, none⟩,
         ⟨some 89, .extract (.tmp 83) 1, none⟩,
         ⟨some 14, .move (.tmp 88), none⟩,
         ⟨some 15, .move (.tmp 89), none⟩])
      (.keep [0, 3, 4, 5, 12, 13, 14, 15] [] (.seq (.region [⟨some 90, .move (.tmp 13), none⟩,
         ⟨some 91, .move (.tmp 15), none⟩,
         ⟨some 92, .bin .neq .int (.tmp 90) (.tmp 91), none⟩,
         ⟨some 93, .move (.tmp 92), none⟩,
         ⟨some 94, .move (.tmp 12), some (93, false)⟩,
         ⟨some 95, .move (.tmp 14), some (93, false)⟩,
         ⟨some 96, .call (.func 40) [(.tmp 94), (.tmp 95)], some (93, false)⟩,
         ⟨some 97, .un .not (.tmp 96), some (93, false)⟩,
         ⟨some 98, .pick (.tmp 93) (.const (.bool true)) (.tmp 97), none⟩])
      (.keep [0, 3, 4, 5, 98] [] (.cond (.tmp 98)
       (.seq (.region [⟨some 2, .move (.const (.bool false)), none⟩])
       (.keep [2] [] (.ret)))
       (.skip))))))))
      (.skip))))
    (.keep [0, 3, 4, 5] [] (.seq (.region [⟨some 99, .move (.tmp 3), none⟩,
       ⟨some 100, .call (.func 41) [(.tmp 99)], none⟩,
       ⟨some 16, .move (.tmp 100), none⟩])
    (.keep [0, 3, 4, 5, 16] [] (.seq (.region [⟨some 101, .move (.tmp 16), none⟩,
       ⟨some 102, .move (.tmp 4), none⟩,
       ⟨some 103, .call (.func 42) [(.tmp 102)], none⟩,
       ⟨some 104, .call (.func 40) [(.tmp 101), (.tmp 103)], none⟩,
       ⟨some 17, .move (.tmp 104), none⟩])
    (.keep [0, 3, 4, 5, 16, 17] [] (.seq (.seq (.region [⟨some 105, .move (.tmp 17), none⟩,
        ⟨some 106, .un .not (.tmp 105), none⟩])
     (.keep [0, 3, 4, 5, 16, 106] [] (.cond (.tmp 106)
      (.seq (.region [⟨some 2, .move (.const (.bool false)), none⟩])
      (.keep [2] [] (.ret)))
      (.skip))))
    (.keep [0, 3, 4, 5, 16] [] (.seq (.region [⟨some 18, .move (.const (.int .i64 0)), none⟩])
    (.keep [0, 3, 4, 5, 16, 18] [] (.block 2 (.loop L9_0)))))))))))))))))))))
  (.keep [0, 3, 4, 5] [] (.region [⟨some 30, .move (.tmp 5), none⟩,
    ⟨some 31, .bin .add .none (.tmp 30) (.const (.int .i64 1)), none⟩,
    ⟨some 5, .move (.tmp 31), none⟩])))))
def F9 : FnIR := ⟨127, 1, [.tmp 2], [6],
  .seq (.region [⟨some 2, .move (.const (.bool false)), none⟩])
  (.keep [0] [] (.seq (.region [⟨some 19, .call (.func 29) [], none⟩,
     ⟨some 3, .move (.tmp 19), none⟩])
  (.keep [0, 3] [] (.seq (.region [⟨some 20, .build [.nils] [], none⟩,
     ⟨some 21, .box false 1 (.tmp 20), none⟩,
     ⟨some 4, .move (.tmp 21), none⟩])
  (.keep [0, 3, 4] [] (.seq (.seq (.region [⟨some 5, .move (.const (.int .i64 0)), none⟩])
   (.keep [0, 3, 4, 5] [] (.block 0 (.loop L9_1))))
  (.keep [] [] (.seq (.region [⟨some 126, .call (.func 30) [], none⟩,
     ⟨some 2, .move (.tmp 126), none⟩])
  (.keep [2] [] (.ret))))))))))⟩
/-- (*wampum/wampumref11.Latches).Claim -/
def L38_0 : IC :=
  .keep [0, 1, 2, 3, 10] [] (.seq (.seq (.region [⟨some 16, .move (.tmp 10), none⟩,
      ⟨some 17, .move (.tmp 2), none⟩,
      ⟨some 18, .len .slice (.tmp 17), none⟩,
      ⟨some 19, .bin .lss .none (.tmp 16) (.tmp 18), none⟩])
   (.keep [0, 1, 2, 3, 10, 19] [] (.cond (.tmp 19)
    (.skip)
    (.exit 0))))
  (.keep [0, 1, 2, 3, 10] [] (.seq (.block 1 (.seq (.region [⟨some 22, .move (.tmp 2), none⟩,
       ⟨some 23, .move (.tmp 10), none⟩,
       ⟨some 24, .indexAddr none 2 (.tmp 22) (.tmp 23), none⟩,
       ⟨some 25, .load true 2 (.tmp 24), none⟩,
       ⟨some 26, .call (.func 62) [(.tmp 25)], none⟩,
       ⟨some 11, .move (.tmp 26), none⟩])
    (.keep [0, 1, 2, 3, 10, 11] [] (.seq (.region [⟨some 27, .move (.tmp 11), none⟩,
       ⟨some 28, .un .not (.tmp 27), none⟩])
    (.keep [0, 1, 2, 3, 10, 28] [] (.cond (.tmp 28)
     (.seq (.region [⟨some 8, .move (.const (.bool false)), none⟩,
        ⟨some 9, .move (.const (.int .i64 51)), none⟩])
     (.keep [8, 9] [] (.ret)))
     (.skip)))))))
  (.keep [0, 1, 2, 3, 10] [] (.region [⟨some 20, .move (.tmp 10), none⟩,
    ⟨some 21, .bin .add .none (.tmp 20) (.const (.int .i64 1)), none⟩,
    ⟨some 10, .move (.tmp 21), none⟩])))))
def F38 : FnIR := ⟨62, 4, [.tmp 8, .tmp 9], [],
  .seq (.region [⟨some 8, .move (.const (.bool false)), none⟩,
     ⟨some 9, .move (.const (.int .i64 0)), none⟩])
  (.keep [0, 1, 2, 3] [] (.seq (.seq (.region [⟨some 12, .move (.tmp 0), none⟩,
      ⟨some 13, .move (.tmp 1), none⟩,
      ⟨some 14, .call (.func 61) [(.tmp 12), (.tmp 13)], none⟩,
      ⟨some 15, .bin .geq .none (.tmp 14) (.const (.int .i64 0)), none⟩])
   (.keep [0, 1, 2, 3, 15] [] (.cond (.tmp 15)
    (.seq (.region [⟨some 8, .move (.const (.bool false)), none⟩,
       ⟨some 9, .move (.const (.int .i64 111)), none⟩])
    (.keep [8, 9] [] (.ret)))
    (.skip))))
  (.keep [0, 1, 2, 3] [] (.seq (.seq (.region [⟨some 10, .move (.const (.int .i64 0)), none⟩])
   (.keep [0, 1, 2, 3, 10] [] (.block 0 (.loop L38_0))))
  (.keep [0, 1, 2, 3] [] (.seq (.seq (.region [⟨some 29, .move (.tmp 2), none⟩,
      ⟨some 30, .len .slice (.tmp 29), none⟩,
      ⟨some 31, .bin .lss .none (.tmp 30) (.const (.int .i64 1)), none⟩,
      ⟨some 32, .move (.tmp 31), none⟩,
      ⟨some 33, .move (.tmp 2), some (32, false)⟩,
      ⟨some 34, .len .slice (.tmp 33), some (32, false)⟩,
      ⟨some 35, .bin .gtr .none (.tmp 34) (.const (.int .i64 20)), some (32, false)⟩,
      ⟨some 36, .pick (.tmp 32) (.const (.bool true)) (.tmp 35), none⟩])
   (.keep [0, 1, 2, 3, 36] [] (.cond (.tmp 36)
    (.seq (.region [⟨some 8, .move (.const (.bool false)), none⟩,
       ⟨some 9, .move (.const (.int .i64 51)), none⟩])
    (.keep [8, 9] [] (.ret)))
    (.skip))))
  (.keep [0, 1, 2, 3] [] (.seq (.region [⟨some 37, .move (.tmp 0), none⟩,
     ⟨some 38, .buildSlice 3 0 [] [], none⟩,
     ⟨some 39, .move (.tmp 0), none⟩,
     ⟨some 40, .nilCheck (.tmp 39), none⟩,
     ⟨some 41, .fieldAddr 0 (.tmp 40), none⟩,
     ⟨some 42, .load false 1 (.tmp 41), none⟩,
     ⟨some 43, .append 3 40 (.tmp 38) (.tmp 42), none⟩,
     ⟨some 44, .move (.tmp 1), none⟩,
     ⟨some 45, .buildSlice 2 0 [] [], none⟩,
     ⟨some 46, .move (.tmp 2), none⟩,
     ⟨some 47, .append 2 32 (.tmp 45) (.tmp 46), none⟩,
     ⟨some 48, .move (.tmp 3), none⟩,
     ⟨some 49, .build [(.int .i64 0), .nils, (.bool false)] [(0, 1, (.tmp 44)), (1, 1, (.tmp 47)), (2, 1, (.tmp 48))], none⟩,
     ⟨some 50, .buildSlice 3 1 [(.int .i64 0), .nils, (.bool false)] [(0, 3, (.tmp 49))], none⟩,
     ⟨some 51, .append 3 40 (.tmp 43) (.tmp 50), none⟩,
     ⟨some 52, .nilCheck (.tmp 37), none⟩,
     ⟨some 53, .fieldAddr 0 (.tmp 52), none⟩,
     ⟨none, .store 1 (.tmp 53) (.tmp 51), none⟩])
  (.keep [0] [] (.seq (.region [⟨some 54, .move (.tmp 0), none⟩,
     ⟨some 55, .move (.tmp 0), none⟩,
     ⟨some 56, .nilCheck (.tmp 55), none⟩,
     ⟨some 57, .fieldAddr 0 (.tmp 56), none⟩,
     ⟨some 58, .load false 1 (.tmp 57), none⟩,
     ⟨some 59, .len .slice (.tmp 58), none⟩,
     ⟨some 60, .bin .sub .none (.tmp 59) (.const (.int .i64 1)), none⟩,
     ⟨some 61, .call (.func 63) [(.tmp 54), (.tmp 60)], none⟩,
     ⟨some 8, .move (.tmp 61), none⟩,
     ⟨some 9, .move (.const (.int .i64 0)), none⟩])
  (.keep [8, 9] [] (.ret))))))))))))⟩
/-- (*wampum/wampumref11.Latches).find -/
def L61_0 : IC :=
  .keep [0, 1, 5] [] (.seq (.seq (.region [⟨some 6, .move (.tmp 5), none⟩,
      ⟨some 7, .move (.tmp 0), none⟩,
      ⟨some 8, .nilCheck (.tmp 7), none⟩,
      ⟨some 9, .fieldAddr 0 (.tmp 8), none⟩,
      ⟨some 10, .load false 1 (.tmp 9), none⟩,
      ⟨some 11, .len .slice (.tmp 10), none⟩,
      ⟨some 12, .bin .lss .none (.tmp 6) (.tmp 11), none⟩])
   (.keep [0, 1, 5, 12] [] (.cond (.tmp 12)
    (.skip)
    (.exit 0))))
  (.keep [0, 1, 5] [] (.seq (.block 1 (.seq (.region [⟨some 15, .move (.tmp 0), none⟩,
       ⟨some 16, .nilCheck (.tmp 15), none⟩,
       ⟨some 17, .fieldAddr 0 (.tmp 16), none⟩,
       ⟨some 18, .load false 1 (.tmp 17), none⟩,
       ⟨some 19, .move (.tmp 5), none⟩,
       ⟨some 20, .indexAddr none 3 (.tmp 18) (.tmp 19), none⟩,
       ⟨some 21, .fieldAddr 0 (.tmp 20), none⟩,
       ⟨some 22, .load false 1 (.tmp 21), none⟩,
       ⟨some 23, .move (.tmp 1), none⟩,
       ⟨some 24, .bin .eql .int (.tmp 22) (.tmp 23), none⟩])
    (.keep [0, 1, 5, 24] [] (.cond (.tmp 24)
     (.seq (.region [⟨some 25, .move (.tmp 5), none⟩,
        ⟨some 4, .move (.tmp 25), none⟩])
     (.keep [4] [] (.ret)))
     (.skip)))))
  (.keep [0, 1, 5] [] (.region [⟨some 13, .move (.tmp 5), none⟩,
    ⟨some 14, .bin .add .none (.tmp 13) (.const (.int .i64 1)), none⟩,
    ⟨some 5, .move (.tmp 14), none⟩])))))
def F61 : FnIR := ⟨26, 2, [.tmp 4], [],
  .seq (.region [⟨some 4, .move (.const (.int .i64 0)), none⟩])
  (.keep [0, 1] [] (.seq (.seq (.region [⟨some 5, .move (.const (.int .i64 0)), none⟩])
   (.keep [0, 1, 5] [] (.block 0 (.loop L61_0))))
  (.keep [] [] (.seq (.region [⟨some 4, .move (.const (.int .i64 (-1))), none⟩])
  (.keep [4] [] (.ret))))))⟩
/-- (*wampum/wampumref11.Latches).at -/
def L63_0 : IC :=
  .keep [0, 1, 5] [] (.seq (.seq (.region [⟨some 7, .move (.tmp 5), none⟩,
      ⟨some 8, .move (.tmp 1), none⟩,
      ⟨some 9, .bin .lss .none (.tmp 7) (.tmp 8), none⟩])
   (.keep [0, 1, 5, 9] [] (.cond (.tmp 9)
    (.skip)
    (.exit 0))))
  (.keep [0, 1, 5] [] (.seq (.block 1 (.seq (.regionD [⟨some 12, .move (.tmp 0), none⟩,
       ⟨some 13, .nilCheck (.tmp 12), none⟩,
       ⟨some 14, .fieldAddr 0 (.tmp 13), none⟩,
       ⟨some 15, .load false 1 (.tmp 14), none⟩,
       ⟨some 16, .move (.tmp 5), none⟩,
       ⟨some 17, .indexAddr none 3 (.tmp 15) (.tmp 16), none⟩,
       ⟨some 18, .load true 3 (.tmp 17), none⟩,
       ⟨some 19, .move (.tmp 0), none⟩,
       ⟨some 20, .nilCheck (.tmp 19), none⟩,
       ⟨some 21, .fieldAddr 0 (.tmp 20), none⟩,
       ⟨some 22, .load false 1 (.tmp 21), none⟩,
       ⟨some 23, .move (.tmp 1), none⟩,
       ⟨some 24, .indexAddr none 3 (.tmp 22) (.tmp 23), none⟩,
       ⟨some 25, .load true 3 (.tmp 24), none⟩,
       ⟨some 26, .call (.func 74) [(.tmp 18), (.tmp 25)], none⟩,
       ⟨some 6, .move (.tmp 26), none⟩] [])
    (.keep [0, 1, 5, 6] [] (.seq (.region [⟨some 27, .move (.tmp 6), none⟩])
    (.keep [0, 1, 5, 27] [] (.cond (.tmp 27)
     (.seq (.region [⟨some 4, .move (.const (.bool false)), none⟩])
     (.keep [4] [] (.ret)))
     (.skip)))))))
  (.keep [0, 1, 5] [] (.region [⟨some 10, .move (.tmp 5), none⟩,
    ⟨some 11, .bin .add .none (.tmp 10) (.const (.int .i64 1)), none⟩,
    ⟨some 5, .move (.tmp 11), none⟩])))))
def F63 : FnIR := ⟨28, 2, [.tmp 4], [],
  .seq (.region [⟨some 4, .move (.const (.bool false)), none⟩])
  (.keep [0, 1] [] (.seq (.seq (.region [⟨some 5, .move (.const (.int .i64 0)), none⟩])
   (.keep [0, 1, 5] [] (.block 0 (.loop L63_0))))
  (.keep [] [] (.seq (.region [⟨some 4, .move (.const (.bool true)), none⟩])
  (.keep [4] [] (.ret))))))⟩
/-- wampum/wampumref11.collide -/
def L74_0 : IC :=
  .keep [2, 3, 5, 6] [2, 3] (.seq (.seq (.region [⟨some 23, .move (.tmp 6), none⟩,
      ⟨some 24, .fieldAddr 1 (.tmp 3), none⟩,
      ⟨some 25, .load false 1 (.tmp 24), none⟩,
      ⟨some 26, .len .slice (.tmp 25), none⟩,
      ⟨some 27, .bin .lss .none (.tmp 23) (.tmp 26), none⟩])
   (.keep [2, 3, 5, 6, 27] [2, 3] (.cond (.tmp 27)
    (.skip)
    (.exit 2))))
  (.keep [2, 3, 5, 6] [2, 3] (.seq (.block 3 (.seq (.regionD [⟨some 30, .fieldAddr 1 (.tmp 2), none⟩,
       ⟨some 31, .load false 1 (.tmp 30), none⟩,
       ⟨some 32, .move (.tmp 5), none⟩,
       ⟨some 33, .indexAddr none 2 (.tmp 31) (.tmp 32), none⟩,
       ⟨some 34, .load true 2 (.tmp 33), none⟩,
       ⟨some 35, .fieldAddr 1 (.tmp 3), none⟩,
       ⟨some 36, .load false 1 (.tmp 35), none⟩,
       ⟨some 37, .move (.tmp 6), none⟩,
       ⟨some 38, .indexAddr none 2 (.tmp 36) (.tmp 37), none⟩,
       ⟨some 39, .load true 2 (.tmp 38), none⟩,
       ⟨some 40, .call (.func 60) [(.tmp 34), (.tmp 39)], none⟩,
       ⟨some 7, .move (.tmp 40), none⟩] [])
    (.keep [2, 3, 5, 6, 7] [2, 3] (.seq (.region [⟨some 41, .move (.tmp 7), none⟩])
    (.keep [2, 3, 5, 6, 41] [2, 3] (.cond (.tmp 41)
     (.seq (.region [⟨some 4, .move (.const (.bool true)), none⟩])
     (.keep [4] [] (.ret)))
     (.skip)))))))
  (.keep [2, 3, 5, 6] [2, 3] (.region [⟨some 28, .move (.tmp 6), none⟩,
    ⟨some 29, .bin .add .none (.tmp 28) (.const (.int .i64 1)), none⟩,
    ⟨some 6, .move (.tmp 29), none⟩])))))
def L74_1 : IC :=
  .keep [2, 3, 5] [2, 3] (.seq (.seq (.region [⟨some 16, .move (.tmp 5), none⟩,
      ⟨some 17, .fieldAddr 1 (.tmp 2), none⟩,
      ⟨some 18, .load false 1 (.tmp 17), none⟩,
      ⟨some 19, .len .slice (.tmp 18), none⟩,
      ⟨some 20, .bin .lss .none (.tmp 16) (.tmp 19), none⟩])
   (.keep [2, 3, 5, 20] [2, 3] (.cond (.tmp 20)
    (.skip)
    (.exit 0))))
  (.keep [2, 3, 5] [2, 3] (.seq (.block 1 (.seq (.region [⟨some 6, .move (.const (.int .i64 0)), none⟩])
    (.keep [2, 3, 5, 6] [2, 3] (.block 2 (.loop L74_0)))))
  (.keep [2, 3, 5] [2, 3] (.region [⟨some 21, .move (.tmp 5), none⟩,
    ⟨some 22, .bin .add .none (.tmp 21) (.const (.int .i64 1)), none⟩,
    ⟨some 5, .move (.tmp 22), none⟩])))))
def F74 : FnIR := ⟨42, 2, [.tmp 4], [2, 3],
  .seq (.region [⟨some 2, .box true 3 (.tmp 0), none⟩,
     ⟨some 3, .box true 3 (.tmp 1), none⟩,
     ⟨some 4, .move (.const (.bool false)), none⟩])
  (.keep [2, 3] [2, 3] (.seq (.seq (.region [⟨some 8, .fieldAddr 2 (.tmp 2), none⟩,
      ⟨some 9, .load false 1 (.tmp 8), none⟩,
      ⟨some 10, .un .not (.tmp 9), none⟩,
      ⟨some 11, .move (.tmp 10), none⟩,
      ⟨some 12, .fieldAddr 2 (.tmp 3), some (11, true)⟩,
      ⟨some 13, .load false 1 (.tmp 12), some (11, true)⟩,
      ⟨some 14, .un .not (.tmp 13), some (11, true)⟩,
      ⟨some 15, .pick (.tmp 11) (.tmp 14) (.const (.bool false)), none⟩])
   (.keep [2, 3, 15] [2, 3] (.cond (.tmp 15)
    (.seq (.region [⟨some 4, .move (.const (.bool false)), none⟩])
    (.keep [4] [] (.ret)))
    (.skip))))
  (.keep [2, 3] [2, 3] (.seq (.seq (.region [⟨some 5, .move (.const (.int .i64 0)), none⟩])
   (.keep [2, 3, 5] [2, 3] (.block 0 (.loop L74_1))))
  (.keep [] [] (.seq (.region [⟨some 4, .move (.const (.bool false)), none⟩])
  (.keep [4] [] (.ret))))))))⟩
/-- (*wampum/wampumref11.Latches).Drop -/
def L39_0 : IC :=
  .keep [0, 6, 7, 8] [] (.seq (.seq (.region [⟨some 19, .move (.tmp 8), none⟩,
      ⟨some 20, .move (.tmp 0), none⟩,
      ⟨some 21, .nilCheck (.tmp 20), none⟩,
      ⟨some 22, .fieldAddr 0 (.tmp 21), none⟩,
      ⟨some 23, .load false 1 (.tmp 22), none⟩,
      ⟨some 24, .len .slice (.tmp 23), none⟩,
      ⟨some 25, .bin .lss .none (.tmp 19) (.tmp 24), none⟩])
   (.keep [0, 6, 7, 8, 25] [] (.cond (.tmp 25)
    (.skip)
    (.exit 0))))
  (.keep [0, 6, 7, 8] [] (.seq (.block 1 (.seq (.region [⟨some 28, .move (.tmp 0), none⟩,
       ⟨some 29, .move (.tmp 8), none⟩,
       ⟨some 30, .call (.func 63) [(.tmp 28), (.tmp 29)], none⟩,
       ⟨some 9, .move (.tmp 30), none⟩])
    (.keep [0, 6, 7, 8, 9] [] (.seq (.region [⟨some 31, .move (.tmp 8), none⟩,
       ⟨some 32, .move (.tmp 6), none⟩,
       ⟨some 33, .bin .neq .int (.tmp 31) (.tmp 32), none⟩])
    (.keep [0, 6, 7, 8, 9, 33] [] (.cond (.tmp 33)
     (.region [⟨some 34, .move (.tmp 7), none⟩,
       ⟨some 35, .move (.tmp 9), none⟩,
       ⟨some 36, .buildSlice 1 1 [(.bool false)] [(0, 1, (.tmp 35))], none⟩,
       ⟨some 37, .append 1 1 (.tmp 34) (.tmp 36), none⟩,
       ⟨some 7, .move (.tmp 37), none⟩])
     (.skip)))))))
  (.keep [0, 6, 7, 8] [] (.region [⟨some 26, .move (.tmp 8), none⟩,
    ⟨some 27, .bin .add .none (.tmp 26) (.const (.int .i64 1)), none⟩,
    ⟨some 8, .move (.tmp 27), none⟩])))))
def L39_1 : IC :=
  .keep [0, 7, 11, 12] [] (.seq (.seq (.region [⟨some 59, .move (.tmp 12), none⟩,
      ⟨some 60, .move (.tmp 0), none⟩,
      ⟨some 61, .nilCheck (.tmp 60), none⟩,
      ⟨some 62, .fieldAddr 0 (.tmp 61), none⟩,
      ⟨some 63, .load false 1 (.tmp 62), none⟩,
      ⟨some 64, .len .slice (.tmp 63), none⟩,
      ⟨some 65, .bin .lss .none (.tmp 59) (.tmp 64), none⟩])
   (.keep [0, 7, 11, 12, 65] [] (.cond (.tmp 65)
    (.skip)
    (.exit 2))))
  (.keep [0, 7, 11, 12] [] (.seq (.block 3 (.seq (.region [⟨some 68, .move (.tmp 0), none⟩,
       ⟨some 69, .move (.tmp 12), none⟩,
       ⟨some 70, .call (.func 63) [(.tmp 68), (.tmp 69)], none⟩,
       ⟨some 13, .move (.tmp 70), none⟩])
    (.keep [0, 7, 11, 12, 13] [] (.seq (.region [⟨some 71, .move (.tmp 13), none⟩,
       ⟨some 72, .move (.tmp 71), none⟩,
       ⟨some 73, .move (.tmp 7), some (72, true)⟩,
       ⟨some 74, .move (.tmp 12), some (72, true)⟩,
       ⟨some 75, .indexAddr none 1 (.tmp 73) (.tmp 74), some (72, true)⟩,
       ⟨some 76, .load false 1 (.tmp 75), some (72, true)⟩,
       ⟨some 77, .un .not (.tmp 76), some (72, true)⟩,
       ⟨some 78, .pick (.tmp 72) (.tmp 77) (.const (.bool false)), none⟩])
    (.keep [0, 7, 11, 12, 78] [] (.cond (.tmp 78)
     (.region [⟨some 79, .move (.tmp 11), none⟩,
       ⟨some 80, .move (.tmp 0), none⟩,
       ⟨some 81, .nilCheck (.tmp 80), none⟩,
       ⟨some 82, .fieldAddr 0 (.tmp 81), none⟩,
       ⟨some 83, .load false 1 (.tmp 82), none⟩,
       ⟨some 84, .move (.tmp 12), none⟩,
       ⟨some 85, .indexAddr none 3 (.tmp 83) (.tmp 84), none⟩,
       ⟨some 86, .fieldAddr 0 (.tmp 85), none⟩,
       ⟨some 87, .load false 1 (.tmp 86), none⟩,
       ⟨some 88, .buildSlice 1 1 [(.int .i64 0)] [(0, 1, (.tmp 87))], none⟩,
       ⟨some 89, .append 1 8 (.tmp 79) (.tmp 88), none⟩,
       ⟨some 11, .move (.tmp 89), none⟩])
     (.skip)))))))
  (.keep [0, 7, 11, 12] [] (.region [⟨some 66, .move (.tmp 12), none⟩,
    ⟨some 67, .bin .add .none (.tmp 66) (.const (.int .i64 1)), none⟩,
    ⟨some 12, .move (.tmp 67), none⟩])))))
def F39 : FnIR := ⟨91, 2, [.tmp 4, .tmp 5], [],
  .seq (.region [⟨some 4, .move (.const .nils), none⟩,
     ⟨some 5, .move (.const (.int .i64 0)), none⟩])
  (.keep [0, 1] [] (.seq (.region [⟨some 14, .move (.tmp 0), none⟩,
     ⟨some 15, .move (.tmp 1), none⟩,
     ⟨some 16, .call (.func 61) [(.tmp 14), (.tmp 15)], none⟩,
     ⟨some 6, .move (.tmp 16), none⟩])
  (.keep [0, 6] [] (.seq (.seq (.region [⟨some 17, .move (.tmp 6), none⟩,
      ⟨some 18, .bin .lss .none (.tmp 17) (.const (.int .i64 0)), none⟩])
   (.keep [0, 6, 18] [] (.cond (.tmp 18)
    (.seq (.region [⟨some 4, .move (.const .nils), none⟩,
       ⟨some 5, .move (.const (.int .i64 111)), none⟩])
    (.keep [4, 5] [] (.ret)))
    (.skip))))
  (.keep [0, 6] [] (.seq (.region [⟨some 7, .move (.const .nils), none⟩])
  (.keep [0, 6, 7] [] (.seq (.seq (.region [⟨some 8, .move (.const (.int .i64 0)), none⟩])
   (.keep [0, 6, 7, 8] [] (.block 0 (.loop L39_0))))
  (.keep [0, 6, 7] [] (.seq (.region [⟨some 38, .buildSlice 3 0 [] [], none⟩,
     ⟨some 39, .move (.tmp 0), none⟩,
     ⟨some 40, .nilCheck (.tmp 39), none⟩,
     ⟨some 41, .fieldAddr 0 (.tmp 40), none⟩,
     ⟨some 42, .load false 1 (.tmp 41), none⟩,
     ⟨some 43, .move (.tmp 6), none⟩,
     ⟨some 44, .slice (.slice 3) (.tmp 42) none (some (.tmp 43)) none, none⟩,
     ⟨some 45, .append 3 40 (.tmp 38) (.tmp 44), none⟩,
     ⟨some 10, .move (.tmp 45), none⟩])
  (.keep [0, 6, 7, 10] [] (.seq (.region [⟨some 46, .move (.tmp 10), none⟩,
     ⟨some 47, .move (.tmp 0), none⟩,
     ⟨some 48, .nilCheck (.tmp 47), none⟩,
     ⟨some 49, .fieldAddr 0 (.tmp 48), none⟩,
     ⟨some 50, .load false 1 (.tmp 49), none⟩,
     ⟨some 51, .move (.tmp 6), none⟩,
     ⟨some 52, .bin .add .none (.tmp 51) (.const (.int .i64 1)), none⟩,
     ⟨some 53, .slice (.slice 3) (.tmp 50) (some (.tmp 52)) none none, none⟩,
     ⟨some 54, .append 3 40 (.tmp 46) (.tmp 53), none⟩,
     ⟨some 10, .move (.tmp 54), none⟩])
  (.keep [0, 7, 10] [] (.seq (.region [⟨some 55, .move (.tmp 0), none⟩,
     ⟨some 56, .move (.tmp 10), none⟩,
     ⟨some 57, .nilCheck (.tmp 55), none⟩,
     ⟨some 58, .fieldAddr 0 (.tmp 57), none⟩,
     ⟨none, .store 1 (.tmp 58) (.tmp 56), none⟩])
  (.keep [0, 7] [] (.seq (.region [⟨some 11, .move (.const .nils), none⟩])
  (.keep [0, 7, 11] [] (.seq (.seq (.region [⟨some 12, .move (.const (.int .i64 0)), none⟩])
   (.keep [0, 7, 11, 12] [] (.block 2 (.loop L39_1))))
  (.keep [11] [] (.seq (.region [⟨some 90, .move (.tmp 11), none⟩,
     ⟨some 4, .move (.tmp 90), none⟩,
     ⟨some 5, .move (.const (.int .i64 0)), none⟩])
  (.keep [4, 5] [] (.ret))))))))))))))))))))))⟩
/-- wampum/wampumref11.Same -/
def L40_0 : IC :=
  .keep [0, 1, 5] [] (.seq (.seq (.region [⟨some 11, .move (.tmp 5), none⟩,
      ⟨some 12, .move (.tmp 0), none⟩,
      ⟨some 13, .len .slice (.tmp 12), none⟩,
      ⟨some 14, .bin .lss .none (.tmp 11) (.tmp 13), none⟩])
   (.keep [0, 1, 5, 14] [] (.cond (.tmp 14)
    (.skip)
    (.exit 0))))
  (.keep [0, 1, 5] [] (.seq (.block 1 (.seq (.regionD [⟨some 17, .move (.tmp 0), none⟩,
       ⟨some 18, .move (.tmp 5), none⟩,
       ⟨some 19, .indexAddr none 1 (.tmp 17) (.tmp 18), none⟩,
       ⟨some 20, .load false 1 (.tmp 19), none⟩,
       ⟨some 21, .move (.tmp 1), none⟩,
       ⟨some 22, .move (.tmp 5), none⟩,
       ⟨some 23, .indexAddr none 1 (.tmp 21) (.tmp 22), none⟩,
       ⟨some 24, .load false 1 (.tmp 23), none⟩,
       ⟨some 25, .bin .neq .int (.tmp 20) (.tmp 24), none⟩] [])
    (.keep [0, 1, 5, 25] [] (.cond (.tmp 25)
     (.seq (.region [⟨some 4, .move (.const (.bool false)), none⟩])
     (.keep [4] [] (.ret)))
     (.skip)))))
  (.keep [0, 1, 5] [] (.region [⟨some 15, .move (.tmp 5), none⟩,
    ⟨some 16, .bin .add .none (.tmp 15) (.const (.int .i64 1)), none⟩,
    ⟨some 5, .move (.tmp 16), none⟩])))))
def F40 : FnIR := ⟨26, 2, [.tmp 4], [],
  .seq (.region [⟨some 4, .move (.const (.bool false)), none⟩])
  (.keep [0, 1] [] (.seq (.seq (.region [⟨some 6, .move (.tmp 0), none⟩,
      ⟨some 7, .len .slice (.tmp 6), none⟩,
      ⟨some 8, .move (.tmp 1), none⟩,
      ⟨some 9, .len .slice (.tmp 8), none⟩,
      ⟨some 10, .bin .neq .int (.tmp 7) (.tmp 9), none⟩])
   (.keep [0, 1, 10] [] (.cond (.tmp 10)
    (.seq (.region [⟨some 4, .move (.const (.bool false)), none⟩])
    (.keep [4] [] (.ret)))
    (.skip))))
  (.keep [0, 1] [] (.seq (.seq (.region [⟨some 5, .move (.const (.int .i64 0)), none⟩])
   (.keep [0, 1, 5] [] (.block 0 (.loop L40_0))))
  (.keep [] [] (.seq (.region [⟨some 4, .move (.const (.bool true)), none⟩])
  (.keep [4] [] (.ret))))))))⟩
/-- (*wampum/latch.Latches).Claims -/
def L41_0 : IC :=
  .keep [3, 11, 12, 13] [] (.seq (.region [⟨some 14, .bin .lss .none (.tmp 13) (.tmp 12), none⟩])
  (.keep [3, 11, 12, 13, 14] [] (.seq (.cond (.tmp 14)
    (.skip)
    (.exit 0))
  (.keep [3, 11, 12, 13] [] (.seq (.block 1 (.seq (.region [⟨some 15, .indexAddr none 1 (.tmp 11) (.tmp 13), none⟩,
       ⟨some 16, .load false 1 (.tmp 15), none⟩,
       ⟨some 5, .move (.tmp 16), none⟩])
    (.keep [3, 5, 11, 12, 13] [] (.region [⟨some 17, .move (.tmp 3), none⟩,
      ⟨some 18, .move (.tmp 5), none⟩,
      ⟨some 19, .nilCheck (.tmp 18), none⟩,
      ⟨some 20, .fieldAddr 0 (.tmp 19), none⟩,
      ⟨some 21, .load false 1 (.tmp 20), none⟩,
      ⟨some 22, .buildSlice 1 1 [(.int .i64 0)] [(0, 1, (.tmp 21))], none⟩,
      ⟨some 23, .append 1 8 (.tmp 17) (.tmp 22), none⟩,
      ⟨some 3, .move (.tmp 23), none⟩]))))
  (.keep [3, 11, 12, 13] [] (.region [⟨some 24, .bin .add .none (.tmp 13) (.const (.int .i64 1)), none⟩,
    ⟨some 13, .move (.tmp 24), none⟩])))))))
def F41 : FnIR := ⟨26, 1, [.tmp 2], [],
  .seq (.region [⟨some 2, .move (.const .nils), none⟩])
  (.keep [0] [] (.seq (.seq (.region [⟨some 6, .move (.tmp 0), none⟩,
      ⟨some 7, .bin .eql .ptr (.tmp 6) (.const .nilp), none⟩])
   (.keep [0, 7] [] (.cond (.tmp 7)
    (.seq (.region [⟨some 2, .move (.const .nils), none⟩])
    (.keep [2] [] (.ret)))
    (.skip))))
  (.keep [0] [] (.seq (.region [⟨some 3, .move (.const .nils), none⟩])
  (.keep [0, 3] [] (.seq (.seq (.region [⟨some 8, .move (.tmp 0), none⟩,
      ⟨some 9, .nilCheck (.tmp 8), none⟩,
      ⟨some 10, .fieldAddr 0 (.tmp 9), none⟩,
      ⟨some 11, .load false 1 (.tmp 10), none⟩,
      ⟨some 12, .len .slice (.tmp 11), none⟩,
      ⟨some 13, .move (.const (.int .i64 0)), none⟩])
   (.keep [3, 11, 12, 13] [] (.block 0 (.loop L41_0))))
  (.keep [3] [] (.seq (.region [⟨some 25, .move (.tmp 3), none⟩,
     ⟨some 2, .move (.tmp 25), none⟩])
  (.keep [2] [] (.ret))))))))))⟩
/-- (*wampum/wampumref11.Latches).Claims -/
def L42_0 : IC :=
  .keep [0, 3, 4] [] (.seq (.seq (.region [⟨some 5, .move (.tmp 4), none⟩,
      ⟨some 6, .move (.tmp 0), none⟩,
      ⟨some 7, .nilCheck (.tmp 6), none⟩,
      ⟨some 8, .fieldAddr 0 (.tmp 7), none⟩,
      ⟨some 9, .load false 1 (.tmp 8), none⟩,
      ⟨some 10, .len .slice (.tmp 9), none⟩,
      ⟨some 11, .bin .lss .none (.tmp 5) (.tmp 10), none⟩])
   (.keep [0, 3, 4, 11] [] (.cond (.tmp 11)
    (.skip)
    (.exit 0))))
  (.keep [0, 3, 4] [] (.seq (.block 1 (.region [⟨some 14, .move (.tmp 3), none⟩,
      ⟨some 15, .move (.tmp 0), none⟩,
      ⟨some 16, .nilCheck (.tmp 15), none⟩,
      ⟨some 17, .fieldAddr 0 (.tmp 16), none⟩,
      ⟨some 18, .load false 1 (.tmp 17), none⟩,
      ⟨some 19, .move (.tmp 4), none⟩,
      ⟨some 20, .indexAddr none 3 (.tmp 18) (.tmp 19), none⟩,
      ⟨some 21, .fieldAddr 0 (.tmp 20), none⟩,
      ⟨some 22, .load false 1 (.tmp 21), none⟩,
      ⟨some 23, .buildSlice 1 1 [(.int .i64 0)] [(0, 1, (.tmp 22))], none⟩,
      ⟨some 24, .append 1 8 (.tmp 14) (.tmp 23), none⟩,
      ⟨some 3, .move (.tmp 24), none⟩]))
  (.keep [0, 3, 4] [] (.region [⟨some 12, .move (.tmp 4), none⟩,
    ⟨some 13, .bin .add .none (.tmp 12) (.const (.int .i64 1)), none⟩,
    ⟨some 4, .move (.tmp 13), none⟩])))))
def F42 : FnIR := ⟨26, 1, [.tmp 2], [],
  .seq (.region [⟨some 2, .move (.const .nils), none⟩])
  (.keep [0] [] (.seq (.region [⟨some 3, .move (.const .nils), none⟩])
  (.keep [0, 3] [] (.seq (.seq (.region [⟨some 4, .move (.const (.int .i64 0)), none⟩])
   (.keep [0, 3, 4] [] (.block 0 (.loop L42_0))))
  (.keep [3] [] (.seq (.region [⟨some 25, .move (.tmp 3), none⟩,
     ⟨some 2, .move (.tmp 25), none⟩])
  (.keep [2] [] (.ret))))))))⟩
/-- (*wampum/wampumref11.Latches).Free -/
def F43 : FnIR := ⟨14, 2, [.tmp 4], [],
  .seq (.region [⟨some 4, .move (.const (.bool false)), none⟩])
  (.keep [0, 1] [] (.seq (.region [⟨some 6, .move (.tmp 0), none⟩,
     ⟨some 7, .move (.tmp 1), none⟩,
     ⟨some 8, .call (.func 61) [(.tmp 6), (.tmp 7)], none⟩,
     ⟨some 5, .move (.tmp 8), none⟩])
  (.keep [0, 5] [] (.seq (.seq (.region [⟨some 9, .move (.tmp 5), none⟩,
      ⟨some 10, .bin .lss .none (.tmp 9) (.const (.int .i64 0)), none⟩])
   (.keep [0, 5, 10] [] (.cond (.tmp 10)
    (.seq (.region [⟨some 4, .move (.const (.bool false)), none⟩])
    (.keep [4] [] (.ret)))
    (.skip))))
  (.keep [0, 5] [] (.seq (.region [⟨some 11, .move (.tmp 0), none⟩,
     ⟨some 12, .move (.tmp 5), none⟩,
     ⟨some 13, .call (.func 63) [(.tmp 11), (.tmp 12)], none⟩,
     ⟨some 4, .move (.tmp 13), none⟩])
  (.keep [4] [] (.ret))))))))⟩
/-- wampum/wampumlaw11.LatchEnds -/
def L10_0 : IC :=
  .keep [0, 1, 5, 6] [] (.seq (.seq (.region [⟨some 25, .move (.tmp 6), none⟩,
      ⟨some 26, .move (.tmp 0), none⟩,
      ⟨some 27, .len .slice (.tmp 26), none⟩,
      ⟨some 28, .bin .lss .none (.tmp 25) (.tmp 27), none⟩,
      ⟨some 29, .move (.tmp 28), none⟩,
      ⟨some 30, .move (.tmp 6), some (29, true)⟩,
      ⟨some 31, .bin .lss .none (.tmp 30) (.const (.int .i64 60)), some (29, true)⟩,
      ⟨some 32, .pick (.tmp 29) (.tmp 31) (.const (.bool false)), none⟩])
   (.keep [0, 1, 5, 6, 32] [] (.cond (.tmp 32)
    (.skip)
    (.exit 0))))
  (.keep [0, 1, 5, 6] [] (.seq (.block 1 (.seq (.region [⟨some 35, .move (.tmp 0), none⟩,
       ⟨some 36, .move (.tmp 6), none⟩,
       ⟨some 37, .indexAddr none 4 (.tmp 35) (.tmp 36), none⟩,
       ⟨some 38, .load true 4 (.tmp 37), none⟩,
       ⟨some 7, .alloc true 4 [(.int .i64 0), (.int .i64 0), .nils, (.bool false)], none⟩,
       ⟨none, .store 4 (.tmp 7) (.tmp 38), none⟩])
    (.keep [0, 1, 5, 6, 7] [7] (.seq (.region [⟨some 39, .load true 4 (.tmp 7), none⟩,
       ⟨some 40, .call (.func 31) [(.tmp 39)], none⟩,
       ⟨some 8, .move (.tmp 40), none⟩])
    (.keep [0, 1, 5, 6, 7, 8] [7] (.seq (.seq (.region [⟨some 41, .move (.tmp 8), none⟩,
        ⟨some 42, .move (.tmp 41), none⟩,
        ⟨some 43, .fieldAddr 0 (.tmp 7), some (42, true)⟩,
        ⟨some 44, .load false 1 (.tmp 43), some (42, true)⟩,
        ⟨some 45, .bin .eql .int (.tmp 44) (.const (.int .i64 1)), some (42, true)⟩,
        ⟨some 46, .pick (.tmp 42) (.tmp 45) (.const (.bool false)), none⟩])
     (.keep [0, 1, 5, 6, 7, 8, 46] [7] (.cond (.tmp 46)
      (.region [⟨some 47, .move (.tmp 5), none⟩,
        ⟨some 48, .fieldAddr 1 (.tmp 7), none⟩,
        ⟨some 49, .load false 1 (.tmp 48), none⟩,
        ⟨some 50, .fieldAddr 2 (.tmp 7), none⟩,
        ⟨some 51, .load false 1 (.tmp 50), none⟩,
        ⟨some 52, .fieldAddr 3 (.tmp 7), none⟩,
        ⟨some 53, .load false 1 (.tmp 52), none⟩,
        ⟨some 54, .call (.func 32) [(.tmp 47), (.tmp 49), (.tmp 51), (.tmp 53)], none⟩])
      (.skip))))
    (.keep [0, 1, 5, 6, 7, 8] [7] (.seq (.region [⟨some 55, .move (.tmp 8), none⟩,
       ⟨some 56, .move (.tmp 55), none⟩,
       ⟨some 57, .fieldAddr 0 (.tmp 7), some (56, true)⟩,
       ⟨some 58, .load false 1 (.tmp 57), some (56, true)⟩,
       ⟨some 59, .bin .eql .int (.tmp 58) (.const (.int .i64 2)), some (56, true)⟩,
       ⟨some 60, .pick (.tmp 56) (.tmp 59) (.const (.bool false)), none⟩])
    (.keep [0, 1, 5, 6, 7, 60] [7] (.cond (.tmp 60)
     (.region [⟨some 61, .move (.tmp 5), none⟩,
       ⟨some 62, .fieldAddr 1 (.tmp 7), none⟩,
       ⟨some 63, .load false 1 (.tmp 62), none⟩,
       ⟨some 64, .call (.func 33) [(.tmp 61), (.tmp 63)], none⟩])
     (.skip)))))))))))
  (.keep [0, 1, 5, 6] [] (.region [⟨some 33, .move (.tmp 6), none⟩,
    ⟨some 34, .bin .add .none (.tmp 33) (.const (.int .i64 1)), none⟩,
    ⟨some 6, .move (.tmp 34), none⟩])))))
def L10_1 : IC :=
  .keep [1, 5, 9, 10, 11, 12, 13] [] (.seq (.seq (.region [⟨some 75, .move (.tmp 13), none⟩,
      ⟨some 76, .move (.tmp 12), none⟩,
      ⟨some 77, .len .slice (.tmp 76), none⟩,
      ⟨some 78, .bin .lss .none (.tmp 75) (.tmp 77), none⟩])
   (.keep [1, 5, 9, 10, 11, 12, 13, 78] [] (.cond (.tmp 78)
    (.skip)
    (.exit 4))))
  (.keep [1, 5, 9, 10, 11, 12, 13] [] (.seq (.block 5 (.seq (.region [⟨some 81, .move (.tmp 5), none⟩,
       ⟨some 82, .move (.tmp 12), none⟩,
       ⟨some 83, .move (.tmp 13), none⟩,
       ⟨some 84, .indexAddr none 1 (.tmp 82) (.tmp 83), none⟩,
       ⟨some 85, .load false 1 (.tmp 84), none⟩,
       ⟨some 86, .call (.func 35) [(.tmp 81), (.tmp 85)], none⟩])
    (.keep [1, 5, 9, 10, 11, 12, 13, 86] [] (.cond (.tmp 86)
     (.region [⟨some 87, .move (.tmp 11), none⟩,
       ⟨some 88, .move (.tmp 12), none⟩,
       ⟨some 89, .move (.tmp 13), none⟩,
       ⟨some 90, .indexAddr none 1 (.tmp 88) (.tmp 89), none⟩,
       ⟨some 91, .load false 1 (.tmp 90), none⟩,
       ⟨some 92, .buildSlice 1 1 [(.int .i64 0)] [(0, 1, (.tmp 91))], none⟩,
       ⟨some 93, .append 1 8 (.tmp 87) (.tmp 92), none⟩,
       ⟨some 11, .move (.tmp 93), none⟩])
     (.skip)))))
  (.keep [1, 5, 9, 10, 11, 12, 13] [] (.region [⟨some 79, .move (.tmp 13), none⟩,
    ⟨some 80, .bin .add .none (.tmp 79) (.const (.int .i64 1)), none⟩,
    ⟨some 13, .move (.tmp 80), none⟩])))))
def L10_2 : IC :=
  .keep [1, 5, 9, 10, 15, 17] [] (.seq (.seq (.region [⟨some 120, .move (.tmp 17), none⟩,
      ⟨some 121, .move (.tmp 15), none⟩,
      ⟨some 122, .len .slice (.tmp 121), none⟩,
      ⟨some 123, .bin .lss .none (.tmp 120) (.tmp 122), none⟩])
   (.keep [1, 5, 9, 10, 15, 17, 123] [] (.cond (.tmp 123)
    (.skip)
    (.exit 6))))
  (.keep [1, 5, 9, 10, 15, 17] [] (.seq (.block 7 (.seq (.region [⟨some 126, .move (.tmp 5), none⟩,
       ⟨some 127, .move (.tmp 15), none⟩,
       ⟨some 128, .move (.tmp 17), none⟩,
       ⟨some 129, .indexAddr none 1 (.tmp 127) (.tmp 128), none⟩,
       ⟨some 130, .load false 1 (.tmp 129), none⟩,
       ⟨some 131, .call (.func 35) [(.tmp 126), (.tmp 130)], none⟩,
       ⟨some 132, .un .not (.tmp 131), none⟩])
    (.keep [1, 5, 9, 10, 15, 17, 132] [] (.cond (.tmp 132)
     (.seq (.region [⟨some 4, .move (.const (.bool false)), none⟩])
     (.keep [4] [] (.ret)))
     (.skip)))))
  (.keep [1, 5, 9, 10, 15, 17] [] (.region [⟨some 124, .move (.tmp 17), none⟩,
    ⟨some 125, .bin .add .none (.tmp 124) (.const (.int .i64 1)), none⟩,
    ⟨some 17, .move (.tmp 125), none⟩])))))
def L10_3 : IC :=
  .keep [1, 5, 9, 10] [] (.seq (.seq (.region [⟨some 68, .move (.tmp 10), none⟩,
      ⟨some 69, .move (.tmp 9), none⟩,
      ⟨some 70, .bin .lss .none (.tmp 68) (.tmp 69), none⟩])
   (.keep [1, 5, 9, 10, 70] [] (.cond (.tmp 70)
    (.skip)
    (.exit 2))))
  (.keep [1, 5, 9, 10] [] (.seq (.block 3 (.seq (.region [⟨some 11, .move (.const .nils), none⟩])
    (.keep [1, 5, 9, 10, 11] [] (.seq (.region [⟨some 73, .move (.tmp 5), none⟩,
       ⟨some 74, .call (.func 41) [(.tmp 73)], none⟩,
       ⟨some 12, .move (.tmp 74), none⟩])
    (.keep [1, 5, 9, 10, 11, 12] [] (.seq (.seq (.region [⟨some 13, .move (.const (.int .i64 0)), none⟩])
     (.keep [1, 5, 9, 10, 11, 12, 13] [] (.block 4 (.loop L10_1))))
    (.keep [1, 5, 9, 10, 11] [] (.seq (.seq (.region [⟨some 94, .move (.tmp 11), none⟩,
        ⟨some 95, .len .slice (.tmp 94), none⟩,
        ⟨some 96, .bin .eql .int (.tmp 95) (.const (.int .i64 0)), none⟩])
     (.keep [1, 5, 9, 10, 11, 96] [] (.cond (.tmp 96)
      (.seq (.region [⟨some 4, .move (.const (.bool false)), none⟩])
      (.keep [4] [] (.ret)))
      (.skip))))
    (.keep [1, 5, 9, 10, 11] [] (.seq (.region [⟨some 14, .move (.const (.int .i64 0)), none⟩])
    (.keep [1, 5, 9, 10, 11, 14] [] (.seq (.seq (.region [⟨some 97, .move (.tmp 10), none⟩,
        ⟨some 98, .move (.tmp 1), none⟩,
        ⟨some 99, .len .slice (.tmp 98), none⟩,
        ⟨some 100, .bin .lss .none (.tmp 97) (.tmp 99), none⟩])
     (.keep [1, 5, 9, 10, 11, 14, 100] [] (.cond (.tmp 100)
      (.region [⟨some 101, .move (.tmp 1), none⟩,
        ⟨some 102, .move (.tmp 10), none⟩,
        ⟨some 103, .indexAddr none 1 (.tmp 101) (.tmp 102), none⟩,
        ⟨some 104, .load false 1 (.tmp 103), none⟩,
        ⟨some 105, .bin .and .none (.tmp 104) (.const (.int .i64 1023)), none⟩,
        ⟨some 106, .move (.tmp 11), none⟩,
        ⟨some 107, .len .slice (.tmp 106), none⟩,
        ⟨some 108, .bin .rem .none (.tmp 105) (.tmp 107), none⟩,
        ⟨some 14, .move (.tmp 108), none⟩])
      (.skip))))
    (.keep [1, 5, 9, 10, 11, 14] [] (.seq (.region [⟨some 110, .move (.tmp 5), none⟩,
       ⟨some 111, .move (.tmp 11), none⟩,
       ⟨some 112, .move (.tmp 14), none⟩,
       ⟨some 113, .indexAddr none 1 (.tmp 111) (.tmp 112), none⟩,
       ⟨some 114, .load false 1 (.tmp 113), none⟩,
       ⟨some 115, .call (.func 33) [(.tmp 110), (.tmp 114)], none⟩,
       ⟨some 109, .move (.tmp 115), none⟩,
       ⟨some 116, .extract (.tmp 109) 0, none⟩,
       ⟨some 117, .extract (.tmp 109) 1, none⟩,
       ⟨some 15, .move (.tmp 116), none⟩,
       ⟨some 16, .move (.tmp 117), none⟩])
    (.keep [1, 5, 9, 10, 15, 16] [] (.seq (.seq (.region [⟨some 118, .move (.tmp 16), none⟩,
        ⟨some 119, .bin .neq .int (.tmp 118) (.const (.int .i64 0)), none⟩])
     (.keep [1, 5, 9, 10, 15, 119] [] (.cond (.tmp 119)
      (.seq (.region [⟨some 4, .move (.const (.bool false)), none⟩])
      (.keep [4] [] (.ret)))
      (.skip))))
    (.keep [1, 5, 9, 10, 15] [] (.seq (.region [⟨some 17, .move (.const (.int .i64 0)), none⟩])
    (.keep [1, 5, 9, 10, 15, 17] [] (.block 6 (.loop L10_2)))))))))))))))))))))
  (.keep [1, 5, 9, 10] [] (.region [⟨some 71, .move (.tmp 10), none⟩,
    ⟨some 72, .bin .add .none (.tmp 71) (.const (.int .i64 1)), none⟩,
    ⟨some 10, .move (.tmp 72), none⟩])))))
def F10 : FnIR := ⟨137, 2, [.tmp 4], [7],
  .seq (.region [⟨some 4, .move (.const (.bool false)), none⟩])
  (.keep [0, 1] [] (.seq (.region [⟨some 18, .call (.func 29) [], none⟩,
     ⟨some 5, .move (.tmp 18), none⟩])
  (.keep [0, 1, 5] [] (.seq (.seq (.region [⟨some 19, .call (.func 30) [], none⟩,
      ⟨some 20, .un .not (.tmp 19), none⟩,
      ⟨some 21, .move (.tmp 20), none⟩,
      ⟨some 22, .move (.tmp 5), some (21, false)⟩,
      ⟨some 23, .bin .eql .ptr (.tmp 22) (.const .nilp), some (21, false)⟩,
      ⟨some 24, .pick (.tmp 21) (.const (.bool true)) (.tmp 23), none⟩])
   (.keep [0, 1, 5, 24] [] (.cond (.tmp 24)
    (.seq (.region [⟨some 4, .move (.const (.bool false)), none⟩])
    (.keep [4] [] (.ret)))
    (.skip))))
  (.keep [0, 1, 5] [] (.seq (.seq (.region [⟨some 6, .move (.const (.int .i64 0)), none⟩])
   (.keep [0, 1, 5, 6] [] (.block 0 (.loop L10_0))))
  (.keep [1, 5] [] (.seq (.region [⟨some 65, .move (.tmp 5), none⟩,
     ⟨some 66, .call (.func 41) [(.tmp 65)], none⟩,
     ⟨some 67, .len .slice (.tmp 66), none⟩,
     ⟨some 9, .move (.tmp 67), none⟩])
  (.keep [1, 5, 9] [] (.seq (.seq (.region [⟨some 10, .move (.const (.int .i64 0)), none⟩])
   (.keep [1, 5, 9, 10] [] (.block 2 (.loop L10_3))))
  (.keep [5] [] (.seq (.region [⟨some 133, .move (.tmp 5), none⟩,
     ⟨some 134, .call (.func 41) [(.tmp 133)], none⟩,
     ⟨some 135, .len .slice (.tmp 134), none⟩,
     ⟨some 136, .bin .eql .int (.tmp 135) (.const (.int .i64 0)), none⟩,
     ⟨some 4, .move (.tmp 136), none⟩])
  (.keep [4] [] (.ret))))))))))))))⟩
/-- wampum/wampumlaw11.LatchNil -/
def F11 : FnIR := ⟨63, 1, [.tmp 2], [1],
  .seq (.region [⟨some 1, .box true 4 (.tmp 0), none⟩,
     ⟨some 2, .move (.const (.bool false)), none⟩])
  (.keep [1] [1] (.seq (.region [⟨some 9, .load true 4 (.tmp 1), none⟩,
     ⟨some 10, .call (.func 31) [(.tmp 9)], none⟩,
     ⟨some 3, .move (.tmp 10), none⟩])
  (.keep [1, 3] [1] (.seq (.seq (.region [⟨some 11, .move (.tmp 3), none⟩,
      ⟨some 12, .un .not (.tmp 11), none⟩])
   (.keep [1, 12] [1] (.cond (.tmp 12)
    (.seq (.region [⟨some 13, .call (.func 30) [], none⟩,
       ⟨some 2, .move (.tmp 13), none⟩])
    (.keep [2] [] (.ret)))
    (.skip))))
  (.keep [1] [1] (.seq (.region [⟨some 4, .move (.const .nilp), none⟩])
  (.keep [1, 4] [1] (.seq (.region [⟨some 15, .move (.tmp 4), none⟩,
     ⟨some 16, .fieldAddr 1 (.tmp 1), none⟩,
     ⟨some 17, .load false 1 (.tmp 16), none⟩,
     ⟨some 18, .fieldAddr 2 (.tmp 1), none⟩,
     ⟨some 19, .load false 1 (.tmp 18), none⟩,
     ⟨some 20, .fieldAddr 3 (.tmp 1), none⟩,
     ⟨some 21, .load false 1 (.tmp 20), none⟩,
     ⟨some 22, .call (.func 32) [(.tmp 15), (.tmp 17), (.tmp 19), (.tmp 21)], none⟩,
     ⟨some 14, .move (.tmp 22), none⟩,
     ⟨some 23, .extract (.tmp 14) 0, none⟩,
     ⟨some 24, .extract (.tmp 14) 1, none⟩,
     ⟨some 5, .move (.tmp 23), none⟩,
     ⟨some 6, .move (.tmp 24), none⟩])
  (.keep [1, 4, 5, 6] [1] (.seq (.region [⟨some 26, .move (.tmp 4), none⟩,
     ⟨some 27, .fieldAddr 1 (.tmp 1), none⟩,
     ⟨some 28, .load false 1 (.tmp 27), none⟩,
     ⟨some 29, .call (.func 33) [(.tmp 26), (.tmp 28)], none⟩,
     ⟨some 25, .move (.tmp 29), none⟩,
     ⟨some 30, .extract (.tmp 25) 0, none⟩,
     ⟨some 31, .extract (.tmp 25) 1, none⟩,
     ⟨some 7, .move (.tmp 30), none⟩,
     ⟨some 8, .move (.tmp 31), none⟩])
  (.keep [1, 4, 5, 6, 7, 8] [1] (.seq (.region [⟨some 32, .call (.func 30) [], none⟩,
     ⟨some 33, .move (.tmp 32), none⟩,
     ⟨some 34, .move (.tmp 5), some (33, true)⟩,
     ⟨some 35, .un .not (.tmp 34), some (33, true)⟩,
     ⟨some 36, .pick (.tmp 33) (.tmp 35) (.const (.bool false)), none⟩,
     ⟨some 37, .move (.tmp 36), none⟩,
     ⟨some 38, .move (.tmp 6), some (37, true)⟩,
     ⟨some 39, .bin .eql .int (.tmp 38) (.const (.int .i64 1)), some (37, true)⟩,
     ⟨some 40, .pick (.tmp 37) (.tmp 39) (.const (.bool false)), none⟩,
     ⟨some 41, .move (.tmp 40), none⟩,
     ⟨some 42, .move (.tmp 7), some (41, true)⟩,
     ⟨some 43, .len .slice (.tmp 42), some (41, true)⟩,
     ⟨some 44, .bin .eql .int (.tmp 43) (.const (.int .i64 0)), some (41, true)⟩,
     ⟨some 45, .pick (.tmp 41) (.tmp 44) (.const (.bool false)), none⟩,
     ⟨some 46, .move (.tmp 45), none⟩,
     ⟨some 47, .move (.tmp 8), some (46, true)⟩,
     ⟨some 48, .bin .eql .int (.tmp 47) (.const (.int .i64 1)), some (46, true)⟩,
     ⟨some 49, .pick (.tmp 46) (.tmp 48) (.const (.bool false)), none⟩,
     ⟨some 50, .move (.tmp 49), none⟩,
     ⟨some 51, .move (.tmp 4), some (50, true)⟩,
     ⟨some 52, .fieldAddr 1 (.tmp 1), some (50, true)⟩,
     ⟨some 53, .load false 1 (.tmp 52), some (50, true)⟩,
     ⟨some 54, .call (.func 35) [(.tmp 51), (.tmp 53)], some (50, true)⟩,
     ⟨some 55, .un .not (.tmp 54), some (50, true)⟩,
     ⟨some 56, .pick (.tmp 50) (.tmp 55) (.const (.bool false)), none⟩,
     ⟨some 57, .move (.tmp 56), none⟩,
     ⟨some 58, .move (.tmp 4), some (57, true)⟩,
     ⟨some 59, .call (.func 41) [(.tmp 58)], some (57, true)⟩,
     ⟨some 60, .len .slice (.tmp 59), some (57, true)⟩,
     ⟨some 61, .bin .eql .int (.tmp 60) (.const (.int .i64 0)), some (57, true)⟩,
     ⟨some 62, .pick (.tmp 57) (.tmp 61) (.const (.bool false)), none⟩,
     ⟨some 2, .move (.tmp 62), none⟩])
  (.keep [2] [] (.ret))))))))))))))⟩
/-- wampum/wampumlaw11.LatchReads -/
def L12_0 : IC :=
  .keep [0, 1, 5, 6, 7, 8] [] (.seq (.seq (.region [⟨some 23, .move (.tmp 8), none⟩,
      ⟨some 24, .move (.tmp 0), none⟩,
      ⟨some 25, .len .slice (.tmp 24), none⟩,
      ⟨some 26, .bin .lss .none (.tmp 23) (.tmp 25), none⟩,
      ⟨some 27, .move (.tmp 26), none⟩,
      ⟨some 28, .move (.tmp 8), some (27, true)⟩,
      ⟨some 29, .bin .lss .none (.tmp 28) (.const (.int .i64 60)), some (27, true)⟩,
      ⟨some 30, .pick (.tmp 27) (.tmp 29) (.const (.bool false)), none⟩])
   (.keep [0, 1, 5, 6, 7, 8, 30] [] (.cond (.tmp 30)
    (.skip)
    (.exit 0))))
  (.keep [0, 1, 5, 6, 7, 8] [] (.seq (.block 1 (.seq (.region [⟨some 33, .move (.tmp 0), none⟩,
       ⟨some 34, .move (.tmp 8), none⟩,
       ⟨some 35, .indexAddr none 1 (.tmp 33) (.tmp 34), none⟩,
       ⟨some 36, .load false 1 (.tmp 35), none⟩,
       ⟨some 37, .build [(.int .i64 0), (.int .i64 0), .nils, (.bool false)] [(2, 1, (.tmp 36))], none⟩,
       ⟨some 38, .call (.func 31) [(.tmp 37)], none⟩,
       ⟨some 9, .move (.tmp 38), none⟩])
    (.keep [0, 1, 5, 6, 7, 8, 9] [] (.seq (.seq (.region [⟨some 39, .move (.tmp 9), none⟩,
        ⟨some 40, .un .not (.tmp 39), none⟩])
     (.keep [0, 1, 5, 6, 7, 8, 40] [] (.cond (.tmp 40)
      (.exit 1)
      (.skip))))
    (.keep [0, 1, 5, 6, 7, 8] [] (.seq (.region [⟨some 42, .move (.tmp 5), none⟩,
       ⟨some 43, .move (.tmp 6), none⟩,
       ⟨some 44, .move (.tmp 0), none⟩,
       ⟨some 45, .move (.tmp 8), none⟩,
       ⟨some 46, .indexAddr none 1 (.tmp 44) (.tmp 45), none⟩,
       ⟨some 47, .load false 1 (.tmp 46), none⟩,
       ⟨some 48, .call (.func 32) [(.tmp 42), (.tmp 43), (.tmp 47), (.const (.bool false))], none⟩,
       ⟨some 41, .move (.tmp 48), none⟩,
       ⟨some 49, .extract (.tmp 41) 0, none⟩,
       ⟨some 50, .extract (.tmp 41) 1, none⟩,
       ⟨some 10, .move (.tmp 49), none⟩,
       ⟨some 11, .move (.tmp 50), none⟩])
    (.keep [0, 1, 5, 6, 7, 8, 10, 11] [] (.seq (.seq (.region [⟨some 51, .move (.tmp 11), none⟩,
        ⟨some 52, .bin .neq .int (.tmp 51) (.const (.int .i64 0)), none⟩])
     (.keep [0, 1, 5, 6, 7, 8, 10, 52] [] (.cond (.tmp 52)
      (.exit 1)
      (.skip))))
    (.keep [0, 1, 5, 6, 7, 8, 10] [] (.seq (.region [⟨some 53, .move (.tmp 6), none⟩,
       ⟨some 54, .bin .add .none (.tmp 53) (.const (.int .i64 1)), none⟩,
       ⟨some 6, .move (.tmp 54), none⟩])
    (.keep [0, 1, 5, 6, 7, 8, 10] [] (.seq (.seq (.region [⟨some 55, .move (.tmp 10), none⟩,
        ⟨some 56, .un .not (.tmp 55), none⟩])
     (.keep [0, 1, 5, 6, 7, 8, 56] [] (.cond (.tmp 56)
      (.seq (.region [⟨some 4, .move (.const (.bool false)), none⟩])
      (.keep [4] [] (.ret)))
      (.skip))))
    (.keep [0, 1, 5, 6, 7, 8] [] (.region [⟨some 57, .move (.tmp 7), none⟩,
      ⟨some 58, .move (.tmp 57), none⟩,
      ⟨some 59, .move (.tmp 0), some (58, false)⟩,
      ⟨some 60, .move (.tmp 8), some (58, false)⟩,
      ⟨some 61, .indexAddr none 1 (.tmp 59) (.tmp 60), some (58, false)⟩,
      ⟨some 62, .load false 1 (.tmp 61), some (58, false)⟩,
      ⟨some 63, .move (.tmp 1), some (58, false)⟩,
      ⟨some 64, .call (.func 36) [(.tmp 62), (.tmp 63)], some (58, false)⟩,
      ⟨some 65, .pick (.tmp 58) (.const (.bool true)) (.tmp 64), none⟩,
      ⟨some 7, .move (.tmp 65), none⟩]))))))))))))))
  (.keep [0, 1, 5, 6, 7, 8] [] (.region [⟨some 31, .move (.tmp 8), none⟩,
    ⟨some 32, .bin .add .none (.tmp 31) (.const (.int .i64 1)), none⟩,
    ⟨some 8, .move (.tmp 32), none⟩])))))
def L12_1 : IC :=
  .keep [5, 6, 7, 13, 15] [] (.seq (.seq (.region [⟨some 82, .move (.tmp 15), none⟩,
      ⟨some 83, .move (.tmp 6), none⟩,
      ⟨some 84, .bin .lss .none (.tmp 82) (.tmp 83), none⟩])
   (.keep [5, 6, 7, 13, 15, 84] [] (.cond (.tmp 84)
    (.skip)
    (.exit 2))))
  (.keep [5, 6, 7, 13, 15] [] (.seq (.block 3 (.seq (.seq (.region [⟨some 87, .move (.tmp 13), none⟩,
        ⟨some 88, .move (.tmp 7), none⟩,
        ⟨some 89, .un .not (.tmp 88), none⟩,
        ⟨some 90, .bin .neq .bool (.tmp 87) (.tmp 89), none⟩,
        ⟨some 91, .move (.tmp 90), none⟩,
        ⟨some 92, .move (.tmp 15), some (91, true)⟩,
        ⟨some 93, .bin .eql .int (.tmp 92) (.const (.int .i64 0)), some (91, true)⟩,
        ⟨some 94, .pick (.tmp 91) (.tmp 93) (.const (.bool false)), none⟩])
     (.keep [5, 6, 7, 13, 15, 94] [] (.cond (.tmp 94)
      (.seq (.region [⟨some 4, .move (.const (.bool false)), none⟩])
      (.keep [4] [] (.ret)))
      (.skip))))
    (.keep [5, 6, 7, 13, 15] [] (.region [⟨some 95, .move (.tmp 5), none⟩,
      ⟨some 96, .move (.tmp 15), none⟩,
      ⟨some 97, .call (.func 33) [(.tmp 95), (.tmp 96)], none⟩]))))
  (.keep [5, 6, 7, 13, 15] [] (.region [⟨some 85, .move (.tmp 15), none⟩,
    ⟨some 86, .bin .add .none (.tmp 85) (.const (.int .i64 1)), none⟩,
    ⟨some 15, .move (.tmp 86), none⟩])))))
def F12 : FnIR := ⟨114, 2, [.tmp 4], [],
  .seq (.region [⟨some 4, .move (.const (.bool false)), none⟩])
  (.keep [0, 1] [] (.seq (.region [⟨some 16, .call (.func 29) [], none⟩,
     ⟨some 5, .move (.tmp 16), none⟩])
  (.keep [0, 1, 5] [] (.seq (.seq (.region [⟨some 17, .call (.func 30) [], none⟩,
      ⟨some 18, .un .not (.tmp 17), none⟩,
      ⟨some 19, .move (.tmp 18), none⟩,
      ⟨some 20, .move (.tmp 5), some (19, false)⟩,
      ⟨some 21, .bin .eql .ptr (.tmp 20) (.const .nilp), some (19, false)⟩,
      ⟨some 22, .pick (.tmp 19) (.const (.bool true)) (.tmp 21), none⟩])
   (.keep [0, 1, 5, 22] [] (.cond (.tmp 22)
    (.seq (.region [⟨some 4, .move (.const (.bool false)), none⟩])
    (.keep [4] [] (.ret)))
    (.skip))))
  (.keep [0, 1, 5] [] (.seq (.region [⟨some 6, .move (.const (.int .i64 0)), none⟩])
  (.keep [0, 1, 5, 6] [] (.seq (.region [⟨some 7, .move (.const (.bool false)), none⟩])
  (.keep [0, 1, 5, 6, 7] [] (.seq (.seq (.region [⟨some 8, .move (.const (.int .i64 0)), none⟩])
   (.keep [0, 1, 5, 6, 7, 8] [] (.block 0 (.loop L12_0))))
  (.keep [1, 5, 6, 7] [] (.seq (.region [⟨some 66, .move (.tmp 1), none⟩,
     ⟨some 67, .build [(.int .i64 0), (.int .i64 0), .nils, (.bool false)] [(2, 1, (.tmp 66))], none⟩,
     ⟨some 68, .call (.func 31) [(.tmp 67)], none⟩,
     ⟨some 12, .move (.tmp 68), none⟩])
  (.keep [1, 5, 6, 7, 12] [] (.seq (.seq (.region [⟨some 69, .move (.tmp 12), none⟩,
      ⟨some 70, .un .not (.tmp 69), none⟩])
   (.keep [1, 5, 6, 7, 70] [] (.cond (.tmp 70)
    (.seq (.region [⟨some 4, .move (.const (.bool true)), none⟩])
    (.keep [4] [] (.ret)))
    (.skip))))
  (.keep [1, 5, 6, 7] [] (.seq (.region [⟨some 72, .move (.tmp 5), none⟩,
     ⟨some 73, .move (.tmp 6), none⟩,
     ⟨some 74, .move (.tmp 1), none⟩,
     ⟨some 75, .call (.func 32) [(.tmp 72), (.tmp 73), (.tmp 74), (.const (.bool true))], none⟩,
     ⟨some 71, .move (.tmp 75), none⟩,
     ⟨some 76, .extract (.tmp 71) 0, none⟩,
     ⟨some 77, .extract (.tmp 71) 1, none⟩,
     ⟨some 13, .move (.tmp 76), none⟩,
     ⟨some 14, .move (.tmp 77), none⟩])
  (.keep [5, 6, 7, 13, 14] [] (.seq (.seq (.region [⟨some 78, .move (.tmp 14), none⟩,
      ⟨some 79, .bin .neq .int (.tmp 78) (.const (.int .i64 0)), none⟩])
   (.keep [5, 6, 7, 13, 14, 79] [] (.cond (.tmp 79)
    (.seq (.region [⟨some 80, .move (.tmp 14), none⟩,
       ⟨some 81, .bin .eql .int (.tmp 80) (.const (.int .i64 51)), none⟩,
       ⟨some 4, .move (.tmp 81), none⟩])
    (.keep [4] [] (.ret)))
    (.skip))))
  (.keep [5, 6, 7, 13] [] (.seq (.seq (.region [⟨some 15, .move (.const (.int .i64 0)), none⟩])
   (.keep [5, 6, 7, 13, 15] [] (.block 2 (.loop L12_1))))
  (.keep [5, 6, 13] [] (.seq (.region [⟨some 98, .move (.tmp 5), none⟩,
     ⟨some 99, .move (.tmp 6), none⟩,
     ⟨some 100, .call (.func 35) [(.tmp 98), (.tmp 99)], none⟩,
     ⟨some 101, .move (.tmp 100), none⟩,
     ⟨some 102, .move (.tmp 5), some (101, true)⟩,
     ⟨some 103, .call (.func 41) [(.tmp 102)], some (101, true)⟩,
     ⟨some 104, .len .slice (.tmp 103), some (101, true)⟩,
     ⟨some 105, .bin .eql .int (.tmp 104) (.const (.int .i64 1)), some (101, true)⟩,
     ⟨some 106, .pick (.tmp 101) (.tmp 105) (.const (.bool false)), none⟩,
     ⟨some 107, .move (.tmp 106), none⟩,
     ⟨some 108, .move (.tmp 6), some (107, true)⟩,
     ⟨some 109, .bin .gtr .none (.tmp 108) (.const (.int .i64 0)), some (107, true)⟩,
     ⟨some 110, .move (.tmp 109), some (107, true)⟩,
     ⟨some 111, .move (.tmp 13), some (110, false)⟩,
     ⟨some 112, .pick (.tmp 110) (.const (.bool true)) (.tmp 111), some (107, true)⟩,
     ⟨some 113, .pick (.tmp 107) (.tmp 112) (.const (.bool false)), none⟩,
     ⟨some 4, .move (.tmp 113), none⟩])
  (.keep [4] [] (.ret))))))))))))))))))))))))⟩
/-- wampum/wampumlaw11.LatchOrder -/
def L13_0 : IC :=
  .keep [0, 1, 5, 6] [] (.seq (.seq (.region [⟨some 34, .move (.tmp 6), none⟩,
      ⟨some 35, .move (.tmp 1), none⟩,
      ⟨some 36, .bin .lss .none (.tmp 34) (.tmp 35), none⟩])
   (.keep [0, 1, 5, 6, 36] [] (.cond (.tmp 36)
    (.skip)
    (.exit 0))))
  (.keep [0, 1, 5, 6] [] (.seq (.block 1 (.seq (.region [⟨some 40, .move (.tmp 5), none⟩,
       ⟨some 41, .move (.tmp 6), none⟩,
       ⟨some 42, .bin .mul .none (.const (.int .i64 10)) (.tmp 41), none⟩,
       ⟨some 43, .move (.tmp 0), none⟩,
       ⟨some 44, .build [(.str []), (.str [])] [(0, 1, (.tmp 43))], none⟩,
       ⟨some 45, .buildSlice 2 1 [(.str []), (.str [])] [(0, 2, (.tmp 44))], none⟩,
       ⟨some 46, .call (.func 32) [(.tmp 40), (.tmp 42), (.tmp 45), (.const (.bool true))], none⟩,
       ⟨some 39, .move (.tmp 46), none⟩,
       ⟨some 47, .extract (.tmp 39) 0, none⟩,
       ⟨some 48, .extract (.tmp 39) 1, none⟩,
       ⟨some 7, .move (.tmp 47), none⟩,
       ⟨some 8, .move (.tmp 48), none⟩])
    (.keep [0, 1, 5, 6, 7, 8] [] (.seq (.region [⟨some 49, .move (.tmp 8), none⟩,
       ⟨some 50, .bin .neq .int (.tmp 49) (.const (.int .i64 0)), none⟩,
       ⟨some 51, .move (.tmp 50), none⟩,
       ⟨some 52, .move (.tmp 7), some (51, false)⟩,
       ⟨some 53, .move (.tmp 6), some (51, false)⟩,
       ⟨some 54, .bin .eql .int (.tmp 53) (.const (.int .i64 0)), some (51, false)⟩,
       ⟨some 55, .bin .neq .bool (.tmp 52) (.tmp 54), some (51, false)⟩,
       ⟨some 56, .pick (.tmp 51) (.const (.bool true)) (.tmp 55), none⟩])
    (.keep [0, 1, 5, 6, 56] [] (.cond (.tmp 56)
     (.seq (.region [⟨some 4, .move (.const (.bool false)), none⟩])
     (.keep [4] [] (.ret)))
     (.skip)))))))
  (.keep [0, 1, 5, 6] [] (.region [⟨some 37, .move (.tmp 6), none⟩,
    ⟨some 38, .bin .add .none (.tmp 37) (.const (.int .i64 1)), none⟩,
    ⟨some 6, .move (.tmp 38), none⟩])))))
def L13_1 : IC :=
  .keep [1, 5, 9] [] (.seq (.seq (.region [⟨some 57, .move (.tmp 9), none⟩,
      ⟨some 58, .move (.tmp 1), none⟩,
      ⟨some 59, .bin .lss .none (.tmp 57) (.tmp 58), none⟩])
   (.keep [1, 5, 9, 59] [] (.cond (.tmp 59)
    (.skip)
    (.exit 2))))
  (.keep [1, 5, 9] [] (.seq (.block 3 (.seq (.region [⟨some 63, .move (.tmp 5), none⟩,
       ⟨some 64, .move (.tmp 9), none⟩,
       ⟨some 65, .bin .mul .none (.const (.int .i64 10)) (.tmp 64), none⟩,
       ⟨some 66, .call (.func 33) [(.tmp 63), (.tmp 65)], none⟩,
       ⟨some 62, .move (.tmp 66), none⟩,
       ⟨some 67, .extract (.tmp 62) 0, none⟩,
       ⟨some 68, .extract (.tmp 62) 1, none⟩,
       ⟨some 10, .move (.tmp 67), none⟩,
       ⟨some 11, .move (.tmp 68), none⟩])
    (.keep [1, 5, 9, 10, 11] [] (.seq (.region [⟨some 69, .move (.tmp 11), none⟩,
       ⟨some 70, .bin .neq .int (.tmp 69) (.const (.int .i64 0)), none⟩,
       ⟨some 71, .move (.tmp 70), none⟩,
       ⟨some 72, .move (.tmp 9), some (71, false)⟩,
       ⟨some 73, .bin .add .none (.tmp 72) (.const (.int .i64 1)), some (71, false)⟩,
       ⟨some 74, .move (.tmp 1), some (71, false)⟩,
       ⟨some 75, .bin .lss .none (.tmp 73) (.tmp 74), some (71, false)⟩,
       ⟨some 76, .move (.tmp 75), some (71, false)⟩,
       ⟨some 77, .move (.tmp 10), some (76, true)⟩,
       ⟨some 78, .len .slice (.tmp 77), some (76, true)⟩,
       ⟨some 79, .bin .neq .int (.tmp 78) (.const (.int .i64 1)), some (76, true)⟩,
       ⟨some 80, .move (.tmp 79), some (76, true)⟩,
       ⟨some 81, .move (.tmp 10), some (80, false)⟩,
       ⟨some 82, .indexAddr none 1 (.tmp 81) (.const (.int .i64 0)), some (80, false)⟩,
       ⟨some 83, .load false 1 (.tmp 82), some (80, false)⟩,
       ⟨some 84, .move (.tmp 9), some (80, false)⟩,
       ⟨some 85, .bin .add .none (.tmp 84) (.const (.int .i64 1)), some (80, false)⟩,
       ⟨some 86, .bin .mul .none (.const (.int .i64 10)) (.tmp 85), some (80, false)⟩,
       ⟨some 87, .bin .neq .int (.tmp 83) (.tmp 86), some (80, false)⟩,
       ⟨some 88, .pick (.tmp 80) (.const (.bool true)) (.tmp 87), some (76, true)⟩,
       ⟨some 89, .pick (.tmp 76) (.tmp 88) (.const (.bool false)), some (71, false)⟩,
       ⟨some 90, .pick (.tmp 71) (.const (.bool true)) (.tmp 89), none⟩,
       ⟨some 91, .move (.tmp 90), none⟩,
       ⟨some 92, .move (.tmp 9), some (91, false)⟩,
       ⟨some 93, .bin .add .none (.tmp 92) (.const (.int .i64 1)), some (91, false)⟩,
       ⟨some 94, .move (.tmp 1), some (91, false)⟩,
       ⟨some 95, .bin .eql .int (.tmp 93) (.tmp 94), some (91, false)⟩,
       ⟨some 96, .move (.tmp 95), some (91, false)⟩,
       ⟨some 97, .move (.tmp 10), some (96, true)⟩,
       ⟨some 98, .len .slice (.tmp 97), some (96, true)⟩,
       ⟨some 99, .bin .neq .int (.tmp 98) (.const (.int .i64 0)), some (96, true)⟩,
       ⟨some 100, .pick (.tmp 96) (.tmp 99) (.const (.bool false)), some (91, false)⟩,
       ⟨some 101, .pick (.tmp 91) (.const (.bool true)) (.tmp 100), none⟩])
    (.keep [1, 5, 9, 101] [] (.cond (.tmp 101)
     (.seq (.region [⟨some 4, .move (.const (.bool false)), none⟩])
     (.keep [4] [] (.ret)))
     (.skip)))))))
  (.keep [1, 5, 9] [] (.region [⟨some 60, .move (.tmp 9), none⟩,
    ⟨some 61, .bin .add .none (.tmp 60) (.const (.int .i64 1)), none⟩,
    ⟨some 9, .move (.tmp 61), none⟩])))))
def F13 : FnIR := ⟨106, 2, [.tmp 4], [],
  .seq (.region [⟨some 4, .move (.const (.bool false)), none⟩])
  (.keep [0, 1] [] (.seq (.region [⟨some 12, .call (.func 29) [], none⟩,
     ⟨some 5, .move (.tmp 12), none⟩])
  (.keep [0, 1, 5] [] (.seq (.seq (.region [⟨some 13, .call (.func 30) [], none⟩,
      ⟨some 14, .un .not (.tmp 13), none⟩,
      ⟨some 15, .move (.tmp 14), none⟩,
      ⟨some 16, .move (.tmp 5), some (15, false)⟩,
      ⟨some 17, .bin .eql .ptr (.tmp 16) (.const .nilp), some (15, false)⟩,
      ⟨some 18, .pick (.tmp 15) (.const (.bool true)) (.tmp 17), none⟩,
      ⟨some 19, .move (.tmp 18), none⟩,
      ⟨some 20, .move (.tmp 0), some (19, false)⟩,
      ⟨some 21, .call (.func 44) [(.tmp 20)], some (19, false)⟩,
      ⟨some 22, .un .not (.tmp 21), some (19, false)⟩,
      ⟨some 23, .pick (.tmp 19) (.const (.bool true)) (.tmp 22), none⟩,
      ⟨some 24, .move (.tmp 23), none⟩,
      ⟨some 25, .move (.tmp 1), some (24, false)⟩,
      ⟨some 26, .bin .lss .none (.tmp 25) (.const (.int .i64 1)), some (24, false)⟩,
      ⟨some 27, .pick (.tmp 24) (.const (.bool true)) (.tmp 26), none⟩,
      ⟨some 28, .move (.tmp 27), none⟩,
      ⟨some 29, .move (.tmp 1), some (28, false)⟩,
      ⟨some 30, .bin .gtr .none (.tmp 29) (.const (.int .i64 40)), some (28, false)⟩,
      ⟨some 31, .pick (.tmp 28) (.const (.bool true)) (.tmp 30), none⟩])
   (.keep [0, 1, 5, 31] [] (.cond (.tmp 31)
    (.seq (.region [⟨some 32, .move (.tmp 5), none⟩,
       ⟨some 33, .bin .neq .ptr (.tmp 32) (.const .nilp), none⟩,
       ⟨some 4, .move (.tmp 33), none⟩])
    (.keep [4] [] (.ret)))
    (.skip))))
  (.keep [0, 1, 5] [] (.seq (.seq (.region [⟨some 6, .move (.const (.int .i64 0)), none⟩])
   (.keep [0, 1, 5, 6] [] (.block 0 (.loop L13_0))))
  (.keep [1, 5] [] (.seq (.seq (.region [⟨some 9, .move (.const (.int .i64 0)), none⟩])
   (.keep [1, 5, 9] [] (.block 2 (.loop L13_1))))
  (.keep [5] [] (.seq (.region [⟨some 102, .move (.tmp 5), none⟩,
     ⟨some 103, .call (.func 41) [(.tmp 102)], none⟩,
     ⟨some 104, .len .slice (.tmp 103), none⟩,
     ⟨some 105, .bin .eql .int (.tmp 104) (.const (.int .i64 0)), none⟩,
     ⟨some 4, .move (.tmp 105), none⟩])
  (.keep [4] [] (.ret))))))))))))⟩
def table : List (Nat × FnDef) := [(6, .ir F6), (29, .ir F29), (30, .ir F30), (32, .ir F32), (53, .ir F53), (67, .ir F67), (66, .ir F66), (54, .ir F54), (68, .ir F68), (55, .ir F55), (56, .ir F56), (69, .ir F69), (57, .ir F57), (58, .ir F58), (70, .ir F70), (71, .ir F71), (72, .ir F72), (76, .ir F76), (33, .ir F33), (59, .ir F59), (35, .ir F35), (31, .ir F31), (52, .ir F52), (34, .ir F34), (36, .ir F36), (60, .ir F60), (73, .ir F73), (62, .ir F62), (44, .ir F44), (9, .ir F9), (38, .ir F38), (61, .ir F61), (63, .ir F63), (74, .ir F74), (39, .ir F39), (40, .ir F40), (41, .ir F41), (42, .ir F42), (43, .ir F43), (10, .ir F10), (11, .ir F11), (12, .ir F12), (13, .ir F13)]
def T : FuncId → Option FnDef := fun f => Go.Wam.look f table
theorem T6 : T 6 = some (.ir F6) := rfl
theorem T29 : T 29 = some (.ir F29) := rfl
theorem T30 : T 30 = some (.ir F30) := rfl
theorem T32 : T 32 = some (.ir F32) := rfl
theorem T53 : T 53 = some (.ir F53) := rfl
theorem T67 : T 67 = some (.ir F67) := rfl
theorem T66 : T 66 = some (.ir F66) := rfl
theorem T54 : T 54 = some (.ir F54) := rfl
theorem T68 : T 68 = some (.ir F68) := rfl
theorem T55 : T 55 = some (.ir F55) := rfl
theorem T56 : T 56 = some (.ir F56) := rfl
theorem T69 : T 69 = some (.ir F69) := rfl
theorem T57 : T 57 = some (.ir F57) := rfl
theorem T58 : T 58 = some (.ir F58) := rfl
theorem T70 : T 70 = some (.ir F70) := rfl
theorem T71 : T 71 = some (.ir F71) := rfl
theorem T72 : T 72 = some (.ir F72) := rfl
theorem T76 : T 76 = some (.ir F76) := rfl
theorem T33 : T 33 = some (.ir F33) := rfl
theorem T59 : T 59 = some (.ir F59) := rfl
theorem T35 : T 35 = some (.ir F35) := rfl
theorem T31 : T 31 = some (.ir F31) := rfl
theorem T52 : T 52 = some (.ir F52) := rfl
theorem T34 : T 34 = some (.ir F34) := rfl
theorem T36 : T 36 = some (.ir F36) := rfl
theorem T60 : T 60 = some (.ir F60) := rfl
theorem T73 : T 73 = some (.ir F73) := rfl
theorem T62 : T 62 = some (.ir F62) := rfl
theorem T44 : T 44 = some (.ir F44) := rfl
theorem T9 : T 9 = some (.ir F9) := rfl
theorem T38 : T 38 = some (.ir F38) := rfl
theorem T61 : T 61 = some (.ir F61) := rfl
theorem T63 : T 63 = some (.ir F63) := rfl
theorem T74 : T 74 = some (.ir F74) := rfl
theorem T39 : T 39 = some (.ir F39) := rfl
theorem T40 : T 40 = some (.ir F40) := rfl
theorem T41 : T 41 = some (.ir F41) := rfl
theorem T42 : T 42 = some (.ir F42) := rfl
theorem T43 : T 43 = some (.ir F43) := rfl
theorem T10 : T 10 = some (.ir F10) := rfl
theorem T11 : T 11 = some (.ir F11) := rfl
theorem T12 : T 12 = some (.ir F12) := rfl
theorem T13 : T 13 = some (.ir F13) := rfl
theorem fits6 : FnFits Try.prog 6 F6 := ⟨Try.f6, _, Try.func6, rfl, by decide, rfl, by decide, by kernel_rfl, by kernel_rfl⟩
theorem fits29 : FnFits Try.prog 29 F29 := ⟨Try.f29, _, Try.func29, rfl, by decide, rfl, by decide, by kernel_rfl, by kernel_rfl⟩
theorem fits30 : FnFits Try.prog 30 F30 := ⟨Try.f30, _, Try.func30, rfl, by decide, rfl, by decide, by kernel_rfl, by kernel_rfl⟩
theorem fits32 : FnFits Try.prog 32 F32 := ⟨Try.f32, _, Try.func32, rfl, by decide, rfl, by decide, by kernel_rfl, by kernel_rfl⟩
theorem fits53 : FnFits Try.prog 53 F53 := ⟨Try.f53, _, Try.func53, rfl, by decide, rfl, by decide, by kernel_rfl, by kernel_rfl⟩
theorem fits67 : FnFits Try.prog 67 F67 := ⟨Try.f67, _, Try.func67, rfl, by decide, rfl, by decide, by kernel_rfl, by kernel_rfl⟩
theorem fits66 : FnFits Try.prog 66 F66 := ⟨Try.f66, _, Try.func66, rfl, by decide, rfl, by decide, by kernel_rfl, by kernel_rfl⟩
theorem fits54 : FnFits Try.prog 54 F54 := ⟨Try.f54, _, Try.func54, rfl, by decide, rfl, by decide, by kernel_rfl, by kernel_rfl⟩
theorem fits68 : FnFits Try.prog 68 F68 := ⟨Try.f68, _, Try.func68, rfl, by decide, rfl, by decide, by kernel_rfl, by kernel_rfl⟩
theorem fits55 : FnFits Try.prog 55 F55 := ⟨Try.f55, _, Try.func55, rfl, by decide, rfl, by decide, by kernel_rfl, by kernel_rfl⟩
theorem fits56 : FnFits Try.prog 56 F56 := ⟨Try.f56, _, Try.func56, rfl, by decide, rfl, by decide, by kernel_rfl, by kernel_rfl⟩
theorem fits69 : FnFits Try.prog 69 F69 := ⟨Try.f69, _, Try.func69, rfl, by decide, rfl, by decide, by kernel_rfl, by kernel_rfl⟩
theorem fits57 : FnFits Try.prog 57 F57 := ⟨Try.f57, _, Try.func57, rfl, by decide, rfl, by decide, by kernel_rfl, by kernel_rfl⟩
theorem fits58 : FnFits Try.prog 58 F58 := ⟨Try.f58, _, Try.func58, rfl, by decide, rfl, by decide, by kernel_rfl, by kernel_rfl⟩
theorem fits70 : FnFits Try.prog 70 F70 := ⟨Try.f70, _, Try.func70, rfl, by decide, rfl, by decide, by kernel_rfl, by kernel_rfl⟩
theorem fits71 : FnFits Try.prog 71 F71 := ⟨Try.f71, _, Try.func71, rfl, by decide, rfl, by decide, by kernel_rfl, by kernel_rfl⟩
theorem fits72 : FnFits Try.prog 72 F72 := ⟨Try.f72, _, Try.func72, rfl, by decide, rfl, by decide, by kernel_rfl, by kernel_rfl⟩
theorem fits76 : FnFits Try.prog 76 F76 := ⟨Try.f76, _, Try.func76, rfl, by decide, rfl, by decide, by kernel_rfl, by kernel_rfl⟩
theorem fits33 : FnFits Try.prog 33 F33 := ⟨Try.f33, _, Try.func33, rfl, by decide, rfl, by decide, by kernel_rfl, by kernel_rfl⟩
theorem fits59 : FnFits Try.prog 59 F59 := ⟨Try.f59, _, Try.func59, rfl, by decide, rfl, by decide, by kernel_rfl, by kernel_rfl⟩
theorem fits35 : FnFits Try.prog 35 F35 := ⟨Try.f35, _, Try.func35, rfl, by decide, rfl, by decide, by kernel_rfl, by kernel_rfl⟩
theorem fits31 : FnFits Try.prog 31 F31 := ⟨Try.f31, _, Try.func31, rfl, by decide, rfl, by decide, by kernel_rfl, by kernel_rfl⟩
theorem fits52 : FnFits Try.prog 52 F52 := ⟨Try.f52, _, Try.func52, rfl, by decide, rfl, by decide, by kernel_rfl, by kernel_rfl⟩
theorem fits34 : FnFits Try.prog 34 F34 := ⟨Try.f34, _, Try.func34, rfl, by decide, rfl, by decide, by kernel_rfl, by kernel_rfl⟩
theorem fits36 : FnFits Try.prog 36 F36 := ⟨Try.f36, _, Try.func36, rfl, by decide, rfl, by decide, by kernel_rfl, by kernel_rfl⟩
theorem fits60 : FnFits Try.prog 60 F60 := ⟨Try.f60, _, Try.func60, rfl, by decide, rfl, by decide, by kernel_rfl, by kernel_rfl⟩
theorem fits73 : FnFits Try.prog 73 F73 := ⟨Try.f73, _, Try.func73, rfl, by decide, rfl, by decide, by kernel_rfl, by kernel_rfl⟩
theorem fits62 : FnFits Try.prog 62 F62 := ⟨Try.f62, _, Try.func62, rfl, by decide, rfl, by decide, by kernel_rfl, by kernel_rfl⟩
theorem fits44 : FnFits Try.prog 44 F44 := ⟨Try.f44, _, Try.func44, rfl, by decide, rfl, by decide, by kernel_rfl, by kernel_rfl⟩
theorem fits9 : FnFits Try.prog 9 F9 := ⟨Try.f9, _, Try.func9, rfl, by decide, rfl, by decide, by kernel_rfl, by kernel_rfl⟩
theorem fits38 : FnFits Try.prog 38 F38 := ⟨Try.f38, _, Try.func38, rfl, by decide, rfl, by decide, by kernel_rfl, by kernel_rfl⟩
theorem fits61 : FnFits Try.prog 61 F61 := ⟨Try.f61, _, Try.func61, rfl, by decide, rfl, by decide, by kernel_rfl, by kernel_rfl⟩
theorem fits63 : FnFits Try.prog 63 F63 := ⟨Try.f63, _, Try.func63, rfl, by decide, rfl, by decide, by kernel_rfl, by kernel_rfl⟩
theorem fits74 : FnFits Try.prog 74 F74 := ⟨Try.f74, _, Try.func74, rfl, by decide, rfl, by decide, by kernel_rfl, by kernel_rfl⟩
theorem fits39 : FnFits Try.prog 39 F39 := ⟨Try.f39, _, Try.func39, rfl, by decide, rfl, by decide, by kernel_rfl, by kernel_rfl⟩
theorem fits40 : FnFits Try.prog 40 F40 := ⟨Try.f40, _, Try.func40, rfl, by decide, rfl, by decide, by kernel_rfl, by kernel_rfl⟩
theorem fits41 : FnFits Try.prog 41 F41 := ⟨Try.f41, _, Try.func41, rfl, by decide, rfl, by decide, by kernel_rfl, by kernel_rfl⟩
theorem fits42 : FnFits Try.prog 42 F42 := ⟨Try.f42, _, Try.func42, rfl, by decide, rfl, by decide, by kernel_rfl, by kernel_rfl⟩
theorem fits43 : FnFits Try.prog 43 F43 := ⟨Try.f43, _, Try.func43, rfl, by decide, rfl, by decide, by kernel_rfl, by kernel_rfl⟩
theorem fits10 : FnFits Try.prog 10 F10 := ⟨Try.f10, _, Try.func10, rfl, by decide, rfl, by decide, by kernel_rfl, by kernel_rfl⟩
theorem fits11 : FnFits Try.prog 11 F11 := ⟨Try.f11, _, Try.func11, rfl, by decide, rfl, by decide, by kernel_rfl, by kernel_rfl⟩
theorem fits12 : FnFits Try.prog 12 F12 := ⟨Try.f12, _, Try.func12, rfl, by decide, rfl, by decide, by kernel_rfl, by kernel_rfl⟩
theorem fits13 : FnFits Try.prog 13 F13 := ⟨Try.f13, _, Try.func13, rfl, by decide, rfl, by decide, by kernel_rfl, by kernel_rfl⟩
theorem fits : TableOk Try.prog T := tableOk (t := table) ⟨fits6, fits29, fits30, fits32, fits53, fits67, fits66, fits54, fits68, fits55, fits56, fits69, fits57, fits58, fits70, fits71, fits72, fits76, fits33, fits59, fits35, fits31, fits52, fits34, fits36, fits60, fits73, fits62, fits44, fits9, fits38, fits61, fits63, fits74, fits39, fits40, fits41, fits42, fits43, fits10, fits11, fits12, fits13, trivial⟩
theorem own : ownKnob Try.prog.godebug = none := by kernel_rfl
theorem laidOut : laidOutB Try.prog = true := by kernel_rfl
theorem mixed : Try.prog.follows .mixedOrders = true := by kernel_rfl
end Go.Proofs.Ytglfchdpcididaa
