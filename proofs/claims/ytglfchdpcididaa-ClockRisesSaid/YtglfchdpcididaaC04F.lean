/- Functions of the program in our form (C04F). No condition. -/
import Derived.Test.YtglfchdpcididaaAmS
import Derived.Test.YtglfchdpcididaaRows
set_option linter.unusedVariables false
set_option linter.unusedSimpArgs false
namespace Go.Proofs.Ytglfchdpcididaa
open Go.Wam

/-- wampum/wampumlaw04.ClockPlays -/
def L3_0 : IC :=
  .keep [1, 5, 7, 9] [] (.seq (.seq (.region [⟨some 42, .move (.tmp 9), none⟩,
      ⟨some 43, .move (.tmp 1), none⟩,
      ⟨some 44, .len .slice (.tmp 43), none⟩,
      ⟨some 45, .bin .lss .none (.tmp 42) (.tmp 44), none⟩,
      ⟨some 46, .move (.tmp 45), none⟩,
      ⟨some 47, .move (.tmp 9), some (46, true)⟩,
      ⟨some 48, .bin .lss .none (.tmp 47) (.const (.int .i64 100)), some (46, true)⟩,
      ⟨some 49, .pick (.tmp 46) (.tmp 48) (.const (.bool false)), none⟩])
   (.keep [1, 5, 7, 9, 49] [] (.cond (.tmp 49)
    (.skip)
    (.exit 0))))
  (.keep [1, 5, 7, 9] [] (.seq (.block 1 (.seq (.region [⟨some 10, .move (.const (.bool true)), none⟩])
    (.keep [1, 5, 7, 9, 10] [] (.seq (.seq (.region [⟨some 52, .move (.tmp 1), none⟩,
        ⟨some 53, .move (.tmp 9), none⟩,
        ⟨some 54, .indexAddr none 4 (.tmp 52) (.tmp 53), none⟩,
        ⟨some 55, .fieldAddr 0 (.tmp 54), none⟩,
        ⟨some 56, .load false 1 (.tmp 55), none⟩])
     (.keep [1, 5, 7, 9, 10, 56] [] (.block 2 (.seq (.region [⟨some 58, .bin .eql .int (.tmp 56) (.const (.int .i64 1)), none⟩,
         ⟨some 57, .move (.tmp 58), none⟩])
      (.keep [1, 5, 7, 9, 10, 56, 57] [] (.cond (.tmp 57)
       (.regionD [⟨some 59, .move (.tmp 5), none⟩,
         ⟨some 60, .move (.tmp 1), none⟩,
         ⟨some 61, .move (.tmp 9), none⟩,
         ⟨some 62, .indexAddr none 4 (.tmp 60) (.tmp 61), none⟩,
         ⟨some 63, .fieldAddr 1 (.tmp 62), none⟩,
         ⟨some 64, .load false 1 (.tmp 63), none⟩,
         ⟨some 65, .call (.func 17) [(.tmp 59), (.tmp 64)], none⟩,
         ⟨some 66, .move (.tmp 7), none⟩,
         ⟨some 67, .move (.tmp 1), none⟩,
         ⟨some 68, .move (.tmp 9), none⟩,
         ⟨some 69, .indexAddr none 4 (.tmp 67) (.tmp 68), none⟩,
         ⟨some 70, .fieldAddr 1 (.tmp 69), none⟩,
         ⟨some 71, .load false 1 (.tmp 70), none⟩,
         ⟨some 72, .call (.func 18) [(.tmp 66), (.tmp 71)], none⟩,
         ⟨some 73, .bin .eql .int (.tmp 65) (.tmp 72), none⟩,
         ⟨some 10, .move (.tmp 73), none⟩] [(12, 0)])
       (.seq (.region [⟨some 75, .bin .eql .int (.tmp 56) (.const (.int .i64 2)), none⟩,
          ⟨some 74, .move (.tmp 75), none⟩])
       (.keep [1, 5, 7, 9, 10, 56, 74] [] (.cond (.tmp 74)
        (.seq (.region [⟨some 77, .move (.tmp 5), none⟩,
           ⟨some 78, .call (.func 19) [(.tmp 77)], none⟩,
           ⟨some 76, .move (.tmp 78), none⟩,
           ⟨some 79, .extract (.tmp 76) 0, none⟩,
           ⟨some 80, .extract (.tmp 76) 1, none⟩,
           ⟨some 11, .alloc true 2 [(.int .i64 0), (.int .i64 0)], none⟩,
           ⟨none, .store 2 (.tmp 11) (.tmp 79), none⟩,
           ⟨some 12, .move (.tmp 80), none⟩])
        (.keep [1, 5, 7, 9, 11, 12] [11] (.seq (.region [⟨some 82, .move (.tmp 7), none⟩,
           ⟨some 83, .call (.func 20) [(.tmp 82)], none⟩,
           ⟨some 81, .move (.tmp 83), none⟩,
           ⟨some 84, .extract (.tmp 81) 0, none⟩,
           ⟨some 85, .extract (.tmp 81) 1, none⟩,
           ⟨some 13, .alloc true 2 [(.int .i64 0), (.int .i64 0)], none⟩,
           ⟨none, .store 2 (.tmp 13) (.tmp 84), none⟩,
           ⟨some 14, .move (.tmp 85), none⟩])
        (.keep [1, 5, 7, 9, 11, 12, 13, 14] [11, 13] (.region [⟨some 86, .load true 2 (.tmp 11), none⟩,
          ⟨some 87, .load true 2 (.tmp 13), none⟩,
          ⟨some 88, .bin .eql (.struct [(0, false, 1, .int), (1, false, 1, .int)]) (.tmp 86) (.tmp 87), none⟩,
          ⟨some 89, .move (.tmp 88), none⟩,
          ⟨some 90, .move (.tmp 12), some (89, true)⟩,
          ⟨some 91, .move (.tmp 14), some (89, true)⟩,
          ⟨some 92, .bin .eql .int (.tmp 90) (.tmp 91), some (89, true)⟩,
          ⟨some 93, .pick (.tmp 89) (.tmp 92) (.const (.bool false)), none⟩,
          ⟨some 10, .move (.tmp 93), none⟩])))))
        (.seq (.region [⟨some 95, .bin .eql .int (.tmp 56) (.const (.int .i64 3)), none⟩,
           ⟨some 94, .move (.tmp 95), none⟩])
        (.keep [1, 5, 7, 9, 10, 94] [] (.cond (.tmp 94)
         (.regionD [⟨some 96, .move (.tmp 5), none⟩,
           ⟨some 97, .move (.tmp 1), none⟩,
           ⟨some 98, .move (.tmp 9), none⟩,
           ⟨some 99, .indexAddr none 4 (.tmp 97) (.tmp 98), none⟩,
           ⟨some 100, .fieldAddr 2 (.tmp 99), none⟩,
           ⟨some 101, .load true 2 (.tmp 100), none⟩,
           ⟨some 102, .call (.func 21) [(.tmp 96), (.tmp 101)], none⟩,
           ⟨some 103, .move (.tmp 7), none⟩,
           ⟨some 104, .move (.tmp 1), none⟩,
           ⟨some 105, .move (.tmp 9), none⟩,
           ⟨some 106, .indexAddr none 4 (.tmp 104) (.tmp 105), none⟩,
           ⟨some 107, .fieldAddr 2 (.tmp 106), none⟩,
           ⟨some 108, .load true 2 (.tmp 107), none⟩,
           ⟨some 109, .call (.func 22) [(.tmp 103), (.tmp 108)], none⟩,
           ⟨some 110, .bin .eql .int (.tmp 102) (.tmp 109), none⟩,
           ⟨some 10, .move (.tmp 110), none⟩] [(12, 0)])
         (.skip)))))))))))))
    (.keep [1, 5, 7, 9, 10] [] (.seq (.regionD [⟨some 111, .move (.tmp 10), none⟩,
       ⟨some 112, .un .not (.tmp 111), none⟩,
       ⟨some 113, .move (.tmp 112), none⟩,
       ⟨some 114, .move (.tmp 5), some (113, false)⟩,
       ⟨some 115, .call (.func 23) [(.tmp 114)], some (113, false)⟩,
       ⟨some 116, .move (.tmp 7), some (113, false)⟩,
       ⟨some 117, .nilCheck (.tmp 116), some (113, false)⟩,
       ⟨some 118, .fieldAddr 0 (.tmp 117), some (113, false)⟩,
       ⟨some 119, .load false 1 (.tmp 118), some (113, false)⟩,
       ⟨some 120, .bin .neq .int (.tmp 115) (.tmp 119), some (113, false)⟩,
       ⟨some 121, .pick (.tmp 113) (.const (.bool true)) (.tmp 120), none⟩,
       ⟨some 122, .move (.tmp 121), none⟩,
       ⟨some 123, .move (.tmp 5), some (122, false)⟩,
       ⟨some 124, .call (.func 24) [(.tmp 123)], some (122, false)⟩,
       ⟨some 125, .move (.tmp 7), some (122, false)⟩,
       ⟨some 126, .nilCheck (.tmp 125), some (122, false)⟩,
       ⟨some 127, .fieldAddr 2 (.tmp 126), some (122, false)⟩,
       ⟨some 128, .load true 2 (.tmp 127), some (122, false)⟩,
       ⟨some 129, .bin .neq (.struct [(0, false, 1, .int), (1, false, 1, .int)]) (.tmp 124) (.tmp 128), some (122, false)⟩,
       ⟨some 130, .pick (.tmp 122) (.const (.bool true)) (.tmp 129), none⟩] [(8, 0), (17, 5)])
    (.keep [1, 5, 7, 9, 130] [] (.cond (.tmp 130)
     (.seq (.region [⟨some 4, .move (.const (.bool false)), none⟩])
     (.keep [4] [] (.ret)))
     (.skip)))))))))
  (.keep [1, 5, 7, 9] [] (.region [⟨some 50, .move (.tmp 9), none⟩,
    ⟨some 51, .bin .add .none (.tmp 50) (.const (.int .i64 1)), none⟩,
    ⟨some 9, .move (.tmp 51), none⟩])))))
def F3 : FnIR := ⟨132, 2, [.tmp 4], [11, 13],
  .seq (.region [⟨some 4, .move (.const (.bool false)), none⟩])
  (.keep [0, 1] [] (.seq (.region [⟨some 16, .move (.tmp 0), none⟩,
     ⟨some 17, .call (.func 14) [(.tmp 16)], none⟩,
     ⟨some 15, .move (.tmp 17), none⟩,
     ⟨some 18, .extract (.tmp 15) 0, none⟩,
     ⟨some 19, .extract (.tmp 15) 1, none⟩,
     ⟨some 5, .move (.tmp 18), none⟩,
     ⟨some 6, .move (.tmp 19), none⟩])
  (.keep [0, 1, 5, 6] [] (.seq (.region [⟨some 21, .move (.tmp 0), none⟩,
     ⟨some 22, .call (.func 15) [(.tmp 21)], none⟩,
     ⟨some 20, .move (.tmp 22), none⟩,
     ⟨some 23, .extract (.tmp 20) 0, none⟩,
     ⟨some 24, .extract (.tmp 20) 1, none⟩,
     ⟨some 7, .move (.tmp 23), none⟩,
     ⟨some 8, .move (.tmp 24), none⟩])
  (.keep [1, 5, 6, 7, 8] [] (.seq (.seq (.region [⟨some 25, .move (.tmp 6), none⟩,
      ⟨some 26, .move (.tmp 8), none⟩,
      ⟨some 27, .bin .neq .int (.tmp 25) (.tmp 26), none⟩,
      ⟨some 28, .move (.tmp 27), none⟩,
      ⟨some 29, .move (.tmp 8), some (28, false)⟩,
      ⟨some 30, .bin .neq .int (.tmp 29) (.const (.int .i64 0)), some (28, false)⟩,
      ⟨some 31, .pick (.tmp 28) (.const (.bool true)) (.tmp 30), none⟩])
   (.keep [1, 5, 6, 7, 8, 31] [] (.cond (.tmp 31)
    (.seq (.region [⟨some 32, .call (.func 16) [], none⟩,
       ⟨some 33, .move (.tmp 32), none⟩,
       ⟨some 34, .move (.tmp 6), some (33, true)⟩,
       ⟨some 35, .move (.tmp 8), some (33, true)⟩,
       ⟨some 36, .bin .eql .int (.tmp 34) (.tmp 35), some (33, true)⟩,
       ⟨some 37, .pick (.tmp 33) (.tmp 36) (.const (.bool false)), none⟩,
       ⟨some 38, .move (.tmp 37), none⟩,
       ⟨some 39, .move (.tmp 5), some (38, true)⟩,
       ⟨some 40, .bin .eql .ptr (.tmp 39) (.const .nilp), some (38, true)⟩,
       ⟨some 41, .pick (.tmp 38) (.tmp 40) (.const (.bool false)), none⟩,
       ⟨some 4, .move (.tmp 41), none⟩])
    (.keep [4] [] (.ret)))
    (.skip))))
  (.keep [1, 5, 7] [] (.seq (.seq (.region [⟨some 9, .move (.const (.int .i64 0)), none⟩])
   (.keep [1, 5, 7, 9] [] (.block 0 (.loop L3_0))))
  (.keep [] [] (.seq (.region [⟨some 131, .call (.func 16) [], none⟩,
     ⟨some 4, .move (.tmp 131), none⟩])
  (.keep [4] [] (.ret))))))))))))⟩
/-- wampum/clock.New -/
def F14 : FnIR := ⟨13, 1, [.tmp 2, .tmp 3], [],
  .seq (.region [⟨some 2, .move (.const .nilp), none⟩,
     ⟨some 3, .move (.const (.int .i64 0)), none⟩])
  (.keep [0] [] (.seq (.seq (.region [⟨some 4, .move (.tmp 0), none⟩,
      ⟨some 5, .bin .lss .none (.tmp 4) (.const (.int .i64 0)), none⟩,
      ⟨some 6, .move (.tmp 5), none⟩,
      ⟨some 7, .move (.tmp 0), some (6, false)⟩,
      ⟨some 8, .bin .gtr .none (.tmp 7) (.const (.int .i64 1099511627776)), some (6, false)⟩,
      ⟨some 9, .pick (.tmp 6) (.const (.bool true)) (.tmp 8), none⟩])
   (.keep [0, 9] [] (.cond (.tmp 9)
    (.seq (.region [⟨some 2, .move (.const .nilp), none⟩,
       ⟨some 3, .move (.const (.int .i64 1)), none⟩])
    (.keep [2, 3] [] (.ret)))
    (.skip))))
  (.keep [0] [] (.seq (.region [⟨some 10, .move (.tmp 0), none⟩,
     ⟨some 11, .build [(.int .i64 0), (.int .i64 0), (.int .i64 0), (.int .i64 0)] [(1, 1, (.tmp 10))], none⟩,
     ⟨some 12, .box false 4 (.tmp 11), none⟩,
     ⟨some 2, .move (.tmp 12), none⟩,
     ⟨some 3, .move (.const (.int .i64 0)), none⟩])
  (.keep [2, 3] [] (.ret))))))⟩
/-- wampum/wampumref04.New -/
def F15 : FnIR := ⟨13, 1, [.tmp 2, .tmp 3], [],
  .seq (.region [⟨some 2, .move (.const .nilp), none⟩,
     ⟨some 3, .move (.const (.int .i64 0)), none⟩])
  (.keep [0] [] (.seq (.seq (.region [⟨some 4, .move (.tmp 0), none⟩,
      ⟨some 5, .bin .lss .none (.tmp 4) (.const (.int .i64 0)), none⟩,
      ⟨some 6, .move (.tmp 5), none⟩,
      ⟨some 7, .move (.tmp 0), some (6, false)⟩,
      ⟨some 8, .bin .gtr .none (.tmp 7) (.const (.int .i64 1099511627776)), some (6, false)⟩,
      ⟨some 9, .pick (.tmp 6) (.const (.bool true)) (.tmp 8), none⟩])
   (.keep [0, 9] [] (.cond (.tmp 9)
    (.seq (.region [⟨some 2, .move (.const .nilp), none⟩,
       ⟨some 3, .move (.const (.int .i64 1)), none⟩])
    (.keep [2, 3] [] (.ret)))
    (.skip))))
  (.keep [0] [] (.seq (.region [⟨some 10, .move (.tmp 0), none⟩,
     ⟨some 11, .build [(.int .i64 0), (.int .i64 0), (.int .i64 0), (.int .i64 0)] [(1, 1, (.tmp 10))], none⟩,
     ⟨some 12, .box false 4 (.tmp 11), none⟩,
     ⟨some 2, .move (.tmp 12), none⟩,
     ⟨some 3, .move (.const (.int .i64 0)), none⟩])
  (.keep [2, 3] [] (.ret))))))⟩
/-- wampum/wampumlaw04.alive -/
def F16 : FnIR := ⟨68, 0, [.tmp 0], [4, 6],
  .seq (.region [⟨some 0, .move (.const (.bool false)), none⟩])
  (.keep [] [] (.seq (.region [⟨some 9, .call (.func 14) [(.const (.int .i64 5))], none⟩,
     ⟨some 8, .move (.tmp 9), none⟩,
     ⟨some 10, .extract (.tmp 8) 0, none⟩,
     ⟨some 11, .extract (.tmp 8) 1, none⟩,
     ⟨some 1, .move (.tmp 10), none⟩,
     ⟨some 2, .move (.tmp 11), none⟩])
  (.keep [1, 2] [] (.seq (.seq (.region [⟨some 12, .move (.tmp 2), none⟩,
      ⟨some 13, .bin .neq .int (.tmp 12) (.const (.int .i64 0)), none⟩,
      ⟨some 14, .move (.tmp 13), none⟩,
      ⟨some 15, .move (.tmp 1), some (14, false)⟩,
      ⟨some 16, .bin .eql .ptr (.tmp 15) (.const .nilp), some (14, false)⟩,
      ⟨some 17, .pick (.tmp 14) (.const (.bool true)) (.tmp 16), none⟩])
   (.keep [1, 17] [] (.cond (.tmp 17)
    (.seq (.region [⟨some 0, .move (.const (.bool false)), none⟩])
    (.keep [0] [] (.ret)))
    (.skip))))
  (.keep [1] [] (.seq (.region [⟨some 18, .move (.tmp 1), none⟩,
     ⟨some 19, .call (.func 17) [(.tmp 18), (.const (.int .i64 7))], none⟩,
     ⟨some 3, .move (.tmp 19), none⟩])
  (.keep [1, 3] [] (.seq (.region [⟨some 21, .move (.tmp 1), none⟩,
     ⟨some 22, .call (.func 19) [(.tmp 21)], none⟩,
     ⟨some 20, .move (.tmp 22), none⟩,
     ⟨some 23, .extract (.tmp 20) 0, none⟩,
     ⟨some 24, .extract (.tmp 20) 1, none⟩,
     ⟨some 4, .alloc true 2 [(.int .i64 0), (.int .i64 0)], none⟩,
     ⟨none, .store 2 (.tmp 4) (.tmp 23), none⟩,
     ⟨some 5, .move (.tmp 24), none⟩])
  (.keep [1, 3, 4, 5] [4] (.seq (.region [⟨some 26, .move (.tmp 1), none⟩,
     ⟨some 27, .call (.func 19) [(.tmp 26)], none⟩,
     ⟨some 25, .move (.tmp 27), none⟩,
     ⟨some 28, .extract (.tmp 25) 0, none⟩,
     ⟨some 29, .extract (.tmp 25) 1, none⟩,
     ⟨some 6, .alloc true 2 [(.int .i64 0), (.int .i64 0)], none⟩,
     ⟨none, .store 2 (.tmp 6) (.tmp 28), none⟩,
     ⟨some 7, .move (.tmp 29), none⟩])
  (.keep [1, 3, 4, 5, 6, 7] [4, 6] (.seq (.region [⟨some 30, .move (.tmp 3), none⟩,
     ⟨some 31, .bin .eql .int (.tmp 30) (.const (.int .i64 0)), none⟩,
     ⟨some 32, .move (.tmp 31), none⟩,
     ⟨some 33, .move (.tmp 5), some (32, true)⟩,
     ⟨some 34, .bin .eql .int (.tmp 33) (.const (.int .i64 0)), some (32, true)⟩,
     ⟨some 35, .pick (.tmp 32) (.tmp 34) (.const (.bool false)), none⟩,
     ⟨some 36, .move (.tmp 35), none⟩,
     ⟨some 37, .move (.tmp 7), some (36, true)⟩,
     ⟨some 38, .bin .eql .int (.tmp 37) (.const (.int .i64 0)), some (36, true)⟩,
     ⟨some 39, .pick (.tmp 36) (.tmp 38) (.const (.bool false)), none⟩,
     ⟨some 40, .move (.tmp 39), none⟩,
     ⟨some 41, .load true 2 (.tmp 4), some (40, true)⟩,
     ⟨some 42, .build [(.int .i64 0), (.int .i64 0)] [(0, 1, (.const (.int .i64 7)))], some (40, true)⟩,
     ⟨some 43, .bin .eql (.struct [(0, false, 1, .int), (1, false, 1, .int)]) (.tmp 41) (.tmp 42), some (40, true)⟩,
     ⟨some 44, .pick (.tmp 40) (.tmp 43) (.const (.bool false)), none⟩,
     ⟨some 45, .move (.tmp 44), none⟩,
     ⟨some 46, .load true 2 (.tmp 6), some (45, true)⟩,
     ⟨some 47, .build [(.int .i64 0), (.int .i64 0)] [(0, 1, (.const (.int .i64 7))), (1, 1, (.const (.int .i64 1)))], some (45, true)⟩,
     ⟨some 48, .bin .eql (.struct [(0, false, 1, .int), (1, false, 1, .int)]) (.tmp 46) (.tmp 47), some (45, true)⟩,
     ⟨some 49, .pick (.tmp 45) (.tmp 48) (.const (.bool false)), none⟩,
     ⟨some 50, .move (.tmp 49), none⟩,
     ⟨some 51, .move (.tmp 1), some (50, true)⟩,
     ⟨some 52, .build [(.int .i64 0), (.int .i64 0)] [(0, 1, (.const (.int .i64 13)))], some (50, true)⟩,
     ⟨some 53, .call (.func 21) [(.tmp 51), (.tmp 52)], some (50, true)⟩,
     ⟨some 54, .bin .eql .int (.tmp 53) (.const (.int .i64 41)), some (50, true)⟩,
     ⟨some 55, .pick (.tmp 50) (.tmp 54) (.const (.bool false)), none⟩,
     ⟨some 56, .move (.tmp 55), none⟩,
     ⟨some 57, .move (.tmp 1), some (56, true)⟩,
     ⟨some 58, .build [(.int .i64 0), (.int .i64 0)] [(0, 1, (.const (.int .i64 12)))], some (56, true)⟩,
     ⟨some 59, .call (.func 21) [(.tmp 57), (.tmp 58)], some (56, true)⟩,
     ⟨some 60, .bin .eql .int (.tmp 59) (.const (.int .i64 0)), some (56, true)⟩,
     ⟨some 61, .pick (.tmp 56) (.tmp 60) (.const (.bool false)), none⟩,
     ⟨some 62, .move (.tmp 61), none⟩,
     ⟨some 63, .move (.tmp 1), some (62, true)⟩,
     ⟨some 64, .call (.func 24) [(.tmp 63)], some (62, true)⟩,
     ⟨some 65, .field false 1 0 (.tmp 64), some (62, true)⟩,
     ⟨some 66, .bin .eql .int (.tmp 65) (.const (.int .i64 12)), some (62, true)⟩,
     ⟨some 67, .pick (.tmp 62) (.tmp 66) (.const (.bool false)), none⟩,
     ⟨some 0, .move (.tmp 67), none⟩])
  (.keep [0] [] (.ret))))))))))))))⟩
/-- (*wampum/clock.Clock).Set -/
def F17 : FnIR := ⟨23, 2, [.tmp 4], [],
  .seq (.region [⟨some 4, .move (.const (.int .i64 0)), none⟩])
  (.keep [0, 1] [] (.seq (.block 0 (.seq (.region [⟨some 6, .move (.tmp 0), none⟩,
       ⟨some 7, .bin .eql .ptr (.tmp 6) (.const .nilp), none⟩,
       ⟨some 5, .move (.tmp 7), none⟩])
    (.keep [0, 1, 5] [] (.cond (.tmp 5)
     (.seq (.region [⟨some 4, .move (.const (.int .i64 1)), none⟩])
     (.keep [4] [] (.ret)))
     (.seq (.region [⟨some 9, .move (.tmp 1), none⟩,
        ⟨some 10, .move (.tmp 0), none⟩,
        ⟨some 11, .nilCheck (.tmp 10), none⟩,
        ⟨some 12, .fieldAddr 0 (.tmp 11), none⟩,
        ⟨some 13, .load false 1 (.tmp 12), none⟩,
        ⟨some 14, .bin .lss .none (.tmp 9) (.tmp 13), none⟩,
        ⟨some 15, .move (.tmp 14), none⟩,
        ⟨some 16, .move (.tmp 1), some (15, false)⟩,
        ⟨some 17, .bin .gtr .none (.tmp 16) (.const (.int .i64 1099511627776)), some (15, false)⟩,
        ⟨some 18, .pick (.tmp 15) (.const (.bool true)) (.tmp 17), none⟩,
        ⟨some 8, .move (.tmp 18), none⟩])
     (.keep [0, 1, 8] [] (.cond (.tmp 8)
      (.seq (.region [⟨some 4, .move (.const (.int .i64 42)), none⟩])
      (.keep [4] [] (.ret)))
      (.skip))))))))
  (.keep [0, 1] [] (.seq (.region [⟨some 19, .move (.tmp 0), none⟩,
     ⟨some 20, .move (.tmp 1), none⟩,
     ⟨some 21, .nilCheck (.tmp 19), none⟩,
     ⟨some 22, .fieldAddr 0 (.tmp 21), none⟩,
     ⟨none, .store 1 (.tmp 22) (.tmp 20), none⟩])
  (.keep [] [] (.seq (.region [⟨some 4, .move (.const (.int .i64 0)), none⟩])
  (.keep [4] [] (.ret))))))))⟩
/-- (*wampum/clock.Clock).Now -/
def F19 : FnIR := ⟨46, 1, [.cell 2 true 2, .tmp 3], [2, 4, 5],
  .seq (.region [⟨some 2, .alloc true 2 [(.int .i64 0), (.int .i64 0)], none⟩,
     ⟨some 3, .move (.const (.int .i64 0)), none⟩])
  (.keep [0, 2] [2] (.seq (.seq (.region [⟨some 7, .move (.tmp 0), none⟩,
      ⟨some 8, .bin .eql .ptr (.tmp 7) (.const .nilp), none⟩])
   (.keep [0, 2, 8] [2] (.cond (.tmp 8)
    (.seq (.region [⟨some 9, .build [(.int .i64 0), (.int .i64 0)] [], none⟩,
       ⟨none, .store 2 (.tmp 2) (.tmp 9), none⟩,
       ⟨some 3, .move (.const (.int .i64 1)), none⟩])
    (.keep [2, 3] [2] (.ret)))
    (.skip))))
  (.keep [0, 2] [2] (.seq (.region [⟨some 10, .move (.tmp 0), none⟩,
     ⟨some 11, .nilCheck (.tmp 10), none⟩,
     ⟨some 12, .fieldAddr 0 (.tmp 11), none⟩,
     ⟨some 13, .load false 1 (.tmp 12), none⟩,
     ⟨some 14, .build [(.int .i64 0), (.int .i64 0)] [(0, 1, (.tmp 13))], none⟩,
     ⟨some 4, .alloc true 2 [(.int .i64 0), (.int .i64 0)], none⟩,
     ⟨none, .store 2 (.tmp 4) (.tmp 14), none⟩])
  (.keep [0, 2, 4] [2, 4] (.seq (.seq (.regionD [⟨some 15, .load true 2 (.tmp 4), none⟩,
      ⟨some 16, .move (.tmp 0), none⟩,
      ⟨some 17, .nilCheck (.tmp 16), none⟩,
      ⟨some 18, .fieldAddr 2 (.tmp 17), none⟩,
      ⟨some 19, .load true 2 (.tmp 18), none⟩,
      ⟨some 20, .bin .eql (.struct [(0, false, 1, .int), (1, false, 1, .int)]) (.tmp 15) (.tmp 19), none⟩,
      ⟨some 21, .move (.tmp 20), none⟩,
      ⟨some 22, .load true 2 (.tmp 4), some (21, false)⟩,
      ⟨some 23, .move (.tmp 0), some (21, false)⟩,
      ⟨some 24, .nilCheck (.tmp 23), some (21, false)⟩,
      ⟨some 25, .fieldAddr 2 (.tmp 24), some (21, false)⟩,
      ⟨some 26, .load true 2 (.tmp 25), some (21, false)⟩,
      ⟨some 27, .call (.func 25) [(.tmp 22), (.tmp 26)], some (21, false)⟩,
      ⟨some 28, .pick (.tmp 21) (.const (.bool true)) (.tmp 27), none⟩] [])
   (.keep [0, 2, 4, 28] [2, 4] (.cond (.tmp 28)
    (.seq (.region [⟨some 30, .move (.tmp 0), none⟩,
       ⟨some 31, .nilCheck (.tmp 30), none⟩,
       ⟨some 32, .fieldAddr 2 (.tmp 31), none⟩,
       ⟨some 33, .load true 2 (.tmp 32), none⟩,
       ⟨some 34, .call (.func 45) [(.tmp 33)], none⟩,
       ⟨some 29, .move (.tmp 34), none⟩,
       ⟨some 35, .extract (.tmp 29) 0, none⟩,
       ⟨some 36, .extract (.tmp 29) 1, none⟩,
       ⟨some 5, .alloc true 2 [(.int .i64 0), (.int .i64 0)], none⟩,
       ⟨none, .store 2 (.tmp 5) (.tmp 35), none⟩,
       ⟨some 6, .move (.tmp 36), none⟩])
    (.keep [0, 2, 4, 5, 6] [2, 4, 5] (.seq (.seq (.region [⟨some 37, .move (.tmp 6), none⟩,
        ⟨some 38, .bin .neq .int (.tmp 37) (.const (.int .i64 0)), none⟩])
     (.keep [0, 2, 4, 5, 38] [2, 4, 5] (.cond (.tmp 38)
      (.seq (.region [⟨some 39, .build [(.int .i64 0), (.int .i64 0)] [], none⟩,
         ⟨none, .store 2 (.tmp 2) (.tmp 39), none⟩,
         ⟨some 3, .move (.const (.int .i64 42)), none⟩])
      (.keep [2, 3] [2] (.ret)))
      (.skip))))
    (.keep [0, 2, 4, 5] [2, 4, 5] (.region [⟨some 40, .load true 2 (.tmp 5), none⟩,
      ⟨none, .store 2 (.tmp 4) (.tmp 40), none⟩])))))
    (.skip))))
  (.keep [0, 2, 4] [2, 4] (.seq (.region [⟨some 41, .move (.tmp 0), none⟩,
     ⟨some 42, .load true 2 (.tmp 4), none⟩,
     ⟨some 43, .nilCheck (.tmp 41), none⟩,
     ⟨some 44, .fieldAddr 2 (.tmp 43), none⟩,
     ⟨none, .store 2 (.tmp 44) (.tmp 42), none⟩])
  (.keep [2, 4] [2, 4] (.seq (.region [⟨some 45, .load true 2 (.tmp 4), none⟩,
     ⟨none, .store 2 (.tmp 2) (.tmp 45), none⟩,
     ⟨some 3, .move (.const (.int .i64 0)), none⟩])
  (.keep [2, 3] [2] (.ret))))))))))))⟩
/-- wampum/stamp.Less -/
def F25 : FnIR := ⟨9, 2, [.tmp 4], [2, 3],
  .seq (.region [⟨some 2, .box true 2 (.tmp 0), none⟩,
     ⟨some 3, .box true 2 (.tmp 1), none⟩,
     ⟨some 4, .move (.const (.bool false)), none⟩])
  (.keep [2, 3] [2, 3] (.seq (.region [⟨some 5, .load true 2 (.tmp 2), none⟩,
     ⟨some 6, .load true 2 (.tmp 3), none⟩,
     ⟨some 7, .call (.func 50) [(.tmp 5), (.tmp 6)], none⟩,
     ⟨some 8, .bin .lss .none (.tmp 7) (.const (.int .i64 0)), none⟩,
     ⟨some 4, .move (.tmp 8), none⟩])
  (.keep [4] [] (.ret))))⟩
/-- wampum/stamp.Compare -/
def F50 : FnIR := ⟨17, 2, [.tmp 4], [2, 3],
  .seq (.region [⟨some 2, .box true 2 (.tmp 0), none⟩,
     ⟨some 3, .box true 2 (.tmp 1), none⟩,
     ⟨some 4, .move (.const (.int .i64 0)), none⟩])
  (.keep [2, 3] [2, 3] (.seq (.regionD [⟨some 5, .fieldAddr 0 (.tmp 2), none⟩,
     ⟨some 6, .load false 1 (.tmp 5), none⟩,
     ⟨some 7, .fieldAddr 0 (.tmp 3), none⟩,
     ⟨some 8, .load false 1 (.tmp 7), none⟩,
     ⟨some 9, .call (.func 65) [(.tmp 6), (.tmp 8)], none⟩,
     ⟨some 10, .fieldAddr 1 (.tmp 2), none⟩,
     ⟨some 11, .load false 1 (.tmp 10), none⟩,
     ⟨some 12, .fieldAddr 1 (.tmp 3), none⟩,
     ⟨some 13, .load false 1 (.tmp 12), none⟩,
     ⟨some 14, .call (.func 65) [(.tmp 11), (.tmp 13)], none⟩,
     ⟨some 15, .buildSlice 1 2 [(.int .i64 0), (.int .i64 0)] [(0, 1, (.tmp 9)), (1, 1, (.tmp 14))], none⟩,
     ⟨some 16, .call (.func 64) [(.tmp 15)], none⟩,
     ⟨some 4, .move (.tmp 16), none⟩] [(6, 0), (8, 0)])
  (.keep [4] [] (.ret))))⟩
/-- cmp.Compare[int] -/
def F65 : FnIR := ⟨20, 2, [.tmp 4], [],
  .seq (.region [⟨some 4, .move (.const (.int .i64 0)), none⟩])
  (.keep [0, 1] [] (.seq (.region [⟨some 7, .move (.tmp 0), none⟩,
     ⟨some 8, .call (.func 75) [(.tmp 7)], none⟩,
     ⟨some 5, .move (.tmp 8), none⟩])
  (.keep [0, 1, 5] [] (.seq (.region [⟨some 9, .move (.tmp 1), none⟩,
     ⟨some 10, .call (.func 75) [(.tmp 9)], none⟩,
     ⟨some 6, .move (.tmp 10), none⟩])
  (.keep [0, 1, 5, 6] [] (.seq (.seq (.region [⟨some 11, .move (.tmp 5), none⟩])
   (.keep [0, 1, 6, 11] [] (.cond (.tmp 11)
    (.seq (.seq (.region [⟨some 12, .move (.tmp 6), none⟩])
     (.keep [12] [] (.cond (.tmp 12)
      (.seq (.region [⟨some 4, .move (.const (.int .i64 0)), none⟩])
      (.keep [4] [] (.ret)))
      (.skip))))
    (.keep [] [] (.seq (.region [⟨some 4, .move (.const (.int .i64 (-1))), none⟩])
    (.keep [4] [] (.ret)))))
    (.skip))))
  (.keep [0, 1, 6] [] (.seq (.seq (.region [⟨some 13, .move (.tmp 6), none⟩])
   (.keep [0, 1, 13] [] (.cond (.tmp 13)
    (.seq (.region [⟨some 4, .move (.const (.int .i64 1)), none⟩])
    (.keep [4] [] (.ret)))
    (.skip))))
  (.keep [0, 1] [] (.seq (.seq (.region [⟨some 14, .move (.tmp 0), none⟩,
      ⟨some 15, .move (.tmp 1), none⟩,
      ⟨some 16, .bin .lss .none (.tmp 14) (.tmp 15), none⟩])
   (.keep [0, 1, 16] [] (.cond (.tmp 16)
    (.seq (.region [⟨some 4, .move (.const (.int .i64 (-1))), none⟩])
    (.keep [4] [] (.ret)))
    (.skip))))
  (.keep [0, 1] [] (.seq (.seq (.region [⟨some 17, .move (.tmp 0), none⟩,
      ⟨some 18, .move (.tmp 1), none⟩,
      ⟨some 19, .bin .gtr .none (.tmp 17) (.tmp 18), none⟩])
   (.keep [19] [] (.cond (.tmp 19)
    (.seq (.region [⟨some 4, .move (.const (.int .i64 1)), none⟩])
    (.keep [4] [] (.ret)))
    (.skip))))
  (.keep [] [] (.seq (.region [⟨some 4, .move (.const (.int .i64 0)), none⟩])
  (.keep [4] [] (.ret))))))))))))))))⟩
/-- cmp.isNaN[int] -/
def F75 : FnIR := ⟨6, 1, [.tmp 2], [],
  .seq (.region [⟨some 2, .move (.const (.bool false)), none⟩])
  (.keep [0] [] (.seq (.region [⟨some 3, .move (.tmp 0), none⟩,
     ⟨some 4, .move (.tmp 0), none⟩,
     ⟨some 5, .bin .neq .int (.tmp 3) (.tmp 4), none⟩,
     ⟨some 2, .move (.tmp 5), none⟩])
  (.keep [2] [] (.ret))))⟩
/-- cmp.Or[int] -/
def L64_0 : IC :=
  .keep [3, 6, 7, 8] [] (.seq (.region [⟨some 9, .bin .lss .none (.tmp 8) (.tmp 7), none⟩])
  (.keep [3, 6, 7, 8, 9] [] (.seq (.cond (.tmp 9)
    (.skip)
    (.exit 0))
  (.keep [3, 6, 7, 8] [] (.seq (.block 1 (.seq (.region [⟨some 10, .indexAddr none 1 (.tmp 6) (.tmp 8), none⟩,
       ⟨some 11, .load false 1 (.tmp 10), none⟩,
       ⟨some 5, .move (.tmp 11), none⟩])
    (.keep [3, 5, 6, 7, 8] [] (.seq (.region [⟨some 12, .move (.tmp 5), none⟩,
       ⟨some 13, .move (.tmp 3), none⟩,
       ⟨some 14, .bin .neq .int (.tmp 12) (.tmp 13), none⟩])
    (.keep [3, 5, 6, 7, 8, 14] [] (.cond (.tmp 14)
     (.seq (.region [⟨some 15, .move (.tmp 5), none⟩,
        ⟨some 2, .move (.tmp 15), none⟩])
     (.keep [2] [] (.ret)))
     (.skip)))))))
  (.keep [3, 6, 7, 8] [] (.region [⟨some 16, .bin .add .none (.tmp 8) (.const (.int .i64 1)), none⟩,
    ⟨some 8, .move (.tmp 16), none⟩])))))))
def F64 : FnIR := ⟨18, 1, [.tmp 2], [],
  .seq (.region [⟨some 2, .move (.const (.int .i64 0)), none⟩])
  (.keep [0] [] (.seq (.region [⟨some 3, .move (.const (.int .i64 0)), none⟩])
  (.keep [0, 3] [] (.seq (.seq (.region [⟨some 6, .move (.tmp 0), none⟩,
      ⟨some 7, .len .slice (.tmp 6), none⟩,
      ⟨some 8, .move (.const (.int .i64 0)), none⟩])
   (.keep [3, 6, 7, 8] [] (.block 0 (.loop L64_0))))
  (.keep [3] [] (.seq (.region [⟨some 17, .move (.tmp 3), none⟩,
     ⟨some 2, .move (.tmp 17), none⟩])
  (.keep [2] [] (.ret))))))))⟩
/-- wampum/stamp.Next -/
def F45 : FnIR := ⟨29, 1, [.cell 2 true 2, .tmp 3], [1, 2, 4],
  .seq (.region [⟨some 1, .box true 2 (.tmp 0), none⟩,
     ⟨some 2, .alloc true 2 [(.int .i64 0), (.int .i64 0)], none⟩,
     ⟨some 3, .move (.const (.int .i64 0)), none⟩])
  (.keep [1, 2] [1, 2] (.seq (.region [⟨some 5, .build [(.int .i64 0), (.int .i64 0)] [(0, 1, (.const (.int .i64 1099511627776))), (1, 1, (.const (.int .i64 65535)))], none⟩,
     ⟨some 4, .alloc true 2 [(.int .i64 0), (.int .i64 0)], none⟩,
     ⟨none, .store 2 (.tmp 4) (.tmp 5), none⟩])
  (.keep [1, 2, 4] [1, 2, 4] (.seq (.block 0 (.seq (.region [⟨some 7, .load true 2 (.tmp 1), none⟩,
       ⟨some 8, .call (.func 26) [(.tmp 7)], none⟩,
       ⟨some 9, .un .not (.tmp 8), none⟩,
       ⟨some 10, .move (.tmp 9), none⟩,
       ⟨some 11, .load true 2 (.tmp 1), some (10, false)⟩,
       ⟨some 12, .load true 2 (.tmp 4), some (10, false)⟩,
       ⟨some 13, .bin .eql (.struct [(0, false, 1, .int), (1, false, 1, .int)]) (.tmp 11) (.tmp 12), some (10, false)⟩,
       ⟨some 14, .pick (.tmp 10) (.const (.bool true)) (.tmp 13), none⟩,
       ⟨some 6, .move (.tmp 14), none⟩])
    (.keep [1, 2, 6] [1, 2] (.cond (.tmp 6)
     (.seq (.region [⟨some 15, .build [(.int .i64 0), (.int .i64 0)] [], none⟩,
        ⟨none, .store 2 (.tmp 2) (.tmp 15), none⟩,
        ⟨some 3, .move (.const (.int .i64 31)), none⟩])
     (.keep [2, 3] [2] (.ret)))
     (.seq (.region [⟨some 17, .fieldAddr 1 (.tmp 1), none⟩,
        ⟨some 18, .load false 1 (.tmp 17), none⟩,
        ⟨some 19, .bin .eql .int (.tmp 18) (.const (.int .i64 65535)), none⟩,
        ⟨some 16, .move (.tmp 19), none⟩])
     (.keep [1, 2, 16] [1, 2] (.cond (.tmp 16)
      (.seq (.region [⟨some 20, .fieldAddr 0 (.tmp 1), none⟩,
         ⟨some 21, .load false 1 (.tmp 20), none⟩,
         ⟨some 22, .bin .add .none (.tmp 21) (.const (.int .i64 1)), none⟩,
         ⟨some 23, .build [(.int .i64 0), (.int .i64 0)] [(0, 1, (.tmp 22))], none⟩,
         ⟨none, .store 2 (.tmp 2) (.tmp 23), none⟩,
         ⟨some 3, .move (.const (.int .i64 0)), none⟩])
      (.keep [2, 3] [2] (.ret)))
      (.skip))))))))
  (.keep [1, 2] [1, 2] (.seq (.region [⟨some 24, .fieldAddr 1 (.tmp 1), none⟩,
     ⟨some 25, .load false 1 (.tmp 24), none⟩,
     ⟨some 26, .bin .add .none (.tmp 25) (.const (.int .i64 1)), none⟩,
     ⟨some 27, .fieldAddr 1 (.tmp 1), none⟩,
     ⟨none, .store 1 (.tmp 27) (.tmp 26), none⟩])
  (.keep [1, 2] [1, 2] (.seq (.region [⟨some 28, .load true 2 (.tmp 1), none⟩,
     ⟨none, .store 2 (.tmp 2) (.tmp 28), none⟩,
     ⟨some 3, .move (.const (.int .i64 0)), none⟩])
  (.keep [2, 3] [2] (.ret))))))))))⟩
/-- wampum/stamp.Right -/
def F26 : FnIR := ⟨11, 1, [.tmp 2], [1],
  .seq (.region [⟨some 1, .box true 2 (.tmp 0), none⟩,
     ⟨some 2, .move (.const (.bool false)), none⟩])
  (.keep [1] [1] (.seq (.region [⟨some 3, .fieldAddr 0 (.tmp 1), none⟩,
     ⟨some 4, .load false 1 (.tmp 3), none⟩,
     ⟨some 5, .call (.func 51) [(.tmp 4), (.const (.int .i64 0)), (.const (.int .i64 1099511627776))], none⟩,
     ⟨some 6, .move (.tmp 5), none⟩,
     ⟨some 7, .fieldAddr 1 (.tmp 1), some (6, true)⟩,
     ⟨some 8, .load false 1 (.tmp 7), some (6, true)⟩,
     ⟨some 9, .call (.func 51) [(.tmp 8), (.const (.int .i64 0)), (.const (.int .i64 65535))], some (6, true)⟩,
     ⟨some 10, .pick (.tmp 6) (.tmp 9) (.const (.bool false)), none⟩,
     ⟨some 2, .move (.tmp 10), none⟩])
  (.keep [2] [] (.ret))))⟩
/-- wampum/stamp.within[int] -/
def F51 : FnIR := ⟨15, 3, [.tmp 6], [],
  .seq (.region [⟨some 6, .move (.const (.bool false)), none⟩])
  (.keep [0, 1, 2] [] (.seq (.region [⟨some 7, .move (.tmp 0), none⟩,
     ⟨some 8, .move (.tmp 1), none⟩,
     ⟨some 9, .bin .geq .none (.tmp 7) (.tmp 8), none⟩,
     ⟨some 10, .move (.tmp 9), none⟩,
     ⟨some 11, .move (.tmp 0), some (10, true)⟩,
     ⟨some 12, .move (.tmp 2), some (10, true)⟩,
     ⟨some 13, .bin .leq .none (.tmp 11) (.tmp 12), some (10, true)⟩,
     ⟨some 14, .pick (.tmp 10) (.tmp 13) (.const (.bool false)), none⟩,
     ⟨some 6, .move (.tmp 14), none⟩])
  (.keep [6] [] (.ret))))⟩
/-- (*wampum/clock.Clock).Hear -/
def F21 : FnIR := ⟨34, 2, [.tmp 4], [3],
  .seq (.region [⟨some 3, .box true 2 (.tmp 1), none⟩,
     ⟨some 4, .move (.const (.int .i64 0)), none⟩])
  (.keep [0, 3] [3] (.seq (.block 0 (.seq (.region [⟨some 6, .move (.tmp 0), none⟩,
       ⟨some 7, .bin .eql .ptr (.tmp 6) (.const .nilp), none⟩,
       ⟨some 5, .move (.tmp 7), none⟩])
    (.keep [0, 3, 5] [3] (.cond (.tmp 5)
     (.seq (.region [⟨some 4, .move (.const (.int .i64 1)), none⟩])
     (.keep [4] [] (.ret)))
     (.seq (.region [⟨some 9, .load true 2 (.tmp 3), none⟩,
        ⟨some 10, .call (.func 26) [(.tmp 9)], none⟩,
        ⟨some 11, .un .not (.tmp 10), none⟩,
        ⟨some 8, .move (.tmp 11), none⟩])
     (.keep [0, 3, 8] [3] (.cond (.tmp 8)
      (.seq (.region [⟨some 4, .move (.const (.int .i64 31)), none⟩])
      (.keep [4] [] (.ret)))
      (.seq (.regionD [⟨some 13, .fieldAddr 0 (.tmp 3), none⟩,
         ⟨some 14, .load false 1 (.tmp 13), none⟩,
         ⟨some 15, .move (.tmp 0), none⟩,
         ⟨some 16, .nilCheck (.tmp 15), none⟩,
         ⟨some 17, .fieldAddr 0 (.tmp 16), none⟩,
         ⟨some 18, .load false 1 (.tmp 17), none⟩,
         ⟨some 19, .bin .sub .none (.tmp 14) (.tmp 18), none⟩,
         ⟨some 20, .move (.tmp 0), none⟩,
         ⟨some 21, .nilCheck (.tmp 20), none⟩,
         ⟨some 22, .fieldAddr 1 (.tmp 21), none⟩,
         ⟨some 23, .load false 1 (.tmp 22), none⟩,
         ⟨some 24, .bin .gtr .none (.tmp 19) (.tmp 23), none⟩,
         ⟨some 12, .move (.tmp 24), none⟩] [])
      (.keep [0, 3, 12] [3] (.cond (.tmp 12)
       (.seq (.region [⟨some 4, .move (.const (.int .i64 41)), none⟩])
       (.keep [4] [] (.ret)))
       (.skip)))))))))))
  (.keep [0, 3] [3] (.seq (.regionD [⟨some 26, .move (.tmp 0), none⟩,
     ⟨some 27, .nilCheck (.tmp 26), none⟩,
     ⟨some 28, .fieldAddr 2 (.tmp 27), none⟩,
     ⟨some 29, .load true 2 (.tmp 28), none⟩,
     ⟨some 30, .load true 2 (.tmp 3), none⟩,
     ⟨some 31, .call (.func 27) [(.tmp 29), (.tmp 30)], none⟩,
     ⟨some 25, .move (.tmp 0), none⟩,
     ⟨some 32, .nilCheck (.tmp 25), none⟩,
     ⟨some 33, .fieldAddr 2 (.tmp 32), none⟩,
     ⟨none, .store 2 (.tmp 33) (.tmp 31), none⟩] [])
  (.keep [] [] (.seq (.region [⟨some 4, .move (.const (.int .i64 0)), none⟩])
  (.keep [4] [] (.ret))))))))⟩
/-- wampum/stamp.Max -/
def F27 : FnIR := ⟨10, 2, [.cell 4 true 2], [2, 3, 4],
  .seq (.region [⟨some 2, .box true 2 (.tmp 0), none⟩,
     ⟨some 3, .box true 2 (.tmp 1), none⟩,
     ⟨some 4, .alloc true 2 [(.int .i64 0), (.int .i64 0)], none⟩])
  (.keep [2, 3, 4] [2, 3, 4] (.seq (.seq (.region [⟨some 5, .load true 2 (.tmp 2), none⟩,
      ⟨some 6, .load true 2 (.tmp 3), none⟩,
      ⟨some 7, .call (.func 25) [(.tmp 5), (.tmp 6)], none⟩])
   (.keep [2, 3, 4, 7] [2, 3, 4] (.cond (.tmp 7)
    (.seq (.region [⟨some 8, .load true 2 (.tmp 3), none⟩,
       ⟨none, .store 2 (.tmp 4) (.tmp 8), none⟩])
    (.keep [4] [4] (.ret)))
    (.skip))))
  (.keep [2, 4] [2, 4] (.seq (.region [⟨some 9, .load true 2 (.tmp 2), none⟩,
     ⟨none, .store 2 (.tmp 4) (.tmp 9), none⟩])
  (.keep [4] [4] (.ret))))))⟩
/-- (*wampum/clock.Clock).Last -/
def F24 : FnIR := ⟨10, 1, [.cell 2 true 2], [2],
  .seq (.region [⟨some 2, .alloc true 2 [(.int .i64 0), (.int .i64 0)], none⟩])
  (.keep [0, 2] [2] (.seq (.seq (.region [⟨some 3, .move (.tmp 0), none⟩,
      ⟨some 4, .bin .eql .ptr (.tmp 3) (.const .nilp), none⟩])
   (.keep [0, 2, 4] [2] (.cond (.tmp 4)
    (.seq (.region [⟨some 5, .build [(.int .i64 0), (.int .i64 0)] [], none⟩,
       ⟨none, .store 2 (.tmp 2) (.tmp 5), none⟩])
    (.keep [2] [2] (.ret)))
    (.skip))))
  (.keep [0, 2] [2] (.seq (.region [⟨some 6, .move (.tmp 0), none⟩,
     ⟨some 7, .nilCheck (.tmp 6), none⟩,
     ⟨some 8, .fieldAddr 2 (.tmp 7), none⟩,
     ⟨some 9, .load true 2 (.tmp 8), none⟩,
     ⟨none, .store 2 (.tmp 2) (.tmp 9), none⟩])
  (.keep [2] [2] (.ret))))))⟩
/-- (*wampum/wampumref04.Clock).Set -/
def F18 : FnIR := ⟨19, 2, [.tmp 4], [],
  .seq (.region [⟨some 4, .move (.const (.int .i64 0)), none⟩])
  (.keep [0, 1] [] (.seq (.seq (.region [⟨some 5, .move (.tmp 1), none⟩,
      ⟨some 6, .move (.tmp 0), none⟩,
      ⟨some 7, .nilCheck (.tmp 6), none⟩,
      ⟨some 8, .fieldAddr 0 (.tmp 7), none⟩,
      ⟨some 9, .load false 1 (.tmp 8), none⟩,
      ⟨some 10, .bin .lss .none (.tmp 5) (.tmp 9), none⟩,
      ⟨some 11, .move (.tmp 10), none⟩,
      ⟨some 12, .move (.tmp 1), some (11, false)⟩,
      ⟨some 13, .bin .gtr .none (.tmp 12) (.const (.int .i64 1099511627776)), some (11, false)⟩,
      ⟨some 14, .pick (.tmp 11) (.const (.bool true)) (.tmp 13), none⟩])
   (.keep [0, 1, 14] [] (.cond (.tmp 14)
    (.seq (.region [⟨some 4, .move (.const (.int .i64 42)), none⟩])
    (.keep [4] [] (.ret)))
    (.skip))))
  (.keep [0, 1] [] (.seq (.region [⟨some 15, .move (.tmp 0), none⟩,
     ⟨some 16, .move (.tmp 1), none⟩,
     ⟨some 17, .nilCheck (.tmp 15), none⟩,
     ⟨some 18, .fieldAddr 0 (.tmp 17), none⟩,
     ⟨none, .store 1 (.tmp 18) (.tmp 16), none⟩])
  (.keep [] [] (.seq (.region [⟨some 4, .move (.const (.int .i64 0)), none⟩])
  (.keep [4] [] (.ret))))))))⟩
/-- (*wampum/wampumref04.Clock).Now -/
def F20 : FnIR := ⟨38, 1, [.cell 2 true 2, .tmp 3], [2, 4, 6],
  .seq (.region [⟨some 2, .alloc true 2 [(.int .i64 0), (.int .i64 0)], none⟩,
     ⟨some 3, .move (.const (.int .i64 0)), none⟩])
  (.keep [0, 2] [2] (.seq (.region [⟨some 8, .move (.tmp 0), none⟩,
     ⟨some 9, .nilCheck (.tmp 8), none⟩,
     ⟨some 10, .fieldAddr 0 (.tmp 9), none⟩,
     ⟨some 11, .load false 1 (.tmp 10), none⟩,
     ⟨some 12, .build [(.int .i64 0), (.int .i64 0)] [(0, 1, (.tmp 11))], none⟩,
     ⟨some 4, .alloc true 2 [(.int .i64 0), (.int .i64 0)], none⟩,
     ⟨none, .store 2 (.tmp 4) (.tmp 12), none⟩])
  (.keep [0, 2, 4] [2, 4] (.seq (.regionD [⟨some 13, .move (.tmp 0), none⟩,
     ⟨some 14, .nilCheck (.tmp 13), none⟩,
     ⟨some 15, .fieldAddr 2 (.tmp 14), none⟩,
     ⟨some 16, .load true 2 (.tmp 15), none⟩,
     ⟨some 17, .load true 2 (.tmp 4), none⟩,
     ⟨some 18, .call (.func 46) [(.tmp 16), (.tmp 17)], none⟩,
     ⟨some 5, .move (.tmp 18), none⟩] [])
  (.keep [0, 2, 4, 5] [2, 4] (.seq (.seq (.region [⟨some 19, .move (.tmp 5), none⟩,
      ⟨some 20, .un .not (.tmp 19), none⟩])
   (.keep [0, 2, 4, 20] [2, 4] (.cond (.tmp 20)
    (.seq (.region [⟨some 22, .move (.tmp 0), none⟩,
       ⟨some 23, .nilCheck (.tmp 22), none⟩,
       ⟨some 24, .fieldAddr 2 (.tmp 23), none⟩,
       ⟨some 25, .load true 2 (.tmp 24), none⟩,
       ⟨some 26, .call (.func 47) [(.tmp 25)], none⟩,
       ⟨some 21, .move (.tmp 26), none⟩,
       ⟨some 27, .extract (.tmp 21) 0, none⟩,
       ⟨some 28, .extract (.tmp 21) 1, none⟩,
       ⟨some 6, .alloc true 2 [(.int .i64 0), (.int .i64 0)], none⟩,
       ⟨none, .store 2 (.tmp 6) (.tmp 27), none⟩,
       ⟨some 7, .move (.tmp 28), none⟩])
    (.keep [0, 2, 4, 6, 7] [2, 4, 6] (.seq (.seq (.region [⟨some 29, .move (.tmp 7), none⟩,
        ⟨some 30, .bin .neq .int (.tmp 29) (.const (.int .i64 0)), none⟩])
     (.keep [0, 2, 4, 6, 30] [2, 4, 6] (.cond (.tmp 30)
      (.seq (.region [⟨some 31, .build [(.int .i64 0), (.int .i64 0)] [], none⟩,
         ⟨none, .store 2 (.tmp 2) (.tmp 31), none⟩,
         ⟨some 3, .move (.const (.int .i64 42)), none⟩])
      (.keep [2, 3] [2] (.ret)))
      (.skip))))
    (.keep [0, 2, 4, 6] [2, 4, 6] (.region [⟨some 32, .load true 2 (.tmp 6), none⟩,
      ⟨none, .store 2 (.tmp 4) (.tmp 32), none⟩])))))
    (.skip))))
  (.keep [0, 2, 4] [2, 4] (.seq (.region [⟨some 33, .move (.tmp 0), none⟩,
     ⟨some 34, .load true 2 (.tmp 4), none⟩,
     ⟨some 35, .nilCheck (.tmp 33), none⟩,
     ⟨some 36, .fieldAddr 2 (.tmp 35), none⟩,
     ⟨none, .store 2 (.tmp 36) (.tmp 34), none⟩])
  (.keep [2, 4] [2, 4] (.seq (.region [⟨some 37, .load true 2 (.tmp 4), none⟩,
     ⟨none, .store 2 (.tmp 2) (.tmp 37), none⟩,
     ⟨some 3, .move (.const (.int .i64 0)), none⟩])
  (.keep [2, 3] [2] (.ret))))))))))))⟩
/-- wampum/wampumref03.Less -/
def F46 : FnIR := ⟨24, 2, [.tmp 4], [2, 3],
  .seq (.region [⟨some 2, .box true 2 (.tmp 0), none⟩,
     ⟨some 3, .box true 2 (.tmp 1), none⟩,
     ⟨some 4, .move (.const (.bool false)), none⟩])
  (.keep [2, 3] [2, 3] (.seq (.region [⟨some 5, .fieldAddr 0 (.tmp 2), none⟩,
     ⟨some 6, .load false 1 (.tmp 5), none⟩,
     ⟨some 7, .fieldAddr 0 (.tmp 3), none⟩,
     ⟨some 8, .load false 1 (.tmp 7), none⟩,
     ⟨some 9, .bin .lss .none (.tmp 6) (.tmp 8), none⟩,
     ⟨some 10, .move (.tmp 9), none⟩,
     ⟨some 11, .fieldAddr 0 (.tmp 2), some (10, false)⟩,
     ⟨some 12, .load false 1 (.tmp 11), some (10, false)⟩,
     ⟨some 13, .fieldAddr 0 (.tmp 3), some (10, false)⟩,
     ⟨some 14, .load false 1 (.tmp 13), some (10, false)⟩,
     ⟨some 15, .bin .eql .int (.tmp 12) (.tmp 14), some (10, false)⟩,
     ⟨some 16, .move (.tmp 15), some (10, false)⟩,
     ⟨some 17, .fieldAddr 1 (.tmp 2), some (16, true)⟩,
     ⟨some 18, .load false 1 (.tmp 17), some (16, true)⟩,
     ⟨some 19, .fieldAddr 1 (.tmp 3), some (16, true)⟩,
     ⟨some 20, .load false 1 (.tmp 19), some (16, true)⟩,
     ⟨some 21, .bin .lss .none (.tmp 18) (.tmp 20), some (16, true)⟩,
     ⟨some 22, .pick (.tmp 16) (.tmp 21) (.const (.bool false)), some (10, false)⟩,
     ⟨some 23, .pick (.tmp 10) (.const (.bool true)) (.tmp 22), none⟩,
     ⟨some 4, .move (.tmp 23), none⟩])
  (.keep [4] [] (.ret))))⟩
/-- wampum/wampumref03.Next -/
def F47 : FnIR := ⟨33, 1, [.cell 2 true 2, .tmp 3], [1, 2],
  .seq (.region [⟨some 1, .box true 2 (.tmp 0), none⟩,
     ⟨some 2, .alloc true 2 [(.int .i64 0), (.int .i64 0)], none⟩,
     ⟨some 3, .move (.const (.int .i64 0)), none⟩])
  (.keep [1, 2] [1, 2] (.seq (.region [⟨some 5, .load true 2 (.tmp 1), none⟩,
     ⟨some 6, .call (.func 48) [(.tmp 5)], none⟩,
     ⟨some 4, .move (.tmp 6), none⟩])
  (.keep [1, 2, 4] [1, 2] (.seq (.seq (.region [⟨some 7, .move (.tmp 4), none⟩,
      ⟨some 8, .un .not (.tmp 7), none⟩,
      ⟨some 9, .move (.tmp 8), none⟩,
      ⟨some 10, .fieldAddr 0 (.tmp 1), some (9, false)⟩,
      ⟨some 11, .load false 1 (.tmp 10), some (9, false)⟩,
      ⟨some 12, .bin .eql .int (.tmp 11) (.const (.int .i64 1099511627776)), some (9, false)⟩,
      ⟨some 13, .move (.tmp 12), some (9, false)⟩,
      ⟨some 14, .fieldAddr 1 (.tmp 1), some (13, true)⟩,
      ⟨some 15, .load false 1 (.tmp 14), some (13, true)⟩,
      ⟨some 16, .bin .eql .int (.tmp 15) (.const (.int .i64 65535)), some (13, true)⟩,
      ⟨some 17, .pick (.tmp 13) (.tmp 16) (.const (.bool false)), some (9, false)⟩,
      ⟨some 18, .pick (.tmp 9) (.const (.bool true)) (.tmp 17), none⟩])
   (.keep [1, 2, 18] [1, 2] (.cond (.tmp 18)
    (.seq (.region [⟨some 19, .build [(.int .i64 0), (.int .i64 0)] [], none⟩,
       ⟨none, .store 2 (.tmp 2) (.tmp 19), none⟩,
       ⟨some 3, .move (.const (.int .i64 31)), none⟩])
    (.keep [2, 3] [2] (.ret)))
    (.skip))))
  (.keep [1, 2] [1, 2] (.seq (.seq (.region [⟨some 20, .fieldAddr 1 (.tmp 1), none⟩,
      ⟨some 21, .load false 1 (.tmp 20), none⟩,
      ⟨some 22, .bin .eql .int (.tmp 21) (.const (.int .i64 65535)), none⟩])
   (.keep [1, 2, 22] [1, 2] (.cond (.tmp 22)
    (.seq (.region [⟨some 23, .fieldAddr 0 (.tmp 1), none⟩,
       ⟨some 24, .load false 1 (.tmp 23), none⟩,
       ⟨some 25, .bin .add .none (.tmp 24) (.const (.int .i64 1)), none⟩,
       ⟨some 26, .build [(.int .i64 0), (.int .i64 0)] [(0, 1, (.tmp 25))], none⟩,
       ⟨none, .store 2 (.tmp 2) (.tmp 26), none⟩,
       ⟨some 3, .move (.const (.int .i64 0)), none⟩])
    (.keep [2, 3] [2] (.ret)))
    (.skip))))
  (.keep [1, 2] [1, 2] (.seq (.region [⟨some 27, .fieldAddr 0 (.tmp 1), none⟩,
     ⟨some 28, .load false 1 (.tmp 27), none⟩,
     ⟨some 29, .fieldAddr 1 (.tmp 1), none⟩,
     ⟨some 30, .load false 1 (.tmp 29), none⟩,
     ⟨some 31, .bin .add .none (.tmp 30) (.const (.int .i64 1)), none⟩,
     ⟨some 32, .build [(.int .i64 0), (.int .i64 0)] [(0, 1, (.tmp 28)), (1, 1, (.tmp 31))], none⟩,
     ⟨none, .store 2 (.tmp 2) (.tmp 32), none⟩,
     ⟨some 3, .move (.const (.int .i64 0)), none⟩])
  (.keep [2, 3] [2] (.ret))))))))))⟩
/-- wampum/wampumref03.Right -/
def F48 : FnIR := ⟨21, 1, [.tmp 2], [1],
  .seq (.region [⟨some 1, .box true 2 (.tmp 0), none⟩,
     ⟨some 2, .move (.const (.bool false)), none⟩])
  (.keep [1] [1] (.seq (.region [⟨some 3, .fieldAddr 0 (.tmp 1), none⟩,
     ⟨some 4, .load false 1 (.tmp 3), none⟩,
     ⟨some 5, .bin .geq .none (.tmp 4) (.const (.int .i64 0)), none⟩,
     ⟨some 6, .move (.tmp 5), none⟩,
     ⟨some 7, .fieldAddr 0 (.tmp 1), some (6, true)⟩,
     ⟨some 8, .load false 1 (.tmp 7), some (6, true)⟩,
     ⟨some 9, .bin .leq .none (.tmp 8) (.const (.int .i64 1099511627776)), some (6, true)⟩,
     ⟨some 10, .pick (.tmp 6) (.tmp 9) (.const (.bool false)), none⟩,
     ⟨some 11, .move (.tmp 10), none⟩,
     ⟨some 12, .fieldAddr 1 (.tmp 1), some (11, true)⟩,
     ⟨some 13, .load false 1 (.tmp 12), some (11, true)⟩,
     ⟨some 14, .bin .geq .none (.tmp 13) (.const (.int .i64 0)), some (11, true)⟩,
     ⟨some 15, .pick (.tmp 11) (.tmp 14) (.const (.bool false)), none⟩,
     ⟨some 16, .move (.tmp 15), none⟩,
     ⟨some 17, .fieldAddr 1 (.tmp 1), some (16, true)⟩,
     ⟨some 18, .load false 1 (.tmp 17), some (16, true)⟩,
     ⟨some 19, .bin .leq .none (.tmp 18) (.const (.int .i64 65535)), some (16, true)⟩,
     ⟨some 20, .pick (.tmp 16) (.tmp 19) (.const (.bool false)), none⟩,
     ⟨some 2, .move (.tmp 20), none⟩])
  (.keep [2] [] (.ret))))⟩
/-- (*wampum/wampumref04.Clock).Hear -/
def F22 : FnIR := ⟨31, 2, [.tmp 4], [3],
  .seq (.region [⟨some 3, .box true 2 (.tmp 1), none⟩,
     ⟨some 4, .move (.const (.int .i64 0)), none⟩])
  (.keep [0, 3] [3] (.seq (.region [⟨some 6, .load true 2 (.tmp 3), none⟩,
     ⟨some 7, .call (.func 48) [(.tmp 6)], none⟩,
     ⟨some 5, .move (.tmp 7), none⟩])
  (.keep [0, 3, 5] [3] (.seq (.seq (.region [⟨some 8, .move (.tmp 5), none⟩,
      ⟨some 9, .un .not (.tmp 8), none⟩])
   (.keep [0, 3, 9] [3] (.cond (.tmp 9)
    (.seq (.region [⟨some 4, .move (.const (.int .i64 31)), none⟩])
    (.keep [4] [] (.ret)))
    (.skip))))
  (.keep [0, 3] [3] (.seq (.seq (.regionD [⟨some 10, .fieldAddr 0 (.tmp 3), none⟩,
      ⟨some 11, .load false 1 (.tmp 10), none⟩,
      ⟨some 12, .move (.tmp 0), none⟩,
      ⟨some 13, .nilCheck (.tmp 12), none⟩,
      ⟨some 14, .fieldAddr 0 (.tmp 13), none⟩,
      ⟨some 15, .load false 1 (.tmp 14), none⟩,
      ⟨some 16, .move (.tmp 0), none⟩,
      ⟨some 17, .nilCheck (.tmp 16), none⟩,
      ⟨some 18, .fieldAddr 1 (.tmp 17), none⟩,
      ⟨some 19, .load false 1 (.tmp 18), none⟩,
      ⟨some 20, .bin .add .none (.tmp 15) (.tmp 19), none⟩,
      ⟨some 21, .bin .gtr .none (.tmp 11) (.tmp 20), none⟩] [])
   (.keep [0, 3, 21] [3] (.cond (.tmp 21)
    (.seq (.region [⟨some 4, .move (.const (.int .i64 41)), none⟩])
    (.keep [4] [] (.ret)))
    (.skip))))
  (.keep [0, 3] [3] (.seq (.regionD [⟨some 23, .move (.tmp 0), none⟩,
     ⟨some 24, .nilCheck (.tmp 23), none⟩,
     ⟨some 25, .fieldAddr 2 (.tmp 24), none⟩,
     ⟨some 26, .load true 2 (.tmp 25), none⟩,
     ⟨some 27, .load true 2 (.tmp 3), none⟩,
     ⟨some 28, .call (.func 49) [(.tmp 26), (.tmp 27)], none⟩,
     ⟨some 22, .move (.tmp 0), none⟩,
     ⟨some 29, .nilCheck (.tmp 22), none⟩,
     ⟨some 30, .fieldAddr 2 (.tmp 29), none⟩,
     ⟨none, .store 2 (.tmp 30) (.tmp 28), none⟩] [])
  (.keep [] [] (.seq (.region [⟨some 4, .move (.const (.int .i64 0)), none⟩])
  (.keep [4] [] (.ret))))))))))))⟩
/-- wampum/wampumref03.Max -/
def F49 : FnIR := ⟨12, 2, [.cell 4 true 2], [2, 3, 4],
  .seq (.region [⟨some 2, .box true 2 (.tmp 0), none⟩,
     ⟨some 3, .box true 2 (.tmp 1), none⟩,
     ⟨some 4, .alloc true 2 [(.int .i64 0), (.int .i64 0)], none⟩])
  (.keep [2, 3, 4] [2, 3, 4] (.seq (.region [⟨some 6, .load true 2 (.tmp 2), none⟩,
     ⟨some 7, .load true 2 (.tmp 3), none⟩,
     ⟨some 8, .call (.func 46) [(.tmp 6), (.tmp 7)], none⟩,
     ⟨some 5, .move (.tmp 8), none⟩])
  (.keep [2, 3, 4, 5] [2, 3, 4] (.seq (.seq (.region [⟨some 9, .move (.tmp 5), none⟩])
   (.keep [2, 3, 4, 9] [2, 3, 4] (.cond (.tmp 9)
    (.seq (.region [⟨some 10, .load true 2 (.tmp 3), none⟩,
       ⟨none, .store 2 (.tmp 4) (.tmp 10), none⟩])
    (.keep [4] [4] (.ret)))
    (.skip))))
  (.keep [2, 4] [2, 4] (.seq (.region [⟨some 11, .load true 2 (.tmp 2), none⟩,
     ⟨none, .store 2 (.tmp 4) (.tmp 11), none⟩])
  (.keep [4] [4] (.ret))))))))⟩
/-- (*wampum/clock.Clock).Physical -/
def F23 : FnIR := ⟨9, 1, [.tmp 2], [],
  .seq (.region [⟨some 2, .move (.const (.int .i64 0)), none⟩])
  (.keep [0] [] (.seq (.seq (.region [⟨some 3, .move (.tmp 0), none⟩,
      ⟨some 4, .bin .eql .ptr (.tmp 3) (.const .nilp), none⟩])
   (.keep [0, 4] [] (.cond (.tmp 4)
    (.seq (.region [⟨some 2, .move (.const (.int .i64 0)), none⟩])
    (.keep [2] [] (.ret)))
    (.skip))))
  (.keep [0] [] (.seq (.region [⟨some 5, .move (.tmp 0), none⟩,
     ⟨some 6, .nilCheck (.tmp 5), none⟩,
     ⟨some 7, .fieldAddr 0 (.tmp 6), none⟩,
     ⟨some 8, .load false 1 (.tmp 7), none⟩,
     ⟨some 2, .move (.tmp 8), none⟩])
  (.keep [2] [] (.ret))))))⟩
/-- wampum/wampumlaw04.ClockRises -/
def L4_0 : IC :=
  .keep [0, 1, 5, 7, 8, 9] [7] (.seq (.seq (.region [⟨some 31, .move (.tmp 9), none⟩,
      ⟨some 32, .move (.tmp 1), none⟩,
      ⟨some 33, .len .slice (.tmp 32), none⟩,
      ⟨some 34, .bin .lss .none (.tmp 31) (.tmp 33), none⟩,
      ⟨some 35, .move (.tmp 34), none⟩,
      ⟨some 36, .move (.tmp 9), some (35, true)⟩,
      ⟨some 37, .bin .lss .none (.tmp 36) (.const (.int .i64 100)), some (35, true)⟩,
      ⟨some 38, .pick (.tmp 35) (.tmp 37) (.const (.bool false)), none⟩])
   (.keep [0, 1, 5, 7, 8, 9, 38] [7] (.cond (.tmp 38)
    (.skip)
    (.exit 0))))
  (.keep [0, 1, 5, 7, 8, 9] [7] (.seq (.block 1 (.seq (.region [⟨some 41, .move (.tmp 5), none⟩,
       ⟨some 42, .call (.func 24) [(.tmp 41)], none⟩,
       ⟨some 10, .alloc true 2 [(.int .i64 0), (.int .i64 0)], none⟩,
       ⟨none, .store 2 (.tmp 10) (.tmp 42), none⟩])
    (.keep [0, 1, 5, 7, 8, 9, 10] [7, 10] (.seq (.region [⟨some 43, .move (.tmp 5), none⟩,
       ⟨some 44, .call (.func 23) [(.tmp 43)], none⟩,
       ⟨some 11, .move (.tmp 44), none⟩])
    (.keep [0, 1, 5, 7, 8, 9, 10, 11] [7, 10] (.seq (.seq (.region [⟨some 45, .move (.tmp 1), none⟩,
        ⟨some 46, .move (.tmp 9), none⟩,
        ⟨some 47, .indexAddr none 4 (.tmp 45) (.tmp 46), none⟩,
        ⟨some 48, .fieldAddr 0 (.tmp 47), none⟩,
        ⟨some 49, .load false 1 (.tmp 48), none⟩])
     (.keep [0, 1, 5, 7, 8, 9, 10, 11, 49] [7, 10] (.block 2 (.seq (.region [⟨some 51, .bin .eql .int (.tmp 49) (.const (.int .i64 1)), none⟩,
         ⟨some 50, .move (.tmp 51), none⟩])
      (.keep [0, 1, 5, 7, 8, 9, 10, 11, 49, 50] [7, 10] (.cond (.tmp 50)
       (.seq (.seq (.region [⟨some 52, .move (.tmp 5), none⟩,
           ⟨some 53, .move (.tmp 1), none⟩,
           ⟨some 54, .move (.tmp 9), none⟩,
           ⟨some 55, .indexAddr none 4 (.tmp 53) (.tmp 54), none⟩,
           ⟨some 56, .fieldAddr 1 (.tmp 55), none⟩,
           ⟨some 57, .load false 1 (.tmp 56), none⟩,
           ⟨some 58, .call (.func 17) [(.tmp 52), (.tmp 57)], none⟩,
           ⟨some 59, .bin .neq .int (.tmp 58) (.const (.int .i64 0)), none⟩,
           ⟨some 60, .move (.tmp 59), none⟩,
           ⟨some 61, .move (.tmp 5), some (60, true)⟩,
           ⟨some 62, .call (.func 23) [(.tmp 61)], some (60, true)⟩,
           ⟨some 63, .move (.tmp 11), some (60, true)⟩,
           ⟨some 64, .bin .neq .int (.tmp 62) (.tmp 63), some (60, true)⟩,
           ⟨some 65, .pick (.tmp 60) (.tmp 64) (.const (.bool false)), none⟩])
        (.keep [0, 1, 5, 7, 8, 9, 65] [7] (.cond (.tmp 65)
         (.seq (.region [⟨some 4, .move (.const (.bool false)), none⟩])
         (.keep [4] [] (.ret)))
         (.skip))))
       (.keep [0, 1, 5, 7, 8, 9] [7] (.region [⟨some 66, .move (.tmp 8), none⟩,
         ⟨some 67, .move (.tmp 5), none⟩,
         ⟨some 68, .call (.func 23) [(.tmp 67)], none⟩,
         ⟨some 69, .maxs (.tmp 66) [(.tmp 68)], none⟩,
         ⟨some 8, .move (.tmp 69), none⟩])))
       (.seq (.region [⟨some 71, .bin .eql .int (.tmp 49) (.const (.int .i64 2)), none⟩,
          ⟨some 70, .move (.tmp 71), none⟩])
       (.keep [0, 1, 5, 7, 8, 9, 10, 49, 70] [7, 10] (.cond (.tmp 70)
        (.seq (.region [⟨some 73, .move (.tmp 5), none⟩,
           ⟨some 74, .call (.func 19) [(.tmp 73)], none⟩,
           ⟨some 72, .move (.tmp 74), none⟩,
           ⟨some 75, .extract (.tmp 72) 0, none⟩,
           ⟨some 76, .extract (.tmp 72) 1, none⟩,
           ⟨some 12, .alloc true 2 [(.int .i64 0), (.int .i64 0)], none⟩,
           ⟨none, .store 2 (.tmp 12) (.tmp 75), none⟩,
           ⟨some 13, .move (.tmp 76), none⟩])
        (.keep [0, 1, 5, 7, 8, 9, 10, 12, 13] [7, 10, 12] (.seq (.seq (.region [⟨some 77, .move (.tmp 13), none⟩,
            ⟨some 78, .bin .neq .int (.tmp 77) (.const (.int .i64 0)), none⟩])
         (.keep [0, 1, 5, 7, 8, 9, 10, 12, 78] [7, 10, 12] (.cond (.tmp 78)
          (.seq (.seq (.regionD [⟨some 79, .move (.tmp 5), none⟩,
              ⟨some 80, .call (.func 24) [(.tmp 79)], none⟩,
              ⟨some 81, .load true 2 (.tmp 10), none⟩,
              ⟨some 82, .bin .neq (.struct [(0, false, 1, .int), (1, false, 1, .int)]) (.tmp 80) (.tmp 81), none⟩,
              ⟨some 83, .move (.tmp 82), none⟩,
              ⟨some 84, .fieldAddr 0 (.tmp 10), some (83, false)⟩,
              ⟨some 85, .load false 1 (.tmp 84), some (83, false)⟩,
              ⟨some 86, .bin .neq .int (.tmp 85) (.const (.int .i64 1099511627776)), some (83, false)⟩,
              ⟨some 87, .pick (.tmp 83) (.const (.bool true)) (.tmp 86), none⟩] [(2, 0)])
           (.keep [0, 1, 5, 7, 8, 9, 87] [7] (.cond (.tmp 87)
            (.seq (.region [⟨some 4, .move (.const (.bool false)), none⟩])
            (.keep [4] [] (.ret)))
            (.skip))))
          (.keep [0, 1, 5, 7, 8, 9] [7] (.exit 1)))
          (.skip))))
        (.keep [0, 1, 5, 7, 8, 9, 12] [7, 12] (.seq (.seq (.regionD [⟨some 88, .load true 2 (.tmp 7), none⟩,
            ⟨some 89, .load true 2 (.tmp 12), none⟩,
            ⟨some 90, .call (.func 25) [(.tmp 88), (.tmp 89)], none⟩,
            ⟨some 91, .un .not (.tmp 90), none⟩,
            ⟨some 92, .move (.tmp 91), none⟩,
            ⟨some 93, .load true 2 (.tmp 12), some (92, false)⟩,
            ⟨some 94, .call (.func 26) [(.tmp 93)], some (92, false)⟩,
            ⟨some 95, .un .not (.tmp 94), some (92, false)⟩,
            ⟨some 96, .pick (.tmp 92) (.const (.bool true)) (.tmp 95), none⟩,
            ⟨some 97, .move (.tmp 96), none⟩,
            ⟨some 98, .move (.tmp 5), some (97, false)⟩,
            ⟨some 99, .call (.func 24) [(.tmp 98)], some (97, false)⟩,
            ⟨some 100, .load true 2 (.tmp 12), some (97, false)⟩,
            ⟨some 101, .bin .neq (.struct [(0, false, 1, .int), (1, false, 1, .int)]) (.tmp 99) (.tmp 100), some (97, false)⟩,
            ⟨some 102, .pick (.tmp 97) (.const (.bool true)) (.tmp 101), none⟩] [(12, 7)])
         (.keep [0, 1, 5, 7, 8, 9, 12, 102] [7, 12] (.cond (.tmp 102)
          (.seq (.region [⟨some 4, .move (.const (.bool false)), none⟩])
          (.keep [4] [] (.ret)))
          (.skip))))
        (.keep [0, 1, 5, 7, 8, 9, 12] [7, 12] (.region [⟨some 103, .load true 2 (.tmp 12), none⟩,
          ⟨none, .store 2 (.tmp 7) (.tmp 103), none⟩])))))))
        (.seq (.region [⟨some 105, .bin .eql .int (.tmp 49) (.const (.int .i64 3)), none⟩,
           ⟨some 104, .move (.tmp 105), none⟩])
        (.keep [0, 1, 5, 7, 8, 9, 10, 104] [7, 10] (.cond (.tmp 104)
         (.seq (.region [⟨some 106, .move (.tmp 5), none⟩,
            ⟨some 107, .move (.tmp 1), none⟩,
            ⟨some 108, .move (.tmp 9), none⟩,
            ⟨some 109, .indexAddr none 4 (.tmp 107) (.tmp 108), none⟩,
            ⟨some 110, .fieldAddr 2 (.tmp 109), none⟩,
            ⟨some 111, .load true 2 (.tmp 110), none⟩,
            ⟨some 112, .call (.func 21) [(.tmp 106), (.tmp 111)], none⟩,
            ⟨some 14, .move (.tmp 112), none⟩])
         (.keep [0, 1, 5, 7, 8, 9, 10, 14] [7, 10] (.seq (.seq (.region [⟨some 113, .move (.tmp 14), none⟩,
             ⟨some 114, .bin .eql .int (.tmp 113) (.const (.int .i64 0)), none⟩])
          (.keep [0, 1, 5, 7, 8, 9, 10, 14, 114] [7, 10] (.cond (.tmp 114)
           (.regionD [⟨some 115, .load true 2 (.tmp 7), none⟩,
             ⟨some 116, .move (.tmp 1), none⟩,
             ⟨some 117, .move (.tmp 9), none⟩,
             ⟨some 118, .indexAddr none 4 (.tmp 116) (.tmp 117), none⟩,
             ⟨some 119, .fieldAddr 2 (.tmp 118), none⟩,
             ⟨some 120, .load true 2 (.tmp 119), none⟩,
             ⟨some 121, .call (.func 27) [(.tmp 115), (.tmp 120)], none⟩,
             ⟨none, .store 2 (.tmp 7) (.tmp 121), none⟩] [])
           (.skip))))
         (.keep [0, 1, 5, 7, 8, 9, 10, 14] [7, 10] (.seq (.regionD [⟨some 122, .move (.tmp 5), none⟩,
            ⟨some 123, .call (.func 24) [(.tmp 122)], none⟩,
            ⟨some 124, .load true 2 (.tmp 7), none⟩,
            ⟨some 125, .bin .neq (.struct [(0, false, 1, .int), (1, false, 1, .int)]) (.tmp 123) (.tmp 124), none⟩,
            ⟨some 126, .move (.tmp 125), none⟩,
            ⟨some 127, .move (.tmp 14), some (126, true)⟩,
            ⟨some 128, .bin .eql .int (.tmp 127) (.const (.int .i64 0)), some (126, true)⟩,
            ⟨some 129, .pick (.tmp 126) (.tmp 128) (.const (.bool false)), none⟩,
            ⟨some 130, .move (.tmp 129), none⟩,
            ⟨some 131, .move (.tmp 14), some (130, false)⟩,
            ⟨some 132, .bin .neq .int (.tmp 131) (.const (.int .i64 0)), some (130, false)⟩,
            ⟨some 133, .move (.tmp 132), some (130, false)⟩,
            ⟨some 134, .move (.tmp 5), some (133, true)⟩,
            ⟨some 135, .call (.func 24) [(.tmp 134)], some (133, true)⟩,
            ⟨some 136, .load true 2 (.tmp 10), some (133, true)⟩,
            ⟨some 137, .bin .neq (.struct [(0, false, 1, .int), (1, false, 1, .int)]) (.tmp 135) (.tmp 136), some (133, true)⟩,
            ⟨some 138, .pick (.tmp 133) (.tmp 137) (.const (.bool false)), some (130, false)⟩,
            ⟨some 139, .pick (.tmp 130) (.const (.bool true)) (.tmp 138), none⟩] [(2, 0), (14, 2)])
         (.keep [0, 1, 5, 7, 8, 9, 139] [7] (.cond (.tmp 139)
          (.seq (.region [⟨some 4, .move (.const (.bool false)), none⟩])
          (.keep [4] [] (.ret)))
          (.skip))))))))
         (.skip)))))))))))))
    (.keep [0, 1, 5, 7, 8, 9] [7] (.seq (.region [⟨some 140, .move (.tmp 5), none⟩,
       ⟨some 141, .call (.func 24) [(.tmp 140)], none⟩,
       ⟨some 142, .field false 1 0 (.tmp 141), none⟩,
       ⟨some 143, .move (.tmp 8), none⟩,
       ⟨some 144, .move (.tmp 0), none⟩,
       ⟨some 145, .bin .add .none (.tmp 143) (.tmp 144), none⟩,
       ⟨some 146, .bin .add .none (.tmp 145) (.const (.int .i64 100)), none⟩,
       ⟨some 147, .bin .gtr .none (.tmp 142) (.tmp 146), none⟩])
    (.keep [0, 1, 5, 7, 8, 9, 147] [7] (.cond (.tmp 147)
     (.seq (.region [⟨some 4, .move (.const (.bool false)), none⟩])
     (.keep [4] [] (.ret)))
     (.skip)))))))))))
  (.keep [0, 1, 5, 7, 8, 9] [7] (.region [⟨some 39, .move (.tmp 9), none⟩,
    ⟨some 40, .bin .add .none (.tmp 39) (.const (.int .i64 1)), none⟩,
    ⟨some 9, .move (.tmp 40), none⟩])))))
def F4 : FnIR := ⟨149, 2, [.tmp 4], [7, 10, 12],
  .seq (.region [⟨some 4, .move (.const (.bool false)), none⟩])
  (.keep [0, 1] [] (.seq (.region [⟨some 16, .move (.tmp 0), none⟩,
     ⟨some 17, .call (.func 14) [(.tmp 16)], none⟩,
     ⟨some 15, .move (.tmp 17), none⟩,
     ⟨some 18, .extract (.tmp 15) 0, none⟩,
     ⟨some 19, .extract (.tmp 15) 1, none⟩,
     ⟨some 5, .move (.tmp 18), none⟩,
     ⟨some 6, .move (.tmp 19), none⟩])
  (.keep [0, 1, 5, 6] [] (.seq (.seq (.region [⟨some 20, .move (.tmp 6), none⟩,
      ⟨some 21, .bin .neq .int (.tmp 20) (.const (.int .i64 0)), none⟩,
      ⟨some 22, .move (.tmp 21), none⟩,
      ⟨some 23, .move (.tmp 5), some (22, false)⟩,
      ⟨some 24, .bin .eql .ptr (.tmp 23) (.const .nilp), some (22, false)⟩,
      ⟨some 25, .pick (.tmp 22) (.const (.bool true)) (.tmp 24), none⟩])
   (.keep [0, 1, 5, 6, 25] [] (.cond (.tmp 25)
    (.seq (.region [⟨some 26, .call (.func 16) [], none⟩,
       ⟨some 27, .move (.tmp 26), none⟩,
       ⟨some 28, .move (.tmp 6), some (27, true)⟩,
       ⟨some 29, .bin .eql .int (.tmp 28) (.const (.int .i64 1)), some (27, true)⟩,
       ⟨some 30, .pick (.tmp 27) (.tmp 29) (.const (.bool false)), none⟩,
       ⟨some 4, .move (.tmp 30), none⟩])
    (.keep [4] [] (.ret)))
    (.skip))))
  (.keep [0, 1, 5] [] (.seq (.region [⟨some 7, .alloc true 2 [(.int .i64 0), (.int .i64 0)], none⟩])
  (.keep [0, 1, 5, 7] [7] (.seq (.region [⟨some 8, .move (.const (.int .i64 0)), none⟩])
  (.keep [0, 1, 5, 7, 8] [7] (.seq (.seq (.region [⟨some 9, .move (.const (.int .i64 0)), none⟩])
   (.keep [0, 1, 5, 7, 8, 9] [7] (.block 0 (.loop L4_0))))
  (.keep [] [] (.seq (.region [⟨some 148, .call (.func 16) [], none⟩,
     ⟨some 4, .move (.tmp 148), none⟩])
  (.keep [4] [] (.ret))))))))))))))⟩
/-- wampum/wampumlaw04.ClockHears -/
def L5_0 : IC :=
  .keep [0, 1, 5, 7, 9] [5] (.seq (.seq (.region [⟨some 34, .move (.tmp 9), none⟩,
      ⟨some 35, .move (.tmp 1), none⟩,
      ⟨some 36, .len .slice (.tmp 35), none⟩,
      ⟨some 37, .bin .lss .none (.tmp 34) (.tmp 36), none⟩,
      ⟨some 38, .move (.tmp 37), none⟩,
      ⟨some 39, .move (.tmp 9), some (38, true)⟩,
      ⟨some 40, .bin .lss .none (.tmp 39) (.const (.int .i64 100)), some (38, true)⟩,
      ⟨some 41, .pick (.tmp 38) (.tmp 40) (.const (.bool false)), none⟩])
   (.keep [0, 1, 5, 7, 9, 41] [5] (.cond (.tmp 41)
    (.skip)
    (.exit 0))))
  (.keep [0, 1, 5, 7, 9] [5] (.seq (.block 1 (.region [⟨some 44, .move (.tmp 1), none⟩,
      ⟨some 45, .move (.tmp 9), none⟩,
      ⟨some 46, .indexAddr none 4 (.tmp 44) (.tmp 45), none⟩,
      ⟨some 47, .load true 4 (.tmp 46), none⟩,
      ⟨some 48, .move (.tmp 7), none⟩,
      ⟨some 49, .call (.func 28) [(.tmp 47), (.tmp 48)], none⟩]))
  (.keep [0, 1, 5, 7, 9] [5] (.region [⟨some 42, .move (.tmp 9), none⟩,
    ⟨some 43, .bin .add .none (.tmp 42) (.const (.int .i64 1)), none⟩,
    ⟨some 9, .move (.tmp 43), none⟩])))))
def F5 : FnIR := ⟨118, 3, [.tmp 6], [5, 10, 12],
  .seq (.region [⟨some 5, .box true 2 (.tmp 2), none⟩,
     ⟨some 6, .move (.const (.bool false)), none⟩])
  (.keep [0, 1, 5] [5] (.seq (.region [⟨some 15, .move (.tmp 0), none⟩,
     ⟨some 16, .call (.func 14) [(.tmp 15)], none⟩,
     ⟨some 14, .move (.tmp 16), none⟩,
     ⟨some 17, .extract (.tmp 14) 0, none⟩,
     ⟨some 18, .extract (.tmp 14) 1, none⟩,
     ⟨some 7, .move (.tmp 17), none⟩,
     ⟨some 8, .move (.tmp 18), none⟩])
  (.keep [0, 1, 5, 7, 8] [5] (.seq (.seq (.region [⟨some 19, .move (.tmp 8), none⟩,
      ⟨some 20, .bin .neq .int (.tmp 19) (.const (.int .i64 0)), none⟩,
      ⟨some 21, .move (.tmp 20), none⟩,
      ⟨some 22, .move (.tmp 7), some (21, false)⟩,
      ⟨some 23, .bin .eql .ptr (.tmp 22) (.const .nilp), some (21, false)⟩,
      ⟨some 24, .pick (.tmp 21) (.const (.bool true)) (.tmp 23), none⟩])
   (.keep [0, 1, 5, 7, 24] [5] (.cond (.tmp 24)
    (.seq (.region [⟨some 25, .call (.func 16) [], none⟩,
       ⟨some 26, .move (.tmp 25), none⟩,
       ⟨some 27, .move (.tmp 0), some (26, true)⟩,
       ⟨some 28, .bin .lss .none (.tmp 27) (.const (.int .i64 0)), some (26, true)⟩,
       ⟨some 29, .move (.tmp 28), some (26, true)⟩,
       ⟨some 30, .move (.tmp 0), some (29, false)⟩,
       ⟨some 31, .bin .gtr .none (.tmp 30) (.const (.int .i64 1099511627776)), some (29, false)⟩,
       ⟨some 32, .pick (.tmp 29) (.const (.bool true)) (.tmp 31), some (26, true)⟩,
       ⟨some 33, .pick (.tmp 26) (.tmp 32) (.const (.bool false)), none⟩,
       ⟨some 6, .move (.tmp 33), none⟩])
    (.keep [6] [] (.ret)))
    (.skip))))
  (.keep [0, 1, 5, 7] [5] (.seq (.seq (.region [⟨some 9, .move (.const (.int .i64 0)), none⟩])
   (.keep [0, 1, 5, 7, 9] [5] (.block 0 (.loop L5_0))))
  (.keep [0, 5, 7] [5] (.seq (.region [⟨some 50, .move (.tmp 7), none⟩,
     ⟨some 51, .call (.func 24) [(.tmp 50)], none⟩,
     ⟨some 10, .alloc true 2 [(.int .i64 0), (.int .i64 0)], none⟩,
     ⟨none, .store 2 (.tmp 10) (.tmp 51), none⟩])
  (.keep [0, 5, 7, 10] [5, 10] (.seq (.region [⟨some 52, .move (.tmp 7), none⟩,
     ⟨some 53, .load true 2 (.tmp 5), none⟩,
     ⟨some 54, .call (.func 21) [(.tmp 52), (.tmp 53)], none⟩,
     ⟨some 11, .move (.tmp 54), none⟩])
  (.keep [0, 5, 7, 10, 11] [5, 10] (.seq (.seq (.region [⟨some 55, .load true 2 (.tmp 5), none⟩,
      ⟨some 56, .call (.func 26) [(.tmp 55)], none⟩,
      ⟨some 57, .un .not (.tmp 56), none⟩])
   (.keep [0, 5, 7, 10, 11, 57] [5, 10] (.cond (.tmp 57)
    (.seq (.regionD [⟨some 58, .call (.func 16) [], none⟩,
       ⟨some 59, .move (.tmp 58), none⟩,
       ⟨some 60, .move (.tmp 11), some (59, true)⟩,
       ⟨some 61, .bin .eql .int (.tmp 60) (.const (.int .i64 31)), some (59, true)⟩,
       ⟨some 62, .pick (.tmp 59) (.tmp 61) (.const (.bool false)), none⟩,
       ⟨some 63, .move (.tmp 62), none⟩,
       ⟨some 64, .move (.tmp 7), some (63, true)⟩,
       ⟨some 65, .call (.func 24) [(.tmp 64)], some (63, true)⟩,
       ⟨some 66, .load true 2 (.tmp 10), some (63, true)⟩,
       ⟨some 67, .bin .eql (.struct [(0, false, 1, .int), (1, false, 1, .int)]) (.tmp 65) (.tmp 66), some (63, true)⟩,
       ⟨some 68, .pick (.tmp 63) (.tmp 67) (.const (.bool false)), none⟩,
       ⟨some 6, .move (.tmp 68), none⟩] [(8, 1)])
    (.keep [6] [] (.ret)))
    (.skip))))
  (.keep [0, 5, 7, 10, 11] [5, 10] (.seq (.seq (.regionD [⟨some 71, .move (.tmp 7), none⟩,
      ⟨some 72, .call (.func 23) [(.tmp 71)], none⟩,
      ⟨some 69, .fieldAddr 0 (.tmp 5), none⟩,
      ⟨some 70, .load false 1 (.tmp 69), none⟩,
      ⟨some 73, .move (.tmp 0), none⟩,
      ⟨some 74, .bin .add .none (.tmp 72) (.tmp 73), none⟩,
      ⟨some 75, .bin .gtr .none (.tmp 70) (.tmp 74), none⟩] [(3, 0)])
   (.keep [5, 7, 10, 11, 75] [5, 10] (.cond (.tmp 75)
    (.seq (.regionD [⟨some 76, .call (.func 16) [], none⟩,
       ⟨some 77, .move (.tmp 76), none⟩,
       ⟨some 78, .move (.tmp 11), some (77, true)⟩,
       ⟨some 79, .bin .eql .int (.tmp 78) (.const (.int .i64 41)), some (77, true)⟩,
       ⟨some 80, .pick (.tmp 77) (.tmp 79) (.const (.bool false)), none⟩,
       ⟨some 81, .move (.tmp 80), none⟩,
       ⟨some 82, .move (.tmp 7), some (81, true)⟩,
       ⟨some 83, .call (.func 24) [(.tmp 82)], some (81, true)⟩,
       ⟨some 84, .load true 2 (.tmp 10), some (81, true)⟩,
       ⟨some 85, .bin .eql (.struct [(0, false, 1, .int), (1, false, 1, .int)]) (.tmp 83) (.tmp 84), some (81, true)⟩,
       ⟨some 86, .pick (.tmp 81) (.tmp 85) (.const (.bool false)), none⟩,
       ⟨some 6, .move (.tmp 86), none⟩] [(8, 1)])
    (.keep [6] [] (.ret)))
    (.skip))))
  (.keep [5, 7, 10, 11] [5, 10] (.seq (.region [⟨some 88, .move (.tmp 7), none⟩,
     ⟨some 89, .call (.func 19) [(.tmp 88)], none⟩,
     ⟨some 87, .move (.tmp 89), none⟩,
     ⟨some 90, .extract (.tmp 87) 0, none⟩,
     ⟨some 91, .extract (.tmp 87) 1, none⟩,
     ⟨some 12, .alloc true 2 [(.int .i64 0), (.int .i64 0)], none⟩,
     ⟨none, .store 2 (.tmp 12) (.tmp 90), none⟩,
     ⟨some 13, .move (.tmp 91), none⟩])
  (.keep [5, 7, 10, 11, 12, 13] [5, 10, 12] (.seq (.regionD [⟨some 92, .call (.func 16) [], none⟩,
     ⟨some 93, .move (.tmp 92), none⟩,
     ⟨some 94, .move (.tmp 11), some (93, true)⟩,
     ⟨some 95, .bin .eql .int (.tmp 94) (.const (.int .i64 0)), some (93, true)⟩,
     ⟨some 96, .pick (.tmp 93) (.tmp 95) (.const (.bool false)), none⟩,
     ⟨some 97, .move (.tmp 96), none⟩,
     ⟨some 98, .move (.tmp 13), some (97, true)⟩,
     ⟨some 99, .bin .neq .int (.tmp 98) (.const (.int .i64 0)), some (97, true)⟩,
     ⟨some 100, .move (.tmp 99), some (97, true)⟩,
     ⟨some 101, .load true 2 (.tmp 5), some (100, false)⟩,
     ⟨some 102, .load true 2 (.tmp 12), some (100, false)⟩,
     ⟨some 103, .call (.func 25) [(.tmp 101), (.tmp 102)], some (100, false)⟩,
     ⟨some 104, .move (.tmp 103), some (100, false)⟩,
     ⟨some 105, .load true 2 (.tmp 10), some (104, true)⟩,
     ⟨some 106, .load true 2 (.tmp 12), some (104, true)⟩,
     ⟨some 107, .call (.func 25) [(.tmp 105), (.tmp 106)], some (104, true)⟩,
     ⟨some 108, .pick (.tmp 104) (.tmp 107) (.const (.bool false)), some (100, false)⟩,
     ⟨some 109, .move (.tmp 108), some (100, false)⟩,
     ⟨some 112, .move (.tmp 7), some (109, true)⟩,
     ⟨some 113, .call (.func 23) [(.tmp 112)], some (109, true)⟩,
     ⟨some 110, .fieldAddr 0 (.tmp 12), some (109, true)⟩,
     ⟨some 111, .load false 1 (.tmp 110), some (109, true)⟩,
     ⟨some 114, .bin .geq .none (.tmp 111) (.tmp 113), some (109, true)⟩,
     ⟨some 115, .pick (.tmp 109) (.tmp 114) (.const (.bool false)), some (100, false)⟩,
     ⟨some 116, .pick (.tmp 100) (.const (.bool true)) (.tmp 115), some (97, true)⟩,
     ⟨some 117, .pick (.tmp 97) (.tmp 116) (.const (.bool false)), none⟩,
     ⟨some 6, .move (.tmp 117), none⟩] [(21, 16)])
  (.keep [6] [] (.ret))))))))))))))))))))⟩
/-- (wampum/wampumlaw04.Act).do -/
def F28 : FnIR := ⟨22, 2, [], [2],
  .seq (.region [⟨some 2, .box true 4 (.tmp 0), none⟩])
  (.keep [1, 2] [2] (.seq (.region [⟨some 4, .fieldAddr 0 (.tmp 2), none⟩,
     ⟨some 5, .load false 1 (.tmp 4), none⟩])
  (.keep [1, 2, 5] [2] (.block 0 (.seq (.region [⟨some 7, .bin .eql .int (.tmp 5) (.const (.int .i64 1)), none⟩,
      ⟨some 6, .move (.tmp 7), none⟩])
   (.keep [1, 2, 5, 6] [2] (.cond (.tmp 6)
    (.region [⟨some 8, .move (.tmp 1), none⟩,
      ⟨some 9, .fieldAddr 1 (.tmp 2), none⟩,
      ⟨some 10, .load false 1 (.tmp 9), none⟩,
      ⟨some 11, .call (.func 17) [(.tmp 8), (.tmp 10)], none⟩])
    (.seq (.region [⟨some 13, .bin .eql .int (.tmp 5) (.const (.int .i64 2)), none⟩,
       ⟨some 12, .move (.tmp 13), none⟩])
    (.keep [1, 2, 5, 12] [2] (.cond (.tmp 12)
     (.region [⟨some 14, .move (.tmp 1), none⟩,
       ⟨some 15, .call (.func 19) [(.tmp 14)], none⟩])
     (.seq (.region [⟨some 17, .bin .eql .int (.tmp 5) (.const (.int .i64 3)), none⟩,
        ⟨some 16, .move (.tmp 17), none⟩])
     (.keep [1, 2, 16] [2] (.cond (.tmp 16)
      (.region [⟨some 18, .move (.tmp 1), none⟩,
        ⟨some 19, .fieldAddr 2 (.tmp 2), none⟩,
        ⟨some 20, .load true 2 (.tmp 19), none⟩,
        ⟨some 21, .call (.func 21) [(.tmp 18), (.tmp 20)], none⟩])
      (.skip))))))))))))))⟩
/-- wampum/wampumlaw04.ClockCopies -/
def L7_0 : IC :=
  .keep [1, 2, 7, 9] [] (.seq (.seq (.region [⟨some 31, .move (.tmp 9), none⟩,
      ⟨some 32, .move (.tmp 1), none⟩,
      ⟨some 33, .len .slice (.tmp 32), none⟩,
      ⟨some 34, .bin .lss .none (.tmp 31) (.tmp 33), none⟩,
      ⟨some 35, .move (.tmp 34), none⟩,
      ⟨some 36, .move (.tmp 9), some (35, true)⟩,
      ⟨some 37, .bin .lss .none (.tmp 36) (.const (.int .i64 100)), some (35, true)⟩,
      ⟨some 38, .pick (.tmp 35) (.tmp 37) (.const (.bool false)), none⟩])
   (.keep [1, 2, 7, 9, 38] [] (.cond (.tmp 38)
    (.skip)
    (.exit 0))))
  (.keep [1, 2, 7, 9] [] (.seq (.block 1 (.region [⟨some 41, .move (.tmp 1), none⟩,
      ⟨some 42, .move (.tmp 9), none⟩,
      ⟨some 43, .indexAddr none 4 (.tmp 41) (.tmp 42), none⟩,
      ⟨some 44, .load true 4 (.tmp 43), none⟩,
      ⟨some 45, .move (.tmp 7), none⟩,
      ⟨some 46, .call (.func 28) [(.tmp 44), (.tmp 45)], none⟩]))
  (.keep [1, 2, 7, 9] [] (.region [⟨some 39, .move (.tmp 9), none⟩,
    ⟨some 40, .bin .add .none (.tmp 39) (.const (.int .i64 1)), none⟩,
    ⟨some 9, .move (.tmp 40), none⟩])))))
def L7_1 : IC :=
  .keep [2, 7, 10, 11, 12, 13] [11] (.seq (.seq (.region [⟨some 55, .move (.tmp 13), none⟩,
      ⟨some 56, .move (.tmp 2), none⟩,
      ⟨some 57, .len .slice (.tmp 56), none⟩,
      ⟨some 58, .bin .lss .none (.tmp 55) (.tmp 57), none⟩,
      ⟨some 59, .move (.tmp 58), none⟩,
      ⟨some 60, .move (.tmp 13), some (59, true)⟩,
      ⟨some 61, .bin .lss .none (.tmp 60) (.const (.int .i64 100)), some (59, true)⟩,
      ⟨some 62, .pick (.tmp 59) (.tmp 61) (.const (.bool false)), none⟩])
   (.keep [2, 7, 10, 11, 12, 13, 62] [11] (.cond (.tmp 62)
    (.skip)
    (.exit 2))))
  (.keep [2, 7, 10, 11, 12, 13] [11] (.seq (.block 3 (.region [⟨some 65, .move (.tmp 2), none⟩,
      ⟨some 66, .move (.tmp 13), none⟩,
      ⟨some 67, .indexAddr none 4 (.tmp 65) (.tmp 66), none⟩,
      ⟨some 68, .load true 4 (.tmp 67), none⟩,
      ⟨some 69, .move (.tmp 10), none⟩,
      ⟨some 70, .call (.func 28) [(.tmp 68), (.tmp 69)], none⟩]))
  (.keep [2, 7, 10, 11, 12, 13] [11] (.region [⟨some 63, .move (.tmp 13), none⟩,
    ⟨some 64, .bin .add .none (.tmp 63) (.const (.int .i64 1)), none⟩,
    ⟨some 13, .move (.tmp 64), none⟩])))))
def L7_2 : IC :=
  .keep [2, 7, 10, 14] [] (.seq (.seq (.region [⟨some 81, .move (.tmp 14), none⟩,
      ⟨some 82, .move (.tmp 2), none⟩,
      ⟨some 83, .len .slice (.tmp 82), none⟩,
      ⟨some 84, .bin .lss .none (.tmp 81) (.tmp 83), none⟩,
      ⟨some 85, .move (.tmp 84), none⟩,
      ⟨some 86, .move (.tmp 14), some (85, true)⟩,
      ⟨some 87, .bin .lss .none (.tmp 86) (.const (.int .i64 100)), some (85, true)⟩,
      ⟨some 88, .pick (.tmp 85) (.tmp 87) (.const (.bool false)), none⟩])
   (.keep [2, 7, 10, 14, 88] [] (.cond (.tmp 88)
    (.skip)
    (.exit 4))))
  (.keep [2, 7, 10, 14] [] (.seq (.block 5 (.region [⟨some 91, .move (.tmp 2), none⟩,
      ⟨some 92, .move (.tmp 14), none⟩,
      ⟨some 93, .indexAddr none 4 (.tmp 91) (.tmp 92), none⟩,
      ⟨some 94, .load true 4 (.tmp 93), none⟩,
      ⟨some 95, .move (.tmp 7), none⟩,
      ⟨some 96, .call (.func 28) [(.tmp 94), (.tmp 95)], none⟩]))
  (.keep [2, 7, 10, 14] [] (.region [⟨some 89, .move (.tmp 14), none⟩,
    ⟨some 90, .bin .add .none (.tmp 89) (.const (.int .i64 1)), none⟩,
    ⟨some 14, .move (.tmp 90), none⟩])))))
def F7 : FnIR := ⟨112, 3, [.tmp 6], [11],
  .seq (.region [⟨some 6, .move (.const (.bool false)), none⟩])
  (.keep [0, 1, 2] [] (.seq (.region [⟨some 16, .move (.tmp 0), none⟩,
     ⟨some 17, .call (.func 14) [(.tmp 16)], none⟩,
     ⟨some 15, .move (.tmp 17), none⟩,
     ⟨some 18, .extract (.tmp 15) 0, none⟩,
     ⟨some 19, .extract (.tmp 15) 1, none⟩,
     ⟨some 7, .move (.tmp 18), none⟩,
     ⟨some 8, .move (.tmp 19), none⟩])
  (.keep [1, 2, 7, 8] [] (.seq (.seq (.region [⟨some 20, .move (.tmp 8), none⟩,
      ⟨some 21, .bin .neq .int (.tmp 20) (.const (.int .i64 0)), none⟩,
      ⟨some 22, .move (.tmp 21), none⟩,
      ⟨some 23, .move (.tmp 7), some (22, false)⟩,
      ⟨some 24, .bin .eql .ptr (.tmp 23) (.const .nilp), some (22, false)⟩,
      ⟨some 25, .pick (.tmp 22) (.const (.bool true)) (.tmp 24), none⟩])
   (.keep [1, 2, 7, 8, 25] [] (.cond (.tmp 25)
    (.seq (.region [⟨some 26, .call (.func 16) [], none⟩,
       ⟨some 27, .move (.tmp 26), none⟩,
       ⟨some 28, .move (.tmp 8), some (27, true)⟩,
       ⟨some 29, .bin .eql .int (.tmp 28) (.const (.int .i64 1)), some (27, true)⟩,
       ⟨some 30, .pick (.tmp 27) (.tmp 29) (.const (.bool false)), none⟩,
       ⟨some 6, .move (.tmp 30), none⟩])
    (.keep [6] [] (.ret)))
    (.skip))))
  (.keep [1, 2, 7] [] (.seq (.seq (.region [⟨some 9, .move (.const (.int .i64 0)), none⟩])
   (.keep [1, 2, 7, 9] [] (.block 0 (.loop L7_0))))
  (.keep [2, 7] [] (.seq (.region [⟨some 47, .move (.tmp 7), none⟩,
     ⟨some 48, .call (.func 37) [(.tmp 47)], none⟩,
     ⟨some 10, .move (.tmp 48), none⟩])
  (.keep [2, 7, 10] [] (.seq (.seq (.region [⟨some 49, .move (.tmp 10), none⟩,
      ⟨some 50, .bin .eql .ptr (.tmp 49) (.const .nilp), none⟩])
   (.keep [2, 7, 10, 50] [] (.cond (.tmp 50)
    (.seq (.region [⟨some 6, .move (.const (.bool false)), none⟩])
    (.keep [6] [] (.ret)))
    (.skip))))
  (.keep [2, 7, 10] [] (.seq (.region [⟨some 51, .move (.tmp 7), none⟩,
     ⟨some 52, .call (.func 24) [(.tmp 51)], none⟩,
     ⟨some 11, .alloc true 2 [(.int .i64 0), (.int .i64 0)], none⟩,
     ⟨none, .store 2 (.tmp 11) (.tmp 52), none⟩])
  (.keep [2, 7, 10, 11] [11] (.seq (.region [⟨some 53, .move (.tmp 7), none⟩,
     ⟨some 54, .call (.func 23) [(.tmp 53)], none⟩,
     ⟨some 12, .move (.tmp 54), none⟩])
  (.keep [2, 7, 10, 11, 12] [11] (.seq (.seq (.region [⟨some 13, .move (.const (.int .i64 0)), none⟩])
   (.keep [2, 7, 10, 11, 12, 13] [11] (.block 2 (.loop L7_1))))
  (.keep [2, 7, 10, 11, 12] [11] (.seq (.seq (.regionD [⟨some 71, .move (.tmp 7), none⟩,
      ⟨some 72, .call (.func 24) [(.tmp 71)], none⟩,
      ⟨some 73, .load true 2 (.tmp 11), none⟩,
      ⟨some 74, .bin .neq (.struct [(0, false, 1, .int), (1, false, 1, .int)]) (.tmp 72) (.tmp 73), none⟩,
      ⟨some 75, .move (.tmp 74), none⟩,
      ⟨some 76, .move (.tmp 7), some (75, false)⟩,
      ⟨some 77, .call (.func 23) [(.tmp 76)], some (75, false)⟩,
      ⟨some 78, .move (.tmp 12), some (75, false)⟩,
      ⟨some 79, .bin .neq .int (.tmp 77) (.tmp 78), some (75, false)⟩,
      ⟨some 80, .pick (.tmp 75) (.const (.bool true)) (.tmp 79), none⟩] [(2, 0)])
   (.keep [2, 7, 10, 80] [] (.cond (.tmp 80)
    (.seq (.region [⟨some 6, .move (.const (.bool false)), none⟩])
    (.keep [6] [] (.ret)))
    (.skip))))
  (.keep [2, 7, 10] [] (.seq (.seq (.region [⟨some 14, .move (.const (.int .i64 0)), none⟩])
   (.keep [2, 7, 10, 14] [] (.block 4 (.loop L7_2))))
  (.keep [7, 10] [] (.seq (.region [⟨some 97, .call (.func 16) [], none⟩,
     ⟨some 98, .move (.tmp 97), none⟩,
     ⟨some 99, .move (.tmp 7), some (98, true)⟩,
     ⟨some 100, .call (.func 24) [(.tmp 99)], some (98, true)⟩,
     ⟨some 101, .move (.tmp 10), some (98, true)⟩,
     ⟨some 102, .call (.func 24) [(.tmp 101)], some (98, true)⟩,
     ⟨some 103, .bin .eql (.struct [(0, false, 1, .int), (1, false, 1, .int)]) (.tmp 100) (.tmp 102), some (98, true)⟩,
     ⟨some 104, .pick (.tmp 98) (.tmp 103) (.const (.bool false)), none⟩,
     ⟨some 105, .move (.tmp 104), none⟩,
     ⟨some 106, .move (.tmp 7), some (105, true)⟩,
     ⟨some 107, .call (.func 23) [(.tmp 106)], some (105, true)⟩,
     ⟨some 108, .move (.tmp 10), some (105, true)⟩,
     ⟨some 109, .call (.func 23) [(.tmp 108)], some (105, true)⟩,
     ⟨some 110, .bin .eql .int (.tmp 107) (.tmp 109), some (105, true)⟩,
     ⟨some 111, .pick (.tmp 105) (.tmp 110) (.const (.bool false)), none⟩,
     ⟨some 6, .move (.tmp 111), none⟩])
  (.keep [6] [] (.ret))))))))))))))))))))))))⟩
/-- (*wampum/clock.Clock).Copy -/
def F37 : FnIR := ⟨9, 1, [.tmp 2], [],
  .seq (.region [⟨some 2, .move (.const .nilp), none⟩])
  (.keep [0] [] (.seq (.seq (.region [⟨some 4, .move (.tmp 0), none⟩,
      ⟨some 5, .bin .eql .ptr (.tmp 4) (.const .nilp), none⟩])
   (.keep [0, 5] [] (.cond (.tmp 5)
    (.seq (.region [⟨some 2, .move (.const .nilp), none⟩])
    (.keep [2] [] (.ret)))
    (.skip))))
  (.keep [0] [] (.seq (.region [⟨some 6, .move (.tmp 0), none⟩,
     ⟨some 7, .nilCheck (.tmp 6), none⟩,
     ⟨some 8, .load true 4 (.tmp 7), none⟩,
     ⟨some 3, .alloc false 4 [(.int .i64 0), (.int .i64 0), (.int .i64 0), (.int .i64 0)], none⟩,
     ⟨none, .store 4 (.tmp 3) (.tmp 8), none⟩])
  (.keep [3] [] (.seq (.region [⟨some 2, .move (.tmp 3), none⟩])
  (.keep [2] [] (.ret))))))))⟩
/-- wampum/wampumlaw04.ClockNil -/
def F8 : FnIR := ⟨51, 1, [.tmp 2], [1, 4],
  .seq (.region [⟨some 1, .box true 4 (.tmp 0), none⟩,
     ⟨some 2, .move (.const (.bool false)), none⟩])
  (.keep [1] [1] (.seq (.region [⟨some 3, .move (.const .nilp), none⟩])
  (.keep [1, 3] [1] (.seq (.region [⟨some 7, .move (.tmp 3), none⟩,
     ⟨some 8, .call (.func 19) [(.tmp 7)], none⟩,
     ⟨some 6, .move (.tmp 8), none⟩,
     ⟨some 9, .extract (.tmp 6) 0, none⟩,
     ⟨some 10, .extract (.tmp 6) 1, none⟩,
     ⟨some 4, .alloc true 2 [(.int .i64 0), (.int .i64 0)], none⟩,
     ⟨none, .store 2 (.tmp 4) (.tmp 9), none⟩,
     ⟨some 5, .move (.tmp 10), none⟩])
  (.keep [1, 3, 4, 5] [1, 4] (.seq (.region [⟨some 11, .call (.func 16) [], none⟩,
     ⟨some 12, .move (.tmp 11), none⟩,
     ⟨some 13, .move (.tmp 3), some (12, true)⟩,
     ⟨some 14, .fieldAddr 1 (.tmp 1), some (12, true)⟩,
     ⟨some 15, .load false 1 (.tmp 14), some (12, true)⟩,
     ⟨some 16, .call (.func 17) [(.tmp 13), (.tmp 15)], some (12, true)⟩,
     ⟨some 17, .bin .eql .int (.tmp 16) (.const (.int .i64 1)), some (12, true)⟩,
     ⟨some 18, .pick (.tmp 12) (.tmp 17) (.const (.bool false)), none⟩,
     ⟨some 19, .move (.tmp 18), none⟩,
     ⟨some 20, .load true 2 (.tmp 4), some (19, true)⟩,
     ⟨some 21, .build [(.int .i64 0), (.int .i64 0)] [], some (19, true)⟩,
     ⟨some 22, .bin .eql (.struct [(0, false, 1, .int), (1, false, 1, .int)]) (.tmp 20) (.tmp 21), some (19, true)⟩,
     ⟨some 23, .pick (.tmp 19) (.tmp 22) (.const (.bool false)), none⟩,
     ⟨some 24, .move (.tmp 23), none⟩,
     ⟨some 25, .move (.tmp 5), some (24, true)⟩,
     ⟨some 26, .bin .eql .int (.tmp 25) (.const (.int .i64 1)), some (24, true)⟩,
     ⟨some 27, .pick (.tmp 24) (.tmp 26) (.const (.bool false)), none⟩,
     ⟨some 28, .move (.tmp 27), none⟩,
     ⟨some 29, .move (.tmp 3), some (28, true)⟩,
     ⟨some 30, .fieldAddr 2 (.tmp 1), some (28, true)⟩,
     ⟨some 31, .load true 2 (.tmp 30), some (28, true)⟩,
     ⟨some 32, .call (.func 21) [(.tmp 29), (.tmp 31)], some (28, true)⟩,
     ⟨some 33, .bin .eql .int (.tmp 32) (.const (.int .i64 1)), some (28, true)⟩,
     ⟨some 34, .pick (.tmp 28) (.tmp 33) (.const (.bool false)), none⟩,
     ⟨some 35, .move (.tmp 34), none⟩,
     ⟨some 36, .move (.tmp 3), some (35, true)⟩,
     ⟨some 37, .call (.func 23) [(.tmp 36)], some (35, true)⟩,
     ⟨some 38, .bin .eql .int (.tmp 37) (.const (.int .i64 0)), some (35, true)⟩,
     ⟨some 39, .pick (.tmp 35) (.tmp 38) (.const (.bool false)), none⟩,
     ⟨some 40, .move (.tmp 39), none⟩,
     ⟨some 41, .move (.tmp 3), some (40, true)⟩,
     ⟨some 42, .call (.func 24) [(.tmp 41)], some (40, true)⟩,
     ⟨some 43, .build [(.int .i64 0), (.int .i64 0)] [], some (40, true)⟩,
     ⟨some 44, .bin .eql (.struct [(0, false, 1, .int), (1, false, 1, .int)]) (.tmp 42) (.tmp 43), some (40, true)⟩,
     ⟨some 45, .pick (.tmp 40) (.tmp 44) (.const (.bool false)), none⟩,
     ⟨some 46, .move (.tmp 45), none⟩,
     ⟨some 47, .move (.tmp 3), some (46, true)⟩,
     ⟨some 48, .call (.func 37) [(.tmp 47)], some (46, true)⟩,
     ⟨some 49, .bin .eql .ptr (.tmp 48) (.const .nilp), some (46, true)⟩,
     ⟨some 50, .pick (.tmp 46) (.tmp 49) (.const (.bool false)), none⟩,
     ⟨some 2, .move (.tmp 50), none⟩])
  (.keep [2] [] (.ret))))))))⟩
def table : List (Nat × FnDef) := [(3, .ir F3), (14, .ir F14), (15, .ir F15), (16, .ir F16), (17, .ir F17), (19, .ir F19), (25, .ir F25), (50, .ir F50), (65, .ir F65), (75, .ir F75), (64, .ir F64), (45, .ir F45), (26, .ir F26), (51, .ir F51), (21, .ir F21), (27, .ir F27), (24, .ir F24), (18, .ir F18), (20, .ir F20), (46, .ir F46), (47, .ir F47), (48, .ir F48), (22, .ir F22), (49, .ir F49), (23, .ir F23), (4, .ir F4), (5, .ir F5), (28, .ir F28), (7, .ir F7), (37, .ir F37), (8, .ir F8)]
def T : FuncId → Option FnDef := fun f => Go.Wam.look f table
theorem T3 : T 3 = some (.ir F3) := rfl
theorem T14 : T 14 = some (.ir F14) := rfl
theorem T15 : T 15 = some (.ir F15) := rfl
theorem T16 : T 16 = some (.ir F16) := rfl
theorem T17 : T 17 = some (.ir F17) := rfl
theorem T19 : T 19 = some (.ir F19) := rfl
theorem T25 : T 25 = some (.ir F25) := rfl
theorem T50 : T 50 = some (.ir F50) := rfl
theorem T65 : T 65 = some (.ir F65) := rfl
theorem T75 : T 75 = some (.ir F75) := rfl
theorem T64 : T 64 = some (.ir F64) := rfl
theorem T45 : T 45 = some (.ir F45) := rfl
theorem T26 : T 26 = some (.ir F26) := rfl
theorem T51 : T 51 = some (.ir F51) := rfl
theorem T21 : T 21 = some (.ir F21) := rfl
theorem T27 : T 27 = some (.ir F27) := rfl
theorem T24 : T 24 = some (.ir F24) := rfl
theorem T18 : T 18 = some (.ir F18) := rfl
theorem T20 : T 20 = some (.ir F20) := rfl
theorem T46 : T 46 = some (.ir F46) := rfl
theorem T47 : T 47 = some (.ir F47) := rfl
theorem T48 : T 48 = some (.ir F48) := rfl
theorem T22 : T 22 = some (.ir F22) := rfl
theorem T49 : T 49 = some (.ir F49) := rfl
theorem T23 : T 23 = some (.ir F23) := rfl
theorem T4 : T 4 = some (.ir F4) := rfl
theorem T5 : T 5 = some (.ir F5) := rfl
theorem T28 : T 28 = some (.ir F28) := rfl
theorem T7 : T 7 = some (.ir F7) := rfl
theorem T37 : T 37 = some (.ir F37) := rfl
theorem T8 : T 8 = some (.ir F8) := rfl
theorem fits3 : FnFits Try.prog 3 F3 := ⟨Try.f3, _, Try.func3, rfl, by decide, rfl, by decide, by kernel_rfl, by kernel_rfl⟩
theorem fits14 : FnFits Try.prog 14 F14 := ⟨Try.f14, _, Try.func14, rfl, by decide, rfl, by decide, by kernel_rfl, by kernel_rfl⟩
theorem fits15 : FnFits Try.prog 15 F15 := ⟨Try.f15, _, Try.func15, rfl, by decide, rfl, by decide, by kernel_rfl, by kernel_rfl⟩
theorem fits16 : FnFits Try.prog 16 F16 := ⟨Try.f16, _, Try.func16, rfl, by decide, rfl, by decide, by kernel_rfl, by kernel_rfl⟩
theorem fits17 : FnFits Try.prog 17 F17 := ⟨Try.f17, _, Try.func17, rfl, by decide, rfl, by decide, by kernel_rfl, by kernel_rfl⟩
theorem fits19 : FnFits Try.prog 19 F19 := ⟨Try.f19, _, Try.func19, rfl, by decide, rfl, by decide, by kernel_rfl, by kernel_rfl⟩
theorem fits25 : FnFits Try.prog 25 F25 := ⟨Try.f25, _, Try.func25, rfl, by decide, rfl, by decide, by kernel_rfl, by kernel_rfl⟩
theorem fits50 : FnFits Try.prog 50 F50 := ⟨Try.f50, _, Try.func50, rfl, by decide, rfl, by decide, by kernel_rfl, by kernel_rfl⟩
theorem fits65 : FnFits Try.prog 65 F65 := ⟨Try.f65, _, Try.func65, rfl, by decide, rfl, by decide, by kernel_rfl, by kernel_rfl⟩
theorem fits75 : FnFits Try.prog 75 F75 := ⟨Try.f75, _, Try.func75, rfl, by decide, rfl, by decide, by kernel_rfl, by kernel_rfl⟩
theorem fits64 : FnFits Try.prog 64 F64 := ⟨Try.f64, _, Try.func64, rfl, by decide, rfl, by decide, by kernel_rfl, by kernel_rfl⟩
theorem fits45 : FnFits Try.prog 45 F45 := ⟨Try.f45, _, Try.func45, rfl, by decide, rfl, by decide, by kernel_rfl, by kernel_rfl⟩
theorem fits26 : FnFits Try.prog 26 F26 := ⟨Try.f26, _, Try.func26, rfl, by decide, rfl, by decide, by kernel_rfl, by kernel_rfl⟩
theorem fits51 : FnFits Try.prog 51 F51 := ⟨Try.f51, _, Try.func51, rfl, by decide, rfl, by decide, by kernel_rfl, by kernel_rfl⟩
theorem fits21 : FnFits Try.prog 21 F21 := ⟨Try.f21, _, Try.func21, rfl, by decide, rfl, by decide, by kernel_rfl, by kernel_rfl⟩
theorem fits27 : FnFits Try.prog 27 F27 := ⟨Try.f27, _, Try.func27, rfl, by decide, rfl, by decide, by kernel_rfl, by kernel_rfl⟩
theorem fits24 : FnFits Try.prog 24 F24 := ⟨Try.f24, _, Try.func24, rfl, by decide, rfl, by decide, by kernel_rfl, by kernel_rfl⟩
theorem fits18 : FnFits Try.prog 18 F18 := ⟨Try.f18, _, Try.func18, rfl, by decide, rfl, by decide, by kernel_rfl, by kernel_rfl⟩
theorem fits20 : FnFits Try.prog 20 F20 := ⟨Try.f20, _, Try.func20, rfl, by decide, rfl, by decide, by kernel_rfl, by kernel_rfl⟩
theorem fits46 : FnFits Try.prog 46 F46 := ⟨Try.f46, _, Try.func46, rfl, by decide, rfl, by decide, by kernel_rfl, by kernel_rfl⟩
theorem fits47 : FnFits Try.prog 47 F47 := ⟨Try.f47, _, Try.func47, rfl, by decide, rfl, by decide, by kernel_rfl, by kernel_rfl⟩
theorem fits48 : FnFits Try.prog 48 F48 := ⟨Try.f48, _, Try.func48, rfl, by decide, rfl, by decide, by kernel_rfl, by kernel_rfl⟩
theorem fits22 : FnFits Try.prog 22 F22 := ⟨Try.f22, _, Try.func22, rfl, by decide, rfl, by decide, by kernel_rfl, by kernel_rfl⟩
theorem fits49 : FnFits Try.prog 49 F49 := ⟨Try.f49, _, Try.func49, rfl, by decide, rfl, by decide, by kernel_rfl, by kernel_rfl⟩
theorem fits23 : FnFits Try.prog 23 F23 := ⟨Try.f23, _, Try.func23, rfl, by decide, rfl, by decide, by kernel_rfl, by kernel_rfl⟩
theorem fits4 : FnFits Try.prog 4 F4 := ⟨Try.f4, _, Try.func4, rfl, by decide, rfl, by decide, by kernel_rfl, by kernel_rfl⟩
theorem fits5 : FnFits Try.prog 5 F5 := ⟨Try.f5, _, Try.func5, rfl, by decide, rfl, by decide, by kernel_rfl, by kernel_rfl⟩
theorem fits28 : FnFits Try.prog 28 F28 := ⟨Try.f28, _, Try.func28, rfl, by decide, rfl, by decide, by kernel_rfl, by kernel_rfl⟩
theorem fits7 : FnFits Try.prog 7 F7 := ⟨Try.f7, _, Try.func7, rfl, by decide, rfl, by decide, by kernel_rfl, by kernel_rfl⟩
theorem fits37 : FnFits Try.prog 37 F37 := ⟨Try.f37, _, Try.func37, rfl, by decide, rfl, by decide, by kernel_rfl, by kernel_rfl⟩
theorem fits8 : FnFits Try.prog 8 F8 := ⟨Try.f8, _, Try.func8, rfl, by decide, rfl, by decide, by kernel_rfl, by kernel_rfl⟩
theorem fits : TableOk Try.prog T := tableOk (t := table) ⟨fits3, fits14, fits15, fits16, fits17, fits19, fits25, fits50, fits65, fits75, fits64, fits45, fits26, fits51, fits21, fits27, fits24, fits18, fits20, fits46, fits47, fits48, fits22, fits49, fits23, fits4, fits5, fits28, fits7, fits37, fits8, trivial⟩
theorem own : ownKnob Try.prog.godebug = none := by kernel_rfl
theorem laidOut : laidOutB Try.prog = true := by kernel_rfl
theorem mixed : Try.prog.follows .mixedOrders = true := by kernel_rfl
end Go.Proofs.Ytglfchdpcididaa
