/- Functions of the program in our form (S9, b). No condition. -/
import Derived.Test.YtgokjbjbdnbcdaaAmNil
import Derived.Test.YtgokjbjbdnbcdaaRows
import Derived.KernelRfl
set_option linter.unusedVariables false
namespace Go.Proofs.Ytgokjbjbdnbcdaa.AlS9
open Go.Wam
/-- slices.partialInsertionSortOrdered[string] -/
def L85_0 : IC :=
  .keep [0, 1, 2, 7, 8] [] (.seq (.seq (.regionD [⟨some 17, .move (.tmp 7), none⟩,
      ⟨some 18, .move (.tmp 2), none⟩,
      ⟨some 19, .bin .lss .none (.tmp 17) (.tmp 18), none⟩,
      ⟨some 20, .move (.tmp 19), none⟩,
      ⟨some 21, .move (.tmp 0), some (20, true)⟩,
      ⟨some 22, .move (.tmp 7), some (20, true)⟩,
      ⟨some 23, .indexAddr none 1 (.tmp 21) (.tmp 22), some (20, true)⟩,
      ⟨some 24, .load false 1 (.tmp 23), some (20, true)⟩,
      ⟨some 25, .move (.tmp 0), some (20, true)⟩,
      ⟨some 26, .move (.tmp 7), some (20, true)⟩,
      ⟨some 27, .bin .sub .none (.tmp 26) (.const (.int .i64 1)), some (20, true)⟩,
      ⟨some 28, .indexAddr none 1 (.tmp 25) (.tmp 27), some (20, true)⟩,
      ⟨some 29, .load false 1 (.tmp 28), some (20, true)⟩,
      ⟨some 30, .call (.func 86) [(.tmp 24), (.tmp 29)], some (20, true)⟩,
      ⟨some 31, .un .not (.tmp 30), some (20, true)⟩,
      ⟨some 32, .pick (.tmp 20) (.tmp 31) (.const (.bool false)), none⟩] [])
   (.keep [0, 1, 2, 7, 8, 32] [] (.cond (.tmp 32)
    (.skip)
    (.exit 2))))
  (.keep [0, 1, 2, 7, 8] [] (.block 3 (.region [⟨some 33, .move (.tmp 7), none⟩,
     ⟨some 34, .bin .add .none (.tmp 33) (.const (.int .i64 1)), none⟩,
     ⟨some 7, .move (.tmp 34), none⟩]))))
def L85_1 : IC :=
  .keep [0, 1, 2, 7, 8, 9] [] (.seq (.seq (.region [⟨some 64, .move (.tmp 9), none⟩,
      ⟨some 65, .bin .geq .none (.tmp 64) (.const (.int .i64 1)), none⟩])
   (.keep [0, 1, 2, 7, 8, 9, 65] [] (.cond (.tmp 65)
    (.skip)
    (.exit 4))))
  (.keep [0, 1, 2, 7, 8, 9] [] (.seq (.block 5 (.seq (.seq (.regionD [⟨some 68, .move (.tmp 0), none⟩,
        ⟨some 69, .move (.tmp 9), none⟩,
        ⟨some 70, .indexAddr none 1 (.tmp 68) (.tmp 69), none⟩,
        ⟨some 71, .load false 1 (.tmp 70), none⟩,
        ⟨some 72, .move (.tmp 0), none⟩,
        ⟨some 73, .move (.tmp 9), none⟩,
        ⟨some 74, .bin .sub .none (.tmp 73) (.const (.int .i64 1)), none⟩,
        ⟨some 75, .indexAddr none 1 (.tmp 72) (.tmp 74), none⟩,
        ⟨some 76, .load false 1 (.tmp 75), none⟩,
        ⟨some 77, .call (.func 86) [(.tmp 71), (.tmp 76)], none⟩,
        ⟨some 78, .un .not (.tmp 77), none⟩] [])
     (.keep [0, 1, 2, 7, 8, 9, 78] [] (.cond (.tmp 78)
      (.exit 4)
      (.skip))))
    (.keep [0, 1, 2, 7, 8, 9] [] (.regionD [⟨some 79, .move (.tmp 0), none⟩,
      ⟨some 80, .move (.tmp 9), none⟩,
      ⟨some 84, .move (.tmp 0), none⟩,
      ⟨some 85, .move (.tmp 9), none⟩,
      ⟨some 86, .bin .sub .none (.tmp 85) (.const (.int .i64 1)), none⟩,
      ⟨some 87, .indexAddr none 1 (.tmp 84) (.tmp 86), none⟩,
      ⟨some 88, .load false 1 (.tmp 87), none⟩,
      ⟨some 89, .move (.tmp 0), none⟩,
      ⟨some 90, .move (.tmp 9), none⟩,
      ⟨some 91, .indexAddr none 1 (.tmp 89) (.tmp 90), none⟩,
      ⟨some 92, .load false 1 (.tmp 91), none⟩,
      ⟨some 93, .indexAddr none 1 (.tmp 79) (.tmp 80), none⟩,
      ⟨none, .store 1 (.tmp 93) (.tmp 88), none⟩,
      ⟨some 81, .move (.tmp 0), none⟩,
      ⟨some 82, .move (.tmp 9), none⟩,
      ⟨some 83, .bin .sub .none (.tmp 82) (.const (.int .i64 1)), none⟩,
      ⟨some 94, .indexAddr none 1 (.tmp 81) (.tmp 83), none⟩,
      ⟨none, .store 1 (.tmp 94) (.tmp 92), none⟩] []))))
  (.keep [0, 1, 2, 7, 8, 9] [] (.region [⟨some 66, .move (.tmp 9), none⟩,
    ⟨some 67, .bin .sub .none (.tmp 66) (.const (.int .i64 1)), none⟩,
    ⟨some 9, .move (.tmp 67), none⟩])))))
def L85_2 : IC :=
  .keep [0, 1, 2, 7, 8, 10] [] (.seq (.seq (.region [⟨some 101, .move (.tmp 10), none⟩,
      ⟨some 102, .move (.tmp 2), none⟩,
      ⟨some 103, .bin .lss .none (.tmp 101) (.tmp 102), none⟩])
   (.keep [0, 1, 2, 7, 8, 10, 103] [] (.cond (.tmp 103)
    (.skip)
    (.exit 6))))
  (.keep [0, 1, 2, 7, 8, 10] [] (.seq (.block 7 (.seq (.seq (.regionD [⟨some 106, .move (.tmp 0), none⟩,
        ⟨some 107, .move (.tmp 10), none⟩,
        ⟨some 108, .indexAddr none 1 (.tmp 106) (.tmp 107), none⟩,
        ⟨some 109, .load false 1 (.tmp 108), none⟩,
        ⟨some 110, .move (.tmp 0), none⟩,
        ⟨some 111, .move (.tmp 10), none⟩,
        ⟨some 112, .bin .sub .none (.tmp 111) (.const (.int .i64 1)), none⟩,
        ⟨some 113, .indexAddr none 1 (.tmp 110) (.tmp 112), none⟩,
        ⟨some 114, .load false 1 (.tmp 113), none⟩,
        ⟨some 115, .call (.func 86) [(.tmp 109), (.tmp 114)], none⟩,
        ⟨some 116, .un .not (.tmp 115), none⟩] [])
     (.keep [0, 1, 2, 7, 8, 10, 116] [] (.cond (.tmp 116)
      (.exit 6)
      (.skip))))
    (.keep [0, 1, 2, 7, 8, 10] [] (.regionD [⟨some 117, .move (.tmp 0), none⟩,
      ⟨some 118, .move (.tmp 10), none⟩,
      ⟨some 122, .move (.tmp 0), none⟩,
      ⟨some 123, .move (.tmp 10), none⟩,
      ⟨some 124, .bin .sub .none (.tmp 123) (.const (.int .i64 1)), none⟩,
      ⟨some 125, .indexAddr none 1 (.tmp 122) (.tmp 124), none⟩,
      ⟨some 126, .load false 1 (.tmp 125), none⟩,
      ⟨some 127, .move (.tmp 0), none⟩,
      ⟨some 128, .move (.tmp 10), none⟩,
      ⟨some 129, .indexAddr none 1 (.tmp 127) (.tmp 128), none⟩,
      ⟨some 130, .load false 1 (.tmp 129), none⟩,
      ⟨some 131, .indexAddr none 1 (.tmp 117) (.tmp 118), none⟩,
      ⟨none, .store 1 (.tmp 131) (.tmp 126), none⟩,
      ⟨some 119, .move (.tmp 0), none⟩,
      ⟨some 120, .move (.tmp 10), none⟩,
      ⟨some 121, .bin .sub .none (.tmp 120) (.const (.int .i64 1)), none⟩,
      ⟨some 132, .indexAddr none 1 (.tmp 119) (.tmp 121), none⟩,
      ⟨none, .store 1 (.tmp 132) (.tmp 130), none⟩] []))))
  (.keep [0, 1, 2, 7, 8, 10] [] (.region [⟨some 104, .move (.tmp 10), none⟩,
    ⟨some 105, .bin .add .none (.tmp 104) (.const (.int .i64 1)), none⟩,
    ⟨some 10, .move (.tmp 105), none⟩])))))
def L85_3 : IC :=
  .keep [0, 1, 2, 7, 8] [] (.seq (.seq (.region [⟨some 13, .move (.tmp 8), none⟩,
      ⟨some 14, .bin .lss .none (.tmp 13) (.const (.int .i64 5)), none⟩])
   (.keep [0, 1, 2, 7, 8, 14] [] (.cond (.tmp 14)
    (.skip)
    (.exit 0))))
  (.keep [0, 1, 2, 7, 8] [] (.seq (.block 1 (.seq (.block 2 (.loop L85_0))
    (.keep [0, 1, 2, 7, 8] [] (.seq (.seq (.region [⟨some 35, .move (.tmp 7), none⟩,
        ⟨some 36, .move (.tmp 2), none⟩,
        ⟨some 37, .bin .eql .int (.tmp 35) (.tmp 36), none⟩])
     (.keep [0, 1, 2, 7, 8, 37] [] (.cond (.tmp 37)
      (.seq (.region [⟨some 6, .move (.const (.bool true)), none⟩])
      (.keep [6] [] (.ret)))
      (.skip))))
    (.keep [0, 1, 2, 7, 8] [] (.seq (.seq (.region [⟨some 38, .move (.tmp 2), none⟩,
        ⟨some 39, .move (.tmp 1), none⟩,
        ⟨some 40, .bin .sub .none (.tmp 38) (.tmp 39), none⟩,
        ⟨some 41, .bin .lss .none (.tmp 40) (.const (.int .i64 50)), none⟩])
     (.keep [0, 1, 2, 7, 8, 41] [] (.cond (.tmp 41)
      (.seq (.region [⟨some 6, .move (.const (.bool false)), none⟩])
      (.keep [6] [] (.ret)))
      (.skip))))
    (.keep [0, 1, 2, 7, 8] [] (.seq (.regionD [⟨some 42, .move (.tmp 0), none⟩,
       ⟨some 43, .move (.tmp 7), none⟩,
       ⟨some 47, .move (.tmp 0), none⟩,
       ⟨some 48, .move (.tmp 7), none⟩,
       ⟨some 49, .bin .sub .none (.tmp 48) (.const (.int .i64 1)), none⟩,
       ⟨some 50, .indexAddr none 1 (.tmp 47) (.tmp 49), none⟩,
       ⟨some 51, .load false 1 (.tmp 50), none⟩,
       ⟨some 52, .move (.tmp 0), none⟩,
       ⟨some 53, .move (.tmp 7), none⟩,
       ⟨some 54, .indexAddr none 1 (.tmp 52) (.tmp 53), none⟩,
       ⟨some 55, .load false 1 (.tmp 54), none⟩,
       ⟨some 56, .indexAddr none 1 (.tmp 42) (.tmp 43), none⟩,
       ⟨none, .store 1 (.tmp 56) (.tmp 51), none⟩,
       ⟨some 44, .move (.tmp 0), none⟩,
       ⟨some 45, .move (.tmp 7), none⟩,
       ⟨some 46, .bin .sub .none (.tmp 45) (.const (.int .i64 1)), none⟩,
       ⟨some 57, .indexAddr none 1 (.tmp 44) (.tmp 46), none⟩,
       ⟨none, .store 1 (.tmp 57) (.tmp 55), none⟩] [])
    (.keep [0, 1, 2, 7, 8] [] (.seq (.seq (.region [⟨some 58, .move (.tmp 7), none⟩,
        ⟨some 59, .move (.tmp 1), none⟩,
        ⟨some 60, .bin .sub .none (.tmp 58) (.tmp 59), none⟩,
        ⟨some 61, .bin .geq .none (.tmp 60) (.const (.int .i64 2)), none⟩])
     (.keep [0, 1, 2, 7, 8, 61] [] (.cond (.tmp 61)
      (.seq (.region [⟨some 62, .move (.tmp 7), none⟩,
         ⟨some 63, .bin .sub .none (.tmp 62) (.const (.int .i64 1)), none⟩,
         ⟨some 9, .move (.tmp 63), none⟩])
      (.keep [0, 1, 2, 7, 8, 9] [] (.block 4 (.loop L85_1))))
      (.skip))))
    (.keep [0, 1, 2, 7, 8] [] (.seq (.region [⟨some 95, .move (.tmp 2), none⟩,
       ⟨some 96, .move (.tmp 7), none⟩,
       ⟨some 97, .bin .sub .none (.tmp 95) (.tmp 96), none⟩,
       ⟨some 98, .bin .geq .none (.tmp 97) (.const (.int .i64 2)), none⟩])
    (.keep [0, 1, 2, 7, 8, 98] [] (.cond (.tmp 98)
     (.seq (.region [⟨some 99, .move (.tmp 7), none⟩,
        ⟨some 100, .bin .add .none (.tmp 99) (.const (.int .i64 1)), none⟩,
        ⟨some 10, .move (.tmp 100), none⟩])
     (.keep [0, 1, 2, 7, 8, 10] [] (.block 6 (.loop L85_2))))
     (.skip)))))))))))))))
  (.keep [0, 1, 2, 7, 8] [] (.region [⟨some 15, .move (.tmp 8), none⟩,
    ⟨some 16, .bin .add .none (.tmp 15) (.const (.int .i64 1)), none⟩,
    ⟨some 8, .move (.tmp 16), none⟩])))))
def F85 : FnIR := ⟨133, 3, [.tmp 6], [],
  .seq (.region [⟨some 6, .move (.const (.bool false)), none⟩])
  (.keep [0, 1, 2] [] (.seq (.region [⟨some 11, .move (.tmp 1), none⟩,
     ⟨some 12, .bin .add .none (.tmp 11) (.const (.int .i64 1)), none⟩,
     ⟨some 7, .move (.tmp 12), none⟩])
  (.keep [0, 1, 2, 7] [] (.seq (.seq (.region [⟨some 8, .move (.const (.int .i64 0)), none⟩])
   (.keep [0, 1, 2, 7, 8] [] (.block 0 (.loop L85_3))))
  (.keep [] [] (.seq (.region [⟨some 6, .move (.const (.bool false)), none⟩])
  (.keep [6] [] (.ret))))))))⟩
/-- slices.partitionEqualOrdered[string] -/
def L87_0 : IC :=
  .keep [0, 1, 9, 10] [] (.seq (.seq (.regionD [⟨some 29, .move (.tmp 9), none⟩,
      ⟨some 30, .move (.tmp 10), none⟩,
      ⟨some 31, .bin .leq .none (.tmp 29) (.tmp 30), none⟩,
      ⟨some 32, .move (.tmp 31), none⟩,
      ⟨some 33, .move (.tmp 0), some (32, true)⟩,
      ⟨some 34, .move (.tmp 1), some (32, true)⟩,
      ⟨some 35, .indexAddr none 1 (.tmp 33) (.tmp 34), some (32, true)⟩,
      ⟨some 36, .load false 1 (.tmp 35), some (32, true)⟩,
      ⟨some 37, .move (.tmp 0), some (32, true)⟩,
      ⟨some 38, .move (.tmp 9), some (32, true)⟩,
      ⟨some 39, .indexAddr none 1 (.tmp 37) (.tmp 38), some (32, true)⟩,
      ⟨some 40, .load false 1 (.tmp 39), some (32, true)⟩,
      ⟨some 41, .call (.func 86) [(.tmp 36), (.tmp 40)], some (32, true)⟩,
      ⟨some 42, .un .not (.tmp 41), some (32, true)⟩,
      ⟨some 43, .pick (.tmp 32) (.tmp 42) (.const (.bool false)), none⟩] [])
   (.keep [0, 1, 9, 10, 43] [] (.cond (.tmp 43)
    (.skip)
    (.exit 2))))
  (.keep [0, 1, 9, 10] [] (.block 3 (.region [⟨some 44, .move (.tmp 9), none⟩,
     ⟨some 45, .bin .add .none (.tmp 44) (.const (.int .i64 1)), none⟩,
     ⟨some 9, .move (.tmp 45), none⟩]))))
def L87_1 : IC :=
  .keep [0, 1, 9, 10] [] (.seq (.seq (.regionD [⟨some 46, .move (.tmp 9), none⟩,
      ⟨some 47, .move (.tmp 10), none⟩,
      ⟨some 48, .bin .leq .none (.tmp 46) (.tmp 47), none⟩,
      ⟨some 49, .move (.tmp 48), none⟩,
      ⟨some 50, .move (.tmp 0), some (49, true)⟩,
      ⟨some 51, .move (.tmp 1), some (49, true)⟩,
      ⟨some 52, .indexAddr none 1 (.tmp 50) (.tmp 51), some (49, true)⟩,
      ⟨some 53, .load false 1 (.tmp 52), some (49, true)⟩,
      ⟨some 54, .move (.tmp 0), some (49, true)⟩,
      ⟨some 55, .move (.tmp 10), some (49, true)⟩,
      ⟨some 56, .indexAddr none 1 (.tmp 54) (.tmp 55), some (49, true)⟩,
      ⟨some 57, .load false 1 (.tmp 56), some (49, true)⟩,
      ⟨some 58, .call (.func 86) [(.tmp 53), (.tmp 57)], some (49, true)⟩,
      ⟨some 59, .pick (.tmp 49) (.tmp 58) (.const (.bool false)), none⟩] [])
   (.keep [0, 1, 9, 10, 59] [] (.cond (.tmp 59)
    (.skip)
    (.exit 4))))
  (.keep [0, 1, 9, 10] [] (.block 5 (.region [⟨some 60, .move (.tmp 10), none⟩,
     ⟨some 61, .bin .sub .none (.tmp 60) (.const (.int .i64 1)), none⟩,
     ⟨some 10, .move (.tmp 61), none⟩]))))
def L87_2 : IC :=
  .keep [0, 1, 9, 10] [] (.block 1 (.seq (.block 2 (.loop L87_0))
   (.keep [0, 1, 9, 10] [] (.seq (.block 4 (.loop L87_1))
   (.keep [0, 1, 9, 10] [] (.seq (.seq (.region [⟨some 62, .move (.tmp 9), none⟩,
       ⟨some 63, .move (.tmp 10), none⟩,
       ⟨some 64, .bin .gtr .none (.tmp 62) (.tmp 63), none⟩])
    (.keep [0, 1, 9, 10, 64] [] (.cond (.tmp 64)
     (.exit 0)
     (.skip))))
   (.keep [0, 1, 9, 10] [] (.seq (.regionD [⟨some 65, .move (.tmp 0), none⟩,
      ⟨some 66, .move (.tmp 9), none⟩,
      ⟨some 69, .move (.tmp 0), none⟩,
      ⟨some 70, .move (.tmp 10), none⟩,
      ⟨some 71, .indexAddr none 1 (.tmp 69) (.tmp 70), none⟩,
      ⟨some 72, .load false 1 (.tmp 71), none⟩,
      ⟨some 73, .move (.tmp 0), none⟩,
      ⟨some 74, .move (.tmp 9), none⟩,
      ⟨some 75, .indexAddr none 1 (.tmp 73) (.tmp 74), none⟩,
      ⟨some 76, .load false 1 (.tmp 75), none⟩,
      ⟨some 77, .indexAddr none 1 (.tmp 65) (.tmp 66), none⟩,
      ⟨none, .store 1 (.tmp 77) (.tmp 72), none⟩,
      ⟨some 67, .move (.tmp 0), none⟩,
      ⟨some 68, .move (.tmp 10), none⟩,
      ⟨some 78, .indexAddr none 1 (.tmp 67) (.tmp 68), none⟩,
      ⟨none, .store 1 (.tmp 78) (.tmp 76), none⟩] [])
   (.keep [0, 1, 9, 10] [] (.seq (.region [⟨some 79, .move (.tmp 9), none⟩,
      ⟨some 80, .bin .add .none (.tmp 79) (.const (.int .i64 1)), none⟩,
      ⟨some 9, .move (.tmp 80), none⟩])
   (.keep [0, 1, 9, 10] [] (.region [⟨some 81, .move (.tmp 10), none⟩,
     ⟨some 82, .bin .sub .none (.tmp 81) (.const (.int .i64 1)), none⟩,
     ⟨some 10, .move (.tmp 82), none⟩]))))))))))))
def F87 : FnIR := ⟨84, 4, [.tmp 8], [],
  .seq (.region [⟨some 8, .move (.const (.int .i64 0)), none⟩])
  (.keep [0, 1, 2, 3] [] (.seq (.regionD [⟨some 11, .move (.tmp 0), none⟩,
     ⟨some 12, .move (.tmp 1), none⟩,
     ⟨some 15, .move (.tmp 0), none⟩,
     ⟨some 16, .move (.tmp 3), none⟩,
     ⟨some 17, .indexAddr none 1 (.tmp 15) (.tmp 16), none⟩,
     ⟨some 18, .load false 1 (.tmp 17), none⟩,
     ⟨some 19, .move (.tmp 0), none⟩,
     ⟨some 20, .move (.tmp 1), none⟩,
     ⟨some 21, .indexAddr none 1 (.tmp 19) (.tmp 20), none⟩,
     ⟨some 22, .load false 1 (.tmp 21), none⟩,
     ⟨some 23, .indexAddr none 1 (.tmp 11) (.tmp 12), none⟩,
     ⟨none, .store 1 (.tmp 23) (.tmp 18), none⟩,
     ⟨some 13, .move (.tmp 0), none⟩,
     ⟨some 14, .move (.tmp 3), none⟩,
     ⟨some 24, .indexAddr none 1 (.tmp 13) (.tmp 14), none⟩,
     ⟨none, .store 1 (.tmp 24) (.tmp 22), none⟩] [])
  (.keep [0, 1, 2] [] (.seq (.region [⟨some 25, .move (.tmp 1), none⟩,
     ⟨some 26, .bin .add .none (.tmp 25) (.const (.int .i64 1)), none⟩,
     ⟨some 27, .move (.tmp 2), none⟩,
     ⟨some 28, .bin .sub .none (.tmp 27) (.const (.int .i64 1)), none⟩,
     ⟨some 9, .move (.tmp 26), none⟩,
     ⟨some 10, .move (.tmp 28), none⟩])
  (.keep [0, 1, 9, 10] [] (.seq (.block 0 (.loop L87_2))
  (.keep [9] [] (.seq (.region [⟨some 83, .move (.tmp 9), none⟩,
     ⟨some 8, .move (.tmp 83), none⟩])
  (.keep [8] [] (.ret))))))))))⟩
/-- slices.partitionOrdered[string] -/
def L88_0 : IC :=
  .keep [0, 1, 10, 11] [] (.seq (.seq (.regionD [⟨some 30, .move (.tmp 10), none⟩,
      ⟨some 31, .move (.tmp 11), none⟩,
      ⟨some 32, .bin .leq .none (.tmp 30) (.tmp 31), none⟩,
      ⟨some 33, .move (.tmp 32), none⟩,
      ⟨some 34, .move (.tmp 0), some (33, true)⟩,
      ⟨some 35, .move (.tmp 10), some (33, true)⟩,
      ⟨some 36, .indexAddr none 1 (.tmp 34) (.tmp 35), some (33, true)⟩,
      ⟨some 37, .load false 1 (.tmp 36), some (33, true)⟩,
      ⟨some 38, .move (.tmp 0), some (33, true)⟩,
      ⟨some 39, .move (.tmp 1), some (33, true)⟩,
      ⟨some 40, .indexAddr none 1 (.tmp 38) (.tmp 39), some (33, true)⟩,
      ⟨some 41, .load false 1 (.tmp 40), some (33, true)⟩,
      ⟨some 42, .call (.func 86) [(.tmp 37), (.tmp 41)], some (33, true)⟩,
      ⟨some 43, .pick (.tmp 33) (.tmp 42) (.const (.bool false)), none⟩] [])
   (.keep [0, 1, 10, 11, 43] [] (.cond (.tmp 43)
    (.skip)
    (.exit 0))))
  (.keep [0, 1, 10, 11] [] (.block 1 (.region [⟨some 44, .move (.tmp 10), none⟩,
     ⟨some 45, .bin .add .none (.tmp 44) (.const (.int .i64 1)), none⟩,
     ⟨some 10, .move (.tmp 45), none⟩]))))
def L88_1 : IC :=
  .keep [0, 1, 10, 11] [] (.seq (.seq (.regionD [⟨some 46, .move (.tmp 10), none⟩,
      ⟨some 47, .move (.tmp 11), none⟩,
      ⟨some 48, .bin .leq .none (.tmp 46) (.tmp 47), none⟩,
      ⟨some 49, .move (.tmp 48), none⟩,
      ⟨some 50, .move (.tmp 0), some (49, true)⟩,
      ⟨some 51, .move (.tmp 11), some (49, true)⟩,
      ⟨some 52, .indexAddr none 1 (.tmp 50) (.tmp 51), some (49, true)⟩,
      ⟨some 53, .load false 1 (.tmp 52), some (49, true)⟩,
      ⟨some 54, .move (.tmp 0), some (49, true)⟩,
      ⟨some 55, .move (.tmp 1), some (49, true)⟩,
      ⟨some 56, .indexAddr none 1 (.tmp 54) (.tmp 55), some (49, true)⟩,
      ⟨some 57, .load false 1 (.tmp 56), some (49, true)⟩,
      ⟨some 58, .call (.func 86) [(.tmp 53), (.tmp 57)], some (49, true)⟩,
      ⟨some 59, .un .not (.tmp 58), some (49, true)⟩,
      ⟨some 60, .pick (.tmp 49) (.tmp 59) (.const (.bool false)), none⟩] [])
   (.keep [0, 1, 10, 11, 60] [] (.cond (.tmp 60)
    (.skip)
    (.exit 2))))
  (.keep [0, 1, 10, 11] [] (.block 3 (.region [⟨some 61, .move (.tmp 11), none⟩,
     ⟨some 62, .bin .sub .none (.tmp 61) (.const (.int .i64 1)), none⟩,
     ⟨some 11, .move (.tmp 62), none⟩]))))
def L88_2 : IC :=
  .keep [0, 1, 10, 11] [] (.seq (.seq (.regionD [⟨some 99, .move (.tmp 10), none⟩,
      ⟨some 100, .move (.tmp 11), none⟩,
      ⟨some 101, .bin .leq .none (.tmp 99) (.tmp 100), none⟩,
      ⟨some 102, .move (.tmp 101), none⟩,
      ⟨some 103, .move (.tmp 0), some (102, true)⟩,
      ⟨some 104, .move (.tmp 10), some (102, true)⟩,
      ⟨some 105, .indexAddr none 1 (.tmp 103) (.tmp 104), some (102, true)⟩,
      ⟨some 106, .load false 1 (.tmp 105), some (102, true)⟩,
      ⟨some 107, .move (.tmp 0), some (102, true)⟩,
      ⟨some 108, .move (.tmp 1), some (102, true)⟩,
      ⟨some 109, .indexAddr none 1 (.tmp 107) (.tmp 108), some (102, true)⟩,
      ⟨some 110, .load false 1 (.tmp 109), some (102, true)⟩,
      ⟨some 111, .call (.func 86) [(.tmp 106), (.tmp 110)], some (102, true)⟩,
      ⟨some 112, .pick (.tmp 102) (.tmp 111) (.const (.bool false)), none⟩] [])
   (.keep [0, 1, 10, 11, 112] [] (.cond (.tmp 112)
    (.skip)
    (.exit 6))))
  (.keep [0, 1, 10, 11] [] (.block 7 (.region [⟨some 113, .move (.tmp 10), none⟩,
     ⟨some 114, .bin .add .none (.tmp 113) (.const (.int .i64 1)), none⟩,
     ⟨some 10, .move (.tmp 114), none⟩]))))
def L88_3 : IC :=
  .keep [0, 1, 10, 11] [] (.seq (.seq (.regionD [⟨some 115, .move (.tmp 10), none⟩,
      ⟨some 116, .move (.tmp 11), none⟩,
      ⟨some 117, .bin .leq .none (.tmp 115) (.tmp 116), none⟩,
      ⟨some 118, .move (.tmp 117), none⟩,
      ⟨some 119, .move (.tmp 0), some (118, true)⟩,
      ⟨some 120, .move (.tmp 11), some (118, true)⟩,
      ⟨some 121, .indexAddr none 1 (.tmp 119) (.tmp 120), some (118, true)⟩,
      ⟨some 122, .load false 1 (.tmp 121), some (118, true)⟩,
      ⟨some 123, .move (.tmp 0), some (118, true)⟩,
      ⟨some 124, .move (.tmp 1), some (118, true)⟩,
      ⟨some 125, .indexAddr none 1 (.tmp 123) (.tmp 124), some (118, true)⟩,
      ⟨some 126, .load false 1 (.tmp 125), some (118, true)⟩,
      ⟨some 127, .call (.func 86) [(.tmp 122), (.tmp 126)], some (118, true)⟩,
      ⟨some 128, .un .not (.tmp 127), some (118, true)⟩,
      ⟨some 129, .pick (.tmp 118) (.tmp 128) (.const (.bool false)), none⟩] [])
   (.keep [0, 1, 10, 11, 129] [] (.cond (.tmp 129)
    (.skip)
    (.exit 8))))
  (.keep [0, 1, 10, 11] [] (.block 9 (.region [⟨some 130, .move (.tmp 11), none⟩,
     ⟨some 131, .bin .sub .none (.tmp 130) (.const (.int .i64 1)), none⟩,
     ⟨some 11, .move (.tmp 131), none⟩]))))
def L88_4 : IC :=
  .keep [0, 1, 10, 11] [] (.block 5 (.seq (.block 6 (.loop L88_2))
   (.keep [0, 1, 10, 11] [] (.seq (.block 8 (.loop L88_3))
   (.keep [0, 1, 10, 11] [] (.seq (.seq (.region [⟨some 132, .move (.tmp 10), none⟩,
       ⟨some 133, .move (.tmp 11), none⟩,
       ⟨some 134, .bin .gtr .none (.tmp 132) (.tmp 133), none⟩])
    (.keep [0, 1, 10, 11, 134] [] (.cond (.tmp 134)
     (.exit 4)
     (.skip))))
   (.keep [0, 1, 10, 11] [] (.seq (.regionD [⟨some 135, .move (.tmp 0), none⟩,
      ⟨some 136, .move (.tmp 10), none⟩,
      ⟨some 139, .move (.tmp 0), none⟩,
      ⟨some 140, .move (.tmp 11), none⟩,
      ⟨some 141, .indexAddr none 1 (.tmp 139) (.tmp 140), none⟩,
      ⟨some 142, .load false 1 (.tmp 141), none⟩,
      ⟨some 143, .move (.tmp 0), none⟩,
      ⟨some 144, .move (.tmp 10), none⟩,
      ⟨some 145, .indexAddr none 1 (.tmp 143) (.tmp 144), none⟩,
      ⟨some 146, .load false 1 (.tmp 145), none⟩,
      ⟨some 147, .indexAddr none 1 (.tmp 135) (.tmp 136), none⟩,
      ⟨none, .store 1 (.tmp 147) (.tmp 142), none⟩,
      ⟨some 137, .move (.tmp 0), none⟩,
      ⟨some 138, .move (.tmp 11), none⟩,
      ⟨some 148, .indexAddr none 1 (.tmp 137) (.tmp 138), none⟩,
      ⟨none, .store 1 (.tmp 148) (.tmp 146), none⟩] [])
   (.keep [0, 1, 10, 11] [] (.seq (.region [⟨some 149, .move (.tmp 10), none⟩,
      ⟨some 150, .bin .add .none (.tmp 149) (.const (.int .i64 1)), none⟩,
      ⟨some 10, .move (.tmp 150), none⟩])
   (.keep [0, 1, 10, 11] [] (.region [⟨some 151, .move (.tmp 11), none⟩,
     ⟨some 152, .bin .sub .none (.tmp 151) (.const (.int .i64 1)), none⟩,
     ⟨some 11, .move (.tmp 152), none⟩]))))))))))))
def F88 : FnIR := ⟨168, 4, [.tmp 8, .tmp 9], [],
  .seq (.region [⟨some 8, .move (.const (.int .i64 0)), none⟩,
     ⟨some 9, .move (.const (.bool false)), none⟩])
  (.keep [0, 1, 2, 3] [] (.seq (.regionD [⟨some 12, .move (.tmp 0), none⟩,
     ⟨some 13, .move (.tmp 1), none⟩,
     ⟨some 16, .move (.tmp 0), none⟩,
     ⟨some 17, .move (.tmp 3), none⟩,
     ⟨some 18, .indexAddr none 1 (.tmp 16) (.tmp 17), none⟩,
     ⟨some 19, .load false 1 (.tmp 18), none⟩,
     ⟨some 20, .move (.tmp 0), none⟩,
     ⟨some 21, .move (.tmp 1), none⟩,
     ⟨some 22, .indexAddr none 1 (.tmp 20) (.tmp 21), none⟩,
     ⟨some 23, .load false 1 (.tmp 22), none⟩,
     ⟨some 24, .indexAddr none 1 (.tmp 12) (.tmp 13), none⟩,
     ⟨none, .store 1 (.tmp 24) (.tmp 19), none⟩,
     ⟨some 14, .move (.tmp 0), none⟩,
     ⟨some 15, .move (.tmp 3), none⟩,
     ⟨some 25, .indexAddr none 1 (.tmp 14) (.tmp 15), none⟩,
     ⟨none, .store 1 (.tmp 25) (.tmp 23), none⟩] [])
  (.keep [0, 1, 2] [] (.seq (.region [⟨some 26, .move (.tmp 1), none⟩,
     ⟨some 27, .bin .add .none (.tmp 26) (.const (.int .i64 1)), none⟩,
     ⟨some 28, .move (.tmp 2), none⟩,
     ⟨some 29, .bin .sub .none (.tmp 28) (.const (.int .i64 1)), none⟩,
     ⟨some 10, .move (.tmp 27), none⟩,
     ⟨some 11, .move (.tmp 29), none⟩])
  (.keep [0, 1, 10, 11] [] (.seq (.block 0 (.loop L88_0))
  (.keep [0, 1, 10, 11] [] (.seq (.block 2 (.loop L88_1))
  (.keep [0, 1, 10, 11] [] (.seq (.seq (.region [⟨some 63, .move (.tmp 10), none⟩,
      ⟨some 64, .move (.tmp 11), none⟩,
      ⟨some 65, .bin .gtr .none (.tmp 63) (.tmp 64), none⟩])
   (.keep [0, 1, 10, 11, 65] [] (.cond (.tmp 65)
    (.seq (.regionD [⟨some 66, .move (.tmp 0), none⟩,
       ⟨some 67, .move (.tmp 11), none⟩,
       ⟨some 70, .move (.tmp 0), none⟩,
       ⟨some 71, .move (.tmp 1), none⟩,
       ⟨some 72, .indexAddr none 1 (.tmp 70) (.tmp 71), none⟩,
       ⟨some 73, .load false 1 (.tmp 72), none⟩,
       ⟨some 74, .move (.tmp 0), none⟩,
       ⟨some 75, .move (.tmp 11), none⟩,
       ⟨some 76, .indexAddr none 1 (.tmp 74) (.tmp 75), none⟩,
       ⟨some 77, .load false 1 (.tmp 76), none⟩,
       ⟨some 78, .indexAddr none 1 (.tmp 66) (.tmp 67), none⟩,
       ⟨none, .store 1 (.tmp 78) (.tmp 73), none⟩,
       ⟨some 68, .move (.tmp 0), none⟩,
       ⟨some 69, .move (.tmp 1), none⟩,
       ⟨some 79, .indexAddr none 1 (.tmp 68) (.tmp 69), none⟩,
       ⟨none, .store 1 (.tmp 79) (.tmp 77), none⟩] [])
    (.keep [11] [] (.seq (.region [⟨some 80, .move (.tmp 11), none⟩,
       ⟨some 8, .move (.tmp 80), none⟩,
       ⟨some 9, .move (.const (.bool true)), none⟩])
    (.keep [8, 9] [] (.ret)))))
    (.skip))))
  (.keep [0, 1, 10, 11] [] (.seq (.regionD [⟨some 81, .move (.tmp 0), none⟩,
     ⟨some 82, .move (.tmp 10), none⟩,
     ⟨some 85, .move (.tmp 0), none⟩,
     ⟨some 86, .move (.tmp 11), none⟩,
     ⟨some 87, .indexAddr none 1 (.tmp 85) (.tmp 86), none⟩,
     ⟨some 88, .load false 1 (.tmp 87), none⟩,
     ⟨some 89, .move (.tmp 0), none⟩,
     ⟨some 90, .move (.tmp 10), none⟩,
     ⟨some 91, .indexAddr none 1 (.tmp 89) (.tmp 90), none⟩,
     ⟨some 92, .load false 1 (.tmp 91), none⟩,
     ⟨some 93, .indexAddr none 1 (.tmp 81) (.tmp 82), none⟩,
     ⟨none, .store 1 (.tmp 93) (.tmp 88), none⟩,
     ⟨some 83, .move (.tmp 0), none⟩,
     ⟨some 84, .move (.tmp 11), none⟩,
     ⟨some 94, .indexAddr none 1 (.tmp 83) (.tmp 84), none⟩,
     ⟨none, .store 1 (.tmp 94) (.tmp 92), none⟩] [])
  (.keep [0, 1, 10, 11] [] (.seq (.region [⟨some 95, .move (.tmp 10), none⟩,
     ⟨some 96, .bin .add .none (.tmp 95) (.const (.int .i64 1)), none⟩,
     ⟨some 10, .move (.tmp 96), none⟩])
  (.keep [0, 1, 10, 11] [] (.seq (.region [⟨some 97, .move (.tmp 11), none⟩,
     ⟨some 98, .bin .sub .none (.tmp 97) (.const (.int .i64 1)), none⟩,
     ⟨some 11, .move (.tmp 98), none⟩])
  (.keep [0, 1, 10, 11] [] (.seq (.block 4 (.loop L88_4))
  (.keep [0, 1, 11] [] (.seq (.regionD [⟨some 153, .move (.tmp 0), none⟩,
     ⟨some 154, .move (.tmp 11), none⟩,
     ⟨some 157, .move (.tmp 0), none⟩,
     ⟨some 158, .move (.tmp 1), none⟩,
     ⟨some 159, .indexAddr none 1 (.tmp 157) (.tmp 158), none⟩,
     ⟨some 160, .load false 1 (.tmp 159), none⟩,
     ⟨some 161, .move (.tmp 0), none⟩,
     ⟨some 162, .move (.tmp 11), none⟩,
     ⟨some 163, .indexAddr none 1 (.tmp 161) (.tmp 162), none⟩,
     ⟨some 164, .load false 1 (.tmp 163), none⟩,
     ⟨some 165, .indexAddr none 1 (.tmp 153) (.tmp 154), none⟩,
     ⟨none, .store 1 (.tmp 165) (.tmp 160), none⟩,
     ⟨some 155, .move (.tmp 0), none⟩,
     ⟨some 156, .move (.tmp 1), none⟩,
     ⟨some 166, .indexAddr none 1 (.tmp 155) (.tmp 156), none⟩,
     ⟨none, .store 1 (.tmp 166) (.tmp 164), none⟩] [])
  (.keep [11] [] (.seq (.region [⟨some 167, .move (.tmp 11), none⟩,
     ⟨some 8, .move (.tmp 167), none⟩,
     ⟨some 9, .move (.const (.bool false)), none⟩])
  (.keep [8, 9] [] (.ret))))))))))))))))))))))))⟩
/-- wampum/span.Has -/
def F57 : FnIR := ⟨32, 2, [.tmp 4], [2],
  .seq (.region [⟨some 2, .box true 2 (.tmp 0), none⟩,
     ⟨some 4, .move (.const (.bool false)), none⟩])
  (.keep [1, 2] [2] (.seq (.block 0 (.seq (.region [⟨some 6, .load true 2 (.tmp 2), none⟩,
       ⟨some 7, .call (.func 55) [(.tmp 6)], none⟩,
       ⟨some 8, .un .not (.tmp 7), none⟩,
       ⟨some 9, .move (.tmp 8), none⟩,
       ⟨some 10, .move (.tmp 1), some (9, false)⟩,
       ⟨some 11, .call (.func 26) [(.tmp 10)], some (9, false)⟩,
       ⟨some 12, .un .not (.tmp 11), some (9, false)⟩,
       ⟨some 13, .pick (.tmp 9) (.const (.bool true)) (.tmp 12), none⟩,
       ⟨some 5, .move (.tmp 13), none⟩])
    (.keep [1, 2, 5] [2] (.cond (.tmp 5)
     (.seq (.region [⟨some 4, .move (.const (.bool false)), none⟩])
     (.keep [4] [] (.ret)))
     (.seq (.region [⟨some 15, .fieldAddr 1 (.tmp 2), none⟩,
        ⟨some 16, .load false 1 (.tmp 15), none⟩,
        ⟨some 17, .bin .eql .str (.tmp 16) (.const (.str [])), none⟩,
        ⟨some 14, .move (.tmp 17), none⟩])
     (.keep [1, 2, 14] [2] (.cond (.tmp 14)
      (.seq (.region [⟨some 18, .move (.tmp 1), none⟩,
         ⟨some 19, .fieldAddr 0 (.tmp 2), none⟩,
         ⟨some 20, .load false 1 (.tmp 19), none⟩,
         ⟨some 21, .bin .eql .str (.tmp 18) (.tmp 20), none⟩,
         ⟨some 4, .move (.tmp 21), none⟩])
      (.keep [4] [] (.ret)))
      (.skip))))))))
  (.keep [1, 2] [2] (.seq (.region [⟨some 22, .fieldAddr 0 (.tmp 2), none⟩,
     ⟨some 23, .load false 1 (.tmp 22), none⟩,
     ⟨some 24, .move (.tmp 1), none⟩,
     ⟨some 25, .bin .leq .none (.tmp 23) (.tmp 24), none⟩,
     ⟨some 26, .move (.tmp 25), none⟩,
     ⟨some 27, .move (.tmp 1), some (26, true)⟩,
     ⟨some 28, .fieldAddr 1 (.tmp 2), some (26, true)⟩,
     ⟨some 29, .load false 1 (.tmp 28), some (26, true)⟩,
     ⟨some 30, .bin .lss .none (.tmp 27) (.tmp 29), some (26, true)⟩,
     ⟨some 31, .pick (.tmp 26) (.tmp 30) (.const (.bool false)), none⟩,
     ⟨some 4, .move (.tmp 31), none⟩])
  (.keep [4] [] (.ret))))))⟩
/-- wampum/version.Read -/
def F37 : FnIR := ⟨107, 5, [.cell 10 true 5, .tmp 11, .cell 12 true 5, .tmp 13], [5, 6, 7, 10, 12, 14],
  .seq (.region [⟨some 5, .box true 12 (.tmp 0), none⟩,
     ⟨some 6, .box true 2 (.tmp 1), none⟩,
     ⟨some 7, .box true 2 (.tmp 2), none⟩,
     ⟨some 10, .alloc true 5 [(.int .i64 0), (.int .i64 0), (.str []), (.bool false), (.int .i64 0)], none⟩,
     ⟨some 11, .move (.const (.bool false)), none⟩,
     ⟨some 12, .alloc true 5 [(.int .i64 0), (.int .i64 0), (.str []), (.int .i64 0), (.int .i64 0)], none⟩,
     ⟨some 13, .move (.const (.int .i64 0)), none⟩])
  (.keep [3, 4, 5, 6, 7, 10, 11, 12] [5, 6, 7, 10, 12] (.seq (.region [⟨some 17, .fieldAddr 2 (.tmp 5), none⟩,
     ⟨some 18, .load true 10 (.tmp 17), none⟩,
     ⟨some 14, .alloc true 10 [(.int .i64 0), (.int .i64 0), (.str []), (.int .i64 0), (.int .i64 0), (.int .i64 0), (.int .i64 0), (.int .i64 0), (.str []), (.bool false)], none⟩,
     ⟨none, .store 10 (.tmp 14) (.tmp 18), none⟩])
  (.keep [3, 4, 5, 6, 7, 10, 11, 12, 14] [5, 6, 7, 10, 12, 14] (.seq (.block 0 (.seq (.region [⟨some 20, .fieldAddr 1 (.tmp 5), none⟩,
       ⟨some 21, .load false 1 (.tmp 20), none⟩,
       ⟨some 22, .move (.tmp 21), none⟩,
       ⟨some 23, .fieldAddr 0 (.tmp 14), some (22, true)⟩,
       ⟨some 24, .fieldAddr 0 (.tmp 23), some (22, true)⟩,
       ⟨some 25, .load false 1 (.tmp 24), some (22, true)⟩,
       ⟨some 26, .move (.tmp 3), some (22, true)⟩,
       ⟨some 27, .bin .eql .int (.tmp 25) (.tmp 26), some (22, true)⟩,
       ⟨some 28, .pick (.tmp 22) (.tmp 27) (.const (.bool false)), none⟩,
       ⟨some 29, .move (.tmp 28), none⟩,
       ⟨some 30, .fieldAddr 0 (.tmp 14), some (29, true)⟩,
       ⟨some 31, .fieldAddr 1 (.tmp 30), some (29, true)⟩,
       ⟨some 32, .load false 1 (.tmp 31), some (29, true)⟩,
       ⟨some 33, .move (.tmp 4), some (29, true)⟩,
       ⟨some 34, .bin .eql .int (.tmp 32) (.tmp 33), some (29, true)⟩,
       ⟨some 35, .pick (.tmp 29) (.tmp 34) (.const (.bool false)), none⟩,
       ⟨some 19, .move (.tmp 35), none⟩])
    (.keep [3, 5, 6, 7, 10, 11, 12, 14, 19] [5, 6, 7, 10, 12, 14] (.cond (.tmp 19)
     (.seq (.seq (.region [⟨some 36, .fieldAddr 9 (.tmp 14), none⟩,
         ⟨some 37, .load false 1 (.tmp 36), none⟩,
         ⟨some 38, .un .not (.tmp 37), none⟩])
      (.keep [3, 10, 11, 12, 14, 38] [10, 12, 14] (.cond (.tmp 38)
       (.region [⟨some 39, .fieldAddr 6 (.tmp 14), none⟩,
         ⟨some 40, .load true 2 (.tmp 39), none⟩,
         ⟨some 41, .fieldAddr 8 (.tmp 14), none⟩,
         ⟨some 42, .load false 1 (.tmp 41), none⟩,
         ⟨some 43, .move (.tmp 3), none⟩,
         ⟨some 44, .build [(.int .i64 0), (.int .i64 0), (.str []), (.bool false), (.int .i64 0)] [(0, 2, (.tmp 40)), (2, 1, (.tmp 42)), (4, 1, (.tmp 43))], none⟩,
         ⟨none, .store 5 (.tmp 10) (.tmp 44), none⟩,
         ⟨some 11, .move (.const (.bool true)), none⟩])
       (.skip))))
     (.keep [10, 11, 12] [10, 12] (.seq (.regionD [⟨some 45, .load true 5 (.tmp 10), none⟩,
        ⟨none, .store 5 (.tmp 10) (.tmp 45), none⟩,
        ⟨some 46, .move (.tmp 11), none⟩,
        ⟨some 47, .load true 5 (.tmp 12), none⟩,
        ⟨some 11, .move (.tmp 46), none⟩,
        ⟨none, .store 5 (.tmp 12) (.tmp 47), none⟩,
        ⟨some 13, .move (.const (.int .i64 0)), none⟩] [(3, 0)])
     (.keep [10, 11, 12, 13] [10, 12] (.ret)))))
     (.seq (.region [⟨some 49, .fieldAddr 1 (.tmp 5), none⟩,
        ⟨some 50, .load false 1 (.tmp 49), none⟩,
        ⟨some 51, .move (.tmp 50), none⟩,
        ⟨some 52, .fieldAddr 0 (.tmp 14), some (51, true)⟩,
        ⟨some 53, .fieldAddr 0 (.tmp 52), some (51, true)⟩,
        ⟨some 54, .load false 1 (.tmp 53), some (51, true)⟩,
        ⟨some 55, .move (.tmp 3), some (51, true)⟩,
        ⟨some 56, .bin .neq .int (.tmp 54) (.tmp 55), some (51, true)⟩,
        ⟨some 57, .pick (.tmp 51) (.tmp 56) (.const (.bool false)), none⟩,
        ⟨some 58, .move (.tmp 57), none⟩,
        ⟨some 59, .fieldAddr 6 (.tmp 14), some (58, true)⟩,
        ⟨some 60, .load true 2 (.tmp 59), some (58, true)⟩,
        ⟨some 61, .load true 2 (.tmp 7), some (58, true)⟩,
        ⟨some 62, .call (.func 60) [(.tmp 60), (.tmp 61)], some (58, true)⟩,
        ⟨some 63, .pick (.tmp 58) (.tmp 62) (.const (.bool false)), none⟩,
        ⟨some 48, .move (.tmp 63), none⟩])
     (.keep [5, 6, 7, 10, 12, 14, 48] [5, 6, 7, 10, 12, 14] (.cond (.tmp 48)
      (.seq (.regionD [⟨some 64, .load true 5 (.tmp 10), none⟩,
         ⟨none, .store 5 (.tmp 10) (.tmp 64), none⟩,
         ⟨some 65, .fieldAddr 0 (.tmp 14), none⟩,
         ⟨some 66, .load true 5 (.tmp 65), none⟩,
         ⟨some 11, .move (.const (.bool false)), none⟩,
         ⟨none, .store 5 (.tmp 12) (.tmp 66), none⟩,
         ⟨some 13, .move (.const (.int .i64 81)), none⟩] [(3, 0)])
      (.keep [10, 11, 12, 13] [10, 12] (.ret)))
      (.skip))))))))
  (.keep [5, 6, 7, 10, 12] [5, 6, 7, 10, 12] (.seq (.regionD [⟨some 67, .load true 12 (.tmp 5), none⟩,
     ⟨some 68, .load true 2 (.tmp 6), none⟩,
     ⟨some 69, .call (.func 64) [(.tmp 67), (.tmp 68)], none⟩,
     ⟨some 70, .load true 12 (.tmp 5), none⟩,
     ⟨some 71, .load true 2 (.tmp 7), none⟩,
     ⟨some 72, .call (.func 64) [(.tmp 70), (.tmp 71)], none⟩,
     ⟨some 15, .move (.tmp 69), none⟩,
     ⟨some 16, .move (.tmp 72), none⟩] [(3, 0), (4, 0)])
  (.keep [5, 10, 12, 15, 16] [5, 10, 12] (.seq (.block 1 (.seq (.region [⟨some 74, .move (.tmp 16), none⟩,
       ⟨some 75, .move (.tmp 15), none⟩,
       ⟨some 76, .bin .gtr .none (.tmp 74) (.tmp 75), none⟩,
       ⟨some 73, .move (.tmp 76), none⟩])
    (.keep [5, 10, 12, 15, 16, 73] [5, 10, 12] (.cond (.tmp 73)
     (.seq (.regionD [⟨some 77, .fieldAddr 0 (.tmp 5), none⟩,
        ⟨some 78, .load false 1 (.tmp 77), none⟩,
        ⟨some 79, .move (.tmp 16), none⟩,
        ⟨some 80, .bin .sub .none (.tmp 79) (.const (.int .i64 1)), none⟩,
        ⟨some 81, .indexAddr none 5 (.tmp 78) (.tmp 80), none⟩,
        ⟨some 82, .fieldAddr 0 (.tmp 81), none⟩,
        ⟨some 83, .load true 2 (.tmp 82), none⟩,
        ⟨some 84, .build [(.int .i64 0), (.int .i64 0), (.str []), (.bool false), (.int .i64 0)] [(0, 2, (.tmp 83))], none⟩,
        ⟨none, .store 5 (.tmp 10) (.tmp 84), none⟩,
        ⟨some 85, .load true 5 (.tmp 12), none⟩,
        ⟨some 11, .move (.const (.bool false)), none⟩,
        ⟨none, .store 5 (.tmp 12) (.tmp 85), none⟩,
        ⟨some 13, .move (.const (.int .i64 82)), none⟩] [(9, 0)])
     (.keep [10, 11, 12, 13] [10, 12] (.ret)))
     (.seq (.region [⟨some 87, .move (.tmp 15), none⟩,
        ⟨some 88, .bin .eql .int (.tmp 87) (.const (.int .i64 0)), none⟩,
        ⟨some 89, .move (.tmp 88), none⟩,
        ⟨some 90, .fieldAddr 0 (.tmp 5), some (89, false)⟩,
        ⟨some 91, .load false 1 (.tmp 90), some (89, false)⟩,
        ⟨some 92, .move (.tmp 15), some (89, false)⟩,
        ⟨some 93, .bin .sub .none (.tmp 92) (.const (.int .i64 1)), some (89, false)⟩,
        ⟨some 94, .indexAddr none 5 (.tmp 91) (.tmp 93), some (89, false)⟩,
        ⟨some 95, .fieldAddr 3 (.tmp 94), some (89, false)⟩,
        ⟨some 96, .load false 1 (.tmp 95), some (89, false)⟩,
        ⟨some 97, .pick (.tmp 89) (.const (.bool true)) (.tmp 96), none⟩,
        ⟨some 86, .move (.tmp 97), none⟩])
     (.keep [5, 10, 12, 15, 86] [5, 10, 12] (.cond (.tmp 86)
      (.seq (.regionD [⟨some 98, .load true 5 (.tmp 10), none⟩,
         ⟨none, .store 5 (.tmp 10) (.tmp 98), none⟩,
         ⟨some 99, .load true 5 (.tmp 12), none⟩,
         ⟨some 11, .move (.const (.bool false)), none⟩,
         ⟨none, .store 5 (.tmp 12) (.tmp 99), none⟩,
         ⟨some 13, .move (.const (.int .i64 0)), none⟩] [(2, 0)])
      (.keep [10, 11, 12, 13] [10, 12] (.ret)))
      (.skip))))))))
  (.keep [5, 10, 12, 15] [5, 10, 12] (.seq (.regionD [⟨some 100, .fieldAddr 0 (.tmp 5), none⟩,
     ⟨some 101, .load false 1 (.tmp 100), none⟩,
     ⟨some 102, .move (.tmp 15), none⟩,
     ⟨some 103, .bin .sub .none (.tmp 102) (.const (.int .i64 1)), none⟩,
     ⟨some 104, .indexAddr none 5 (.tmp 101) (.tmp 103), none⟩,
     ⟨some 105, .load true 5 (.tmp 104), none⟩,
     ⟨none, .store 5 (.tmp 10) (.tmp 105), none⟩,
     ⟨some 106, .load true 5 (.tmp 12), none⟩,
     ⟨some 11, .move (.const (.bool true)), none⟩,
     ⟨none, .store 5 (.tmp 12) (.tmp 106), none⟩,
     ⟨some 13, .move (.const (.int .i64 0)), none⟩] [(7, 0)])
  (.keep [10, 11, 12, 13] [10, 12] (.ret))))))))))))⟩
/-- wampum/version.upto -/
def F60 : FnIR := ⟨9, 2, [.tmp 4], [2, 3],
  .seq (.region [⟨some 2, .box true 2 (.tmp 0), none⟩,
     ⟨some 3, .box true 2 (.tmp 1), none⟩,
     ⟨some 4, .move (.const (.bool false)), none⟩])
  (.keep [2, 3] [2, 3] (.seq (.region [⟨some 5, .load true 2 (.tmp 3), none⟩,
     ⟨some 6, .load true 2 (.tmp 2), none⟩,
     ⟨some 7, .call (.func 72) [(.tmp 5), (.tmp 6)], none⟩,
     ⟨some 8, .un .not (.tmp 7), none⟩,
     ⟨some 4, .move (.tmp 8), none⟩])
  (.keep [4] [] (.ret))))⟩
/-- wampum/version.above -/
def F64 : FnIR := ⟨15, 2, [.tmp 4], [2, 3],
  .seq (.region [⟨some 2, .box true 12 (.tmp 0), none⟩,
     ⟨some 3, .box true 2 (.tmp 1), none⟩,
     ⟨some 4, .move (.const (.int .i64 0)), none⟩])
  (.keep [2, 3] [2, 3] (.seq (.region [⟨some 8, .fieldAddr 0 (.tmp 2), none⟩,
     ⟨some 9, .load false 1 (.tmp 8), none⟩,
     ⟨some 10, .load true 2 (.tmp 3), none⟩,
     ⟨some 11, .call (.func 76) [(.tmp 9), (.tmp 10), (.func 77)], none⟩,
     ⟨some 7, .move (.tmp 11), none⟩,
     ⟨some 12, .extract (.tmp 7) 0, none⟩,
     ⟨some 13, .extract (.tmp 7) 1, none⟩,
     ⟨some 5, .move (.tmp 12), none⟩,
     ⟨some 6, .move (.tmp 13), none⟩])
  (.keep [5] [] (.seq (.region [⟨some 14, .move (.tmp 5), none⟩,
     ⟨some 4, .move (.tmp 14), none⟩])
  (.keep [4] [] (.ret))))))⟩
/-- slices.BinarySearchFunc[[]wampum/api.Version,wampum/api.Version,wampum/api.Stamp] -/
def L76_0 : IC :=
  .keep [0, 2, 4, 8, 9, 10] [4] (.seq (.seq (.region [⟨some 15, .move (.tmp 9), none⟩,
      ⟨some 16, .move (.tmp 10), none⟩,
      ⟨some 17, .bin .lss .none (.tmp 15) (.tmp 16), none⟩])
   (.keep [0, 2, 4, 8, 9, 10, 17] [4] (.cond (.tmp 17)
    (.skip)
    (.exit 0))))
  (.keep [0, 2, 4, 8, 9, 10] [4] (.block 1 (.seq (.region [⟨some 18, .move (.tmp 9), none⟩,
      ⟨some 19, .move (.tmp 10), none⟩,
      ⟨some 20, .bin .add .none (.tmp 18) (.tmp 19), none⟩,
      ⟨some 21, .conv (.toInt .u64) (.tmp 20), none⟩,
      ⟨some 22, .bin .shr .none (.tmp 21) (.const (.int .u64 1)), none⟩,
      ⟨some 23, .conv (.toInt .i64) (.tmp 22), none⟩,
      ⟨some 11, .move (.tmp 23), none⟩])
   (.keep [0, 2, 4, 8, 9, 10, 11] [4] (.seq (.regionD [⟨some 24, .move (.tmp 2), none⟩,
      ⟨some 25, .move (.tmp 0), none⟩,
      ⟨some 26, .move (.tmp 11), none⟩,
      ⟨some 27, .indexAddr none 5 (.tmp 25) (.tmp 26), none⟩,
      ⟨some 28, .load true 5 (.tmp 27), none⟩,
      ⟨some 29, .load true 2 (.tmp 4), none⟩,
      ⟨some 30, .call (.tmp 24) [(.tmp 28), (.tmp 29)], none⟩,
      ⟨some 31, .bin .lss .none (.tmp 30) (.const (.int .i64 0)), none⟩] [])
   (.keep [0, 2, 4, 8, 9, 10, 11, 31] [4] (.cond (.tmp 31)
    (.region [⟨some 32, .move (.tmp 11), none⟩,
      ⟨some 33, .bin .add .none (.tmp 32) (.const (.int .i64 1)), none⟩,
      ⟨some 9, .move (.tmp 33), none⟩])
    (.region [⟨some 34, .move (.tmp 11), none⟩,
      ⟨some 10, .move (.tmp 34), none⟩])))))))))
def F76 : FnIR := ⟨49, 3, [.tmp 6, .tmp 7], [4],
  .seq (.region [⟨some 4, .box true 2 (.tmp 1), none⟩,
     ⟨some 6, .move (.const (.int .i64 0)), none⟩,
     ⟨some 7, .move (.const (.bool false)), none⟩])
  (.keep [0, 2, 4] [4] (.seq (.region [⟨some 12, .move (.tmp 0), none⟩,
     ⟨some 13, .len .slice (.tmp 12), none⟩,
     ⟨some 8, .move (.tmp 13), none⟩])
  (.keep [0, 2, 4, 8] [4] (.seq (.region [⟨some 14, .move (.tmp 8), none⟩,
     ⟨some 9, .move (.const (.int .i64 0)), none⟩,
     ⟨some 10, .move (.tmp 14), none⟩])
  (.keep [0, 2, 4, 8, 9, 10] [4] (.seq (.block 0 (.loop L76_0))
  (.keep [0, 2, 4, 8, 9] [4] (.seq (.regionD [⟨some 36, .move (.tmp 9), none⟩,
     ⟨some 37, .move (.tmp 8), none⟩,
     ⟨some 38, .bin .lss .none (.tmp 36) (.tmp 37), none⟩,
     ⟨some 39, .move (.tmp 38), none⟩,
     ⟨some 40, .move (.tmp 2), some (39, true)⟩,
     ⟨some 41, .move (.tmp 0), some (39, true)⟩,
     ⟨some 42, .move (.tmp 9), some (39, true)⟩,
     ⟨some 43, .indexAddr none 5 (.tmp 41) (.tmp 42), some (39, true)⟩,
     ⟨some 44, .load true 5 (.tmp 43), some (39, true)⟩,
     ⟨some 45, .load true 2 (.tmp 4), some (39, true)⟩,
     ⟨some 46, .call (.tmp 40) [(.tmp 44), (.tmp 45)], some (39, true)⟩,
     ⟨some 35, .move (.tmp 9), none⟩,
     ⟨some 47, .bin .eql .int (.tmp 46) (.const (.int .i64 0)), some (39, true)⟩,
     ⟨some 48, .pick (.tmp 39) (.tmp 47) (.const (.bool false)), none⟩,
     ⟨some 6, .move (.tmp 35), none⟩,
     ⟨some 7, .move (.tmp 48), none⟩] [])
  (.keep [6, 7] [] (.ret))))))))))⟩
/-- wampum/version.above$1 -/
def F77 : FnIR := ⟨9, 2, [.tmp 4], [2, 3],
  .seq (.region [⟨some 2, .box true 5 (.tmp 0), none⟩,
     ⟨some 3, .box true 2 (.tmp 1), none⟩,
     ⟨some 4, .move (.const (.int .i64 0)), none⟩])
  (.keep [2, 3] [2, 3] (.seq (.seq (.region [⟨some 5, .fieldAddr 0 (.tmp 2), none⟩,
      ⟨some 6, .load true 2 (.tmp 5), none⟩,
      ⟨some 7, .load true 2 (.tmp 3), none⟩,
      ⟨some 8, .call (.func 60) [(.tmp 6), (.tmp 7)], none⟩])
   (.keep [8] [] (.cond (.tmp 8)
    (.seq (.region [⟨some 4, .move (.const (.int .i64 (-1))), none⟩])
    (.keep [4] [] (.ret)))
    (.skip))))
  (.keep [] [] (.seq (.region [⟨some 4, .move (.const (.int .i64 1)), none⟩])
  (.keep [4] [] (.ret))))))⟩
/-- slices.MaxFunc[[]wampum/api.Stamp,wampum/api.Stamp] -/
def L38_0 : IC :=
  .keep [0, 1, 4, 5, 6] [4, 5] (.seq (.seq (.region [⟨some 14, .move (.tmp 6), none⟩,
      ⟨some 15, .move (.tmp 0), none⟩,
      ⟨some 16, .len .slice (.tmp 15), none⟩,
      ⟨some 17, .bin .lss .none (.tmp 14) (.tmp 16), none⟩])
   (.keep [0, 1, 4, 5, 6, 17] [4, 5] (.cond (.tmp 17)
    (.skip)
    (.exit 0))))
  (.keep [0, 1, 4, 5, 6] [4, 5] (.seq (.block 1 (.seq (.regionD [⟨some 20, .move (.tmp 1), none⟩,
       ⟨some 21, .move (.tmp 0), none⟩,
       ⟨some 22, .move (.tmp 6), none⟩,
       ⟨some 23, .indexAddr none 2 (.tmp 21) (.tmp 22), none⟩,
       ⟨some 24, .load true 2 (.tmp 23), none⟩,
       ⟨some 25, .load true 2 (.tmp 5), none⟩,
       ⟨some 26, .call (.tmp 20) [(.tmp 24), (.tmp 25)], none⟩,
       ⟨some 27, .bin .gtr .none (.tmp 26) (.const (.int .i64 0)), none⟩] [])
    (.keep [0, 1, 4, 5, 6, 27] [4, 5] (.cond (.tmp 27)
     (.region [⟨some 28, .move (.tmp 0), none⟩,
       ⟨some 29, .move (.tmp 6), none⟩,
       ⟨some 30, .indexAddr none 2 (.tmp 28) (.tmp 29), none⟩,
       ⟨some 31, .load true 2 (.tmp 30), none⟩,
       ⟨none, .store 2 (.tmp 5) (.tmp 31), none⟩])
     (.skip)))))
  (.keep [0, 1, 4, 5, 6] [4, 5] (.region [⟨some 18, .move (.tmp 6), none⟩,
    ⟨some 19, .bin .add .none (.tmp 18) (.const (.int .i64 1)), none⟩,
    ⟨some 6, .move (.tmp 19), none⟩])))))
def F38 : FnIR := ⟨33, 2, [.cell 4 true 2], [4, 5],
  .seq (.region [⟨some 4, .alloc true 2 [(.int .i64 0), (.int .i64 0)], none⟩])
  (.keep [0, 1, 4] [4] (.seq (.seq (.region [⟨some 7, .move (.tmp 0), none⟩,
      ⟨some 8, .len .slice (.tmp 7), none⟩,
      ⟨some 9, .bin .lss .none (.tmp 8) (.const (.int .i64 1)), none⟩])
   (.keep [0, 1, 4, 9] [4] (.cond (.tmp 9)
    (.region [⟨some 10, .mkIface 9 (.const (.str [115, 108, 105, 99, 101, 115, 46, 77, 97, 120, 70, 117, 110, 99, 58, 32, 101, 109, 112, 116, 121, 32, 108, 105, 115, 116])), none⟩,
      ⟨none, .bad, none⟩])
    (.skip))))
  (.keep [0, 1, 4] [4] (.seq (.region [⟨some 11, .move (.tmp 0), none⟩,
     ⟨some 12, .indexAddr none 2 (.tmp 11) (.const (.int .i64 0)), none⟩,
     ⟨some 13, .load true 2 (.tmp 12), none⟩,
     ⟨some 5, .alloc true 2 [(.int .i64 0), (.int .i64 0)], none⟩,
     ⟨none, .store 2 (.tmp 5) (.tmp 13), none⟩])
  (.keep [0, 1, 4, 5] [4, 5] (.seq (.seq (.region [⟨some 6, .move (.const (.int .i64 1)), none⟩])
   (.keep [0, 1, 4, 5, 6] [4, 5] (.block 0 (.loop L38_0))))
  (.keep [4, 5] [4, 5] (.seq (.region [⟨some 32, .load true 2 (.tmp 5), none⟩,
     ⟨none, .store 2 (.tmp 4) (.tmp 32), none⟩])
  (.keep [4] [4] (.ret))))))))))⟩
/-- (*wampum/store.Store).Resolve -/
def F10 : FnIR := ⟨69, 6, [.cell 12 false 1, .cell 13 false 1], [7, 18, 19],
  .seq (.region [⟨some 7, .box true 2 (.tmp 1), none⟩,
     ⟨some 8, .box false 1 (.tmp 2), none⟩,
     ⟨some 9, .box false 1 (.tmp 3), none⟩,
     ⟨some 10, .box false 1 (.tmp 4), none⟩,
     ⟨some 11, .box false 2 (.tmp 5), none⟩,
     ⟨some 12, .alloc false 1 [(.int .i64 0)], none⟩,
     ⟨some 13, .alloc false 1 [(.int .i64 0)], none⟩])
  (.keep [0, 7, 8, 9, 10, 11, 12, 13] [7] (.seq (.seq (.region [⟨some 21, .move (.tmp 0), none⟩,
      ⟨some 22, .load true 2 (.tmp 7), none⟩,
      ⟨some 23, .call (.func 28) [(.tmp 21), (.tmp 22)], none⟩,
      ⟨some 14, .move (.tmp 23), none⟩])
   (.keep [0, 7, 8, 9, 10, 11, 12, 13, 14] [7] (.seq (.region [⟨some 24, .move (.tmp 14), none⟩,
      ⟨some 25, .bin .neq .int (.tmp 24) (.const (.int .i64 0)), none⟩])
   (.keep [0, 7, 8, 9, 10, 11, 12, 13, 14, 25] [7] (.cond (.tmp 25)
    (.seq (.region [⟨some 26, .move (.tmp 14), none⟩,
       ⟨none, .store 1 (.tmp 12) (.const (.int .i64 0)), none⟩,
       ⟨none, .store 1 (.tmp 13) (.tmp 26), none⟩])
    (.keep [12, 13] [] (.ret)))
    (.skip))))))
  (.keep [0, 7, 8, 9, 10, 11, 12, 13] [7] (.seq (.region [⟨some 15, .alloc false 1 [(.int .i64 0)], none⟩,
     ⟨none, .store 1 (.tmp 15) (.const (.int .i64 0)), none⟩])
  (.keep [0, 7, 8, 9, 10, 11, 12, 13, 15] [7] (.seq (.region [⟨some 27, .mkMap, none⟩,
     ⟨some 16, .alloc false 1 [.nilm], none⟩,
     ⟨none, .store 1 (.tmp 16) (.tmp 27), none⟩])
  (.keep [0, 7, 8, 9, 10, 11, 12, 13, 15, 16] [7] (.seq (.seq (.region [⟨some 28, .move (.tmp 0), none⟩,
      ⟨some 29, .load true 2 (.tmp 7), none⟩,
      ⟨some 30, .call (.func 29) [(.tmp 28), (.tmp 29)], none⟩])
   (.keep [0, 8, 9, 10, 11, 12, 13, 15, 16, 30] [] (.block 0 (.rangeF (.tmp 30) [31, 32]
     (.seq (.region [⟨some 17, .move (.tmp 31), none⟩])
     (.keep [8, 9, 10, 11, 12, 13, 15, 16, 17, 32] [] (.region [⟨some 18, .alloc true 12 [.nils, (.bool false), (.int .i64 0), (.int .i64 0), (.str []), (.int .i64 0), (.int .i64 0), (.int .i64 0), (.int .i64 0), (.int .i64 0), (.str []), (.bool false)], none⟩,
       ⟨none, .store 12 (.tmp 18) (.tmp 32), none⟩])))
     (.keep [8, 9, 10, 11, 12, 13, 15, 16, 17, 18] [18] (.block 1 (.seq (.region [⟨some 34, .load true 12 (.tmp 18), none⟩,
         ⟨some 35, .load false 1 (.tmp 8), none⟩,
         ⟨some 36, .load false 1 (.tmp 9), none⟩,
         ⟨some 37, .load false 1 (.tmp 10), none⟩,
         ⟨some 38, .load true 2 (.tmp 11), none⟩,
         ⟨some 39, .call (.func 30) [(.tmp 34), (.tmp 35), (.tmp 36), (.tmp 37), (.tmp 38)], none⟩,
         ⟨some 33, .move (.tmp 39), none⟩,
         ⟨some 40, .extract (.tmp 33) 0, none⟩,
         ⟨some 41, .extract (.tmp 33) 1, none⟩,
         ⟨some 19, .alloc true 12 [.nils, (.bool false), (.int .i64 0), (.int .i64 0), (.str []), (.int .i64 0), (.int .i64 0), (.int .i64 0), (.int .i64 0), (.int .i64 0), (.str []), (.bool false)], none⟩,
         ⟨none, .store 12 (.tmp 19) (.tmp 40), none⟩,
         ⟨some 20, .move (.tmp 41), none⟩])
      (.keep [12, 13, 15, 16, 17, 18, 19, 20] [18, 19] (.seq (.seq (.region [⟨some 42, .move (.tmp 20), none⟩,
          ⟨some 43, .bin .neq .int (.tmp 42) (.const (.int .i64 0)), none⟩])
       (.keep [12, 13, 15, 16, 17, 18, 19, 20, 43] [18, 19] (.cond (.tmp 43)
        (.seq (.region [⟨some 44, .move (.tmp 20), none⟩,
           ⟨none, .store 1 (.tmp 12) (.const (.int .i64 0)), none⟩,
           ⟨none, .store 1 (.tmp 13) (.tmp 44), none⟩])
        (.keep [] [] (.ret)))
        (.skip))))
      (.keep [15, 16, 17, 18, 19] [18, 19] (.seq (.region [⟨some 45, .fieldAddr 1 (.tmp 18), none⟩,
         ⟨some 46, .load false 1 (.tmp 45), none⟩,
         ⟨some 47, .move (.tmp 46), none⟩,
         ⟨some 48, .fieldAddr 1 (.tmp 19), some (47, true)⟩,
         ⟨some 49, .load false 1 (.tmp 48), some (47, true)⟩,
         ⟨some 50, .un .not (.tmp 49), some (47, true)⟩,
         ⟨some 51, .pick (.tmp 47) (.tmp 50) (.const (.bool false)), none⟩])
      (.keep [15, 16, 17, 19, 51] [19] (.cond (.tmp 51)
       (.seq (.region [⟨some 52, .load false 1 (.tmp 16), none⟩,
          ⟨some 53, .move (.tmp 17), none⟩,
          ⟨some 54, .load true 12 (.tmp 19), none⟩,
          ⟨none, .mapUpdate .str (.tmp 52) (.tmp 53) (.tmp 54), none⟩])
       (.keep [15] [] (.region [⟨some 55, .load false 1 (.tmp 15), none⟩,
         ⟨some 56, .bin .add .none (.tmp 55) (.const (.int .i64 1)), none⟩,
         ⟨none, .store 1 (.tmp 15) (.tmp 56), none⟩])))
       (.skip))))))))))))))
  (.keep [0, 12, 13, 15, 16] [] (.seq (.regionD [⟨some 57, .move (.tmp 0), none⟩,
     ⟨some 58, .nilCheck (.tmp 57), none⟩,
     ⟨some 59, .fieldAddr 0 (.tmp 58), none⟩,
     ⟨some 60, .load false 1 (.tmp 59), none⟩,
     ⟨some 61, .load false 1 (.tmp 16), none⟩,
     ⟨some 62, .call (.func 31) [(.tmp 60), (.tmp 61)], none⟩] [])
  (.keep [0, 12, 13, 15] [] (.seq (.region [⟨some 63, .move (.tmp 0), none⟩,
     ⟨some 64, .nilCheck (.tmp 63), none⟩,
     ⟨some 65, .fieldAddr 0 (.tmp 64), none⟩,
     ⟨some 66, .load false 1 (.tmp 65), none⟩,
     ⟨some 67, .call (.func 32) [(.tmp 66), (.func 33)], none⟩])
  (.keep [12, 13, 15] [] (.seq (.region [⟨some 68, .load false 1 (.tmp 15), none⟩,
     ⟨none, .store 1 (.tmp 12) (.tmp 68), none⟩,
     ⟨none, .store 1 (.tmp 13) (.const (.int .i64 0)), none⟩])
  (.keep [12, 13] [] (.ret))))))))))))))))⟩
/-- wampum/version.Resolve -/
def F30 : FnIR := ⟨82, 5, [.cell 10 true 12, .tmp 11], [5, 9, 10, 12, 13],
  .seq (.region [⟨some 5, .box true 12 (.tmp 0), none⟩,
     ⟨some 9, .box true 2 (.tmp 4), none⟩,
     ⟨some 10, .alloc true 12 [.nils, (.bool false), (.int .i64 0), (.int .i64 0), (.str []), (.int .i64 0), (.int .i64 0), (.int .i64 0), (.int .i64 0), (.int .i64 0), (.str []), (.bool false)], none⟩,
     ⟨some 11, .move (.const (.int .i64 0)), none⟩])
  (.keep [1, 2, 3, 5, 9, 10] [5, 9, 10] (.seq (.region [⟨some 15, .fieldAddr 2 (.tmp 5), none⟩,
     ⟨some 16, .load true 10 (.tmp 15), none⟩,
     ⟨some 12, .alloc true 10 [(.int .i64 0), (.int .i64 0), (.str []), (.int .i64 0), (.int .i64 0), (.int .i64 0), (.int .i64 0), (.int .i64 0), (.str []), (.bool false)], none⟩,
     ⟨none, .store 10 (.tmp 12) (.tmp 16), none⟩])
  (.keep [1, 2, 3, 5, 9, 10, 12] [5, 9, 10, 12] (.seq (.region [⟨some 17, .load true 12 (.tmp 5), none⟩,
     ⟨some 18, .call (.func 53) [(.tmp 17)], none⟩,
     ⟨none, .store 12 (.tmp 5) (.tmp 18), none⟩])
  (.keep [1, 2, 3, 5, 9, 10, 12] [5, 9, 10, 12] (.seq (.seq (.region [⟨some 19, .fieldAddr 1 (.tmp 5), none⟩,
      ⟨some 20, .load false 1 (.tmp 19), none⟩,
      ⟨some 21, .un .not (.tmp 20), none⟩,
      ⟨some 22, .move (.tmp 21), none⟩,
      ⟨some 23, .fieldAddr 0 (.tmp 12), some (22, false)⟩,
      ⟨some 24, .fieldAddr 0 (.tmp 23), some (22, false)⟩,
      ⟨some 25, .load false 1 (.tmp 24), some (22, false)⟩,
      ⟨some 26, .move (.tmp 1), some (22, false)⟩,
      ⟨some 27, .bin .neq .int (.tmp 25) (.tmp 26), some (22, false)⟩,
      ⟨some 28, .pick (.tmp 22) (.const (.bool true)) (.tmp 27), none⟩,
      ⟨some 29, .move (.tmp 28), none⟩,
      ⟨some 30, .move (.tmp 3), some (29, false)⟩,
      ⟨some 31, .un .not (.tmp 30), some (29, false)⟩,
      ⟨some 32, .move (.tmp 31), some (29, false)⟩,
      ⟨some 33, .fieldAddr 0 (.tmp 12), some (32, true)⟩,
      ⟨some 34, .fieldAddr 1 (.tmp 33), some (32, true)⟩,
      ⟨some 35, .load false 1 (.tmp 34), some (32, true)⟩,
      ⟨some 36, .move (.tmp 2), some (32, true)⟩,
      ⟨some 37, .bin .gtr .none (.tmp 35) (.tmp 36), some (32, true)⟩,
      ⟨some 38, .pick (.tmp 32) (.tmp 37) (.const (.bool false)), some (29, false)⟩,
      ⟨some 39, .pick (.tmp 29) (.const (.bool true)) (.tmp 38), none⟩])
   (.keep [1, 2, 3, 5, 9, 10, 12, 39] [5, 9, 10, 12] (.cond (.tmp 39)
    (.seq (.region [⟨some 40, .load true 12 (.tmp 5), none⟩,
       ⟨none, .store 12 (.tmp 10) (.tmp 40), none⟩,
       ⟨some 11, .move (.const (.int .i64 0)), none⟩])
    (.keep [10, 11] [10] (.ret)))
    (.skip))))
  (.keep [1, 2, 3, 5, 9, 10, 12] [5, 9, 10, 12] (.seq (.seq (.region [⟨some 41, .move (.tmp 3), none⟩,
      ⟨some 42, .move (.tmp 41), none⟩,
      ⟨some 43, .fieldAddr 0 (.tmp 12), some (42, true)⟩,
      ⟨some 44, .fieldAddr 1 (.tmp 43), some (42, true)⟩,
      ⟨some 45, .load false 1 (.tmp 44), some (42, true)⟩,
      ⟨some 46, .move (.tmp 2), some (42, true)⟩,
      ⟨some 47, .bin .eql .int (.tmp 45) (.tmp 46), some (42, true)⟩,
      ⟨some 48, .pick (.tmp 42) (.tmp 47) (.const (.bool false)), none⟩])
   (.keep [1, 5, 9, 10, 12, 48] [5, 9, 10, 12] (.cond (.tmp 48)
    (.seq (.seq (.region [⟨some 50, .load true 12 (.tmp 5), none⟩,
        ⟨some 51, .call (.func 58) [(.tmp 50)], none⟩,
        ⟨some 49, .move (.tmp 51), none⟩,
        ⟨some 52, .extract (.tmp 49) 0, none⟩,
        ⟨some 53, .extract (.tmp 49) 1, none⟩,
        ⟨some 13, .alloc true 2 [(.int .i64 0), (.int .i64 0)], none⟩,
        ⟨none, .store 2 (.tmp 13) (.tmp 52), none⟩,
        ⟨some 14, .move (.tmp 53), none⟩])
     (.keep [1, 5, 9, 10, 12, 13, 14] [5, 9, 10, 12, 13] (.seq (.region [⟨some 54, .load true 2 (.tmp 9), none⟩,
        ⟨some 55, .call (.func 59) [(.tmp 54)], none⟩,
        ⟨some 56, .un .not (.tmp 55), none⟩,
        ⟨some 57, .move (.tmp 56), none⟩,
        ⟨some 58, .move (.tmp 14), some (57, false)⟩,
        ⟨some 59, .move (.tmp 58), some (57, false)⟩,
        ⟨some 60, .load true 2 (.tmp 9), some (59, true)⟩,
        ⟨some 61, .load true 2 (.tmp 13), some (59, true)⟩,
        ⟨some 62, .call (.func 60) [(.tmp 60), (.tmp 61)], some (59, true)⟩,
        ⟨some 63, .pick (.tmp 59) (.tmp 62) (.const (.bool false)), some (57, false)⟩,
        ⟨some 64, .pick (.tmp 57) (.const (.bool true)) (.tmp 63), none⟩])
     (.keep [1, 5, 9, 10, 12, 64] [5, 9, 10, 12] (.cond (.tmp 64)
      (.seq (.region [⟨some 65, .build [.nils, (.bool false), (.int .i64 0), (.int .i64 0), (.str []), (.int .i64 0), (.int .i64 0), (.int .i64 0), (.int .i64 0), (.int .i64 0), (.str []), (.bool false)] [], none⟩,
         ⟨none, .store 12 (.tmp 10) (.tmp 65), none⟩,
         ⟨some 11, .move (.const (.int .i64 84)), none⟩])
      (.keep [10, 11] [10] (.ret)))
      (.skip))))))
    (.keep [1, 5, 9, 10, 12] [5, 9, 10, 12] (.region [⟨some 66, .fieldAddr 0 (.tmp 5), none⟩,
      ⟨some 67, .load false 1 (.tmp 66), none⟩,
      ⟨some 68, .load true 2 (.tmp 9), none⟩,
      ⟨some 69, .fieldAddr 8 (.tmp 12), none⟩,
      ⟨some 70, .load false 1 (.tmp 69), none⟩,
      ⟨some 71, .fieldAddr 9 (.tmp 12), none⟩,
      ⟨some 72, .load false 1 (.tmp 71), none⟩,
      ⟨some 73, .move (.tmp 1), none⟩,
      ⟨some 74, .build [(.int .i64 0), (.int .i64 0), (.str []), (.bool false), (.int .i64 0)] [(0, 2, (.tmp 68)), (2, 1, (.tmp 70)), (3, 1, (.tmp 72)), (4, 1, (.tmp 73))], none⟩,
      ⟨some 75, .buildSlice 5 1 [(.int .i64 0), (.int .i64 0), (.str []), (.bool false), (.int .i64 0)] [(0, 5, (.tmp 74))], none⟩,
      ⟨some 76, .append 5 48 (.tmp 67) (.tmp 75), none⟩,
      ⟨some 77, .fieldAddr 0 (.tmp 5), none⟩,
      ⟨none, .store 1 (.tmp 77) (.tmp 76), none⟩])))
    (.skip))))
  (.keep [5, 10] [5, 10] (.seq (.region [⟨some 78, .build [(.int .i64 0), (.int .i64 0), (.str []), (.int .i64 0), (.int .i64 0), (.int .i64 0), (.int .i64 0), (.int .i64 0), (.str []), (.bool false)] [], none⟩,
     ⟨some 79, .fieldAddr 1 (.tmp 5), none⟩,
     ⟨none, .store 1 (.tmp 79) (.const (.bool false)), none⟩,
     ⟨some 80, .fieldAddr 2 (.tmp 5), none⟩,
     ⟨none, .store 10 (.tmp 80) (.tmp 78), none⟩])
  (.keep [5, 10] [5, 10] (.seq (.region [⟨some 81, .load true 12 (.tmp 5), none⟩,
     ⟨none, .store 12 (.tmp 10) (.tmp 81), none⟩,
     ⟨some 11, .move (.const (.int .i64 0)), none⟩])
  (.keep [10, 11] [10] (.ret))))))))))))))⟩
/-- maps.Copy[map[string]wampum/api.Chain,map[string]wampum/api.Chain,string,wampum/api.Chain] -/
def F31 : FnIR := ⟨16, 2, [], [5],
  .seq (.region [⟨some 6, .move (.tmp 1), none⟩,
     ⟨some 7, .rangeM (.tmp 6), none⟩])
  (.keep [0, 7] [] (.mapR 8 9 (.tmp 7) 0 [] [] (.keep [0, 7] [] (.block 1 (.seq (.region [⟨some 10, .entryM (.tmp 7), none⟩,
       ⟨some 11, .extract (.tmp 10) 0, none⟩,
       ⟨some 12, .extract (.tmp 10) 1, none⟩,
       ⟨some 5, .alloc true 12 [.nils, (.bool false), (.int .i64 0), (.int .i64 0), (.str []), (.int .i64 0), (.int .i64 0), (.int .i64 0), (.int .i64 0), (.int .i64 0), (.str []), (.bool false)], none⟩,
       ⟨some 4, .move (.tmp 11), none⟩,
       ⟨none, .store 12 (.tmp 5) (.tmp 12), none⟩])
    (.keep [0, 4, 5, 7] [5] (.region [⟨some 13, .move (.tmp 0), none⟩,
      ⟨some 14, .move (.tmp 4), none⟩,
      ⟨some 15, .load true 12 (.tmp 5), none⟩,
      ⟨none, .mapUpdate .str (.tmp 13) (.tmp 14) (.tmp 15), none⟩])))))))⟩
/-- maps.DeleteFunc[map[string]wampum/api.Chain,string,wampum/api.Chain] -/
def F32 : FnIR := ⟨19, 2, [], [5],
  .seq (.region [⟨some 6, .move (.tmp 0), none⟩,
     ⟨some 7, .rangeM (.tmp 6), none⟩])
  (.keep [0, 1, 7] [] (.mapR 8 9 (.tmp 7) 0 [] [] (.keep [0, 1, 7] [] (.block 1 (.seq (.region [⟨some 10, .entryM (.tmp 7), none⟩,
       ⟨some 11, .extract (.tmp 10) 0, none⟩,
       ⟨some 12, .extract (.tmp 10) 1, none⟩,
       ⟨some 5, .alloc true 12 [.nils, (.bool false), (.int .i64 0), (.int .i64 0), (.str []), (.int .i64 0), (.int .i64 0), (.int .i64 0), (.int .i64 0), (.int .i64 0), (.str []), (.bool false)], none⟩,
       ⟨some 4, .move (.tmp 11), none⟩,
       ⟨none, .store 12 (.tmp 5) (.tmp 12), none⟩])
    (.keep [0, 1, 4, 5, 7] [5] (.seq (.region [⟨some 13, .move (.tmp 1), none⟩,
       ⟨some 14, .move (.tmp 4), none⟩,
       ⟨some 15, .load true 12 (.tmp 5), none⟩,
       ⟨some 16, .call (.tmp 13) [(.tmp 14), (.tmp 15)], none⟩])
    (.keep [0, 1, 4, 7, 16] [] (.cond (.tmp 16)
     (.region [⟨some 17, .move (.tmp 0), none⟩,
       ⟨some 18, .move (.tmp 4), none⟩,
       ⟨none, .delete .str (.tmp 17) (.tmp 18), none⟩])
     (.skip))))))))))⟩
/-- (*wampum/store.Store).Resolve$1 -/
def F33 : FnIR := ⟨14, 2, [.tmp 4], [3],
  .seq (.region [⟨some 3, .box true 12 (.tmp 1), none⟩,
     ⟨some 4, .move (.const (.bool false)), none⟩])
  (.keep [3] [3] (.seq (.region [⟨some 5, .fieldAddr 1 (.tmp 3), none⟩,
     ⟨some 6, .load false 1 (.tmp 5), none⟩,
     ⟨some 7, .un .not (.tmp 6), none⟩,
     ⟨some 8, .move (.tmp 7), none⟩,
     ⟨some 9, .fieldAddr 0 (.tmp 3), some (8, true)⟩,
     ⟨some 10, .load false 1 (.tmp 9), some (8, true)⟩,
     ⟨some 11, .len .slice (.tmp 10), some (8, true)⟩,
     ⟨some 12, .bin .eql .int (.tmp 11) (.const (.int .i64 0)), some (8, true)⟩,
     ⟨some 13, .pick (.tmp 8) (.tmp 12) (.const (.bool false)), none⟩,
     ⟨some 4, .move (.tmp 13), none⟩])
  (.keep [4] [] (.ret))))⟩
theorem fits85 : FnFits Try.prog 85 F85 := ⟨Try.f85, _, Try.func85, rfl, by decide, rfl, by decide, by kernel_rfl, by kernel_rfl⟩
theorem fits87 : FnFits Try.prog 87 F87 := ⟨Try.f87, _, Try.func87, rfl, by decide, rfl, by decide, by kernel_rfl, by kernel_rfl⟩
theorem fits88 : FnFits Try.prog 88 F88 := ⟨Try.f88, _, Try.func88, rfl, by decide, rfl, by decide, by kernel_rfl, by kernel_rfl⟩
theorem fits57 : FnFits Try.prog 57 F57 := ⟨Try.f57, _, Try.func57, rfl, by decide, rfl, by decide, by kernel_rfl, by kernel_rfl⟩
theorem fits37 : FnFits Try.prog 37 F37 := ⟨Try.f37, _, Try.func37, rfl, by decide, rfl, by decide, by kernel_rfl, by kernel_rfl⟩
theorem fits60 : FnFits Try.prog 60 F60 := ⟨Try.f60, _, Try.func60, rfl, by decide, rfl, by decide, by kernel_rfl, by kernel_rfl⟩
theorem fits64 : FnFits Try.prog 64 F64 := ⟨Try.f64, _, Try.func64, rfl, by decide, rfl, by decide, by kernel_rfl, by kernel_rfl⟩
theorem fits76 : FnFits Try.prog 76 F76 := ⟨Try.f76, _, Try.func76, rfl, by decide, rfl, by decide, by kernel_rfl, by kernel_rfl⟩
theorem fits77 : FnFits Try.prog 77 F77 := ⟨Try.f77, _, Try.func77, rfl, by decide, rfl, by decide, by kernel_rfl, by kernel_rfl⟩
theorem fits38 : FnFits Try.prog 38 F38 := ⟨Try.f38, _, Try.func38, rfl, by decide, rfl, by decide, by kernel_rfl, by kernel_rfl⟩
theorem fits10 : FnFits Try.prog 10 F10 := ⟨Try.f10, _, Try.func10, rfl, by decide, rfl, by decide, by kernel_rfl, by kernel_rfl⟩
theorem fits30 : FnFits Try.prog 30 F30 := ⟨Try.f30, _, Try.func30, rfl, by decide, rfl, by decide, by kernel_rfl, by kernel_rfl⟩
theorem fits31 : FnFits Try.prog 31 F31 := ⟨Try.f31, _, Try.func31, rfl, by decide, rfl, by decide, by kernel_rfl, by kernel_rfl⟩
theorem fits32 : FnFits Try.prog 32 F32 := ⟨Try.f32, _, Try.func32, rfl, by decide, rfl, by decide, by kernel_rfl, by kernel_rfl⟩
theorem fits33 : FnFits Try.prog 33 F33 := ⟨Try.f33, _, Try.func33, rfl, by decide, rfl, by decide, by kernel_rfl, by kernel_rfl⟩
end Go.Proofs.Ytgokjbjbdnbcdaa.AlS9
