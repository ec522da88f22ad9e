/- Functions of the program in our form (S14, b). No condition. -/
import Derived.Test.YtgokjbjbdnbcdaaGreatAmNil
import Derived.Test.YtgokjbjbdnbcdaaGreatRows
import Derived.KernelRfl
set_option linter.unusedVariables false
namespace Go.Proofs.YtgokjbjbdnbcdaaGreat.AlS14
open Go.Wam
/-- slices.reverseRangeOrdered[string] -/
def L239_0 : IC :=
  .keep [0, 6, 7] [] (.seq (.seq (.region [⟨some 11, .move (.tmp 6), none⟩,
      ⟨some 12, .move (.tmp 7), none⟩,
      ⟨some 13, .bin .lss .none (.tmp 11) (.tmp 12), none⟩])
   (.keep [0, 6, 7, 13] [] (.cond (.tmp 13)
    (.skip)
    (.exit 0))))
  (.keep [0, 6, 7] [] (.block 1 (.seq (.regionD [⟨some 14, .move (.tmp 0), none⟩,
      ⟨some 15, .move (.tmp 6), none⟩,
      ⟨some 18, .move (.tmp 0), none⟩,
      ⟨some 19, .move (.tmp 7), none⟩,
      ⟨some 20, .indexAddr none 1 (.tmp 18) (.tmp 19), none⟩,
      ⟨some 21, .load false 1 (.tmp 20), none⟩,
      ⟨some 22, .move (.tmp 0), none⟩,
      ⟨some 23, .move (.tmp 6), none⟩,
      ⟨some 24, .indexAddr none 1 (.tmp 22) (.tmp 23), none⟩,
      ⟨some 25, .load false 1 (.tmp 24), none⟩,
      ⟨some 26, .indexAddr none 1 (.tmp 14) (.tmp 15), none⟩,
      ⟨none, .store 1 (.tmp 26) (.tmp 21), none⟩,
      ⟨some 16, .move (.tmp 0), none⟩,
      ⟨some 17, .move (.tmp 7), none⟩,
      ⟨some 27, .indexAddr none 1 (.tmp 16) (.tmp 17), none⟩,
      ⟨none, .store 1 (.tmp 27) (.tmp 25), none⟩] [])
   (.keep [0, 6, 7] [] (.seq (.region [⟨some 28, .move (.tmp 6), none⟩,
      ⟨some 29, .bin .add .none (.tmp 28) (.const (.int .i64 1)), none⟩,
      ⟨some 6, .move (.tmp 29), none⟩])
   (.keep [0, 6, 7] [] (.region [⟨some 30, .move (.tmp 7), none⟩,
     ⟨some 31, .bin .sub .none (.tmp 30) (.const (.int .i64 1)), none⟩,
     ⟨some 7, .move (.tmp 31), none⟩]))))))))
def F239 : FnIR := ⟨32, 3, [], [],
  .seq (.region [⟨some 8, .move (.tmp 1), none⟩,
     ⟨some 6, .move (.tmp 8), none⟩])
  (.keep [0, 2, 6] [] (.seq (.region [⟨some 9, .move (.tmp 2), none⟩,
     ⟨some 10, .bin .sub .none (.tmp 9) (.const (.int .i64 1)), none⟩,
     ⟨some 7, .move (.tmp 10), none⟩])
  (.keep [0, 6, 7] [] (.block 0 (.loop L239_0)))))⟩
/-- slices.partialInsertionSortOrdered[string] -/
def L240_0 : IC :=
  .keep [0, 1, 2, 7, 8] [] (.seq (.seq (.regionD [⟨some 17, .move (.tmp 7), none⟩,
      ⟨some 18, .move (.tmp 2), none⟩,
      ⟨some 19, .bin .lss .none (.tmp 17) (.tmp 18), none⟩,
      ⟨some 20, .move (.tmp 19), none⟩,
      ⟨some 21, .move (.tmp 0), some (20, true)⟩,
      ⟨some 22, .move (.tmp 7), some (20, true)⟩,
      ⟨some 23, .indexAddr none 1 (.tmp 21) (.tmp 22), some (20, true)⟩,
      ⟨some 24, .load false 1 (.tmp 23), some (20, true)⟩,
      ⟨some 25, .move (.tmp 0), some (20, true)⟩,
      ⟨some 26, .move (.tmp 7), some (20, true)⟩,
      ⟨some 27, .bin .sub .none (.tmp 26) (.const (.int .i64 1)), some (20, true)⟩,
      ⟨some 28, .indexAddr none 1 (.tmp 25) (.tmp 27), some (20, true)⟩,
      ⟨some 29, .load false 1 (.tmp 28), some (20, true)⟩,
      ⟨some 30, .call (.func 241) [(.tmp 24), (.tmp 29)], some (20, true)⟩,
      ⟨some 31, .un .not (.tmp 30), some (20, true)⟩,
      ⟨some 32, .pick (.tmp 20) (.tmp 31) (.const (.bool false)), none⟩] [])
   (.keep [0, 1, 2, 7, 8, 32] [] (.cond (.tmp 32)
    (.skip)
    (.exit 2))))
  (.keep [0, 1, 2, 7, 8] [] (.block 3 (.region [⟨some 33, .move (.tmp 7), none⟩,
     ⟨some 34, .bin .add .none (.tmp 33) (.const (.int .i64 1)), none⟩,
     ⟨some 7, .move (.tmp 34), none⟩]))))
def L240_1 : IC :=
  .keep [0, 1, 2, 7, 8, 9] [] (.seq (.seq (.region [⟨some 64, .move (.tmp 9), none⟩,
      ⟨some 65, .bin .geq .none (.tmp 64) (.const (.int .i64 1)), none⟩])
   (.keep [0, 1, 2, 7, 8, 9, 65] [] (.cond (.tmp 65)
    (.skip)
    (.exit 4))))
  (.keep [0, 1, 2, 7, 8, 9] [] (.seq (.block 5 (.seq (.seq (.regionD [⟨some 68, .move (.tmp 0), none⟩,
        ⟨some 69, .move (.tmp 9), none⟩,
        ⟨some 70, .indexAddr none 1 (.tmp 68) (.tmp 69), none⟩,
        ⟨some 71, .load false 1 (.tmp 70), none⟩,
        ⟨some 72, .move (.tmp 0), none⟩,
        ⟨some 73, .move (.tmp 9), none⟩,
        ⟨some 74, .bin .sub .none (.tmp 73) (.const (.int .i64 1)), none⟩,
        ⟨some 75, .indexAddr none 1 (.tmp 72) (.tmp 74), none⟩,
        ⟨some 76, .load false 1 (.tmp 75), none⟩,
        ⟨some 77, .call (.func 241) [(.tmp 71), (.tmp 76)], none⟩,
        ⟨some 78, .un .not (.tmp 77), none⟩] [])
     (.keep [0, 1, 2, 7, 8, 9, 78] [] (.cond (.tmp 78)
      (.exit 4)
      (.skip))))
    (.keep [0, 1, 2, 7, 8, 9] [] (.regionD [⟨some 79, .move (.tmp 0), none⟩,
      ⟨some 80, .move (.tmp 9), none⟩,
      ⟨some 84, .move (.tmp 0), none⟩,
      ⟨some 85, .move (.tmp 9), none⟩,
      ⟨some 86, .bin .sub .none (.tmp 85) (.const (.int .i64 1)), none⟩,
      ⟨some 87, .indexAddr none 1 (.tmp 84) (.tmp 86), none⟩,
      ⟨some 88, .load false 1 (.tmp 87), none⟩,
      ⟨some 89, .move (.tmp 0), none⟩,
      ⟨some 90, .move (.tmp 9), none⟩,
      ⟨some 91, .indexAddr none 1 (.tmp 89) (.tmp 90), none⟩,
      ⟨some 92, .load false 1 (.tmp 91), none⟩,
      ⟨some 93, .indexAddr none 1 (.tmp 79) (.tmp 80), none⟩,
      ⟨none, .store 1 (.tmp 93) (.tmp 88), none⟩,
      ⟨some 81, .move (.tmp 0), none⟩,
      ⟨some 82, .move (.tmp 9), none⟩,
      ⟨some 83, .bin .sub .none (.tmp 82) (.const (.int .i64 1)), none⟩,
      ⟨some 94, .indexAddr none 1 (.tmp 81) (.tmp 83), none⟩,
      ⟨none, .store 1 (.tmp 94) (.tmp 92), none⟩] []))))
  (.keep [0, 1, 2, 7, 8, 9] [] (.region [⟨some 66, .move (.tmp 9), none⟩,
    ⟨some 67, .bin .sub .none (.tmp 66) (.const (.int .i64 1)), none⟩,
    ⟨some 9, .move (.tmp 67), none⟩])))))
def L240_2 : IC :=
  .keep [0, 1, 2, 7, 8, 10] [] (.seq (.seq (.region [⟨some 101, .move (.tmp 10), none⟩,
      ⟨some 102, .move (.tmp 2), none⟩,
      ⟨some 103, .bin .lss .none (.tmp 101) (.tmp 102), none⟩])
   (.keep [0, 1, 2, 7, 8, 10, 103] [] (.cond (.tmp 103)
    (.skip)
    (.exit 6))))
  (.keep [0, 1, 2, 7, 8, 10] [] (.seq (.block 7 (.seq (.seq (.regionD [⟨some 106, .move (.tmp 0), none⟩,
        ⟨some 107, .move (.tmp 10), none⟩,
        ⟨some 108, .indexAddr none 1 (.tmp 106) (.tmp 107), none⟩,
        ⟨some 109, .load false 1 (.tmp 108), none⟩,
        ⟨some 110, .move (.tmp 0), none⟩,
        ⟨some 111, .move (.tmp 10), none⟩,
        ⟨some 112, .bin .sub .none (.tmp 111) (.const (.int .i64 1)), none⟩,
        ⟨some 113, .indexAddr none 1 (.tmp 110) (.tmp 112), none⟩,
        ⟨some 114, .load false 1 (.tmp 113), none⟩,
        ⟨some 115, .call (.func 241) [(.tmp 109), (.tmp 114)], none⟩,
        ⟨some 116, .un .not (.tmp 115), none⟩] [])
     (.keep [0, 1, 2, 7, 8, 10, 116] [] (.cond (.tmp 116)
      (.exit 6)
      (.skip))))
    (.keep [0, 1, 2, 7, 8, 10] [] (.regionD [⟨some 117, .move (.tmp 0), none⟩,
      ⟨some 118, .move (.tmp 10), none⟩,
      ⟨some 122, .move (.tmp 0), none⟩,
      ⟨some 123, .move (.tmp 10), none⟩,
      ⟨some 124, .bin .sub .none (.tmp 123) (.const (.int .i64 1)), none⟩,
      ⟨some 125, .indexAddr none 1 (.tmp 122) (.tmp 124), none⟩,
      ⟨some 126, .load false 1 (.tmp 125), none⟩,
      ⟨some 127, .move (.tmp 0), none⟩,
      ⟨some 128, .move (.tmp 10), none⟩,
      ⟨some 129, .indexAddr none 1 (.tmp 127) (.tmp 128), none⟩,
      ⟨some 130, .load false 1 (.tmp 129), none⟩,
      ⟨some 131, .indexAddr none 1 (.tmp 117) (.tmp 118), none⟩,
      ⟨none, .store 1 (.tmp 131) (.tmp 126), none⟩,
      ⟨some 119, .move (.tmp 0), none⟩,
      ⟨some 120, .move (.tmp 10), none⟩,
      ⟨some 121, .bin .sub .none (.tmp 120) (.const (.int .i64 1)), none⟩,
      ⟨some 132, .indexAddr none 1 (.tmp 119) (.tmp 121), none⟩,
      ⟨none, .store 1 (.tmp 132) (.tmp 130), none⟩] []))))
  (.keep [0, 1, 2, 7, 8, 10] [] (.region [⟨some 104, .move (.tmp 10), none⟩,
    ⟨some 105, .bin .add .none (.tmp 104) (.const (.int .i64 1)), none⟩,
    ⟨some 10, .move (.tmp 105), none⟩])))))
def L240_3 : IC :=
  .keep [0, 1, 2, 7, 8] [] (.seq (.seq (.region [⟨some 13, .move (.tmp 8), none⟩,
      ⟨some 14, .bin .lss .none (.tmp 13) (.const (.int .i64 5)), none⟩])
   (.keep [0, 1, 2, 7, 8, 14] [] (.cond (.tmp 14)
    (.skip)
    (.exit 0))))
  (.keep [0, 1, 2, 7, 8] [] (.seq (.block 1 (.seq (.block 2 (.loop L240_0))
    (.keep [0, 1, 2, 7, 8] [] (.seq (.seq (.region [⟨some 35, .move (.tmp 7), none⟩,
        ⟨some 36, .move (.tmp 2), none⟩,
        ⟨some 37, .bin .eql .int (.tmp 35) (.tmp 36), none⟩])
     (.keep [0, 1, 2, 7, 8, 37] [] (.cond (.tmp 37)
      (.seq (.region [⟨some 6, .move (.const (.bool true)), none⟩])
      (.keep [6] [] (.ret)))
      (.skip))))
    (.keep [0, 1, 2, 7, 8] [] (.seq (.seq (.region [⟨some 38, .move (.tmp 2), none⟩,
        ⟨some 39, .move (.tmp 1), none⟩,
        ⟨some 40, .bin .sub .none (.tmp 38) (.tmp 39), none⟩,
        ⟨some 41, .bin .lss .none (.tmp 40) (.const (.int .i64 50)), none⟩])
     (.keep [0, 1, 2, 7, 8, 41] [] (.cond (.tmp 41)
      (.seq (.region [⟨some 6, .move (.const (.bool false)), none⟩])
      (.keep [6] [] (.ret)))
      (.skip))))
    (.keep [0, 1, 2, 7, 8] [] (.seq (.regionD [⟨some 42, .move (.tmp 0), none⟩,
       ⟨some 43, .move (.tmp 7), none⟩,
       ⟨some 47, .move (.tmp 0), none⟩,
       ⟨some 48, .move (.tmp 7), none⟩,
       ⟨some 49, .bin .sub .none (.tmp 48) (.const (.int .i64 1)), none⟩,
       ⟨some 50, .indexAddr none 1 (.tmp 47) (.tmp 49), none⟩,
       ⟨some 51, .load false 1 (.tmp 50), none⟩,
       ⟨some 52, .move (.tmp 0), none⟩,
       ⟨some 53, .move (.tmp 7), none⟩,
       ⟨some 54, .indexAddr none 1 (.tmp 52) (.tmp 53), none⟩,
       ⟨some 55, .load false 1 (.tmp 54), none⟩,
       ⟨some 56, .indexAddr none 1 (.tmp 42) (.tmp 43), none⟩,
       ⟨none, .store 1 (.tmp 56) (.tmp 51), none⟩,
       ⟨some 44, .move (.tmp 0), none⟩,
       ⟨some 45, .move (.tmp 7), none⟩,
       ⟨some 46, .bin .sub .none (.tmp 45) (.const (.int .i64 1)), none⟩,
       ⟨some 57, .indexAddr none 1 (.tmp 44) (.tmp 46), none⟩,
       ⟨none, .store 1 (.tmp 57) (.tmp 55), none⟩] [])
    (.keep [0, 1, 2, 7, 8] [] (.seq (.seq (.region [⟨some 58, .move (.tmp 7), none⟩,
        ⟨some 59, .move (.tmp 1), none⟩,
        ⟨some 60, .bin .sub .none (.tmp 58) (.tmp 59), none⟩,
        ⟨some 61, .bin .geq .none (.tmp 60) (.const (.int .i64 2)), none⟩])
     (.keep [0, 1, 2, 7, 8, 61] [] (.cond (.tmp 61)
      (.seq (.region [⟨some 62, .move (.tmp 7), none⟩,
         ⟨some 63, .bin .sub .none (.tmp 62) (.const (.int .i64 1)), none⟩,
         ⟨some 9, .move (.tmp 63), none⟩])
      (.keep [0, 1, 2, 7, 8, 9] [] (.block 4 (.loop L240_1))))
      (.skip))))
    (.keep [0, 1, 2, 7, 8] [] (.seq (.region [⟨some 95, .move (.tmp 2), none⟩,
       ⟨some 96, .move (.tmp 7), none⟩,
       ⟨some 97, .bin .sub .none (.tmp 95) (.tmp 96), none⟩,
       ⟨some 98, .bin .geq .none (.tmp 97) (.const (.int .i64 2)), none⟩])
    (.keep [0, 1, 2, 7, 8, 98] [] (.cond (.tmp 98)
     (.seq (.region [⟨some 99, .move (.tmp 7), none⟩,
        ⟨some 100, .bin .add .none (.tmp 99) (.const (.int .i64 1)), none⟩,
        ⟨some 10, .move (.tmp 100), none⟩])
     (.keep [0, 1, 2, 7, 8, 10] [] (.block 6 (.loop L240_2))))
     (.skip)))))))))))))))
  (.keep [0, 1, 2, 7, 8] [] (.region [⟨some 15, .move (.tmp 8), none⟩,
    ⟨some 16, .bin .add .none (.tmp 15) (.const (.int .i64 1)), none⟩,
    ⟨some 8, .move (.tmp 16), none⟩])))))
def F240 : FnIR := ⟨133, 3, [.tmp 6], [],
  .seq (.region [⟨some 6, .move (.const (.bool false)), none⟩])
  (.keep [0, 1, 2] [] (.seq (.region [⟨some 11, .move (.tmp 1), none⟩,
     ⟨some 12, .bin .add .none (.tmp 11) (.const (.int .i64 1)), none⟩,
     ⟨some 7, .move (.tmp 12), none⟩])
  (.keep [0, 1, 2, 7] [] (.seq (.seq (.region [⟨some 8, .move (.const (.int .i64 0)), none⟩])
   (.keep [0, 1, 2, 7, 8] [] (.block 0 (.loop L240_3))))
  (.keep [] [] (.seq (.region [⟨some 6, .move (.const (.bool false)), none⟩])
  (.keep [6] [] (.ret))))))))⟩
/-- slices.partitionEqualOrdered[string] -/
def L242_0 : IC :=
  .keep [0, 1, 9, 10] [] (.seq (.seq (.regionD [⟨some 29, .move (.tmp 9), none⟩,
      ⟨some 30, .move (.tmp 10), none⟩,
      ⟨some 31, .bin .leq .none (.tmp 29) (.tmp 30), none⟩,
      ⟨some 32, .move (.tmp 31), none⟩,
      ⟨some 33, .move (.tmp 0), some (32, true)⟩,
      ⟨some 34, .move (.tmp 1), some (32, true)⟩,
      ⟨some 35, .indexAddr none 1 (.tmp 33) (.tmp 34), some (32, true)⟩,
      ⟨some 36, .load false 1 (.tmp 35), some (32, true)⟩,
      ⟨some 37, .move (.tmp 0), some (32, true)⟩,
      ⟨some 38, .move (.tmp 9), some (32, true)⟩,
      ⟨some 39, .indexAddr none 1 (.tmp 37) (.tmp 38), some (32, true)⟩,
      ⟨some 40, .load false 1 (.tmp 39), some (32, true)⟩,
      ⟨some 41, .call (.func 241) [(.tmp 36), (.tmp 40)], some (32, true)⟩,
      ⟨some 42, .un .not (.tmp 41), some (32, true)⟩,
      ⟨some 43, .pick (.tmp 32) (.tmp 42) (.const (.bool false)), none⟩] [])
   (.keep [0, 1, 9, 10, 43] [] (.cond (.tmp 43)
    (.skip)
    (.exit 2))))
  (.keep [0, 1, 9, 10] [] (.block 3 (.region [⟨some 44, .move (.tmp 9), none⟩,
     ⟨some 45, .bin .add .none (.tmp 44) (.const (.int .i64 1)), none⟩,
     ⟨some 9, .move (.tmp 45), none⟩]))))
def L242_1 : IC :=
  .keep [0, 1, 9, 10] [] (.seq (.seq (.regionD [⟨some 46, .move (.tmp 9), none⟩,
      ⟨some 47, .move (.tmp 10), none⟩,
      ⟨some 48, .bin .leq .none (.tmp 46) (.tmp 47), none⟩,
      ⟨some 49, .move (.tmp 48), none⟩,
      ⟨some 50, .move (.tmp 0), some (49, true)⟩,
      ⟨some 51, .move (.tmp 1), some (49, true)⟩,
      ⟨some 52, .indexAddr none 1 (.tmp 50) (.tmp 51), some (49, true)⟩,
      ⟨some 53, .load false 1 (.tmp 52), some (49, true)⟩,
      ⟨some 54, .move (.tmp 0), some (49, true)⟩,
      ⟨some 55, .move (.tmp 10), some (49, true)⟩,
      ⟨some 56, .indexAddr none 1 (.tmp 54) (.tmp 55), some (49, true)⟩,
      ⟨some 57, .load false 1 (.tmp 56), some (49, true)⟩,
      ⟨some 58, .call (.func 241) [(.tmp 53), (.tmp 57)], some (49, true)⟩,
      ⟨some 59, .pick (.tmp 49) (.tmp 58) (.const (.bool false)), none⟩] [])
   (.keep [0, 1, 9, 10, 59] [] (.cond (.tmp 59)
    (.skip)
    (.exit 4))))
  (.keep [0, 1, 9, 10] [] (.block 5 (.region [⟨some 60, .move (.tmp 10), none⟩,
     ⟨some 61, .bin .sub .none (.tmp 60) (.const (.int .i64 1)), none⟩,
     ⟨some 10, .move (.tmp 61), none⟩]))))
def L242_2 : IC :=
  .keep [0, 1, 9, 10] [] (.block 1 (.seq (.block 2 (.loop L242_0))
   (.keep [0, 1, 9, 10] [] (.seq (.block 4 (.loop L242_1))
   (.keep [0, 1, 9, 10] [] (.seq (.seq (.region [⟨some 62, .move (.tmp 9), none⟩,
       ⟨some 63, .move (.tmp 10), none⟩,
       ⟨some 64, .bin .gtr .none (.tmp 62) (.tmp 63), none⟩])
    (.keep [0, 1, 9, 10, 64] [] (.cond (.tmp 64)
     (.exit 0)
     (.skip))))
   (.keep [0, 1, 9, 10] [] (.seq (.regionD [⟨some 65, .move (.tmp 0), none⟩,
      ⟨some 66, .move (.tmp 9), none⟩,
      ⟨some 69, .move (.tmp 0), none⟩,
      ⟨some 70, .move (.tmp 10), none⟩,
      ⟨some 71, .indexAddr none 1 (.tmp 69) (.tmp 70), none⟩,
      ⟨some 72, .load false 1 (.tmp 71), none⟩,
      ⟨some 73, .move (.tmp 0), none⟩,
      ⟨some 74, .move (.tmp 9), none⟩,
      ⟨some 75, .indexAddr none 1 (.tmp 73) (.tmp 74), none⟩,
      ⟨some 76, .load false 1 (.tmp 75), none⟩,
      ⟨some 77, .indexAddr none 1 (.tmp 65) (.tmp 66), none⟩,
      ⟨none, .store 1 (.tmp 77) (.tmp 72), none⟩,
      ⟨some 67, .move (.tmp 0), none⟩,
      ⟨some 68, .move (.tmp 10), none⟩,
      ⟨some 78, .indexAddr none 1 (.tmp 67) (.tmp 68), none⟩,
      ⟨none, .store 1 (.tmp 78) (.tmp 76), none⟩] [])
   (.keep [0, 1, 9, 10] [] (.seq (.region [⟨some 79, .move (.tmp 9), none⟩,
      ⟨some 80, .bin .add .none (.tmp 79) (.const (.int .i64 1)), none⟩,
      ⟨some 9, .move (.tmp 80), none⟩])
   (.keep [0, 1, 9, 10] [] (.region [⟨some 81, .move (.tmp 10), none⟩,
     ⟨some 82, .bin .sub .none (.tmp 81) (.const (.int .i64 1)), none⟩,
     ⟨some 10, .move (.tmp 82), none⟩]))))))))))))
def F242 : FnIR := ⟨84, 4, [.tmp 8], [],
  .seq (.region [⟨some 8, .move (.const (.int .i64 0)), none⟩])
  (.keep [0, 1, 2, 3] [] (.seq (.regionD [⟨some 11, .move (.tmp 0), none⟩,
     ⟨some 12, .move (.tmp 1), none⟩,
     ⟨some 15, .move (.tmp 0), none⟩,
     ⟨some 16, .move (.tmp 3), none⟩,
     ⟨some 17, .indexAddr none 1 (.tmp 15) (.tmp 16), none⟩,
     ⟨some 18, .load false 1 (.tmp 17), none⟩,
     ⟨some 19, .move (.tmp 0), none⟩,
     ⟨some 20, .move (.tmp 1), none⟩,
     ⟨some 21, .indexAddr none 1 (.tmp 19) (.tmp 20), none⟩,
     ⟨some 22, .load false 1 (.tmp 21), none⟩,
     ⟨some 23, .indexAddr none 1 (.tmp 11) (.tmp 12), none⟩,
     ⟨none, .store 1 (.tmp 23) (.tmp 18), none⟩,
     ⟨some 13, .move (.tmp 0), none⟩,
     ⟨some 14, .move (.tmp 3), none⟩,
     ⟨some 24, .indexAddr none 1 (.tmp 13) (.tmp 14), none⟩,
     ⟨none, .store 1 (.tmp 24) (.tmp 22), none⟩] [])
  (.keep [0, 1, 2] [] (.seq (.region [⟨some 25, .move (.tmp 1), none⟩,
     ⟨some 26, .bin .add .none (.tmp 25) (.const (.int .i64 1)), none⟩,
     ⟨some 27, .move (.tmp 2), none⟩,
     ⟨some 28, .bin .sub .none (.tmp 27) (.const (.int .i64 1)), none⟩,
     ⟨some 9, .move (.tmp 26), none⟩,
     ⟨some 10, .move (.tmp 28), none⟩])
  (.keep [0, 1, 9, 10] [] (.seq (.block 0 (.loop L242_2))
  (.keep [9] [] (.seq (.region [⟨some 83, .move (.tmp 9), none⟩,
     ⟨some 8, .move (.tmp 83), none⟩])
  (.keep [8] [] (.ret))))))))))⟩
/-- slices.partitionOrdered[string] -/
def L243_0 : IC :=
  .keep [0, 1, 10, 11] [] (.seq (.seq (.regionD [⟨some 30, .move (.tmp 10), none⟩,
      ⟨some 31, .move (.tmp 11), none⟩,
      ⟨some 32, .bin .leq .none (.tmp 30) (.tmp 31), none⟩,
      ⟨some 33, .move (.tmp 32), none⟩,
      ⟨some 34, .move (.tmp 0), some (33, true)⟩,
      ⟨some 35, .move (.tmp 10), some (33, true)⟩,
      ⟨some 36, .indexAddr none 1 (.tmp 34) (.tmp 35), some (33, true)⟩,
      ⟨some 37, .load false 1 (.tmp 36), some (33, true)⟩,
      ⟨some 38, .move (.tmp 0), some (33, true)⟩,
      ⟨some 39, .move (.tmp 1), some (33, true)⟩,
      ⟨some 40, .indexAddr none 1 (.tmp 38) (.tmp 39), some (33, true)⟩,
      ⟨some 41, .load false 1 (.tmp 40), some (33, true)⟩,
      ⟨some 42, .call (.func 241) [(.tmp 37), (.tmp 41)], some (33, true)⟩,
      ⟨some 43, .pick (.tmp 33) (.tmp 42) (.const (.bool false)), none⟩] [])
   (.keep [0, 1, 10, 11, 43] [] (.cond (.tmp 43)
    (.skip)
    (.exit 0))))
  (.keep [0, 1, 10, 11] [] (.block 1 (.region [⟨some 44, .move (.tmp 10), none⟩,
     ⟨some 45, .bin .add .none (.tmp 44) (.const (.int .i64 1)), none⟩,
     ⟨some 10, .move (.tmp 45), none⟩]))))
def L243_1 : IC :=
  .keep [0, 1, 10, 11] [] (.seq (.seq (.regionD [⟨some 46, .move (.tmp 10), none⟩,
      ⟨some 47, .move (.tmp 11), none⟩,
      ⟨some 48, .bin .leq .none (.tmp 46) (.tmp 47), none⟩,
      ⟨some 49, .move (.tmp 48), none⟩,
      ⟨some 50, .move (.tmp 0), some (49, true)⟩,
      ⟨some 51, .move (.tmp 11), some (49, true)⟩,
      ⟨some 52, .indexAddr none 1 (.tmp 50) (.tmp 51), some (49, true)⟩,
      ⟨some 53, .load false 1 (.tmp 52), some (49, true)⟩,
      ⟨some 54, .move (.tmp 0), some (49, true)⟩,
      ⟨some 55, .move (.tmp 1), some (49, true)⟩,
      ⟨some 56, .indexAddr none 1 (.tmp 54) (.tmp 55), some (49, true)⟩,
      ⟨some 57, .load false 1 (.tmp 56), some (49, true)⟩,
      ⟨some 58, .call (.func 241) [(.tmp 53), (.tmp 57)], some (49, true)⟩,
      ⟨some 59, .un .not (.tmp 58), some (49, true)⟩,
      ⟨some 60, .pick (.tmp 49) (.tmp 59) (.const (.bool false)), none⟩] [])
   (.keep [0, 1, 10, 11, 60] [] (.cond (.tmp 60)
    (.skip)
    (.exit 2))))
  (.keep [0, 1, 10, 11] [] (.block 3 (.region [⟨some 61, .move (.tmp 11), none⟩,
     ⟨some 62, .bin .sub .none (.tmp 61) (.const (.int .i64 1)), none⟩,
     ⟨some 11, .move (.tmp 62), none⟩]))))
def L243_2 : IC :=
  .keep [0, 1, 10, 11] [] (.seq (.seq (.regionD [⟨some 99, .move (.tmp 10), none⟩,
      ⟨some 100, .move (.tmp 11), none⟩,
      ⟨some 101, .bin .leq .none (.tmp 99) (.tmp 100), none⟩,
      ⟨some 102, .move (.tmp 101), none⟩,
      ⟨some 103, .move (.tmp 0), some (102, true)⟩,
      ⟨some 104, .move (.tmp 10), some (102, true)⟩,
      ⟨some 105, .indexAddr none 1 (.tmp 103) (.tmp 104), some (102, true)⟩,
      ⟨some 106, .load false 1 (.tmp 105), some (102, true)⟩,
      ⟨some 107, .move (.tmp 0), some (102, true)⟩,
      ⟨some 108, .move (.tmp 1), some (102, true)⟩,
      ⟨some 109, .indexAddr none 1 (.tmp 107) (.tmp 108), some (102, true)⟩,
      ⟨some 110, .load false 1 (.tmp 109), some (102, true)⟩,
      ⟨some 111, .call (.func 241) [(.tmp 106), (.tmp 110)], some (102, true)⟩,
      ⟨some 112, .pick (.tmp 102) (.tmp 111) (.const (.bool false)), none⟩] [])
   (.keep [0, 1, 10, 11, 112] [] (.cond (.tmp 112)
    (.skip)
    (.exit 6))))
  (.keep [0, 1, 10, 11] [] (.block 7 (.region [⟨some 113, .move (.tmp 10), none⟩,
     ⟨some 114, .bin .add .none (.tmp 113) (.const (.int .i64 1)), none⟩,
     ⟨some 10, .move (.tmp 114), none⟩]))))
def L243_3 : IC :=
  .keep [0, 1, 10, 11] [] (.seq (.seq (.regionD [⟨some 115, .move (.tmp 10), none⟩,
      ⟨some 116, .move (.tmp 11), none⟩,
      ⟨some 117, .bin .leq .none (.tmp 115) (.tmp 116), none⟩,
      ⟨some 118, .move (.tmp 117), none⟩,
      ⟨some 119, .move (.tmp 0), some (118, true)⟩,
      ⟨some 120, .move (.tmp 11), some (118, true)⟩,
      ⟨some 121, .indexAddr none 1 (.tmp 119) (.tmp 120), some (118, true)⟩,
      ⟨some 122, .load false 1 (.tmp 121), some (118, true)⟩,
      ⟨some 123, .move (.tmp 0), some (118, true)⟩,
      ⟨some 124, .move (.tmp 1), some (118, true)⟩,
      ⟨some 125, .indexAddr none 1 (.tmp 123) (.tmp 124), some (118, true)⟩,
      ⟨some 126, .load false 1 (.tmp 125), some (118, true)⟩,
      ⟨some 127, .call (.func 241) [(.tmp 122), (.tmp 126)], some (118, true)⟩,
      ⟨some 128, .un .not (.tmp 127), some (118, true)⟩,
      ⟨some 129, .pick (.tmp 118) (.tmp 128) (.const (.bool false)), none⟩] [])
   (.keep [0, 1, 10, 11, 129] [] (.cond (.tmp 129)
    (.skip)
    (.exit 8))))
  (.keep [0, 1, 10, 11] [] (.block 9 (.region [⟨some 130, .move (.tmp 11), none⟩,
     ⟨some 131, .bin .sub .none (.tmp 130) (.const (.int .i64 1)), none⟩,
     ⟨some 11, .move (.tmp 131), none⟩]))))
def L243_4 : IC :=
  .keep [0, 1, 10, 11] [] (.block 5 (.seq (.block 6 (.loop L243_2))
   (.keep [0, 1, 10, 11] [] (.seq (.block 8 (.loop L243_3))
   (.keep [0, 1, 10, 11] [] (.seq (.seq (.region [⟨some 132, .move (.tmp 10), none⟩,
       ⟨some 133, .move (.tmp 11), none⟩,
       ⟨some 134, .bin .gtr .none (.tmp 132) (.tmp 133), none⟩])
    (.keep [0, 1, 10, 11, 134] [] (.cond (.tmp 134)
     (.exit 4)
     (.skip))))
   (.keep [0, 1, 10, 11] [] (.seq (.regionD [⟨some 135, .move (.tmp 0), none⟩,
      ⟨some 136, .move (.tmp 10), none⟩,
      ⟨some 139, .move (.tmp 0), none⟩,
      ⟨some 140, .move (.tmp 11), none⟩,
      ⟨some 141, .indexAddr none 1 (.tmp 139) (.tmp 140), none⟩,
      ⟨some 142, .load false 1 (.tmp 141), none⟩,
      ⟨some 143, .move (.tmp 0), none⟩,
      ⟨some 144, .move (.tmp 10), none⟩,
      ⟨some 145, .indexAddr none 1 (.tmp 143) (.tmp 144), none⟩,
      ⟨some 146, .load false 1 (.tmp 145), none⟩,
      ⟨some 147, .indexAddr none 1 (.tmp 135) (.tmp 136), none⟩,
      ⟨none, .store 1 (.tmp 147) (.tmp 142), none⟩,
      ⟨some 137, .move (.tmp 0), none⟩,
      ⟨some 138, .move (.tmp 11), none⟩,
      ⟨some 148, .indexAddr none 1 (.tmp 137) (.tmp 138), none⟩,
      ⟨none, .store 1 (.tmp 148) (.tmp 146), none⟩] [])
   (.keep [0, 1, 10, 11] [] (.seq (.region [⟨some 149, .move (.tmp 10), none⟩,
      ⟨some 150, .bin .add .none (.tmp 149) (.const (.int .i64 1)), none⟩,
      ⟨some 10, .move (.tmp 150), none⟩])
   (.keep [0, 1, 10, 11] [] (.region [⟨some 151, .move (.tmp 11), none⟩,
     ⟨some 152, .bin .sub .none (.tmp 151) (.const (.int .i64 1)), none⟩,
     ⟨some 11, .move (.tmp 152), none⟩]))))))))))))
def F243 : FnIR := ⟨168, 4, [.tmp 8, .tmp 9], [],
  .seq (.region [⟨some 8, .move (.const (.int .i64 0)), none⟩,
     ⟨some 9, .move (.const (.bool false)), none⟩])
  (.keep [0, 1, 2, 3] [] (.seq (.regionD [⟨some 12, .move (.tmp 0), none⟩,
     ⟨some 13, .move (.tmp 1), none⟩,
     ⟨some 16, .move (.tmp 0), none⟩,
     ⟨some 17, .move (.tmp 3), none⟩,
     ⟨some 18, .indexAddr none 1 (.tmp 16) (.tmp 17), none⟩,
     ⟨some 19, .load false 1 (.tmp 18), none⟩,
     ⟨some 20, .move (.tmp 0), none⟩,
     ⟨some 21, .move (.tmp 1), none⟩,
     ⟨some 22, .indexAddr none 1 (.tmp 20) (.tmp 21), none⟩,
     ⟨some 23, .load false 1 (.tmp 22), none⟩,
     ⟨some 24, .indexAddr none 1 (.tmp 12) (.tmp 13), none⟩,
     ⟨none, .store 1 (.tmp 24) (.tmp 19), none⟩,
     ⟨some 14, .move (.tmp 0), none⟩,
     ⟨some 15, .move (.tmp 3), none⟩,
     ⟨some 25, .indexAddr none 1 (.tmp 14) (.tmp 15), none⟩,
     ⟨none, .store 1 (.tmp 25) (.tmp 23), none⟩] [])
  (.keep [0, 1, 2] [] (.seq (.region [⟨some 26, .move (.tmp 1), none⟩,
     ⟨some 27, .bin .add .none (.tmp 26) (.const (.int .i64 1)), none⟩,
     ⟨some 28, .move (.tmp 2), none⟩,
     ⟨some 29, .bin .sub .none (.tmp 28) (.const (.int .i64 1)), none⟩,
     ⟨some 10, .move (.tmp 27), none⟩,
     ⟨some 11, .move (.tmp 29), none⟩])
  (.keep [0, 1, 10, 11] [] (.seq (.block 0 (.loop L243_0))
  (.keep [0, 1, 10, 11] [] (.seq (.block 2 (.loop L243_1))
  (.keep [0, 1, 10, 11] [] (.seq (.seq (.region [⟨some 63, .move (.tmp 10), none⟩,
      ⟨some 64, .move (.tmp 11), none⟩,
      ⟨some 65, .bin .gtr .none (.tmp 63) (.tmp 64), none⟩])
   (.keep [0, 1, 10, 11, 65] [] (.cond (.tmp 65)
    (.seq (.regionD [⟨some 66, .move (.tmp 0), none⟩,
       ⟨some 67, .move (.tmp 11), none⟩,
       ⟨some 70, .move (.tmp 0), none⟩,
       ⟨some 71, .move (.tmp 1), none⟩,
       ⟨some 72, .indexAddr none 1 (.tmp 70) (.tmp 71), none⟩,
       ⟨some 73, .load false 1 (.tmp 72), none⟩,
       ⟨some 74, .move (.tmp 0), none⟩,
       ⟨some 75, .move (.tmp 11), none⟩,
       ⟨some 76, .indexAddr none 1 (.tmp 74) (.tmp 75), none⟩,
       ⟨some 77, .load false 1 (.tmp 76), none⟩,
       ⟨some 78, .indexAddr none 1 (.tmp 66) (.tmp 67), none⟩,
       ⟨none, .store 1 (.tmp 78) (.tmp 73), none⟩,
       ⟨some 68, .move (.tmp 0), none⟩,
       ⟨some 69, .move (.tmp 1), none⟩,
       ⟨some 79, .indexAddr none 1 (.tmp 68) (.tmp 69), none⟩,
       ⟨none, .store 1 (.tmp 79) (.tmp 77), none⟩] [])
    (.keep [11] [] (.seq (.region [⟨some 80, .move (.tmp 11), none⟩,
       ⟨some 8, .move (.tmp 80), none⟩,
       ⟨some 9, .move (.const (.bool true)), none⟩])
    (.keep [8, 9] [] (.ret)))))
    (.skip))))
  (.keep [0, 1, 10, 11] [] (.seq (.regionD [⟨some 81, .move (.tmp 0), none⟩,
     ⟨some 82, .move (.tmp 10), none⟩,
     ⟨some 85, .move (.tmp 0), none⟩,
     ⟨some 86, .move (.tmp 11), none⟩,
     ⟨some 87, .indexAddr none 1 (.tmp 85) (.tmp 86), none⟩,
     ⟨some 88, .load false 1 (.tmp 87), none⟩,
     ⟨some 89, .move (.tmp 0), none⟩,
     ⟨some 90, .move (.tmp 10), none⟩,
     ⟨some 91, .indexAddr none 1 (.tmp 89) (.tmp 90), none⟩,
     ⟨some 92, .load false 1 (.tmp 91), none⟩,
     ⟨some 93, .indexAddr none 1 (.tmp 81) (.tmp 82), none⟩,
     ⟨none, .store 1 (.tmp 93) (.tmp 88), none⟩,
     ⟨some 83, .move (.tmp 0), none⟩,
     ⟨some 84, .move (.tmp 11), none⟩,
     ⟨some 94, .indexAddr none 1 (.tmp 83) (.tmp 84), none⟩,
     ⟨none, .store 1 (.tmp 94) (.tmp 92), none⟩] [])
  (.keep [0, 1, 10, 11] [] (.seq (.region [⟨some 95, .move (.tmp 10), none⟩,
     ⟨some 96, .bin .add .none (.tmp 95) (.const (.int .i64 1)), none⟩,
     ⟨some 10, .move (.tmp 96), none⟩])
  (.keep [0, 1, 10, 11] [] (.seq (.region [⟨some 97, .move (.tmp 11), none⟩,
     ⟨some 98, .bin .sub .none (.tmp 97) (.const (.int .i64 1)), none⟩,
     ⟨some 11, .move (.tmp 98), none⟩])
  (.keep [0, 1, 10, 11] [] (.seq (.block 4 (.loop L243_4))
  (.keep [0, 1, 11] [] (.seq (.regionD [⟨some 153, .move (.tmp 0), none⟩,
     ⟨some 154, .move (.tmp 11), none⟩,
     ⟨some 157, .move (.tmp 0), none⟩,
     ⟨some 158, .move (.tmp 1), none⟩,
     ⟨some 159, .indexAddr none 1 (.tmp 157) (.tmp 158), none⟩,
     ⟨some 160, .load false 1 (.tmp 159), none⟩,
     ⟨some 161, .move (.tmp 0), none⟩,
     ⟨some 162, .move (.tmp 11), none⟩,
     ⟨some 163, .indexAddr none 1 (.tmp 161) (.tmp 162), none⟩,
     ⟨some 164, .load false 1 (.tmp 163), none⟩,
     ⟨some 165, .indexAddr none 1 (.tmp 153) (.tmp 154), none⟩,
     ⟨none, .store 1 (.tmp 165) (.tmp 160), none⟩,
     ⟨some 155, .move (.tmp 0), none⟩,
     ⟨some 156, .move (.tmp 1), none⟩,
     ⟨some 166, .indexAddr none 1 (.tmp 155) (.tmp 156), none⟩,
     ⟨none, .store 1 (.tmp 166) (.tmp 164), none⟩] [])
  (.keep [11] [] (.seq (.region [⟨some 167, .move (.tmp 11), none⟩,
     ⟨some 8, .move (.tmp 167), none⟩,
     ⟨some 9, .move (.const (.bool false)), none⟩])
  (.keep [8, 9] [] (.ret))))))))))))))))))))))))⟩
/-- wampum/version.Read -/
def F103 : FnIR := ⟨107, 5, [.cell 10 true 5, .tmp 11, .cell 12 true 5, .tmp 13], [5, 6, 7, 10, 12, 14],
  .seq (.region [⟨some 5, .box true 12 (.tmp 0), none⟩,
     ⟨some 6, .box true 2 (.tmp 1), none⟩,
     ⟨some 7, .box true 2 (.tmp 2), none⟩,
     ⟨some 10, .alloc true 5 [(.int .i64 0), (.int .i64 0), (.str []), (.bool false), (.int .i64 0)], none⟩,
     ⟨some 11, .move (.const (.bool false)), none⟩,
     ⟨some 12, .alloc true 5 [(.int .i64 0), (.int .i64 0), (.str []), (.int .i64 0), (.int .i64 0)], none⟩,
     ⟨some 13, .move (.const (.int .i64 0)), none⟩])
  (.keep [3, 4, 5, 6, 7, 10, 11, 12] [5, 6, 7, 10, 12] (.seq (.region [⟨some 17, .fieldAddr 2 (.tmp 5), none⟩,
     ⟨some 18, .load true 10 (.tmp 17), none⟩,
     ⟨some 14, .alloc true 10 [(.int .i64 0), (.int .i64 0), (.str []), (.int .i64 0), (.int .i64 0), (.int .i64 0), (.int .i64 0), (.int .i64 0), (.str []), (.bool false)], none⟩,
     ⟨none, .store 10 (.tmp 14) (.tmp 18), none⟩])
  (.keep [3, 4, 5, 6, 7, 10, 11, 12, 14] [5, 6, 7, 10, 12, 14] (.seq (.block 0 (.seq (.region [⟨some 20, .fieldAddr 1 (.tmp 5), none⟩,
       ⟨some 21, .load false 1 (.tmp 20), none⟩,
       ⟨some 22, .move (.tmp 21), none⟩,
       ⟨some 23, .fieldAddr 0 (.tmp 14), some (22, true)⟩,
       ⟨some 24, .fieldAddr 0 (.tmp 23), some (22, true)⟩,
       ⟨some 25, .load false 1 (.tmp 24), some (22, true)⟩,
       ⟨some 26, .move (.tmp 3), some (22, true)⟩,
       ⟨some 27, .bin .eql .int (.tmp 25) (.tmp 26), some (22, true)⟩,
       ⟨some 28, .pick (.tmp 22) (.tmp 27) (.const (.bool false)), none⟩,
       ⟨some 29, .move (.tmp 28), none⟩,
       ⟨some 30, .fieldAddr 0 (.tmp 14), some (29, true)⟩,
       ⟨some 31, .fieldAddr 1 (.tmp 30), some (29, true)⟩,
       ⟨some 32, .load false 1 (.tmp 31), some (29, true)⟩,
       ⟨some 33, .move (.tmp 4), some (29, true)⟩,
       ⟨some 34, .bin .eql .int (.tmp 32) (.tmp 33), some (29, true)⟩,
       ⟨some 35, .pick (.tmp 29) (.tmp 34) (.const (.bool false)), none⟩,
       ⟨some 19, .move (.tmp 35), none⟩])
    (.keep [3, 5, 6, 7, 10, 11, 12, 14, 19] [5, 6, 7, 10, 12, 14] (.cond (.tmp 19)
     (.seq (.seq (.region [⟨some 36, .fieldAddr 9 (.tmp 14), none⟩,
         ⟨some 37, .load false 1 (.tmp 36), none⟩,
         ⟨some 38, .un .not (.tmp 37), none⟩])
      (.keep [3, 10, 11, 12, 14, 38] [10, 12, 14] (.cond (.tmp 38)
       (.region [⟨some 39, .fieldAddr 6 (.tmp 14), none⟩,
         ⟨some 40, .load true 2 (.tmp 39), none⟩,
         ⟨some 41, .fieldAddr 8 (.tmp 14), none⟩,
         ⟨some 42, .load false 1 (.tmp 41), none⟩,
         ⟨some 43, .move (.tmp 3), none⟩,
         ⟨some 44, .build [(.int .i64 0), (.int .i64 0), (.str []), (.bool false), (.int .i64 0)] [(0, 2, (.tmp 40)), (2, 1, (.tmp 42)), (4, 1, (.tmp 43))], none⟩,
         ⟨none, .store 5 (.tmp 10) (.tmp 44), none⟩,
         ⟨some 11, .move (.const (.bool true)), none⟩])
       (.skip))))
     (.keep [10, 11, 12] [10, 12] (.seq (.regionD [⟨some 45, .load true 5 (.tmp 10), none⟩,
        ⟨none, .store 5 (.tmp 10) (.tmp 45), none⟩,
        ⟨some 46, .move (.tmp 11), none⟩,
        ⟨some 47, .load true 5 (.tmp 12), none⟩,
        ⟨some 11, .move (.tmp 46), none⟩,
        ⟨none, .store 5 (.tmp 12) (.tmp 47), none⟩,
        ⟨some 13, .move (.const (.int .i64 0)), none⟩] [(3, 0)])
     (.keep [10, 11, 12, 13] [10, 12] (.ret)))))
     (.seq (.region [⟨some 49, .fieldAddr 1 (.tmp 5), none⟩,
        ⟨some 50, .load false 1 (.tmp 49), none⟩,
        ⟨some 51, .move (.tmp 50), none⟩,
        ⟨some 52, .fieldAddr 0 (.tmp 14), some (51, true)⟩,
        ⟨some 53, .fieldAddr 0 (.tmp 52), some (51, true)⟩,
        ⟨some 54, .load false 1 (.tmp 53), some (51, true)⟩,
        ⟨some 55, .move (.tmp 3), some (51, true)⟩,
        ⟨some 56, .bin .neq .int (.tmp 54) (.tmp 55), some (51, true)⟩,
        ⟨some 57, .pick (.tmp 51) (.tmp 56) (.const (.bool false)), none⟩,
        ⟨some 58, .move (.tmp 57), none⟩,
        ⟨some 59, .fieldAddr 6 (.tmp 14), some (58, true)⟩,
        ⟨some 60, .load true 2 (.tmp 59), some (58, true)⟩,
        ⟨some 61, .load true 2 (.tmp 7), some (58, true)⟩,
        ⟨some 62, .call (.func 179) [(.tmp 60), (.tmp 61)], some (58, true)⟩,
        ⟨some 63, .pick (.tmp 58) (.tmp 62) (.const (.bool false)), none⟩,
        ⟨some 48, .move (.tmp 63), none⟩])
     (.keep [5, 6, 7, 10, 12, 14, 48] [5, 6, 7, 10, 12, 14] (.cond (.tmp 48)
      (.seq (.regionD [⟨some 64, .load true 5 (.tmp 10), none⟩,
         ⟨none, .store 5 (.tmp 10) (.tmp 64), none⟩,
         ⟨some 65, .fieldAddr 0 (.tmp 14), none⟩,
         ⟨some 66, .load true 5 (.tmp 65), none⟩,
         ⟨some 11, .move (.const (.bool false)), none⟩,
         ⟨none, .store 5 (.tmp 12) (.tmp 66), none⟩,
         ⟨some 13, .move (.const (.int .i64 81)), none⟩] [(3, 0)])
      (.keep [10, 11, 12, 13] [10, 12] (.ret)))
      (.skip))))))))
  (.keep [5, 6, 7, 10, 12] [5, 6, 7, 10, 12] (.seq (.regionD [⟨some 67, .load true 12 (.tmp 5), none⟩,
     ⟨some 68, .load true 2 (.tmp 6), none⟩,
     ⟨some 69, .call (.func 180) [(.tmp 67), (.tmp 68)], none⟩,
     ⟨some 70, .load true 12 (.tmp 5), none⟩,
     ⟨some 71, .load true 2 (.tmp 7), none⟩,
     ⟨some 72, .call (.func 180) [(.tmp 70), (.tmp 71)], none⟩,
     ⟨some 15, .move (.tmp 69), none⟩,
     ⟨some 16, .move (.tmp 72), none⟩] [(3, 0), (4, 0)])
  (.keep [5, 10, 12, 15, 16] [5, 10, 12] (.seq (.block 1 (.seq (.region [⟨some 74, .move (.tmp 16), none⟩,
       ⟨some 75, .move (.tmp 15), none⟩,
       ⟨some 76, .bin .gtr .none (.tmp 74) (.tmp 75), none⟩,
       ⟨some 73, .move (.tmp 76), none⟩])
    (.keep [5, 10, 12, 15, 16, 73] [5, 10, 12] (.cond (.tmp 73)
     (.seq (.regionD [⟨some 77, .fieldAddr 0 (.tmp 5), none⟩,
        ⟨some 78, .load false 1 (.tmp 77), none⟩,
        ⟨some 79, .move (.tmp 16), none⟩,
        ⟨some 80, .bin .sub .none (.tmp 79) (.const (.int .i64 1)), none⟩,
        ⟨some 81, .indexAddr none 5 (.tmp 78) (.tmp 80), none⟩,
        ⟨some 82, .fieldAddr 0 (.tmp 81), none⟩,
        ⟨some 83, .load true 2 (.tmp 82), none⟩,
        ⟨some 84, .build [(.int .i64 0), (.int .i64 0), (.str []), (.bool false), (.int .i64 0)] [(0, 2, (.tmp 83))], none⟩,
        ⟨none, .store 5 (.tmp 10) (.tmp 84), none⟩,
        ⟨some 85, .load true 5 (.tmp 12), none⟩,
        ⟨some 11, .move (.const (.bool false)), none⟩,
        ⟨none, .store 5 (.tmp 12) (.tmp 85), none⟩,
        ⟨some 13, .move (.const (.int .i64 82)), none⟩] [(9, 0)])
     (.keep [10, 11, 12, 13] [10, 12] (.ret)))
     (.seq (.region [⟨some 87, .move (.tmp 15), none⟩,
        ⟨some 88, .bin .eql .int (.tmp 87) (.const (.int .i64 0)), none⟩,
        ⟨some 89, .move (.tmp 88), none⟩,
        ⟨some 90, .fieldAddr 0 (.tmp 5), some (89, false)⟩,
        ⟨some 91, .load false 1 (.tmp 90), some (89, false)⟩,
        ⟨some 92, .move (.tmp 15), some (89, false)⟩,
        ⟨some 93, .bin .sub .none (.tmp 92) (.const (.int .i64 1)), some (89, false)⟩,
        ⟨some 94, .indexAddr none 5 (.tmp 91) (.tmp 93), some (89, false)⟩,
        ⟨some 95, .fieldAddr 3 (.tmp 94), some (89, false)⟩,
        ⟨some 96, .load false 1 (.tmp 95), some (89, false)⟩,
        ⟨some 97, .pick (.tmp 89) (.const (.bool true)) (.tmp 96), none⟩,
        ⟨some 86, .move (.tmp 97), none⟩])
     (.keep [5, 10, 12, 15, 86] [5, 10, 12] (.cond (.tmp 86)
      (.seq (.regionD [⟨some 98, .load true 5 (.tmp 10), none⟩,
         ⟨none, .store 5 (.tmp 10) (.tmp 98), none⟩,
         ⟨some 99, .load true 5 (.tmp 12), none⟩,
         ⟨some 11, .move (.const (.bool false)), none⟩,
         ⟨none, .store 5 (.tmp 12) (.tmp 99), none⟩,
         ⟨some 13, .move (.const (.int .i64 0)), none⟩] [(2, 0)])
      (.keep [10, 11, 12, 13] [10, 12] (.ret)))
      (.skip))))))))
  (.keep [5, 10, 12, 15] [5, 10, 12] (.seq (.regionD [⟨some 100, .fieldAddr 0 (.tmp 5), none⟩,
     ⟨some 101, .load false 1 (.tmp 100), none⟩,
     ⟨some 102, .move (.tmp 15), none⟩,
     ⟨some 103, .bin .sub .none (.tmp 102) (.const (.int .i64 1)), none⟩,
     ⟨some 104, .indexAddr none 5 (.tmp 101) (.tmp 103), none⟩,
     ⟨some 105, .load true 5 (.tmp 104), none⟩,
     ⟨none, .store 5 (.tmp 10) (.tmp 105), none⟩,
     ⟨some 106, .load true 5 (.tmp 12), none⟩,
     ⟨some 11, .move (.const (.bool true)), none⟩,
     ⟨none, .store 5 (.tmp 12) (.tmp 106), none⟩,
     ⟨some 13, .move (.const (.int .i64 0)), none⟩] [(7, 0)])
  (.keep [10, 11, 12, 13] [10, 12] (.ret))))))))))))⟩
/-- wampum/version.upto -/
def F179 : FnIR := ⟨9, 2, [.tmp 4], [2, 3],
  .seq (.region [⟨some 2, .box true 2 (.tmp 0), none⟩,
     ⟨some 3, .box true 2 (.tmp 1), none⟩,
     ⟨some 4, .move (.const (.bool false)), none⟩])
  (.keep [2, 3] [2, 3] (.seq (.region [⟨some 5, .load true 2 (.tmp 3), none⟩,
     ⟨some 6, .load true 2 (.tmp 2), none⟩,
     ⟨some 7, .call (.func 186) [(.tmp 5), (.tmp 6)], none⟩,
     ⟨some 8, .un .not (.tmp 7), none⟩,
     ⟨some 4, .move (.tmp 8), none⟩])
  (.keep [4] [] (.ret))))⟩
/-- wampum/stamp.Less -/
def F186 : FnIR := ⟨9, 2, [.tmp 4], [2, 3],
  .seq (.region [⟨some 2, .box true 2 (.tmp 0), none⟩,
     ⟨some 3, .box true 2 (.tmp 1), none⟩,
     ⟨some 4, .move (.const (.bool false)), none⟩])
  (.keep [2, 3] [2, 3] (.seq (.region [⟨some 5, .load true 2 (.tmp 2), none⟩,
     ⟨some 6, .load true 2 (.tmp 3), none⟩,
     ⟨some 7, .call (.func 105) [(.tmp 5), (.tmp 6)], none⟩,
     ⟨some 8, .bin .lss .none (.tmp 7) (.const (.int .i64 0)), none⟩,
     ⟨some 4, .move (.tmp 8), none⟩])
  (.keep [4] [] (.ret))))⟩
/-- wampum/stamp.Compare -/
def F105 : FnIR := ⟨17, 2, [.tmp 4], [2, 3],
  .seq (.region [⟨some 2, .box true 2 (.tmp 0), none⟩,
     ⟨some 3, .box true 2 (.tmp 1), none⟩,
     ⟨some 4, .move (.const (.int .i64 0)), none⟩])
  (.keep [2, 3] [2, 3] (.seq (.regionD [⟨some 5, .fieldAddr 0 (.tmp 2), none⟩,
     ⟨some 6, .load false 1 (.tmp 5), none⟩,
     ⟨some 7, .fieldAddr 0 (.tmp 3), none⟩,
     ⟨some 8, .load false 1 (.tmp 7), none⟩,
     ⟨some 9, .call (.func 182) [(.tmp 6), (.tmp 8)], none⟩,
     ⟨some 10, .fieldAddr 1 (.tmp 2), none⟩,
     ⟨some 11, .load false 1 (.tmp 10), none⟩,
     ⟨some 12, .fieldAddr 1 (.tmp 3), none⟩,
     ⟨some 13, .load false 1 (.tmp 12), none⟩,
     ⟨some 14, .call (.func 182) [(.tmp 11), (.tmp 13)], none⟩,
     ⟨some 15, .buildSlice 1 2 [(.int .i64 0), (.int .i64 0)] [(0, 1, (.tmp 9)), (1, 1, (.tmp 14))], none⟩,
     ⟨some 16, .call (.func 181) [(.tmp 15)], none⟩,
     ⟨some 4, .move (.tmp 16), none⟩] [(6, 0), (8, 0)])
  (.keep [4] [] (.ret))))⟩
/-- cmp.Compare[int] -/
def F182 : FnIR := ⟨20, 2, [.tmp 4], [],
  .seq (.region [⟨some 4, .move (.const (.int .i64 0)), none⟩])
  (.keep [0, 1] [] (.seq (.region [⟨some 7, .move (.tmp 0), none⟩,
     ⟨some 8, .call (.func 226) [(.tmp 7)], none⟩,
     ⟨some 5, .move (.tmp 8), none⟩])
  (.keep [0, 1, 5] [] (.seq (.region [⟨some 9, .move (.tmp 1), none⟩,
     ⟨some 10, .call (.func 226) [(.tmp 9)], none⟩,
     ⟨some 6, .move (.tmp 10), none⟩])
  (.keep [0, 1, 5, 6] [] (.seq (.seq (.region [⟨some 11, .move (.tmp 5), none⟩])
   (.keep [0, 1, 6, 11] [] (.cond (.tmp 11)
    (.seq (.seq (.region [⟨some 12, .move (.tmp 6), none⟩])
     (.keep [12] [] (.cond (.tmp 12)
      (.seq (.region [⟨some 4, .move (.const (.int .i64 0)), none⟩])
      (.keep [4] [] (.ret)))
      (.skip))))
    (.keep [] [] (.seq (.region [⟨some 4, .move (.const (.int .i64 (-1))), none⟩])
    (.keep [4] [] (.ret)))))
    (.skip))))
  (.keep [0, 1, 6] [] (.seq (.seq (.region [⟨some 13, .move (.tmp 6), none⟩])
   (.keep [0, 1, 13] [] (.cond (.tmp 13)
    (.seq (.region [⟨some 4, .move (.const (.int .i64 1)), none⟩])
    (.keep [4] [] (.ret)))
    (.skip))))
  (.keep [0, 1] [] (.seq (.seq (.region [⟨some 14, .move (.tmp 0), none⟩,
      ⟨some 15, .move (.tmp 1), none⟩,
      ⟨some 16, .bin .lss .none (.tmp 14) (.tmp 15), none⟩])
   (.keep [0, 1, 16] [] (.cond (.tmp 16)
    (.seq (.region [⟨some 4, .move (.const (.int .i64 (-1))), none⟩])
    (.keep [4] [] (.ret)))
    (.skip))))
  (.keep [0, 1] [] (.seq (.seq (.region [⟨some 17, .move (.tmp 0), none⟩,
      ⟨some 18, .move (.tmp 1), none⟩,
      ⟨some 19, .bin .gtr .none (.tmp 17) (.tmp 18), none⟩])
   (.keep [19] [] (.cond (.tmp 19)
    (.seq (.region [⟨some 4, .move (.const (.int .i64 1)), none⟩])
    (.keep [4] [] (.ret)))
    (.skip))))
  (.keep [] [] (.seq (.region [⟨some 4, .move (.const (.int .i64 0)), none⟩])
  (.keep [4] [] (.ret))))))))))))))))⟩
/-- cmp.isNaN[int] -/
def F226 : FnIR := ⟨6, 1, [.tmp 2], [],
  .seq (.region [⟨some 2, .move (.const (.bool false)), none⟩])
  (.keep [0] [] (.seq (.region [⟨some 3, .move (.tmp 0), none⟩,
     ⟨some 4, .move (.tmp 0), none⟩,
     ⟨some 5, .bin .neq .int (.tmp 3) (.tmp 4), none⟩,
     ⟨some 2, .move (.tmp 5), none⟩])
  (.keep [2] [] (.ret))))⟩
/-- cmp.Or[int] -/
def L181_0 : IC :=
  .keep [3, 6, 7, 8] [] (.seq (.region [⟨some 9, .bin .lss .none (.tmp 8) (.tmp 7), none⟩])
  (.keep [3, 6, 7, 8, 9] [] (.seq (.cond (.tmp 9)
    (.skip)
    (.exit 0))
  (.keep [3, 6, 7, 8] [] (.seq (.block 1 (.seq (.region [⟨some 10, .indexAddr none 1 (.tmp 6) (.tmp 8), none⟩,
       ⟨some 11, .load false 1 (.tmp 10), none⟩,
       ⟨some 5, .move (.tmp 11), none⟩])
    (.keep [3, 5, 6, 7, 8] [] (.seq (.region [⟨some 12, .move (.tmp 5), none⟩,
       ⟨some 13, .move (.tmp 3), none⟩,
       ⟨some 14, .bin .neq .int (.tmp 12) (.tmp 13), none⟩])
    (.keep [3, 5, 6, 7, 8, 14] [] (.cond (.tmp 14)
     (.seq (.region [⟨some 15, .move (.tmp 5), none⟩,
        ⟨some 2, .move (.tmp 15), none⟩])
     (.keep [2] [] (.ret)))
     (.skip)))))))
  (.keep [3, 6, 7, 8] [] (.region [⟨some 16, .bin .add .none (.tmp 8) (.const (.int .i64 1)), none⟩,
    ⟨some 8, .move (.tmp 16), none⟩])))))))
def F181 : FnIR := ⟨18, 1, [.tmp 2], [],
  .seq (.region [⟨some 2, .move (.const (.int .i64 0)), none⟩])
  (.keep [0] [] (.seq (.region [⟨some 3, .move (.const (.int .i64 0)), none⟩])
  (.keep [0, 3] [] (.seq (.seq (.region [⟨some 6, .move (.tmp 0), none⟩,
      ⟨some 7, .len .slice (.tmp 6), none⟩,
      ⟨some 8, .move (.const (.int .i64 0)), none⟩])
   (.keep [3, 6, 7, 8] [] (.block 0 (.loop L181_0))))
  (.keep [3] [] (.seq (.region [⟨some 17, .move (.tmp 3), none⟩,
     ⟨some 2, .move (.tmp 17), none⟩])
  (.keep [2] [] (.ret))))))))⟩
/-- wampum/version.above -/
def F180 : FnIR := ⟨15, 2, [.tmp 4], [2, 3],
  .seq (.region [⟨some 2, .box true 12 (.tmp 0), none⟩,
     ⟨some 3, .box true 2 (.tmp 1), none⟩,
     ⟨some 4, .move (.const (.int .i64 0)), none⟩])
  (.keep [2, 3] [2, 3] (.seq (.region [⟨some 8, .fieldAddr 0 (.tmp 2), none⟩,
     ⟨some 9, .load false 1 (.tmp 8), none⟩,
     ⟨some 10, .load true 2 (.tmp 3), none⟩,
     ⟨some 11, .call (.func 224) [(.tmp 9), (.tmp 10), (.func 225)], none⟩,
     ⟨some 7, .move (.tmp 11), none⟩,
     ⟨some 12, .extract (.tmp 7) 0, none⟩,
     ⟨some 13, .extract (.tmp 7) 1, none⟩,
     ⟨some 5, .move (.tmp 12), none⟩,
     ⟨some 6, .move (.tmp 13), none⟩])
  (.keep [5] [] (.seq (.region [⟨some 14, .move (.tmp 5), none⟩,
     ⟨some 4, .move (.tmp 14), none⟩])
  (.keep [4] [] (.ret))))))⟩
/-- slices.BinarySearchFunc[[]wampum/api.Version,wampum/api.Version,wampum/api.Stamp] -/
def L224_0 : IC :=
  .keep [0, 2, 4, 8, 9, 10] [4] (.seq (.seq (.region [⟨some 15, .move (.tmp 9), none⟩,
      ⟨some 16, .move (.tmp 10), none⟩,
      ⟨some 17, .bin .lss .none (.tmp 15) (.tmp 16), none⟩])
   (.keep [0, 2, 4, 8, 9, 10, 17] [4] (.cond (.tmp 17)
    (.skip)
    (.exit 0))))
  (.keep [0, 2, 4, 8, 9, 10] [4] (.block 1 (.seq (.region [⟨some 18, .move (.tmp 9), none⟩,
      ⟨some 19, .move (.tmp 10), none⟩,
      ⟨some 20, .bin .add .none (.tmp 18) (.tmp 19), none⟩,
      ⟨some 21, .conv (.toInt .u64) (.tmp 20), none⟩,
      ⟨some 22, .bin .shr .none (.tmp 21) (.const (.int .u64 1)), none⟩,
      ⟨some 23, .conv (.toInt .i64) (.tmp 22), none⟩,
      ⟨some 11, .move (.tmp 23), none⟩])
   (.keep [0, 2, 4, 8, 9, 10, 11] [4] (.seq (.regionD [⟨some 24, .move (.tmp 2), none⟩,
      ⟨some 25, .move (.tmp 0), none⟩,
      ⟨some 26, .move (.tmp 11), none⟩,
      ⟨some 27, .indexAddr none 5 (.tmp 25) (.tmp 26), none⟩,
      ⟨some 28, .load true 5 (.tmp 27), none⟩,
      ⟨some 29, .load true 2 (.tmp 4), none⟩,
      ⟨some 30, .call (.tmp 24) [(.tmp 28), (.tmp 29)], none⟩,
      ⟨some 31, .bin .lss .none (.tmp 30) (.const (.int .i64 0)), none⟩] [])
   (.keep [0, 2, 4, 8, 9, 10, 11, 31] [4] (.cond (.tmp 31)
    (.region [⟨some 32, .move (.tmp 11), none⟩,
      ⟨some 33, .bin .add .none (.tmp 32) (.const (.int .i64 1)), none⟩,
      ⟨some 9, .move (.tmp 33), none⟩])
    (.region [⟨some 34, .move (.tmp 11), none⟩,
      ⟨some 10, .move (.tmp 34), none⟩])))))))))
def F224 : FnIR := ⟨49, 3, [.tmp 6, .tmp 7], [4],
  .seq (.region [⟨some 4, .box true 2 (.tmp 1), none⟩,
     ⟨some 6, .move (.const (.int .i64 0)), none⟩,
     ⟨some 7, .move (.const (.bool false)), none⟩])
  (.keep [0, 2, 4] [4] (.seq (.region [⟨some 12, .move (.tmp 0), none⟩,
     ⟨some 13, .len .slice (.tmp 12), none⟩,
     ⟨some 8, .move (.tmp 13), none⟩])
  (.keep [0, 2, 4, 8] [4] (.seq (.region [⟨some 14, .move (.tmp 8), none⟩,
     ⟨some 9, .move (.const (.int .i64 0)), none⟩,
     ⟨some 10, .move (.tmp 14), none⟩])
  (.keep [0, 2, 4, 8, 9, 10] [4] (.seq (.block 0 (.loop L224_0))
  (.keep [0, 2, 4, 8, 9] [4] (.seq (.regionD [⟨some 36, .move (.tmp 9), none⟩,
     ⟨some 37, .move (.tmp 8), none⟩,
     ⟨some 38, .bin .lss .none (.tmp 36) (.tmp 37), none⟩,
     ⟨some 39, .move (.tmp 38), none⟩,
     ⟨some 40, .move (.tmp 2), some (39, true)⟩,
     ⟨some 41, .move (.tmp 0), some (39, true)⟩,
     ⟨some 42, .move (.tmp 9), some (39, true)⟩,
     ⟨some 43, .indexAddr none 5 (.tmp 41) (.tmp 42), some (39, true)⟩,
     ⟨some 44, .load true 5 (.tmp 43), some (39, true)⟩,
     ⟨some 45, .load true 2 (.tmp 4), some (39, true)⟩,
     ⟨some 46, .call (.tmp 40) [(.tmp 44), (.tmp 45)], some (39, true)⟩,
     ⟨some 35, .move (.tmp 9), none⟩,
     ⟨some 47, .bin .eql .int (.tmp 46) (.const (.int .i64 0)), some (39, true)⟩,
     ⟨some 48, .pick (.tmp 39) (.tmp 47) (.const (.bool false)), none⟩,
     ⟨some 6, .move (.tmp 35), none⟩,
     ⟨some 7, .move (.tmp 48), none⟩] [])
  (.keep [6, 7] [] (.ret))))))))))⟩
/-- wampum/version.above$1 -/
def F225 : FnIR := ⟨9, 2, [.tmp 4], [2, 3],
  .seq (.region [⟨some 2, .box true 5 (.tmp 0), none⟩,
     ⟨some 3, .box true 2 (.tmp 1), none⟩,
     ⟨some 4, .move (.const (.int .i64 0)), none⟩])
  (.keep [2, 3] [2, 3] (.seq (.seq (.region [⟨some 5, .fieldAddr 0 (.tmp 2), none⟩,
      ⟨some 6, .load true 2 (.tmp 5), none⟩,
      ⟨some 7, .load true 2 (.tmp 3), none⟩,
      ⟨some 8, .call (.func 179) [(.tmp 6), (.tmp 7)], none⟩])
   (.keep [8] [] (.cond (.tmp 8)
    (.seq (.region [⟨some 4, .move (.const (.int .i64 (-1))), none⟩])
    (.keep [4] [] (.ret)))
    (.skip))))
  (.keep [] [] (.seq (.region [⟨some 4, .move (.const (.int .i64 1)), none⟩])
  (.keep [4] [] (.ret))))))⟩
/-- slices.MaxFunc[[]wampum/api.Stamp,wampum/api.Stamp] -/
def L104_0 : IC :=
  .keep [0, 1, 4, 5, 6] [4, 5] (.seq (.seq (.region [⟨some 14, .move (.tmp 6), none⟩,
      ⟨some 15, .move (.tmp 0), none⟩,
      ⟨some 16, .len .slice (.tmp 15), none⟩,
      ⟨some 17, .bin .lss .none (.tmp 14) (.tmp 16), none⟩])
   (.keep [0, 1, 4, 5, 6, 17] [4, 5] (.cond (.tmp 17)
    (.skip)
    (.exit 0))))
  (.keep [0, 1, 4, 5, 6] [4, 5] (.seq (.block 1 (.seq (.regionD [⟨some 20, .move (.tmp 1), none⟩,
       ⟨some 21, .move (.tmp 0), none⟩,
       ⟨some 22, .move (.tmp 6), none⟩,
       ⟨some 23, .indexAddr none 2 (.tmp 21) (.tmp 22), none⟩,
       ⟨some 24, .load true 2 (.tmp 23), none⟩,
       ⟨some 25, .load true 2 (.tmp 5), none⟩,
       ⟨some 26, .call (.tmp 20) [(.tmp 24), (.tmp 25)], none⟩,
       ⟨some 27, .bin .gtr .none (.tmp 26) (.const (.int .i64 0)), none⟩] [])
    (.keep [0, 1, 4, 5, 6, 27] [4, 5] (.cond (.tmp 27)
     (.region [⟨some 28, .move (.tmp 0), none⟩,
       ⟨some 29, .move (.tmp 6), none⟩,
       ⟨some 30, .indexAddr none 2 (.tmp 28) (.tmp 29), none⟩,
       ⟨some 31, .load true 2 (.tmp 30), none⟩,
       ⟨none, .store 2 (.tmp 5) (.tmp 31), none⟩])
     (.skip)))))
  (.keep [0, 1, 4, 5, 6] [4, 5] (.region [⟨some 18, .move (.tmp 6), none⟩,
    ⟨some 19, .bin .add .none (.tmp 18) (.const (.int .i64 1)), none⟩,
    ⟨some 6, .move (.tmp 19), none⟩])))))
def F104 : FnIR := ⟨33, 2, [.cell 4 true 2], [4, 5],
  .seq (.region [⟨some 4, .alloc true 2 [(.int .i64 0), (.int .i64 0)], none⟩])
  (.keep [0, 1, 4] [4] (.seq (.seq (.region [⟨some 7, .move (.tmp 0), none⟩,
      ⟨some 8, .len .slice (.tmp 7), none⟩,
      ⟨some 9, .bin .lss .none (.tmp 8) (.const (.int .i64 1)), none⟩])
   (.keep [0, 1, 4, 9] [4] (.cond (.tmp 9)
    (.region [⟨some 10, .mkIface 9 (.const (.str [115, 108, 105, 99, 101, 115, 46, 77, 97, 120, 70, 117, 110, 99, 58, 32, 101, 109, 112, 116, 121, 32, 108, 105, 115, 116])), none⟩,
      ⟨none, .bad, none⟩])
    (.skip))))
  (.keep [0, 1, 4] [4] (.seq (.region [⟨some 11, .move (.tmp 0), none⟩,
     ⟨some 12, .indexAddr none 2 (.tmp 11) (.const (.int .i64 0)), none⟩,
     ⟨some 13, .load true 2 (.tmp 12), none⟩,
     ⟨some 5, .alloc true 2 [(.int .i64 0), (.int .i64 0)], none⟩,
     ⟨none, .store 2 (.tmp 5) (.tmp 13), none⟩])
  (.keep [0, 1, 4, 5] [4, 5] (.seq (.seq (.region [⟨some 6, .move (.const (.int .i64 1)), none⟩])
   (.keep [0, 1, 4, 5, 6] [4, 5] (.block 0 (.loop L104_0))))
  (.keep [4, 5] [4, 5] (.seq (.region [⟨some 32, .load true 2 (.tmp 5), none⟩,
     ⟨none, .store 2 (.tmp 4) (.tmp 32), none⟩])
  (.keep [4] [4] (.ret))))))))))⟩
/-- (*wampum/state.State).raise -/
def F194 : FnIR := ⟨17, 3, [], [5],
  .seq (.region [⟨some 5, .box true 2 (.tmp 2), none⟩])
  (.keep [0, 1, 5] [5] (.seq (.region [⟨some 6, .move (.tmp 1), none⟩,
     ⟨some 7, .bin .eql .int (.tmp 6) (.const (.int .i64 0)), none⟩])
  (.keep [0, 5, 7] [5] (.cond (.tmp 7)
   (.regionD [⟨some 9, .move (.tmp 0), none⟩,
     ⟨some 10, .nilCheck (.tmp 9), none⟩,
     ⟨some 11, .fieldAddr 4 (.tmp 10), none⟩,
     ⟨some 12, .load true 2 (.tmp 11), none⟩,
     ⟨some 13, .load true 2 (.tmp 5), none⟩,
     ⟨some 14, .call (.func 223) [(.tmp 12), (.tmp 13)], none⟩,
     ⟨some 8, .move (.tmp 0), none⟩,
     ⟨some 15, .nilCheck (.tmp 8), none⟩,
     ⟨some 16, .fieldAddr 4 (.tmp 15), none⟩,
     ⟨none, .store 2 (.tmp 16) (.tmp 14), none⟩] [])
   (.skip)))))⟩
/-- wampum/stamp.Max -/
def F223 : FnIR := ⟨10, 2, [.cell 4 true 2], [2, 3, 4],
  .seq (.region [⟨some 2, .box true 2 (.tmp 0), none⟩,
     ⟨some 3, .box true 2 (.tmp 1), none⟩,
     ⟨some 4, .alloc true 2 [(.int .i64 0), (.int .i64 0)], none⟩])
  (.keep [2, 3, 4] [2, 3, 4] (.seq (.seq (.region [⟨some 5, .load true 2 (.tmp 2), none⟩,
      ⟨some 6, .load true 2 (.tmp 3), none⟩,
      ⟨some 7, .call (.func 186) [(.tmp 5), (.tmp 6)], none⟩])
   (.keep [2, 3, 4, 7] [2, 3, 4] (.cond (.tmp 7)
    (.seq (.region [⟨some 8, .load true 2 (.tmp 3), none⟩,
       ⟨none, .store 2 (.tmp 4) (.tmp 8), none⟩])
    (.keep [4] [4] (.ret)))
    (.skip))))
  (.keep [2, 4] [2, 4] (.seq (.region [⟨some 9, .load true 2 (.tmp 2), none⟩,
     ⟨none, .store 2 (.tmp 4) (.tmp 9), none⟩])
  (.keep [4] [4] (.ret))))))⟩
/-- (*wampum/state.State).put -/
def F129 : FnIR := ⟨47, 2, [.cell 4 true 18], [3, 4, 5],
  .seq (.region [⟨some 3, .box true 22 (.tmp 1), none⟩,
     ⟨some 4, .alloc true 18 [(.int .i64 0), (.int .i64 0), (.int .i64 0), .nils, (.bool false), (.int .i64 0), (.int .i64 0), (.str []), (.int .i64 0), (.int .i64 0), (.int .i64 0), (.int .i64 0), (.int .i64 0), (.int .i64 0), (.int .i64 0), (.int .i64 0), (.int .i64 0), .nils], none⟩])
  (.keep [0, 3, 4] [3, 4] (.seq (.seq (.regionD [⟨some 8, .move (.tmp 0), none⟩,
      ⟨some 9, .nilCheck (.tmp 8), none⟩,
      ⟨some 10, .fieldAddr 8 (.tmp 9), none⟩,
      ⟨some 11, .load false 1 (.tmp 10), none⟩,
      ⟨some 12, .fieldAddr 4 (.tmp 3), none⟩,
      ⟨some 13, .fieldAddr 0 (.tmp 12), none⟩,
      ⟨some 14, .load false 1 (.tmp 13), none⟩,
      ⟨some 15, .lookup (.int .i64) true (.agg []) (.tmp 11) (.tmp 14), none⟩,
      ⟨some 7, .move (.tmp 15), none⟩,
      ⟨some 16, .extract (.tmp 7) 0, none⟩,
      ⟨some 5, .alloc true 0 [], none⟩,
      ⟨none, .store 0 (.tmp 5) (.tmp 16), none⟩,
      ⟨some 17, .extract (.tmp 7) 1, none⟩,
      ⟨some 6, .move (.tmp 17), none⟩] [])
   (.keep [0, 3, 4, 6] [3, 4] (.seq (.region [⟨some 18, .move (.tmp 6), none⟩])
   (.keep [0, 3, 4, 18] [3, 4] (.cond (.tmp 18)
    (.seq (.region [⟨some 19, .build [(.int .i64 0), (.int .i64 0), (.int .i64 0), .nils, (.bool false), (.int .i64 0), (.int .i64 0), (.str []), (.int .i64 0), (.int .i64 0), (.int .i64 0), (.int .i64 0), (.int .i64 0), (.int .i64 0), (.int .i64 0), (.int .i64 0), (.int .i64 0), .nils] [(0, 1, (.const (.int .i64 83)))], none⟩,
       ⟨none, .store 18 (.tmp 4) (.tmp 19), none⟩])
    (.keep [4] [4] (.ret)))
    (.skip))))))
  (.keep [0, 3, 4] [3, 4] (.seq (.regionD [⟨some 21, .move (.tmp 0), none⟩,
     ⟨some 22, .nilCheck (.tmp 21), none⟩,
     ⟨some 23, .fieldAddr 6 (.tmp 22), none⟩,
     ⟨some 24, .load false 1 (.tmp 23), none⟩,
     ⟨some 25, .fieldAddr 10 (.tmp 3), none⟩,
     ⟨some 26, .fieldAddr 0 (.tmp 25), none⟩,
     ⟨some 27, .load false 1 (.tmp 26), none⟩,
     ⟨some 28, .fieldAddr 4 (.tmp 3), none⟩,
     ⟨some 29, .load true 5 (.tmp 28), none⟩,
     ⟨some 30, .fieldAddr 9 (.tmp 3), none⟩,
     ⟨some 31, .load false 1 (.tmp 30), none⟩,
     ⟨some 32, .fieldAddr 14 (.tmp 3), none⟩,
     ⟨some 33, .load true 2 (.tmp 32), none⟩,
     ⟨some 34, .fieldAddr 12 (.tmp 3), none⟩,
     ⟨some 35, .load false 1 (.tmp 34), none⟩,
     ⟨some 36, .fieldAddr 13 (.tmp 3), none⟩,
     ⟨some 37, .load false 1 (.tmp 36), none⟩,
     ⟨some 38, .build [(.int .i64 0), (.int .i64 0), (.str []), (.int .i64 0), (.int .i64 0), (.int .i64 0), (.int .i64 0), (.int .i64 0), (.str []), (.bool false)] [(0, 5, (.tmp 29)), (5, 1, (.tmp 31)), (6, 2, (.tmp 33)), (8, 1, (.tmp 35)), (9, 1, (.tmp 37))], none⟩,
     ⟨some 39, .call (.func 40) [(.tmp 24), (.tmp 27), (.tmp 38)], none⟩,
     ⟨some 20, .move (.tmp 39), none⟩,
     ⟨some 40, .extract (.tmp 20) 0, none⟩,
     ⟨some 43, .fieldAddr 1 (.tmp 4), none⟩,
     ⟨none, .store 2 (.tmp 43) (.tmp 40), none⟩,
     ⟨some 41, .extract (.tmp 20) 1, none⟩,
     ⟨some 44, .fieldAddr 5 (.tmp 4), none⟩,
     ⟨none, .store 5 (.tmp 44) (.tmp 41), none⟩,
     ⟨some 42, .extract (.tmp 20) 2, none⟩,
     ⟨some 45, .fieldAddr 0 (.tmp 4), none⟩,
     ⟨none, .store 1 (.tmp 45) (.tmp 42), none⟩] [])
  (.keep [4] [4] (.seq (.region [⟨some 46, .load true 18 (.tmp 4), none⟩,
     ⟨none, .store 18 (.tmp 4) (.tmp 46), none⟩])
  (.keep [4] [4] (.ret))))))))⟩
/-- (*wampum/store.Store).Put -/
def F40 : FnIR := ⟨60, 3, [.cell 6 true 2, .cell 7 true 5, .tmp 8], [5, 6, 7, 9, 10, 11],
  .seq (.region [⟨some 5, .box true 10 (.tmp 2), none⟩,
     ⟨some 6, .alloc true 2 [(.int .i64 0), (.int .i64 0)], none⟩,
     ⟨some 7, .alloc true 5 [(.int .i64 0), (.int .i64 0), (.str []), (.int .i64 0), (.int .i64 0)], none⟩,
     ⟨some 8, .move (.const (.int .i64 0)), none⟩])
  (.keep [0, 1, 5, 6, 7] [5, 6, 7] (.seq (.block 0 (.seq (.region [⟨some 14, .move (.tmp 0), none⟩,
       ⟨some 15, .bin .eql .ptr (.tmp 14) (.const .nilp), none⟩,
       ⟨some 16, .move (.tmp 15), none⟩,
       ⟨some 17, .fieldAddr 8 (.tmp 5), some (16, false)⟩,
       ⟨some 18, .load false 1 (.tmp 17), some (16, false)⟩,
       ⟨some 19, .fieldAddr 9 (.tmp 5), some (16, false)⟩,
       ⟨some 20, .load false 1 (.tmp 19), some (16, false)⟩,
       ⟨some 21, .call (.func 100) [(.tmp 18), (.tmp 20)], some (16, false)⟩,
       ⟨some 22, .un .not (.tmp 21), some (16, false)⟩,
       ⟨some 23, .move (.tmp 22), some (16, false)⟩,
       ⟨some 24, .move (.tmp 1), some (23, true)⟩,
       ⟨some 25, .call (.func 47) [(.tmp 24)], some (23, true)⟩,
       ⟨some 26, .pick (.tmp 23) (.tmp 25) (.const (.bool false)), some (16, false)⟩,
       ⟨some 27, .pick (.tmp 16) (.const (.bool true)) (.tmp 26), none⟩,
       ⟨some 13, .move (.tmp 27), none⟩])
    (.keep [0, 1, 5, 6, 7, 13] [5, 6, 7] (.cond (.tmp 13)
     (.seq (.region [⟨some 28, .build [(.int .i64 0), (.int .i64 0)] [], none⟩,
        ⟨some 29, .build [(.int .i64 0), (.int .i64 0), (.str []), (.int .i64 0), (.int .i64 0)] [], none⟩,
        ⟨none, .store 2 (.tmp 6) (.tmp 28), none⟩,
        ⟨none, .store 5 (.tmp 7) (.tmp 29), none⟩,
        ⟨some 8, .move (.const (.int .i64 1)), none⟩])
     (.keep [6, 7, 8] [6, 7] (.ret)))
     (.seq (.region [⟨some 31, .move (.tmp 1), none⟩,
        ⟨some 32, .call (.func 47) [(.tmp 31)], none⟩,
        ⟨some 33, .un .not (.tmp 32), none⟩,
        ⟨some 30, .move (.tmp 33), none⟩])
     (.keep [0, 1, 5, 6, 7, 30] [5, 6, 7] (.cond (.tmp 30)
      (.seq (.region [⟨some 34, .build [(.int .i64 0), (.int .i64 0)] [], none⟩,
         ⟨some 35, .build [(.int .i64 0), (.int .i64 0), (.str []), (.int .i64 0), (.int .i64 0)] [], none⟩,
         ⟨none, .store 2 (.tmp 6) (.tmp 34), none⟩,
         ⟨none, .store 5 (.tmp 7) (.tmp 35), none⟩,
         ⟨some 8, .move (.const (.int .i64 51)), none⟩])
      (.keep [6, 7, 8] [6, 7] (.ret)))
      (.skip))))))))
  (.keep [0, 1, 5, 6, 7] [5, 6, 7] (.seq (.regionD [⟨some 37, .move (.tmp 0), none⟩,
     ⟨some 38, .nilCheck (.tmp 37), none⟩,
     ⟨some 39, .fieldAddr 0 (.tmp 38), none⟩,
     ⟨some 40, .load false 1 (.tmp 39), none⟩,
     ⟨some 41, .move (.tmp 1), none⟩,
     ⟨some 42, .lookup .str false (.agg [.nils, (.bool false), (.int .i64 0), (.int .i64 0), (.str []), (.int .i64 0), (.int .i64 0), (.int .i64 0), (.int .i64 0), (.int .i64 0), (.str []), (.bool false)]) (.tmp 40) (.tmp 41), none⟩,
     ⟨some 43, .load true 10 (.tmp 5), none⟩,
     ⟨some 44, .call (.func 101) [(.tmp 42), (.tmp 43)], none⟩,
     ⟨some 36, .move (.tmp 44), none⟩,
     ⟨some 45, .extract (.tmp 36) 0, none⟩,
     ⟨some 9, .alloc true 12 [.nils, (.bool false), (.int .i64 0), (.int .i64 0), (.str []), (.int .i64 0), (.int .i64 0), (.int .i64 0), (.int .i64 0), (.int .i64 0), (.str []), (.bool false)], none⟩,
     ⟨some 10, .alloc true 2 [(.int .i64 0), (.int .i64 0)], none⟩,
     ⟨some 11, .alloc true 5 [(.int .i64 0), (.int .i64 0), (.str []), (.int .i64 0), (.int .i64 0)], none⟩,
     ⟨none, .store 12 (.tmp 9) (.tmp 45), none⟩,
     ⟨some 46, .extract (.tmp 36) 1, none⟩,
     ⟨none, .store 2 (.tmp 10) (.tmp 46), none⟩,
     ⟨some 47, .extract (.tmp 36) 2, none⟩,
     ⟨none, .store 5 (.tmp 11) (.tmp 47), none⟩,
     ⟨some 48, .extract (.tmp 36) 3, none⟩,
     ⟨some 12, .move (.tmp 48), none⟩] [])
  (.keep [0, 1, 6, 7, 9, 10, 11, 12] [6, 7, 9, 10, 11] (.seq (.seq (.region [⟨some 49, .move (.tmp 12), none⟩,
      ⟨some 50, .bin .eql .int (.tmp 49) (.const (.int .i64 0)), none⟩])
   (.keep [0, 1, 6, 7, 9, 10, 11, 12, 50] [6, 7, 9, 10, 11] (.cond (.tmp 50)
    (.regionD [⟨some 51, .move (.tmp 0), none⟩,
      ⟨some 52, .nilCheck (.tmp 51), none⟩,
      ⟨some 53, .fieldAddr 0 (.tmp 52), none⟩,
      ⟨some 54, .load false 1 (.tmp 53), none⟩,
      ⟨some 55, .move (.tmp 1), none⟩,
      ⟨some 56, .load true 12 (.tmp 9), none⟩,
      ⟨none, .mapUpdate .str (.tmp 54) (.tmp 55) (.tmp 56), none⟩] [])
    (.skip))))
  (.keep [6, 7, 10, 11, 12] [6, 7, 10, 11] (.seq (.regionD [⟨some 57, .load true 2 (.tmp 10), none⟩,
     ⟨none, .store 2 (.tmp 6) (.tmp 57), none⟩,
     ⟨some 58, .load true 5 (.tmp 11), none⟩,
     ⟨none, .store 5 (.tmp 7) (.tmp 58), none⟩,
     ⟨some 59, .move (.tmp 12), none⟩,
     ⟨some 8, .move (.tmp 59), none⟩] [(2, 0)])
  (.keep [6, 7, 8] [6, 7] (.ret))))))))))⟩
/-- wampum/store.valued -/
def F100 : FnIR := ⟨23, 2, [.tmp 4], [],
  .seq (.region [⟨some 4, .move (.const (.bool false)), none⟩])
  (.keep [0, 1] [] (.seq (.region [⟨some 6, .move (.tmp 0), none⟩,
     ⟨some 7, .call (.func 173) [(.tmp 6), (.func 174)], none⟩,
     ⟨some 5, .move (.tmp 7), none⟩])
  (.keep [0, 1, 5] [] (.seq (.region [⟨some 8, .move (.tmp 5), none⟩,
     ⟨some 9, .un .not (.tmp 8), none⟩,
     ⟨some 10, .move (.tmp 9), none⟩,
     ⟨some 11, .move (.tmp 0), some (10, true)⟩,
     ⟨some 12, .len .str (.tmp 11), some (10, true)⟩,
     ⟨some 13, .bin .leq .none (.tmp 12) (.const (.int .i64 16)), some (10, true)⟩,
     ⟨some 14, .pick (.tmp 10) (.tmp 13) (.const (.bool false)), none⟩,
     ⟨some 15, .move (.tmp 14), none⟩,
     ⟨some 16, .move (.tmp 1), some (15, true)⟩,
     ⟨some 17, .un .not (.tmp 16), some (15, true)⟩,
     ⟨some 18, .move (.tmp 17), some (15, true)⟩,
     ⟨some 19, .move (.tmp 0), some (18, false)⟩,
     ⟨some 20, .bin .eql .str (.tmp 19) (.const (.str [])), some (18, false)⟩,
     ⟨some 21, .pick (.tmp 18) (.const (.bool true)) (.tmp 20), some (15, true)⟩,
     ⟨some 22, .pick (.tmp 15) (.tmp 21) (.const (.bool false)), none⟩,
     ⟨some 4, .move (.tmp 22), none⟩])
  (.keep [4] [] (.ret))))))⟩
/-- wampum/store.valued$1 -/
def F174 : FnIR := ⟨9, 1, [.tmp 2], [],
  .seq (.region [⟨some 2, .move (.const (.bool false)), none⟩])
  (.keep [0] [] (.seq (.region [⟨some 3, .move (.tmp 0), none⟩,
     ⟨some 4, .bin .lss .none (.tmp 3) (.const (.int .i32 33)), none⟩,
     ⟨some 5, .move (.tmp 4), none⟩,
     ⟨some 6, .move (.tmp 0), some (5, false)⟩,
     ⟨some 7, .bin .gtr .none (.tmp 6) (.const (.int .i32 126)), some (5, false)⟩,
     ⟨some 8, .pick (.tmp 5) (.const (.bool true)) (.tmp 7), none⟩,
     ⟨some 2, .move (.tmp 8), none⟩])
  (.keep [2] [] (.ret))))⟩
/-- wampum/version.Write -/
def F101 : FnIR := ⟨100, 2, [.cell 4 true 12, .cell 5 true 2, .cell 6 true 5, .tmp 7], [2, 4, 5, 6, 8, 9, 10],
  .seq (.region [⟨some 2, .box true 12 (.tmp 0), none⟩,
     ⟨some 3, .box false 10 (.tmp 1), none⟩,
     ⟨some 4, .alloc true 12 [.nils, (.bool false), (.int .i64 0), (.int .i64 0), (.str []), (.int .i64 0), (.int .i64 0), (.int .i64 0), (.int .i64 0), (.int .i64 0), (.str []), (.bool false)], none⟩,
     ⟨some 5, .alloc true 2 [(.int .i64 0), (.int .i64 0)], none⟩,
     ⟨some 6, .alloc true 5 [(.int .i64 0), (.int .i64 0), (.str []), (.int .i64 0), (.int .i64 0)], none⟩,
     ⟨some 7, .move (.const (.int .i64 0)), none⟩])
  (.keep [2, 3, 4, 5, 6] [2, 4, 5, 6] (.seq (.region [⟨some 8, .alloc true 5 [(.int .i64 0), (.int .i64 0), (.str []), (.int .i64 0), (.int .i64 0)], none⟩])
  (.keep [2, 3, 4, 5, 6, 8] [2, 4, 5, 6, 8] (.seq (.region [⟨some 12, .fieldAddr 2 (.tmp 2), none⟩,
     ⟨some 13, .load true 10 (.tmp 12), none⟩,
     ⟨some 9, .alloc true 10 [(.int .i64 0), (.int .i64 0), (.str []), (.int .i64 0), (.int .i64 0), (.int .i64 0), (.int .i64 0), (.int .i64 0), (.str []), (.bool false)], none⟩,
     ⟨none, .store 10 (.tmp 9) (.tmp 13), none⟩])
  (.keep [2, 3, 4, 5, 6, 8, 9] [2, 4, 5, 6, 8, 9] (.seq (.block 0 (.seq (.region [⟨some 15, .fieldAddr 1 (.tmp 2), none⟩,
       ⟨some 16, .load false 1 (.tmp 15), none⟩,
       ⟨some 17, .move (.tmp 16), none⟩,
       ⟨some 18, .fieldAddr 0 (.tmp 9), some (17, true)⟩,
       ⟨some 19, .fieldAddr 0 (.tmp 18), some (17, true)⟩,
       ⟨some 20, .load false 1 (.tmp 19), some (17, true)⟩,
       ⟨some 21, .fieldAddr 0 (.tmp 3), some (17, true)⟩,
       ⟨some 22, .fieldAddr 0 (.tmp 21), some (17, true)⟩,
       ⟨some 23, .load false 1 (.tmp 22), some (17, true)⟩,
       ⟨some 24, .bin .neq .int (.tmp 20) (.tmp 23), some (17, true)⟩,
       ⟨some 25, .pick (.tmp 17) (.tmp 24) (.const (.bool false)), none⟩,
       ⟨some 14, .move (.tmp 25), none⟩])
    (.keep [2, 3, 4, 5, 6, 8, 9, 14] [2, 4, 5, 6, 8, 9] (.cond (.tmp 14)
     (.seq (.regionD [⟨some 26, .build [.nils, (.bool false), (.int .i64 0), (.int .i64 0), (.str []), (.int .i64 0), (.int .i64 0), (.int .i64 0), (.int .i64 0), (.int .i64 0), (.str []), (.bool false)] [], none⟩,
        ⟨none, .store 12 (.tmp 4) (.tmp 26), none⟩,
        ⟨some 27, .build [(.int .i64 0), (.int .i64 0)] [], none⟩,
        ⟨none, .store 2 (.tmp 5) (.tmp 27), none⟩,
        ⟨some 28, .fieldAddr 0 (.tmp 9), none⟩,
        ⟨some 29, .load true 5 (.tmp 28), none⟩,
        ⟨none, .store 5 (.tmp 6) (.tmp 29), none⟩,
        ⟨some 7, .move (.const (.int .i64 81)), none⟩] [(5, 0), (5, 2)])
     (.keep [4, 5, 6, 7] [4, 5, 6] (.ret)))
     (.seq (.region [⟨some 31, .fieldAddr 0 (.tmp 2), none⟩,
        ⟨some 32, .load false 1 (.tmp 31), none⟩,
        ⟨some 33, .mkFunc (.func 176) [] [(.tmp 3)], none⟩,
        ⟨some 34, .call (.func 175) [(.tmp 32), (.tmp 33)], none⟩,
        ⟨some 30, .move (.tmp 34), none⟩])
     (.keep [2, 3, 4, 5, 6, 8, 9, 30] [2, 4, 5, 6, 8, 9] (.cond (.tmp 30)
      (.seq (.regionD [⟨some 35, .build [.nils, (.bool false), (.int .i64 0), (.int .i64 0), (.str []), (.int .i64 0), (.int .i64 0), (.int .i64 0), (.int .i64 0), (.int .i64 0), (.str []), (.bool false)] [], none⟩,
         ⟨none, .store 12 (.tmp 4) (.tmp 35), none⟩,
         ⟨some 36, .build [(.int .i64 0), (.int .i64 0)] [], none⟩,
         ⟨none, .store 2 (.tmp 5) (.tmp 36), none⟩,
         ⟨some 37, .load true 5 (.tmp 8), none⟩,
         ⟨none, .store 5 (.tmp 6) (.tmp 37), none⟩,
         ⟨some 7, .move (.const (.int .i64 83)), none⟩] [(4, 0), (4, 2)])
      (.keep [4, 5, 6, 7] [4, 5, 6] (.ret)))
      (.seq (.region [⟨some 39, .fieldAddr 1 (.tmp 2), none⟩,
         ⟨some 40, .load false 1 (.tmp 39), none⟩,
         ⟨some 41, .move (.tmp 40), none⟩,
         ⟨some 42, .fieldAddr 0 (.tmp 9), some (41, true)⟩,
         ⟨some 43, .fieldAddr 1 (.tmp 42), some (41, true)⟩,
         ⟨some 44, .load false 1 (.tmp 43), some (41, true)⟩,
         ⟨some 45, .fieldAddr 0 (.tmp 3), some (41, true)⟩,
         ⟨some 46, .fieldAddr 1 (.tmp 45), some (41, true)⟩,
         ⟨some 47, .load false 1 (.tmp 46), some (41, true)⟩,
         ⟨some 48, .bin .gtr .none (.tmp 44) (.tmp 47), some (41, true)⟩,
         ⟨some 49, .pick (.tmp 41) (.tmp 48) (.const (.bool false)), none⟩,
         ⟨some 38, .move (.tmp 49), none⟩])
      (.keep [2, 3, 4, 5, 6, 8, 9, 38] [2, 4, 5, 6, 8, 9] (.cond (.tmp 38)
       (.seq (.regionD [⟨some 50, .build [.nils, (.bool false), (.int .i64 0), (.int .i64 0), (.str []), (.int .i64 0), (.int .i64 0), (.int .i64 0), (.int .i64 0), (.int .i64 0), (.str []), (.bool false)] [], none⟩,
          ⟨none, .store 12 (.tmp 4) (.tmp 50), none⟩,
          ⟨some 51, .build [(.int .i64 0), (.int .i64 0)] [], none⟩,
          ⟨none, .store 2 (.tmp 5) (.tmp 51), none⟩,
          ⟨some 52, .load true 5 (.tmp 8), none⟩,
          ⟨none, .store 5 (.tmp 6) (.tmp 52), none⟩,
          ⟨some 7, .move (.const (.int .i64 84)), none⟩] [(4, 0), (4, 2)])
       (.keep [4, 5, 6, 7] [4, 5, 6] (.ret)))
       (.seq (.region [⟨some 54, .fieldAddr 1 (.tmp 2), none⟩,
          ⟨some 55, .load false 1 (.tmp 54), none⟩,
          ⟨some 56, .move (.tmp 55), none⟩,
          ⟨some 57, .fieldAddr 0 (.tmp 9), some (56, true)⟩,
          ⟨some 58, .fieldAddr 1 (.tmp 57), some (56, true)⟩,
          ⟨some 59, .load false 1 (.tmp 58), some (56, true)⟩,
          ⟨some 60, .fieldAddr 0 (.tmp 3), some (56, true)⟩,
          ⟨some 61, .fieldAddr 1 (.tmp 60), some (56, true)⟩,
          ⟨some 62, .load false 1 (.tmp 61), some (56, true)⟩,
          ⟨some 63, .bin .eql .int (.tmp 59) (.tmp 62), some (56, true)⟩,
          ⟨some 64, .pick (.tmp 56) (.tmp 63) (.const (.bool false)), none⟩,
          ⟨some 65, .move (.tmp 64), none⟩,
          ⟨some 66, .fieldAddr 5 (.tmp 9), some (65, true)⟩,
          ⟨some 67, .load false 1 (.tmp 66), some (65, true)⟩,
          ⟨some 68, .fieldAddr 5 (.tmp 3), some (65, true)⟩,
          ⟨some 69, .load false 1 (.tmp 68), some (65, true)⟩,
          ⟨some 70, .bin .geq .none (.tmp 67) (.tmp 69), some (65, true)⟩,
          ⟨some 71, .pick (.tmp 65) (.tmp 70) (.const (.bool false)), none⟩,
          ⟨some 53, .move (.tmp 71), none⟩])
       (.keep [2, 3, 4, 5, 6, 8, 9, 53] [2, 4, 5, 6, 8, 9] (.cond (.tmp 53)
        (.seq (.regionD [⟨some 72, .load true 12 (.tmp 2), none⟩,
           ⟨some 73, .call (.func 177) [(.tmp 72)], none⟩,
           ⟨none, .store 12 (.tmp 4) (.tmp 73), none⟩,
           ⟨some 74, .fieldAddr 6 (.tmp 9), none⟩,
           ⟨some 75, .load true 2 (.tmp 74), none⟩,
           ⟨none, .store 2 (.tmp 5) (.tmp 75), none⟩,
           ⟨some 76, .load true 5 (.tmp 8), none⟩,
           ⟨none, .store 5 (.tmp 6) (.tmp 76), none⟩,
           ⟨some 7, .move (.const (.int .i64 0)), none⟩] [(4, 0), (4, 2), (6, 0), (6, 2), (6, 3)])
        (.keep [4, 5, 6, 7] [4, 5, 6] (.ret)))
        (.skip))))))))))))))
  (.keep [2, 3, 4, 5, 6, 8] [2, 4, 5, 6, 8] (.seq (.region [⟨some 78, .load true 12 (.tmp 2), none⟩,
     ⟨some 79, .fieldAddr 6 (.tmp 3), none⟩,
     ⟨some 80, .load true 2 (.tmp 79), none⟩,
     ⟨some 81, .call (.func 178) [(.tmp 78), (.tmp 80)], none⟩,
     ⟨some 77, .move (.tmp 81), none⟩,
     ⟨some 82, .extract (.tmp 77) 0, none⟩,
     ⟨some 83, .extract (.tmp 77) 1, none⟩,
     ⟨some 10, .alloc true 2 [(.int .i64 0), (.int .i64 0)], none⟩,
     ⟨none, .store 2 (.tmp 10) (.tmp 82), none⟩,
     ⟨some 11, .move (.tmp 83), none⟩])
  (.keep [2, 3, 4, 5, 6, 8, 10, 11] [2, 4, 5, 6, 8, 10] (.seq (.seq (.region [⟨some 84, .move (.tmp 11), none⟩,
      ⟨some 85, .bin .neq .int (.tmp 84) (.const (.int .i64 0)), none⟩])
   (.keep [2, 3, 4, 5, 6, 8, 10, 85] [2, 4, 5, 6, 8, 10] (.cond (.tmp 85)
    (.seq (.regionD [⟨some 86, .build [.nils, (.bool false), (.int .i64 0), (.int .i64 0), (.str []), (.int .i64 0), (.int .i64 0), (.int .i64 0), (.int .i64 0), (.int .i64 0), (.str []), (.bool false)] [], none⟩,
       ⟨none, .store 12 (.tmp 4) (.tmp 86), none⟩,
       ⟨some 87, .build [(.int .i64 0), (.int .i64 0)] [], none⟩,
       ⟨none, .store 2 (.tmp 5) (.tmp 87), none⟩,
       ⟨some 88, .load true 5 (.tmp 8), none⟩,
       ⟨none, .store 5 (.tmp 6) (.tmp 88), none⟩,
       ⟨some 7, .move (.const (.int .i64 31)), none⟩] [(4, 0), (4, 2)])
    (.keep [4, 5, 6, 7] [4, 5, 6] (.ret)))
    (.skip))))
  (.keep [2, 3, 4, 5, 6, 8, 10] [2, 4, 5, 6, 8, 10] (.seq (.region [⟨some 89, .load true 12 (.tmp 2), none⟩,
     ⟨some 90, .call (.func 177) [(.tmp 89)], none⟩,
     ⟨none, .store 12 (.tmp 2) (.tmp 90), none⟩])
  (.keep [2, 3, 4, 5, 6, 8, 10] [2, 4, 5, 6, 8, 10] (.seq (.regionD [⟨some 92, .fieldAddr 1 (.tmp 2), none⟩,
     ⟨none, .store 1 (.tmp 92) (.const (.bool true)), none⟩,
     ⟨some 91, .load true 10 (.tmp 3), none⟩,
     ⟨some 93, .fieldAddr 2 (.tmp 2), none⟩,
     ⟨none, .store 10 (.tmp 93) (.tmp 91), none⟩] [(2, 0)])
  (.keep [2, 4, 5, 6, 8, 10] [2, 4, 5, 6, 8, 10] (.seq (.region [⟨some 94, .load true 2 (.tmp 10), none⟩,
     ⟨some 95, .fieldAddr 2 (.tmp 2), none⟩,
     ⟨some 96, .fieldAddr 6 (.tmp 95), none⟩,
     ⟨none, .store 2 (.tmp 96) (.tmp 94), none⟩])
  (.keep [2, 4, 5, 6, 8, 10] [2, 4, 5, 6, 8, 10] (.seq (.regionD [⟨some 97, .load true 12 (.tmp 2), none⟩,
     ⟨none, .store 12 (.tmp 4) (.tmp 97), none⟩,
     ⟨some 98, .load true 2 (.tmp 10), none⟩,
     ⟨none, .store 2 (.tmp 5) (.tmp 98), none⟩,
     ⟨some 99, .load true 5 (.tmp 8), none⟩,
     ⟨none, .store 5 (.tmp 6) (.tmp 99), none⟩,
     ⟨some 7, .move (.const (.int .i64 0)), none⟩] [(2, 0), (4, 0), (4, 2)])
  (.keep [4, 5, 6, 7] [4, 5, 6] (.ret))))))))))))))))))))⟩
/-- wampum/version.Write$1 -/
def F176 : FnIR := ⟨10, 2, [.tmp 3], [2],
  .seq (.region [⟨some 2, .box true 5 (.tmp 0), none⟩,
     ⟨some 3, .move (.const (.bool false)), none⟩])
  (.keep [1, 2] [2] (.seq (.region [⟨some 4, .fieldAddr 4 (.tmp 2), none⟩,
     ⟨some 5, .load false 1 (.tmp 4), none⟩,
     ⟨some 6, .fieldAddr 0 (.tmp 1), none⟩,
     ⟨some 7, .fieldAddr 0 (.tmp 6), none⟩,
     ⟨some 8, .load false 1 (.tmp 7), none⟩,
     ⟨some 9, .bin .eql .int (.tmp 5) (.tmp 8), none⟩,
     ⟨some 3, .move (.tmp 9), none⟩])
  (.keep [3] [] (.ret))))⟩
/-- slices.ContainsFunc[[]wampum/api.Version,wampum/api.Version] -/
def F175 : FnIR := ⟨9, 2, [.tmp 4], [],
  .seq (.region [⟨some 4, .move (.const (.bool false)), none⟩])
  (.keep [0, 1] [] (.seq (.region [⟨some 5, .move (.tmp 0), none⟩,
     ⟨some 6, .move (.tmp 1), none⟩,
     ⟨some 7, .call (.func 221) [(.tmp 5), (.tmp 6)], none⟩,
     ⟨some 8, .bin .geq .none (.tmp 7) (.const (.int .i64 0)), none⟩,
     ⟨some 4, .move (.tmp 8), none⟩])
  (.keep [4] [] (.ret))))⟩
/-- slices.IndexFunc[[]wampum/api.Version,wampum/api.Version] -/
def L221_0 : IC :=
  .keep [0, 1, 7, 8] [] (.seq (.region [⟨some 9, .bin .lss .none (.tmp 8) (.tmp 7), none⟩])
  (.keep [0, 1, 7, 8, 9] [] (.seq (.cond (.tmp 9)
    (.skip)
    (.exit 0))
  (.keep [0, 1, 7, 8] [] (.seq (.block 1 (.seq (.region [⟨some 10, .move (.tmp 8), none⟩,
       ⟨some 5, .move (.tmp 10), none⟩])
    (.keep [0, 1, 5, 7, 8] [] (.seq (.region [⟨some 11, .move (.tmp 1), none⟩,
       ⟨some 12, .move (.tmp 0), none⟩,
       ⟨some 13, .move (.tmp 5), none⟩,
       ⟨some 14, .indexAddr none 5 (.tmp 12) (.tmp 13), none⟩,
       ⟨some 15, .load true 5 (.tmp 14), none⟩,
       ⟨some 16, .call (.tmp 11) [(.tmp 15)], none⟩])
    (.keep [0, 1, 5, 7, 8, 16] [] (.cond (.tmp 16)
     (.seq (.region [⟨some 17, .move (.tmp 5), none⟩,
        ⟨some 4, .move (.tmp 17), none⟩])
     (.keep [4] [] (.ret)))
     (.skip)))))))
  (.keep [0, 1, 7, 8] [] (.region [⟨some 18, .bin .add .none (.tmp 8) (.const (.int .i64 1)), none⟩,
    ⟨some 8, .move (.tmp 18), none⟩])))))))
def F221 : FnIR := ⟨19, 2, [.tmp 4], [],
  .seq (.region [⟨some 4, .move (.const (.int .i64 0)), none⟩])
  (.keep [0, 1] [] (.seq (.seq (.region [⟨some 6, .move (.tmp 0), none⟩,
      ⟨some 7, .len .slice (.tmp 6), none⟩,
      ⟨some 8, .move (.const (.int .i64 0)), none⟩])
   (.keep [0, 1, 7, 8] [] (.block 0 (.loop L221_0))))
  (.keep [] [] (.seq (.region [⟨some 4, .move (.const (.int .i64 (-1))), none⟩])
  (.keep [4] [] (.ret))))))⟩
/-- wampum/version.copied -/
def F177 : FnIR := ⟨8, 1, [.cell 2 true 12], [1, 2],
  .seq (.region [⟨some 1, .box true 12 (.tmp 0), none⟩,
     ⟨some 2, .alloc true 12 [.nils, (.bool false), (.int .i64 0), (.int .i64 0), (.str []), (.int .i64 0), (.int .i64 0), (.int .i64 0), (.int .i64 0), (.int .i64 0), (.str []), (.bool false)], none⟩])
  (.keep [1, 2] [1, 2] (.seq (.region [⟨some 3, .fieldAddr 0 (.tmp 1), none⟩,
     ⟨some 4, .load false 1 (.tmp 3), none⟩,
     ⟨some 5, .call (.func 72) [(.tmp 4)], none⟩,
     ⟨some 6, .fieldAddr 0 (.tmp 1), none⟩,
     ⟨none, .store 1 (.tmp 6) (.tmp 5), none⟩])
  (.keep [1, 2] [1, 2] (.seq (.region [⟨some 7, .load true 12 (.tmp 1), none⟩,
     ⟨none, .store 12 (.tmp 2) (.tmp 7), none⟩])
  (.keep [2] [2] (.ret))))))⟩
/-- slices.Clone[[]wampum/api.Version,wampum/api.Version] -/
def F72 : FnIR := ⟨8, 1, [.tmp 2], [],
  .seq (.region [⟨some 2, .move (.const .nils), none⟩])
  (.keep [0] [] (.seq (.seq (.region [⟨some 3, .move (.tmp 0), none⟩,
      ⟨some 4, .bin .eql .slice (.tmp 3) (.const .nils), none⟩])
   (.keep [0, 4] [] (.cond (.tmp 4)
    (.seq (.region [⟨some 2, .move (.const .nils), none⟩])
    (.keep [2] [] (.ret)))
    (.skip))))
  (.keep [0] [] (.seq (.region [⟨some 5, .buildSlice 5 0 [] [], none⟩,
     ⟨some 6, .move (.tmp 0), none⟩,
     ⟨some 7, .append 5 48 (.tmp 5) (.tmp 6), none⟩,
     ⟨some 2, .move (.tmp 7), none⟩])
  (.keep [2] [] (.ret))))))⟩
/-- wampum/version.least -/
def F178 : FnIR := ⟨40, 2, [.cell 4 true 2, .tmp 5], [2, 3, 4, 6, 8],
  .seq (.region [⟨some 2, .box true 12 (.tmp 0), none⟩,
     ⟨some 3, .box true 2 (.tmp 1), none⟩,
     ⟨some 4, .alloc true 2 [(.int .i64 0), (.int .i64 0)], none⟩,
     ⟨some 5, .move (.const (.int .i64 0)), none⟩])
  (.keep [2, 3, 4] [2, 3, 4] (.seq (.seq (.region [⟨some 11, .load true 12 (.tmp 2), none⟩,
      ⟨some 12, .call (.func 183) [(.tmp 11)], none⟩,
      ⟨some 10, .move (.tmp 12), none⟩,
      ⟨some 13, .extract (.tmp 10) 0, none⟩,
      ⟨some 14, .extract (.tmp 10) 1, none⟩,
      ⟨some 6, .alloc true 2 [(.int .i64 0), (.int .i64 0)], none⟩,
      ⟨none, .store 2 (.tmp 6) (.tmp 13), none⟩,
      ⟨some 7, .move (.tmp 14), none⟩])
   (.keep [2, 3, 4, 6, 7] [2, 3, 4, 6] (.seq (.region [⟨some 15, .move (.tmp 7), none⟩])
   (.keep [2, 3, 4, 6, 15] [2, 3, 4, 6] (.cond (.tmp 15)
    (.seq (.region [⟨some 17, .load true 2 (.tmp 6), none⟩,
       ⟨some 18, .call (.func 222) [(.tmp 17)], none⟩,
       ⟨some 16, .move (.tmp 18), none⟩,
       ⟨some 19, .extract (.tmp 16) 0, none⟩,
       ⟨some 20, .extract (.tmp 16) 1, none⟩,
       ⟨some 8, .alloc true 2 [(.int .i64 0), (.int .i64 0)], none⟩,
       ⟨none, .store 2 (.tmp 8) (.tmp 19), none⟩,
       ⟨some 9, .move (.tmp 20), none⟩])
    (.keep [2, 3, 4, 8, 9] [2, 3, 4, 8] (.seq (.seq (.region [⟨some 21, .move (.tmp 9), none⟩,
        ⟨some 22, .bin .neq .int (.tmp 21) (.const (.int .i64 0)), none⟩])
     (.keep [2, 3, 4, 8, 9, 22] [2, 3, 4, 8] (.cond (.tmp 22)
      (.seq (.region [⟨some 23, .build [(.int .i64 0), (.int .i64 0)] [], none⟩,
         ⟨some 24, .move (.tmp 9), none⟩,
         ⟨none, .store 2 (.tmp 4) (.tmp 23), none⟩,
         ⟨some 5, .move (.tmp 24), none⟩])
      (.keep [4, 5] [4] (.ret)))
      (.skip))))
    (.keep [2, 3, 4, 8] [2, 3, 4, 8] (.region [⟨some 25, .load true 2 (.tmp 3), none⟩,
      ⟨some 26, .load true 2 (.tmp 8), none⟩,
      ⟨some 27, .call (.func 223) [(.tmp 25), (.tmp 26)], none⟩,
      ⟨none, .store 2 (.tmp 3) (.tmp 27), none⟩])))))
    (.skip))))))
  (.keep [2, 3, 4] [2, 3, 4] (.seq (.seq (.region [⟨some 28, .fieldAddr 1 (.tmp 2), none⟩,
      ⟨some 29, .load false 1 (.tmp 28), none⟩])
   (.keep [2, 3, 4, 29] [2, 3, 4] (.cond (.tmp 29)
    (.region [⟨some 30, .load true 2 (.tmp 3), none⟩,
      ⟨some 31, .fieldAddr 2 (.tmp 2), none⟩,
      ⟨some 32, .fieldAddr 6 (.tmp 31), none⟩,
      ⟨some 33, .load true 2 (.tmp 32), none⟩,
      ⟨some 34, .call (.func 223) [(.tmp 30), (.tmp 33)], none⟩,
      ⟨none, .store 2 (.tmp 3) (.tmp 34), none⟩])
    (.skip))))
  (.keep [3, 4] [3, 4] (.seq (.seq (.region [⟨some 35, .load true 2 (.tmp 3), none⟩,
      ⟨some 36, .call (.func 184) [(.tmp 35)], none⟩,
      ⟨some 37, .un .not (.tmp 36), none⟩])
   (.keep [3, 4, 37] [3, 4] (.cond (.tmp 37)
    (.seq (.region [⟨some 38, .build [(.int .i64 0), (.int .i64 0)] [], none⟩,
       ⟨none, .store 2 (.tmp 4) (.tmp 38), none⟩,
       ⟨some 5, .move (.const (.int .i64 31)), none⟩])
    (.keep [4, 5] [4] (.ret)))
    (.skip))))
  (.keep [3, 4] [3, 4] (.seq (.region [⟨some 39, .load true 2 (.tmp 3), none⟩,
     ⟨none, .store 2 (.tmp 4) (.tmp 39), none⟩,
     ⟨some 5, .move (.const (.int .i64 0)), none⟩])
  (.keep [4, 5] [4] (.ret))))))))))⟩
/-- wampum/version.last -/
def F183 : FnIR := ⟨18, 1, [.cell 2 true 2, .tmp 3], [1, 2],
  .seq (.region [⟨some 1, .box true 12 (.tmp 0), none⟩,
     ⟨some 2, .alloc true 2 [(.int .i64 0), (.int .i64 0)], none⟩,
     ⟨some 3, .move (.const (.bool false)), none⟩])
  (.keep [1, 2] [1, 2] (.seq (.seq (.region [⟨some 4, .fieldAddr 0 (.tmp 1), none⟩,
      ⟨some 5, .load false 1 (.tmp 4), none⟩,
      ⟨some 6, .len .slice (.tmp 5), none⟩,
      ⟨some 7, .bin .eql .int (.tmp 6) (.const (.int .i64 0)), none⟩])
   (.keep [1, 2, 7] [1, 2] (.cond (.tmp 7)
    (.seq (.region [⟨some 8, .build [(.int .i64 0), (.int .i64 0)] [], none⟩,
       ⟨none, .store 2 (.tmp 2) (.tmp 8), none⟩,
       ⟨some 3, .move (.const (.bool false)), none⟩])
    (.keep [2, 3] [2] (.ret)))
    (.skip))))
  (.keep [1, 2] [1, 2] (.seq (.region [⟨some 9, .fieldAddr 0 (.tmp 1), none⟩,
     ⟨some 10, .load false 1 (.tmp 9), none⟩,
     ⟨some 11, .fieldAddr 0 (.tmp 1), none⟩,
     ⟨some 12, .load false 1 (.tmp 11), none⟩,
     ⟨some 13, .len .slice (.tmp 12), none⟩,
     ⟨some 14, .bin .sub .none (.tmp 13) (.const (.int .i64 1)), none⟩,
     ⟨some 15, .indexAddr none 5 (.tmp 10) (.tmp 14), none⟩,
     ⟨some 16, .fieldAddr 0 (.tmp 15), none⟩,
     ⟨some 17, .load true 2 (.tmp 16), none⟩,
     ⟨none, .store 2 (.tmp 2) (.tmp 17), none⟩,
     ⟨some 3, .move (.const (.bool true)), none⟩])
  (.keep [2, 3] [2] (.ret))))))⟩
/-- wampum/stamp.Next -/
def F222 : FnIR := ⟨29, 1, [.cell 2 true 2, .tmp 3], [1, 2, 4],
  .seq (.region [⟨some 1, .box true 2 (.tmp 0), none⟩,
     ⟨some 2, .alloc true 2 [(.int .i64 0), (.int .i64 0)], none⟩,
     ⟨some 3, .move (.const (.int .i64 0)), none⟩])
  (.keep [1, 2] [1, 2] (.seq (.region [⟨some 5, .build [(.int .i64 0), (.int .i64 0)] [(0, 1, (.const (.int .i64 1099511627776))), (1, 1, (.const (.int .i64 65535)))], none⟩,
     ⟨some 4, .alloc true 2 [(.int .i64 0), (.int .i64 0)], none⟩,
     ⟨none, .store 2 (.tmp 4) (.tmp 5), none⟩])
  (.keep [1, 2, 4] [1, 2, 4] (.seq (.block 0 (.seq (.region [⟨some 7, .load true 2 (.tmp 1), none⟩,
       ⟨some 8, .call (.func 184) [(.tmp 7)], none⟩,
       ⟨some 9, .un .not (.tmp 8), none⟩,
       ⟨some 10, .move (.tmp 9), none⟩,
       ⟨some 11, .load true 2 (.tmp 1), some (10, false)⟩,
       ⟨some 12, .load true 2 (.tmp 4), some (10, false)⟩,
       ⟨some 13, .bin .eql (.struct [(0, false, 1, .int), (1, false, 1, .int)]) (.tmp 11) (.tmp 12), some (10, false)⟩,
       ⟨some 14, .pick (.tmp 10) (.const (.bool true)) (.tmp 13), none⟩,
       ⟨some 6, .move (.tmp 14), none⟩])
    (.keep [1, 2, 6] [1, 2] (.cond (.tmp 6)
     (.seq (.region [⟨some 15, .build [(.int .i64 0), (.int .i64 0)] [], none⟩,
        ⟨none, .store 2 (.tmp 2) (.tmp 15), none⟩,
        ⟨some 3, .move (.const (.int .i64 31)), none⟩])
     (.keep [2, 3] [2] (.ret)))
     (.seq (.region [⟨some 17, .fieldAddr 1 (.tmp 1), none⟩,
        ⟨some 18, .load false 1 (.tmp 17), none⟩,
        ⟨some 19, .bin .eql .int (.tmp 18) (.const (.int .i64 65535)), none⟩,
        ⟨some 16, .move (.tmp 19), none⟩])
     (.keep [1, 2, 16] [1, 2] (.cond (.tmp 16)
      (.seq (.region [⟨some 20, .fieldAddr 0 (.tmp 1), none⟩,
         ⟨some 21, .load false 1 (.tmp 20), none⟩,
         ⟨some 22, .bin .add .none (.tmp 21) (.const (.int .i64 1)), none⟩,
         ⟨some 23, .build [(.int .i64 0), (.int .i64 0)] [(0, 1, (.tmp 22))], none⟩,
         ⟨none, .store 2 (.tmp 2) (.tmp 23), none⟩,
         ⟨some 3, .move (.const (.int .i64 0)), none⟩])
      (.keep [2, 3] [2] (.ret)))
      (.skip))))))))
  (.keep [1, 2] [1, 2] (.seq (.region [⟨some 24, .fieldAddr 1 (.tmp 1), none⟩,
     ⟨some 25, .load false 1 (.tmp 24), none⟩,
     ⟨some 26, .bin .add .none (.tmp 25) (.const (.int .i64 1)), none⟩,
     ⟨some 27, .fieldAddr 1 (.tmp 1), none⟩,
     ⟨none, .store 1 (.tmp 27) (.tmp 26), none⟩])
  (.keep [1, 2] [1, 2] (.seq (.region [⟨some 28, .load true 2 (.tmp 1), none⟩,
     ⟨none, .store 2 (.tmp 2) (.tmp 28), none⟩,
     ⟨some 3, .move (.const (.int .i64 0)), none⟩])
  (.keep [2, 3] [2] (.ret))))))))))⟩
/-- (*wampum/state.State).resolve -/
def F130 : FnIR := ⟨38, 2, [.cell 4 true 18], [3, 4],
  .seq (.region [⟨some 3, .box true 22 (.tmp 1), none⟩,
     ⟨some 4, .alloc true 18 [(.int .i64 0), (.int .i64 0), (.int .i64 0), .nils, (.bool false), (.int .i64 0), (.int .i64 0), (.str []), (.int .i64 0), (.int .i64 0), (.int .i64 0), (.int .i64 0), (.int .i64 0), (.int .i64 0), (.int .i64 0), (.int .i64 0), (.int .i64 0), .nils], none⟩])
  (.keep [0, 3, 4] [3, 4] (.seq (.seq (.regionD [⟨some 6, .move (.tmp 0), none⟩,
      ⟨some 7, .nilCheck (.tmp 6), none⟩,
      ⟨some 8, .fieldAddr 6 (.tmp 7), none⟩,
      ⟨some 9, .load false 1 (.tmp 8), none⟩,
      ⟨some 10, .fieldAddr 10 (.tmp 3), none⟩,
      ⟨some 11, .load true 2 (.tmp 10), none⟩,
      ⟨some 12, .fieldAddr 4 (.tmp 3), none⟩,
      ⟨some 13, .fieldAddr 0 (.tmp 12), none⟩,
      ⟨some 14, .load false 1 (.tmp 13), none⟩,
      ⟨some 15, .fieldAddr 4 (.tmp 3), none⟩,
      ⟨some 16, .fieldAddr 1 (.tmp 15), none⟩,
      ⟨some 17, .load false 1 (.tmp 16), none⟩,
      ⟨some 18, .fieldAddr 18 (.tmp 3), none⟩,
      ⟨some 19, .load false 1 (.tmp 18), none⟩,
      ⟨some 20, .fieldAddr 14 (.tmp 3), none⟩,
      ⟨some 21, .load true 2 (.tmp 20), none⟩,
      ⟨some 22, .call (.func 42) [(.tmp 9), (.tmp 11), (.tmp 14), (.tmp 17), (.tmp 19), (.tmp 21)], none⟩,
      ⟨some 5, .move (.tmp 22), none⟩,
      ⟨some 23, .extract (.tmp 5) 0, none⟩,
      ⟨some 24, .extract (.tmp 5) 1, none⟩,
      ⟨some 25, .fieldAddr 0 (.tmp 4), none⟩,
      ⟨none, .store 1 (.tmp 25) (.tmp 24), none⟩] [])
   (.keep [0, 3, 4] [3, 4] (.seq (.region [⟨some 26, .fieldAddr 0 (.tmp 4), none⟩,
      ⟨some 27, .load false 1 (.tmp 26), none⟩,
      ⟨some 28, .bin .eql .int (.tmp 27) (.const (.int .i64 0)), none⟩])
   (.keep [0, 3, 4, 28] [3, 4] (.cond (.tmp 28)
    (.regionD [⟨some 29, .move (.tmp 0), none⟩,
      ⟨some 30, .nilCheck (.tmp 29), none⟩,
      ⟨some 31, .fieldAddr 8 (.tmp 30), none⟩,
      ⟨some 32, .load false 1 (.tmp 31), none⟩,
      ⟨some 33, .fieldAddr 4 (.tmp 3), none⟩,
      ⟨some 34, .fieldAddr 0 (.tmp 33), none⟩,
      ⟨some 35, .load false 1 (.tmp 34), none⟩,
      ⟨some 36, .build [] [], none⟩,
      ⟨none, .mapUpdate (.int .i64) (.tmp 32) (.tmp 35) (.tmp 36), none⟩] [])
    (.skip))))))
  (.keep [4] [4] (.seq (.region [⟨some 37, .load true 18 (.tmp 4), none⟩,
     ⟨none, .store 18 (.tmp 4) (.tmp 37), none⟩])
  (.keep [4] [4] (.ret))))))⟩
/-- (*wampum/store.Store).Resolve -/
def F42 : FnIR := ⟨69, 6, [.cell 12 false 1, .cell 13 false 1], [7, 18, 19],
  .seq (.region [⟨some 7, .box true 2 (.tmp 1), none⟩,
     ⟨some 8, .box false 1 (.tmp 2), none⟩,
     ⟨some 9, .box false 1 (.tmp 3), none⟩,
     ⟨some 10, .box false 1 (.tmp 4), none⟩,
     ⟨some 11, .box false 2 (.tmp 5), none⟩,
     ⟨some 12, .alloc false 1 [(.int .i64 0)], none⟩,
     ⟨some 13, .alloc false 1 [(.int .i64 0)], none⟩])
  (.keep [0, 7, 8, 9, 10, 11, 12, 13] [7] (.seq (.seq (.region [⟨some 21, .move (.tmp 0), none⟩,
      ⟨some 22, .load true 2 (.tmp 7), none⟩,
      ⟨some 23, .call (.func 102) [(.tmp 21), (.tmp 22)], none⟩,
      ⟨some 14, .move (.tmp 23), none⟩])
   (.keep [0, 7, 8, 9, 10, 11, 12, 13, 14] [7] (.seq (.region [⟨some 24, .move (.tmp 14), none⟩,
      ⟨some 25, .bin .neq .int (.tmp 24) (.const (.int .i64 0)), none⟩])
   (.keep [0, 7, 8, 9, 10, 11, 12, 13, 14, 25] [7] (.cond (.tmp 25)
    (.seq (.region [⟨some 26, .move (.tmp 14), none⟩,
       ⟨none, .store 1 (.tmp 12) (.const (.int .i64 0)), none⟩,
       ⟨none, .store 1 (.tmp 13) (.tmp 26), none⟩])
    (.keep [12, 13] [] (.ret)))
    (.skip))))))
  (.keep [0, 7, 8, 9, 10, 11, 12, 13] [7] (.seq (.region [⟨some 15, .alloc false 1 [(.int .i64 0)], none⟩,
     ⟨none, .store 1 (.tmp 15) (.const (.int .i64 0)), none⟩])
  (.keep [0, 7, 8, 9, 10, 11, 12, 13, 15] [7] (.seq (.region [⟨some 27, .mkMap, none⟩,
     ⟨some 16, .alloc false 1 [.nilm], none⟩,
     ⟨none, .store 1 (.tmp 16) (.tmp 27), none⟩])
  (.keep [0, 7, 8, 9, 10, 11, 12, 13, 15, 16] [7] (.seq (.seq (.region [⟨some 28, .move (.tmp 0), none⟩,
      ⟨some 29, .load true 2 (.tmp 7), none⟩,
      ⟨some 30, .call (.func 59) [(.tmp 28), (.tmp 29)], none⟩])
   (.keep [0, 8, 9, 10, 11, 12, 13, 15, 16, 30] [] (.block 0 (.rangeF (.tmp 30) [31, 32]
     (.seq (.region [⟨some 17, .move (.tmp 31), none⟩])
     (.keep [8, 9, 10, 11, 12, 13, 15, 16, 17, 32] [] (.region [⟨some 18, .alloc true 12 [.nils, (.bool false), (.int .i64 0), (.int .i64 0), (.str []), (.int .i64 0), (.int .i64 0), (.int .i64 0), (.int .i64 0), (.int .i64 0), (.str []), (.bool false)], none⟩,
       ⟨none, .store 12 (.tmp 18) (.tmp 32), none⟩])))
     (.keep [8, 9, 10, 11, 12, 13, 15, 16, 17, 18] [18] (.block 1 (.seq (.region [⟨some 34, .load true 12 (.tmp 18), none⟩,
         ⟨some 35, .load false 1 (.tmp 8), none⟩,
         ⟨some 36, .load false 1 (.tmp 9), none⟩,
         ⟨some 37, .load false 1 (.tmp 10), none⟩,
         ⟨some 38, .load true 2 (.tmp 11), none⟩,
         ⟨some 39, .call (.func 106) [(.tmp 34), (.tmp 35), (.tmp 36), (.tmp 37), (.tmp 38)], none⟩,
         ⟨some 33, .move (.tmp 39), none⟩,
         ⟨some 40, .extract (.tmp 33) 0, none⟩,
         ⟨some 41, .extract (.tmp 33) 1, none⟩,
         ⟨some 19, .alloc true 12 [.nils, (.bool false), (.int .i64 0), (.int .i64 0), (.str []), (.int .i64 0), (.int .i64 0), (.int .i64 0), (.int .i64 0), (.int .i64 0), (.str []), (.bool false)], none⟩,
         ⟨none, .store 12 (.tmp 19) (.tmp 40), none⟩,
         ⟨some 20, .move (.tmp 41), none⟩])
      (.keep [12, 13, 15, 16, 17, 18, 19, 20] [18, 19] (.seq (.seq (.region [⟨some 42, .move (.tmp 20), none⟩,
          ⟨some 43, .bin .neq .int (.tmp 42) (.const (.int .i64 0)), none⟩])
       (.keep [12, 13, 15, 16, 17, 18, 19, 20, 43] [18, 19] (.cond (.tmp 43)
        (.seq (.region [⟨some 44, .move (.tmp 20), none⟩,
           ⟨none, .store 1 (.tmp 12) (.const (.int .i64 0)), none⟩,
           ⟨none, .store 1 (.tmp 13) (.tmp 44), none⟩])
        (.keep [] [] (.ret)))
        (.skip))))
      (.keep [15, 16, 17, 18, 19] [18, 19] (.seq (.region [⟨some 45, .fieldAddr 1 (.tmp 18), none⟩,
         ⟨some 46, .load false 1 (.tmp 45), none⟩,
         ⟨some 47, .move (.tmp 46), none⟩,
         ⟨some 48, .fieldAddr 1 (.tmp 19), some (47, true)⟩,
         ⟨some 49, .load false 1 (.tmp 48), some (47, true)⟩,
         ⟨some 50, .un .not (.tmp 49), some (47, true)⟩,
         ⟨some 51, .pick (.tmp 47) (.tmp 50) (.const (.bool false)), none⟩])
      (.keep [15, 16, 17, 19, 51] [19] (.cond (.tmp 51)
       (.seq (.region [⟨some 52, .load false 1 (.tmp 16), none⟩,
          ⟨some 53, .move (.tmp 17), none⟩,
          ⟨some 54, .load true 12 (.tmp 19), none⟩,
          ⟨none, .mapUpdate .str (.tmp 52) (.tmp 53) (.tmp 54), none⟩])
       (.keep [15] [] (.region [⟨some 55, .load false 1 (.tmp 15), none⟩,
         ⟨some 56, .bin .add .none (.tmp 55) (.const (.int .i64 1)), none⟩,
         ⟨none, .store 1 (.tmp 15) (.tmp 56), none⟩])))
       (.skip))))))))))))))
  (.keep [0, 12, 13, 15, 16] [] (.seq (.regionD [⟨some 57, .move (.tmp 0), none⟩,
     ⟨some 58, .nilCheck (.tmp 57), none⟩,
     ⟨some 59, .fieldAddr 0 (.tmp 58), none⟩,
     ⟨some 60, .load false 1 (.tmp 59), none⟩,
     ⟨some 61, .load false 1 (.tmp 16), none⟩,
     ⟨some 62, .call (.func 107) [(.tmp 60), (.tmp 61)], none⟩] [])
  (.keep [0, 12, 13, 15] [] (.seq (.region [⟨some 63, .move (.tmp 0), none⟩,
     ⟨some 64, .nilCheck (.tmp 63), none⟩,
     ⟨some 65, .fieldAddr 0 (.tmp 64), none⟩,
     ⟨some 66, .load false 1 (.tmp 65), none⟩,
     ⟨some 67, .call (.func 108) [(.tmp 66), (.func 109)], none⟩])
  (.keep [12, 13, 15] [] (.seq (.region [⟨some 68, .load false 1 (.tmp 15), none⟩,
     ⟨none, .store 1 (.tmp 12) (.tmp 68), none⟩,
     ⟨none, .store 1 (.tmp 13) (.const (.int .i64 0)), none⟩])
  (.keep [12, 13] [] (.ret))))))))))))))))⟩
/-- wampum/version.Resolve -/
def F106 : FnIR := ⟨82, 5, [.cell 10 true 12, .tmp 11], [5, 9, 10, 12, 13],
  .seq (.region [⟨some 5, .box true 12 (.tmp 0), none⟩,
     ⟨some 9, .box true 2 (.tmp 4), none⟩,
     ⟨some 10, .alloc true 12 [.nils, (.bool false), (.int .i64 0), (.int .i64 0), (.str []), (.int .i64 0), (.int .i64 0), (.int .i64 0), (.int .i64 0), (.int .i64 0), (.str []), (.bool false)], none⟩,
     ⟨some 11, .move (.const (.int .i64 0)), none⟩])
  (.keep [1, 2, 3, 5, 9, 10] [5, 9, 10] (.seq (.region [⟨some 15, .fieldAddr 2 (.tmp 5), none⟩,
     ⟨some 16, .load true 10 (.tmp 15), none⟩,
     ⟨some 12, .alloc true 10 [(.int .i64 0), (.int .i64 0), (.str []), (.int .i64 0), (.int .i64 0), (.int .i64 0), (.int .i64 0), (.int .i64 0), (.str []), (.bool false)], none⟩,
     ⟨none, .store 10 (.tmp 12) (.tmp 16), none⟩])
  (.keep [1, 2, 3, 5, 9, 10, 12] [5, 9, 10, 12] (.seq (.region [⟨some 17, .load true 12 (.tmp 5), none⟩,
     ⟨some 18, .call (.func 177) [(.tmp 17)], none⟩,
     ⟨none, .store 12 (.tmp 5) (.tmp 18), none⟩])
  (.keep [1, 2, 3, 5, 9, 10, 12] [5, 9, 10, 12] (.seq (.seq (.region [⟨some 19, .fieldAddr 1 (.tmp 5), none⟩,
      ⟨some 20, .load false 1 (.tmp 19), none⟩,
      ⟨some 21, .un .not (.tmp 20), none⟩,
      ⟨some 22, .move (.tmp 21), none⟩,
      ⟨some 23, .fieldAddr 0 (.tmp 12), some (22, false)⟩,
      ⟨some 24, .fieldAddr 0 (.tmp 23), some (22, false)⟩,
      ⟨some 25, .load false 1 (.tmp 24), some (22, false)⟩,
      ⟨some 26, .move (.tmp 1), some (22, false)⟩,
      ⟨some 27, .bin .neq .int (.tmp 25) (.tmp 26), some (22, false)⟩,
      ⟨some 28, .pick (.tmp 22) (.const (.bool true)) (.tmp 27), none⟩,
      ⟨some 29, .move (.tmp 28), none⟩,
      ⟨some 30, .move (.tmp 3), some (29, false)⟩,
      ⟨some 31, .un .not (.tmp 30), some (29, false)⟩,
      ⟨some 32, .move (.tmp 31), some (29, false)⟩,
      ⟨some 33, .fieldAddr 0 (.tmp 12), some (32, true)⟩,
      ⟨some 34, .fieldAddr 1 (.tmp 33), some (32, true)⟩,
      ⟨some 35, .load false 1 (.tmp 34), some (32, true)⟩,
      ⟨some 36, .move (.tmp 2), some (32, true)⟩,
      ⟨some 37, .bin .gtr .none (.tmp 35) (.tmp 36), some (32, true)⟩,
      ⟨some 38, .pick (.tmp 32) (.tmp 37) (.const (.bool false)), some (29, false)⟩,
      ⟨some 39, .pick (.tmp 29) (.const (.bool true)) (.tmp 38), none⟩])
   (.keep [1, 2, 3, 5, 9, 10, 12, 39] [5, 9, 10, 12] (.cond (.tmp 39)
    (.seq (.region [⟨some 40, .load true 12 (.tmp 5), none⟩,
       ⟨none, .store 12 (.tmp 10) (.tmp 40), none⟩,
       ⟨some 11, .move (.const (.int .i64 0)), none⟩])
    (.keep [10, 11] [10] (.ret)))
    (.skip))))
  (.keep [1, 2, 3, 5, 9, 10, 12] [5, 9, 10, 12] (.seq (.seq (.region [⟨some 41, .move (.tmp 3), none⟩,
      ⟨some 42, .move (.tmp 41), none⟩,
      ⟨some 43, .fieldAddr 0 (.tmp 12), some (42, true)⟩,
      ⟨some 44, .fieldAddr 1 (.tmp 43), some (42, true)⟩,
      ⟨some 45, .load false 1 (.tmp 44), some (42, true)⟩,
      ⟨some 46, .move (.tmp 2), some (42, true)⟩,
      ⟨some 47, .bin .eql .int (.tmp 45) (.tmp 46), some (42, true)⟩,
      ⟨some 48, .pick (.tmp 42) (.tmp 47) (.const (.bool false)), none⟩])
   (.keep [1, 5, 9, 10, 12, 48] [5, 9, 10, 12] (.cond (.tmp 48)
    (.seq (.seq (.region [⟨some 50, .load true 12 (.tmp 5), none⟩,
        ⟨some 51, .call (.func 183) [(.tmp 50)], none⟩,
        ⟨some 49, .move (.tmp 51), none⟩,
        ⟨some 52, .extract (.tmp 49) 0, none⟩,
        ⟨some 53, .extract (.tmp 49) 1, none⟩,
        ⟨some 13, .alloc true 2 [(.int .i64 0), (.int .i64 0)], none⟩,
        ⟨none, .store 2 (.tmp 13) (.tmp 52), none⟩,
        ⟨some 14, .move (.tmp 53), none⟩])
     (.keep [1, 5, 9, 10, 12, 13, 14] [5, 9, 10, 12, 13] (.seq (.region [⟨some 54, .load true 2 (.tmp 9), none⟩,
        ⟨some 55, .call (.func 184) [(.tmp 54)], none⟩,
        ⟨some 56, .un .not (.tmp 55), none⟩,
        ⟨some 57, .move (.tmp 56), none⟩,
        ⟨some 58, .move (.tmp 14), some (57, false)⟩,
        ⟨some 59, .move (.tmp 58), some (57, false)⟩,
        ⟨some 60, .load true 2 (.tmp 9), some (59, true)⟩,
        ⟨some 61, .load true 2 (.tmp 13), some (59, true)⟩,
        ⟨some 62, .call (.func 179) [(.tmp 60), (.tmp 61)], some (59, true)⟩,
        ⟨some 63, .pick (.tmp 59) (.tmp 62) (.const (.bool false)), some (57, false)⟩,
        ⟨some 64, .pick (.tmp 57) (.const (.bool true)) (.tmp 63), none⟩])
     (.keep [1, 5, 9, 10, 12, 64] [5, 9, 10, 12] (.cond (.tmp 64)
      (.seq (.region [⟨some 65, .build [.nils, (.bool false), (.int .i64 0), (.int .i64 0), (.str []), (.int .i64 0), (.int .i64 0), (.int .i64 0), (.int .i64 0), (.int .i64 0), (.str []), (.bool false)] [], none⟩,
         ⟨none, .store 12 (.tmp 10) (.tmp 65), none⟩,
         ⟨some 11, .move (.const (.int .i64 84)), none⟩])
      (.keep [10, 11] [10] (.ret)))
      (.skip))))))
    (.keep [1, 5, 9, 10, 12] [5, 9, 10, 12] (.region [⟨some 66, .fieldAddr 0 (.tmp 5), none⟩,
      ⟨some 67, .load false 1 (.tmp 66), none⟩,
      ⟨some 68, .load true 2 (.tmp 9), none⟩,
      ⟨some 69, .fieldAddr 8 (.tmp 12), none⟩,
      ⟨some 70, .load false 1 (.tmp 69), none⟩,
      ⟨some 71, .fieldAddr 9 (.tmp 12), none⟩,
      ⟨some 72, .load false 1 (.tmp 71), none⟩,
      ⟨some 73, .move (.tmp 1), none⟩,
      ⟨some 74, .build [(.int .i64 0), (.int .i64 0), (.str []), (.bool false), (.int .i64 0)] [(0, 2, (.tmp 68)), (2, 1, (.tmp 70)), (3, 1, (.tmp 72)), (4, 1, (.tmp 73))], none⟩,
      ⟨some 75, .buildSlice 5 1 [(.int .i64 0), (.int .i64 0), (.str []), (.bool false), (.int .i64 0)] [(0, 5, (.tmp 74))], none⟩,
      ⟨some 76, .append 5 48 (.tmp 67) (.tmp 75), none⟩,
      ⟨some 77, .fieldAddr 0 (.tmp 5), none⟩,
      ⟨none, .store 1 (.tmp 77) (.tmp 76), none⟩])))
    (.skip))))
  (.keep [5, 10] [5, 10] (.seq (.region [⟨some 78, .build [(.int .i64 0), (.int .i64 0), (.str []), (.int .i64 0), (.int .i64 0), (.int .i64 0), (.int .i64 0), (.int .i64 0), (.str []), (.bool false)] [], none⟩,
     ⟨some 79, .fieldAddr 1 (.tmp 5), none⟩,
     ⟨none, .store 1 (.tmp 79) (.const (.bool false)), none⟩,
     ⟨some 80, .fieldAddr 2 (.tmp 5), none⟩,
     ⟨none, .store 10 (.tmp 80) (.tmp 78), none⟩])
  (.keep [5, 10] [5, 10] (.seq (.region [⟨some 81, .load true 12 (.tmp 5), none⟩,
     ⟨none, .store 12 (.tmp 10) (.tmp 81), none⟩,
     ⟨some 11, .move (.const (.int .i64 0)), none⟩])
  (.keep [10, 11] [10] (.ret))))))))))))))⟩
/-- maps.Copy[map[string]wampum/api.Chain,map[string]wampum/api.Chain,string,wampum/api.Chain] -/
def F107 : FnIR := ⟨16, 2, [], [5],
  .seq (.region [⟨some 6, .move (.tmp 1), none⟩,
     ⟨some 7, .rangeM (.tmp 6), none⟩])
  (.keep [0, 7] [] (.mapR 8 9 (.tmp 7) 0 [] [] (.keep [0, 7] [] (.block 1 (.seq (.region [⟨some 10, .entryM (.tmp 7), none⟩,
       ⟨some 11, .extract (.tmp 10) 0, none⟩,
       ⟨some 12, .extract (.tmp 10) 1, none⟩,
       ⟨some 5, .alloc true 12 [.nils, (.bool false), (.int .i64 0), (.int .i64 0), (.str []), (.int .i64 0), (.int .i64 0), (.int .i64 0), (.int .i64 0), (.int .i64 0), (.str []), (.bool false)], none⟩,
       ⟨some 4, .move (.tmp 11), none⟩,
       ⟨none, .store 12 (.tmp 5) (.tmp 12), none⟩])
    (.keep [0, 4, 5, 7] [5] (.region [⟨some 13, .move (.tmp 0), none⟩,
      ⟨some 14, .move (.tmp 4), none⟩,
      ⟨some 15, .load true 12 (.tmp 5), none⟩,
      ⟨none, .mapUpdate .str (.tmp 13) (.tmp 14) (.tmp 15), none⟩])))))))⟩
/-- maps.DeleteFunc[map[string]wampum/api.Chain,string,wampum/api.Chain] -/
def F108 : FnIR := ⟨19, 2, [], [5],
  .seq (.region [⟨some 6, .move (.tmp 0), none⟩,
     ⟨some 7, .rangeM (.tmp 6), none⟩])
  (.keep [0, 1, 7] [] (.mapR 8 9 (.tmp 7) 0 [] [] (.keep [0, 1, 7] [] (.block 1 (.seq (.region [⟨some 10, .entryM (.tmp 7), none⟩,
       ⟨some 11, .extract (.tmp 10) 0, none⟩,
       ⟨some 12, .extract (.tmp 10) 1, none⟩,
       ⟨some 5, .alloc true 12 [.nils, (.bool false), (.int .i64 0), (.int .i64 0), (.str []), (.int .i64 0), (.int .i64 0), (.int .i64 0), (.int .i64 0), (.int .i64 0), (.str []), (.bool false)], none⟩,
       ⟨some 4, .move (.tmp 11), none⟩,
       ⟨none, .store 12 (.tmp 5) (.tmp 12), none⟩])
    (.keep [0, 1, 4, 5, 7] [5] (.seq (.region [⟨some 13, .move (.tmp 1), none⟩,
       ⟨some 14, .move (.tmp 4), none⟩,
       ⟨some 15, .load true 12 (.tmp 5), none⟩,
       ⟨some 16, .call (.tmp 13) [(.tmp 14), (.tmp 15)], none⟩])
    (.keep [0, 1, 4, 7, 16] [] (.cond (.tmp 16)
     (.region [⟨some 17, .move (.tmp 0), none⟩,
       ⟨some 18, .move (.tmp 4), none⟩,
       ⟨none, .delete .str (.tmp 17) (.tmp 18), none⟩])
     (.skip))))))))))⟩
/-- (*wampum/store.Store).Resolve$1 -/
def F109 : FnIR := ⟨14, 2, [.tmp 4], [3],
  .seq (.region [⟨some 3, .box true 12 (.tmp 1), none⟩,
     ⟨some 4, .move (.const (.bool false)), none⟩])
  (.keep [3] [3] (.seq (.region [⟨some 5, .fieldAddr 1 (.tmp 3), none⟩,
     ⟨some 6, .load false 1 (.tmp 5), none⟩,
     ⟨some 7, .un .not (.tmp 6), none⟩,
     ⟨some 8, .move (.tmp 7), none⟩,
     ⟨some 9, .fieldAddr 0 (.tmp 3), some (8, true)⟩,
     ⟨some 10, .load false 1 (.tmp 9), some (8, true)⟩,
     ⟨some 11, .len .slice (.tmp 10), some (8, true)⟩,
     ⟨some 12, .bin .eql .int (.tmp 11) (.const (.int .i64 0)), some (8, true)⟩,
     ⟨some 13, .pick (.tmp 8) (.tmp 12) (.const (.bool false)), none⟩,
     ⟨some 4, .move (.tmp 13), none⟩])
  (.keep [4] [] (.ret))))⟩
/-- (*wampum/state.State).refresh -/
def F131 : FnIR := ⟨31, 2, [.cell 4 true 18], [3, 4],
  .seq (.region [⟨some 3, .box true 22 (.tmp 1), none⟩,
     ⟨some 4, .alloc true 18 [(.int .i64 0), (.int .i64 0), (.int .i64 0), .nils, (.bool false), (.int .i64 0), (.int .i64 0), (.str []), (.int .i64 0), (.int .i64 0), (.int .i64 0), (.int .i64 0), (.int .i64 0), (.int .i64 0), (.int .i64 0), (.int .i64 0), (.int .i64 0), .nils], none⟩])
  (.keep [0, 3, 4] [3, 4] (.seq (.regionD [⟨some 6, .move (.tmp 0), none⟩,
     ⟨some 7, .nilCheck (.tmp 6), none⟩,
     ⟨some 8, .fieldAddr 6 (.tmp 7), none⟩,
     ⟨some 9, .load false 1 (.tmp 8), none⟩,
     ⟨some 10, .fieldAddr 10 (.tmp 3), none⟩,
     ⟨some 11, .load true 2 (.tmp 10), none⟩,
     ⟨some 12, .fieldAddr 4 (.tmp 3), none⟩,
     ⟨some 13, .fieldAddr 0 (.tmp 12), none⟩,
     ⟨some 14, .load false 1 (.tmp 13), none⟩,
     ⟨some 15, .fieldAddr 16 (.tmp 3), none⟩,
     ⟨some 16, .load true 2 (.tmp 15), none⟩,
     ⟨some 17, .fieldAddr 14 (.tmp 3), none⟩,
     ⟨some 18, .load true 2 (.tmp 17), none⟩,
     ⟨some 19, .call (.func 195) [(.tmp 9), (.tmp 11), (.tmp 14), (.tmp 16), (.tmp 18)], none⟩,
     ⟨some 5, .move (.tmp 19), none⟩,
     ⟨some 20, .extract (.tmp 5) 0, none⟩,
     ⟨some 22, .fieldAddr 5 (.tmp 4), none⟩,
     ⟨none, .store 5 (.tmp 22) (.tmp 20), none⟩,
     ⟨some 21, .extract (.tmp 5) 1, none⟩,
     ⟨some 23, .fieldAddr 0 (.tmp 4), none⟩,
     ⟨none, .store 1 (.tmp 23) (.tmp 21), none⟩] [])
  (.keep [0, 3, 4] [3, 4] (.seq (.region [⟨some 24, .move (.tmp 0), none⟩,
     ⟨some 25, .fieldAddr 0 (.tmp 4), none⟩,
     ⟨some 26, .load false 1 (.tmp 25), none⟩,
     ⟨some 27, .fieldAddr 14 (.tmp 3), none⟩,
     ⟨some 28, .load true 2 (.tmp 27), none⟩,
     ⟨some 29, .call (.func 194) [(.tmp 24), (.tmp 26), (.tmp 28)], none⟩])
  (.keep [4] [4] (.seq (.region [⟨some 30, .load true 18 (.tmp 4), none⟩,
     ⟨none, .store 18 (.tmp 4) (.tmp 30), none⟩])
  (.keep [4] [4] (.ret))))))))⟩
/-- (*wampum/store.Store).Refresh -/
def F195 : FnIR := ⟨48, 5, [.cell 10 true 5, .cell 11 false 1], [6, 15, 16],
  .seq (.region [⟨some 6, .box true 2 (.tmp 1), none⟩,
     ⟨some 7, .box false 1 (.tmp 2), none⟩,
     ⟨some 8, .box false 2 (.tmp 3), none⟩,
     ⟨some 9, .box false 2 (.tmp 4), none⟩,
     ⟨some 10, .alloc false 5 [(.int .i64 0), (.int .i64 0), (.str []), (.int .i64 0), (.int .i64 0)], none⟩,
     ⟨some 11, .alloc false 1 [(.int .i64 0)], none⟩])
  (.keep [0, 6, 7, 8, 9, 10, 11] [6] (.seq (.seq (.region [⟨some 18, .move (.tmp 0), none⟩,
      ⟨some 19, .load true 2 (.tmp 6), none⟩,
      ⟨some 20, .call (.func 102) [(.tmp 18), (.tmp 19)], none⟩,
      ⟨some 12, .move (.tmp 20), none⟩])
   (.keep [0, 6, 7, 8, 9, 10, 11, 12] [6] (.seq (.region [⟨some 21, .move (.tmp 12), none⟩,
      ⟨some 22, .bin .neq .int (.tmp 21) (.const (.int .i64 0)), none⟩])
   (.keep [0, 6, 7, 8, 9, 10, 11, 12, 22] [6] (.cond (.tmp 22)
    (.seq (.region [⟨some 23, .build [(.int .i64 0), (.int .i64 0), (.str []), (.int .i64 0), (.int .i64 0)] [], none⟩,
       ⟨some 24, .move (.tmp 12), none⟩,
       ⟨none, .store 5 (.tmp 10) (.tmp 23), none⟩,
       ⟨none, .store 1 (.tmp 11) (.tmp 24), none⟩])
    (.keep [10, 11] [] (.ret)))
    (.skip))))))
  (.keep [0, 6, 7, 8, 9, 10, 11] [6] (.seq (.region [⟨some 13, .alloc false 1 [(.int .i64 0)], none⟩,
     ⟨none, .store 1 (.tmp 13) (.const (.int .i64 0)), none⟩])
  (.keep [0, 6, 7, 8, 9, 10, 11, 13] [6] (.seq (.seq (.region [⟨some 25, .move (.tmp 0), none⟩,
      ⟨some 26, .load true 2 (.tmp 6), none⟩,
      ⟨some 27, .call (.func 59) [(.tmp 25), (.tmp 26)], none⟩])
   (.keep [7, 8, 9, 10, 11, 13, 27] [] (.block 0 (.rangeF (.tmp 27) [28, 29]
     (.region [⟨some 15, .alloc true 12 [.nils, (.bool false), (.int .i64 0), (.int .i64 0), (.str []), (.int .i64 0), (.int .i64 0), (.int .i64 0), (.int .i64 0), (.int .i64 0), (.str []), (.bool false)], none⟩,
       ⟨none, .store 12 (.tmp 15) (.tmp 29), none⟩])
     (.keep [7, 8, 9, 10, 11, 13, 15] [15] (.block 1 (.seq (.region [⟨some 31, .load true 12 (.tmp 15), none⟩,
         ⟨some 32, .load false 1 (.tmp 7), none⟩,
         ⟨some 33, .load true 2 (.tmp 8), none⟩,
         ⟨some 34, .load true 2 (.tmp 9), none⟩,
         ⟨some 35, .call (.func 229) [(.tmp 31), (.tmp 32), (.tmp 33), (.tmp 34)], none⟩,
         ⟨some 30, .move (.tmp 35), none⟩,
         ⟨some 36, .extract (.tmp 30) 0, none⟩,
         ⟨some 37, .extract (.tmp 30) 1, none⟩,
         ⟨some 16, .alloc true 5 [(.int .i64 0), (.int .i64 0), (.str []), (.int .i64 0), (.int .i64 0)], none⟩,
         ⟨none, .store 5 (.tmp 16) (.tmp 36), none⟩,
         ⟨some 17, .move (.tmp 37), none⟩])
      (.keep [10, 11, 13, 16, 17] [16] (.seq (.region [⟨some 38, .move (.tmp 17), none⟩])
      (.keep [10, 11, 13, 16, 17, 38] [16] (.block 2 (.seq (.region [⟨some 41, .bin .eql .int (.tmp 38) (.const (.int .i64 0)), none⟩,
          ⟨some 40, .move (.tmp 41), none⟩])
       (.keep [10, 11, 13, 16, 17, 38, 40] [16] (.cond (.tmp 40)
        (.skip)
        (.seq (.region [⟨some 43, .bin .eql .int (.tmp 38) (.const (.int .i64 81)), none⟩,
           ⟨some 42, .move (.tmp 43), none⟩])
        (.keep [10, 11, 13, 16, 17, 42] [16] (.cond (.tmp 42)
         (.seq (.region [⟨some 44, .load true 5 (.tmp 16), none⟩,
            ⟨some 45, .move (.tmp 17), none⟩,
            ⟨none, .store 5 (.tmp 10) (.tmp 44), none⟩,
            ⟨none, .store 1 (.tmp 11) (.tmp 45), none⟩])
         (.keep [] [] (.ret)))
         (.region [⟨some 39, .move (.tmp 17), none⟩,
           ⟨none, .store 1 (.tmp 13) (.tmp 39), none⟩]))))))))))))))))))
  (.keep [10, 11, 13] [] (.seq (.regionD [⟨some 46, .build [(.int .i64 0), (.int .i64 0), (.str []), (.int .i64 0), (.int .i64 0)] [], none⟩,
     ⟨none, .store 5 (.tmp 10) (.tmp 46), none⟩,
     ⟨some 47, .load false 1 (.tmp 13), none⟩,
     ⟨none, .store 1 (.tmp 11) (.tmp 47), none⟩] [(2, 0)])
  (.keep [10, 11] [] (.ret))))))))))⟩
/-- wampum/version.Refresh -/
def F229 : FnIR := ⟨41, 4, [.cell 8 true 5, .tmp 9], [4, 6, 7, 8],
  .seq (.region [⟨some 4, .box true 12 (.tmp 0), none⟩,
     ⟨some 6, .box true 2 (.tmp 2), none⟩,
     ⟨some 7, .box true 2 (.tmp 3), none⟩,
     ⟨some 8, .alloc true 5 [(.int .i64 0), (.int .i64 0), (.str []), (.int .i64 0), (.int .i64 0)], none⟩,
     ⟨some 9, .move (.const (.int .i64 0)), none⟩])
  (.keep [1, 4, 6, 7, 8] [4, 6, 7, 8] (.seq (.block 0 (.seq (.region [⟨some 11, .fieldAddr 1 (.tmp 4), none⟩,
       ⟨some 12, .load false 1 (.tmp 11), none⟩,
       ⟨some 13, .move (.tmp 12), none⟩,
       ⟨some 14, .fieldAddr 2 (.tmp 4), some (13, true)⟩,
       ⟨some 15, .fieldAddr 0 (.tmp 14), some (13, true)⟩,
       ⟨some 16, .fieldAddr 0 (.tmp 15), some (13, true)⟩,
       ⟨some 17, .load false 1 (.tmp 16), some (13, true)⟩,
       ⟨some 18, .move (.tmp 1), some (13, true)⟩,
       ⟨some 19, .bin .neq .int (.tmp 17) (.tmp 18), some (13, true)⟩,
       ⟨some 20, .pick (.tmp 13) (.tmp 19) (.const (.bool false)), none⟩,
       ⟨some 21, .move (.tmp 20), none⟩,
       ⟨some 22, .fieldAddr 2 (.tmp 4), some (21, true)⟩,
       ⟨some 23, .fieldAddr 6 (.tmp 22), some (21, true)⟩,
       ⟨some 24, .load true 2 (.tmp 23), some (21, true)⟩,
       ⟨some 25, .load true 2 (.tmp 7), some (21, true)⟩,
       ⟨some 26, .call (.func 179) [(.tmp 24), (.tmp 25)], some (21, true)⟩,
       ⟨some 27, .pick (.tmp 21) (.tmp 26) (.const (.bool false)), none⟩,
       ⟨some 10, .move (.tmp 27), none⟩])
    (.keep [4, 6, 7, 8, 10] [4, 6, 7, 8] (.cond (.tmp 10)
     (.seq (.region [⟨some 28, .fieldAddr 2 (.tmp 4), none⟩,
        ⟨some 29, .fieldAddr 0 (.tmp 28), none⟩,
        ⟨some 30, .load true 5 (.tmp 29), none⟩,
        ⟨none, .store 5 (.tmp 8) (.tmp 30), none⟩,
        ⟨some 9, .move (.const (.int .i64 81)), none⟩])
     (.keep [8, 9] [8] (.ret)))
     (.seq (.regionD [⟨some 32, .load true 12 (.tmp 4), none⟩,
        ⟨some 33, .load true 2 (.tmp 7), none⟩,
        ⟨some 34, .call (.func 180) [(.tmp 32), (.tmp 33)], none⟩,
        ⟨some 35, .load true 12 (.tmp 4), none⟩,
        ⟨some 36, .load true 2 (.tmp 6), none⟩,
        ⟨some 37, .call (.func 180) [(.tmp 35), (.tmp 36)], none⟩,
        ⟨some 38, .bin .gtr .none (.tmp 34) (.tmp 37), none⟩,
        ⟨some 31, .move (.tmp 38), none⟩] [(3, 0), (4, 0)])
     (.keep [8, 31] [8] (.cond (.tmp 31)
      (.seq (.region [⟨some 39, .build [(.int .i64 0), (.int .i64 0), (.str []), (.int .i64 0), (.int .i64 0)] [], none⟩,
         ⟨none, .store 5 (.tmp 8) (.tmp 39), none⟩,
         ⟨some 9, .move (.const (.int .i64 221)), none⟩])
      (.keep [8, 9] [8] (.ret)))
      (.skip))))))))
  (.keep [8] [8] (.seq (.region [⟨some 40, .build [(.int .i64 0), (.int .i64 0), (.str []), (.int .i64 0), (.int .i64 0)] [], none⟩,
     ⟨none, .store 5 (.tmp 8) (.tmp 40), none⟩,
     ⟨some 9, .move (.const (.int .i64 0)), none⟩])
  (.keep [8, 9] [8] (.ret))))))⟩
/-- (*wampum/state.State).query -/
def F132 : FnIR := ⟨29, 2, [.cell 4 true 18], [3, 4],
  .seq (.region [⟨some 3, .box true 22 (.tmp 1), none⟩,
     ⟨some 4, .alloc true 18 [(.int .i64 0), (.int .i64 0), (.int .i64 0), .nils, (.bool false), (.int .i64 0), (.int .i64 0), (.str []), (.int .i64 0), (.int .i64 0), (.int .i64 0), (.int .i64 0), (.int .i64 0), (.int .i64 0), (.int .i64 0), (.int .i64 0), (.int .i64 0), .nils], none⟩])
  (.keep [0, 3, 4] [3, 4] (.seq (.regionD [⟨some 5, .move (.tmp 0), none⟩,
     ⟨some 6, .nilCheck (.tmp 5), none⟩,
     ⟨some 7, .fieldAddr 6 (.tmp 6), none⟩,
     ⟨some 8, .load false 1 (.tmp 7), none⟩,
     ⟨some 9, .fieldAddr 10 (.tmp 3), none⟩,
     ⟨some 10, .fieldAddr 0 (.tmp 9), none⟩,
     ⟨some 11, .load false 1 (.tmp 10), none⟩,
     ⟨some 12, .fieldAddr 4 (.tmp 3), none⟩,
     ⟨some 13, .fieldAddr 0 (.tmp 12), none⟩,
     ⟨some 14, .load false 1 (.tmp 13), none⟩,
     ⟨some 15, .fieldAddr 4 (.tmp 3), none⟩,
     ⟨some 16, .fieldAddr 1 (.tmp 15), none⟩,
     ⟨some 17, .load false 1 (.tmp 16), none⟩,
     ⟨some 18, .fieldAddr 9 (.tmp 3), none⟩,
     ⟨some 19, .load false 1 (.tmp 18), none⟩,
     ⟨some 20, .fieldAddr 14 (.tmp 3), none⟩,
     ⟨some 21, .load true 2 (.tmp 20), none⟩,
     ⟨some 22, .call (.func 196) [(.tmp 8), (.tmp 11), (.tmp 14), (.tmp 17), (.tmp 19), (.tmp 21)], none⟩,
     ⟨some 23, .fieldAddr 4 (.tmp 4), none⟩,
     ⟨none, .store 1 (.tmp 23) (.tmp 22), none⟩] [])
  (.keep [0, 3, 4] [3, 4] (.seq (.region [⟨some 24, .move (.tmp 0), none⟩,
     ⟨some 25, .fieldAddr 14 (.tmp 3), none⟩,
     ⟨some 26, .load true 2 (.tmp 25), none⟩,
     ⟨some 27, .call (.func 194) [(.tmp 24), (.const (.int .i64 0)), (.tmp 26)], none⟩])
  (.keep [4] [4] (.seq (.region [⟨some 28, .load true 18 (.tmp 4), none⟩,
     ⟨none, .store 18 (.tmp 4) (.tmp 28), none⟩])
  (.keep [4] [4] (.ret))))))))⟩
/-- (*wampum/store.Store).Query -/
def F196 : FnIR := ⟨28, 6, [.tmp 12], [11],
  .seq (.region [⟨some 11, .box true 2 (.tmp 5), none⟩,
     ⟨some 12, .move (.const (.bool false)), none⟩])
  (.keep [0, 1, 2, 3, 4, 11] [11] (.seq (.regionD [⟨some 13, .move (.tmp 0), none⟩,
     ⟨some 14, .bin .neq .ptr (.tmp 13) (.const .nilp), none⟩,
     ⟨some 15, .move (.tmp 14), none⟩,
     ⟨some 16, .move (.tmp 0), some (15, true)⟩,
     ⟨some 17, .nilCheck (.tmp 16), some (15, true)⟩,
     ⟨some 18, .fieldAddr 0 (.tmp 17), some (15, true)⟩,
     ⟨some 19, .load false 1 (.tmp 18), some (15, true)⟩,
     ⟨some 20, .move (.tmp 1), some (15, true)⟩,
     ⟨some 21, .lookup .str false (.agg [.nils, (.bool false), (.int .i64 0), (.int .i64 0), (.str []), (.int .i64 0), (.int .i64 0), (.int .i64 0), (.int .i64 0), (.int .i64 0), (.str []), (.bool false)]) (.tmp 19) (.tmp 20), some (15, true)⟩,
     ⟨some 22, .move (.tmp 2), some (15, true)⟩,
     ⟨some 23, .move (.tmp 3), some (15, true)⟩,
     ⟨some 24, .move (.tmp 4), some (15, true)⟩,
     ⟨some 25, .load true 2 (.tmp 11), some (15, true)⟩,
     ⟨some 26, .call (.func 230) [(.tmp 21), (.tmp 22), (.tmp 23), (.tmp 24), (.tmp 25)], some (15, true)⟩,
     ⟨some 27, .pick (.tmp 15) (.tmp 26) (.const (.bool false)), none⟩,
     ⟨some 12, .move (.tmp 27), none⟩] [])
  (.keep [12] [] (.ret))))⟩
/-- wampum/version.Query -/
def F230 : FnIR := ⟨42, 5, [.tmp 10], [5, 9, 11],
  .seq (.region [⟨some 5, .box true 12 (.tmp 0), none⟩,
     ⟨some 9, .box true 2 (.tmp 4), none⟩,
     ⟨some 10, .move (.const (.bool false)), none⟩])
  (.keep [1, 2, 3, 5, 9] [5, 9] (.seq (.region [⟨some 12, .fieldAddr 2 (.tmp 5), none⟩,
     ⟨some 13, .load true 10 (.tmp 12), none⟩,
     ⟨some 11, .alloc true 10 [(.int .i64 0), (.int .i64 0), (.str []), (.int .i64 0), (.int .i64 0), (.int .i64 0), (.int .i64 0), (.int .i64 0), (.str []), (.bool false)], none⟩,
     ⟨none, .store 10 (.tmp 11) (.tmp 13), none⟩])
  (.keep [1, 2, 3, 5, 9, 11] [5, 9, 11] (.seq (.region [⟨some 14, .fieldAddr 1 (.tmp 5), none⟩,
     ⟨some 15, .load false 1 (.tmp 14), none⟩,
     ⟨some 16, .move (.tmp 15), none⟩,
     ⟨some 17, .fieldAddr 0 (.tmp 11), some (16, true)⟩,
     ⟨some 18, .fieldAddr 0 (.tmp 17), some (16, true)⟩,
     ⟨some 19, .load false 1 (.tmp 18), some (16, true)⟩,
     ⟨some 20, .move (.tmp 1), some (16, true)⟩,
     ⟨some 21, .bin .eql .int (.tmp 19) (.tmp 20), some (16, true)⟩,
     ⟨some 22, .pick (.tmp 16) (.tmp 21) (.const (.bool false)), none⟩,
     ⟨some 23, .move (.tmp 22), none⟩,
     ⟨some 24, .fieldAddr 0 (.tmp 11), some (23, true)⟩,
     ⟨some 25, .fieldAddr 1 (.tmp 24), some (23, true)⟩,
     ⟨some 26, .load false 1 (.tmp 25), some (23, true)⟩,
     ⟨some 27, .move (.tmp 2), some (23, true)⟩,
     ⟨some 28, .bin .eql .int (.tmp 26) (.tmp 27), some (23, true)⟩,
     ⟨some 29, .pick (.tmp 23) (.tmp 28) (.const (.bool false)), none⟩,
     ⟨some 30, .move (.tmp 29), none⟩,
     ⟨some 31, .fieldAddr 5 (.tmp 11), some (30, true)⟩,
     ⟨some 32, .load false 1 (.tmp 31), some (30, true)⟩,
     ⟨some 33, .move (.tmp 3), some (30, true)⟩,
     ⟨some 34, .bin .geq .none (.tmp 32) (.tmp 33), some (30, true)⟩,
     ⟨some 35, .pick (.tmp 30) (.tmp 34) (.const (.bool false)), none⟩,
     ⟨some 36, .move (.tmp 35), none⟩,
     ⟨some 37, .fieldAddr 6 (.tmp 11), some (36, true)⟩,
     ⟨some 38, .load true 2 (.tmp 37), some (36, true)⟩,
     ⟨some 39, .load true 2 (.tmp 9), some (36, true)⟩,
     ⟨some 40, .call (.func 179) [(.tmp 38), (.tmp 39)], some (36, true)⟩,
     ⟨some 41, .pick (.tmp 36) (.tmp 40) (.const (.bool false)), none⟩,
     ⟨some 10, .move (.tmp 41), none⟩])
  (.keep [10] [] (.ret))))))⟩
theorem fits239 : FnFits Tryz.prog 239 F239 := ⟨Tryz.f239, _, Tryz.func239, rfl, by decide, rfl, by decide, by kernel_rfl, by kernel_rfl⟩
theorem fits240 : FnFits Tryz.prog 240 F240 := ⟨Tryz.f240, _, Tryz.func240, rfl, by decide, rfl, by decide, by kernel_rfl, by kernel_rfl⟩
theorem fits242 : FnFits Tryz.prog 242 F242 := ⟨Tryz.f242, _, Tryz.func242, rfl, by decide, rfl, by decide, by kernel_rfl, by kernel_rfl⟩
theorem fits243 : FnFits Tryz.prog 243 F243 := ⟨Tryz.f243, _, Tryz.func243, rfl, by decide, rfl, by decide, by kernel_rfl, by kernel_rfl⟩
theorem fits103 : FnFits Tryz.prog 103 F103 := ⟨Tryz.f103, _, Tryz.func103, rfl, by decide, rfl, by decide, by kernel_rfl, by kernel_rfl⟩
theorem fits179 : FnFits Tryz.prog 179 F179 := ⟨Tryz.f179, _, Tryz.func179, rfl, by decide, rfl, by decide, by kernel_rfl, by kernel_rfl⟩
theorem fits186 : FnFits Tryz.prog 186 F186 := ⟨Tryz.f186, _, Tryz.func186, rfl, by decide, rfl, by decide, by kernel_rfl, by kernel_rfl⟩
theorem fits105 : FnFits Tryz.prog 105 F105 := ⟨Tryz.f105, _, Tryz.func105, rfl, by decide, rfl, by decide, by kernel_rfl, by kernel_rfl⟩
theorem fits182 : FnFits Tryz.prog 182 F182 := ⟨Tryz.f182, _, Tryz.func182, rfl, by decide, rfl, by decide, by kernel_rfl, by kernel_rfl⟩
theorem fits226 : FnFits Tryz.prog 226 F226 := ⟨Tryz.f226, _, Tryz.func226, rfl, by decide, rfl, by decide, by kernel_rfl, by kernel_rfl⟩
theorem fits181 : FnFits Tryz.prog 181 F181 := ⟨Tryz.f181, _, Tryz.func181, rfl, by decide, rfl, by decide, by kernel_rfl, by kernel_rfl⟩
theorem fits180 : FnFits Tryz.prog 180 F180 := ⟨Tryz.f180, _, Tryz.func180, rfl, by decide, rfl, by decide, by kernel_rfl, by kernel_rfl⟩
theorem fits224 : FnFits Tryz.prog 224 F224 := ⟨Tryz.f224, _, Tryz.func224, rfl, by decide, rfl, by decide, by kernel_rfl, by kernel_rfl⟩
theorem fits225 : FnFits Tryz.prog 225 F225 := ⟨Tryz.f225, _, Tryz.func225, rfl, by decide, rfl, by decide, by kernel_rfl, by kernel_rfl⟩
theorem fits104 : FnFits Tryz.prog 104 F104 := ⟨Tryz.f104, _, Tryz.func104, rfl, by decide, rfl, by decide, by kernel_rfl, by kernel_rfl⟩
theorem fits194 : FnFits Tryz.prog 194 F194 := ⟨Tryz.f194, _, Tryz.func194, rfl, by decide, rfl, by decide, by kernel_rfl, by kernel_rfl⟩
theorem fits223 : FnFits Tryz.prog 223 F223 := ⟨Tryz.f223, _, Tryz.func223, rfl, by decide, rfl, by decide, by kernel_rfl, by kernel_rfl⟩
theorem fits129 : FnFits Tryz.prog 129 F129 := ⟨Tryz.f129, _, Tryz.func129, rfl, by decide, rfl, by decide, by kernel_rfl, by kernel_rfl⟩
theorem fits40 : FnFits Tryz.prog 40 F40 := ⟨Tryz.f40, _, Tryz.func40, rfl, by decide, rfl, by decide, by kernel_rfl, by kernel_rfl⟩
theorem fits100 : FnFits Tryz.prog 100 F100 := ⟨Tryz.f100, _, Tryz.func100, rfl, by decide, rfl, by decide, by kernel_rfl, by kernel_rfl⟩
theorem fits174 : FnFits Tryz.prog 174 F174 := ⟨Tryz.f174, _, Tryz.func174, rfl, by decide, rfl, by decide, by kernel_rfl, by kernel_rfl⟩
theorem fits101 : FnFits Tryz.prog 101 F101 := ⟨Tryz.f101, _, Tryz.func101, rfl, by decide, rfl, by decide, by kernel_rfl, by kernel_rfl⟩
theorem fits176 : FnFits Tryz.prog 176 F176 := ⟨Tryz.f176, _, Tryz.func176, rfl, by decide, rfl, by decide, by kernel_rfl, by kernel_rfl⟩
theorem fits175 : FnFits Tryz.prog 175 F175 := ⟨Tryz.f175, _, Tryz.func175, rfl, by decide, rfl, by decide, by kernel_rfl, by kernel_rfl⟩
theorem fits221 : FnFits Tryz.prog 221 F221 := ⟨Tryz.f221, _, Tryz.func221, rfl, by decide, rfl, by decide, by kernel_rfl, by kernel_rfl⟩
theorem fits177 : FnFits Tryz.prog 177 F177 := ⟨Tryz.f177, _, Tryz.func177, rfl, by decide, rfl, by decide, by kernel_rfl, by kernel_rfl⟩
theorem fits72 : FnFits Tryz.prog 72 F72 := ⟨Tryz.f72, _, Tryz.func72, rfl, by decide, rfl, by decide, by kernel_rfl, by kernel_rfl⟩
theorem fits178 : FnFits Tryz.prog 178 F178 := ⟨Tryz.f178, _, Tryz.func178, rfl, by decide, rfl, by decide, by kernel_rfl, by kernel_rfl⟩
theorem fits183 : FnFits Tryz.prog 183 F183 := ⟨Tryz.f183, _, Tryz.func183, rfl, by decide, rfl, by decide, by kernel_rfl, by kernel_rfl⟩
theorem fits222 : FnFits Tryz.prog 222 F222 := ⟨Tryz.f222, _, Tryz.func222, rfl, by decide, rfl, by decide, by kernel_rfl, by kernel_rfl⟩
theorem fits130 : FnFits Tryz.prog 130 F130 := ⟨Tryz.f130, _, Tryz.func130, rfl, by decide, rfl, by decide, by kernel_rfl, by kernel_rfl⟩
theorem fits42 : FnFits Tryz.prog 42 F42 := ⟨Tryz.f42, _, Tryz.func42, rfl, by decide, rfl, by decide, by kernel_rfl, by kernel_rfl⟩
theorem fits106 : FnFits Tryz.prog 106 F106 := ⟨Tryz.f106, _, Tryz.func106, rfl, by decide, rfl, by decide, by kernel_rfl, by kernel_rfl⟩
theorem fits107 : FnFits Tryz.prog 107 F107 := ⟨Tryz.f107, _, Tryz.func107, rfl, by decide, rfl, by decide, by kernel_rfl, by kernel_rfl⟩
theorem fits108 : FnFits Tryz.prog 108 F108 := ⟨Tryz.f108, _, Tryz.func108, rfl, by decide, rfl, by decide, by kernel_rfl, by kernel_rfl⟩
theorem fits109 : FnFits Tryz.prog 109 F109 := ⟨Tryz.f109, _, Tryz.func109, rfl, by decide, rfl, by decide, by kernel_rfl, by kernel_rfl⟩
theorem fits131 : FnFits Tryz.prog 131 F131 := ⟨Tryz.f131, _, Tryz.func131, rfl, by decide, rfl, by decide, by kernel_rfl, by kernel_rfl⟩
theorem fits195 : FnFits Tryz.prog 195 F195 := ⟨Tryz.f195, _, Tryz.func195, rfl, by decide, rfl, by decide, by kernel_rfl, by kernel_rfl⟩
theorem fits229 : FnFits Tryz.prog 229 F229 := ⟨Tryz.f229, _, Tryz.func229, rfl, by decide, rfl, by decide, by kernel_rfl, by kernel_rfl⟩
theorem fits132 : FnFits Tryz.prog 132 F132 := ⟨Tryz.f132, _, Tryz.func132, rfl, by decide, rfl, by decide, by kernel_rfl, by kernel_rfl⟩
theorem fits196 : FnFits Tryz.prog 196 F196 := ⟨Tryz.f196, _, Tryz.func196, rfl, by decide, rfl, by decide, by kernel_rfl, by kernel_rfl⟩
theorem fits230 : FnFits Tryz.prog 230 F230 := ⟨Tryz.f230, _, Tryz.func230, rfl, by decide, rfl, by decide, by kernel_rfl, by kernel_rfl⟩
end Go.Proofs.YtgokjbjbdnbcdaaGreat.AlS14
