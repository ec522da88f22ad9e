/- Functions of the program in our form (C10). No condition. -/
import Derived.Test.YtdnnpgmekbnlbaaAmU
import Derived.Test.YtdnnpgmekbnlbaaRows

set_option linter.unusedVariables false
set_option linter.unusedSimpArgs false
namespace Go.Proofs.Ytdnnpgmekbnlbaa
open Go.Wam

/-- wampum/wampumlaw10.CacheExact -/
def L3_0 : IC :=
  .keep [1, 3, 5, 8, 9, 10, 11] [3, 5, 9] (.seq (.seq (.region [⟨some 32, .move (.tmp 11), none⟩,
      ⟨some 33, .move (.tmp 1), none⟩,
      ⟨some 34, .len .slice (.tmp 33), none⟩,
      ⟨some 35, .bin .lss .none (.tmp 32) (.tmp 34), none⟩,
      ⟨some 36, .move (.tmp 35), none⟩,
      ⟨some 37, .move (.tmp 10), some (36, true)⟩,
      ⟨some 38, .bin .lss .none (.tmp 37) (.const (.int .i64 16)), some (36, true)⟩,
      ⟨some 39, .pick (.tmp 36) (.tmp 38) (.const (.bool false)), none⟩])
   (.keep [1, 3, 5, 8, 9, 10, 11, 39] [3, 5, 9] (.cond (.tmp 39)
    (.skip)
    (.exit 0))))
  (.keep [1, 3, 5, 8, 9, 10, 11] [3, 5, 9] (.seq (.block 1 (.seq (.region [⟨some 42, .move (.tmp 1), none⟩,
       ⟨some 43, .move (.tmp 11), none⟩,
       ⟨some 44, .indexAddr none 5 (.tmp 42) (.tmp 43), none⟩,
       ⟨some 45, .load true 5 (.tmp 44), none⟩,
       ⟨some 12, .alloc true 5 [(.int .i64 0), (.str []), (.str []), (.int .i64 0), (.int .i64 0)], none⟩,
       ⟨none, .store 5 (.tmp 12) (.tmp 45), none⟩])
    (.keep [1, 3, 5, 8, 9, 10, 11, 12] [3, 5, 9, 12] (.seq (.region [⟨some 46, .fieldAddr 1 (.tmp 12), none⟩,
       ⟨some 47, .load true 2 (.tmp 46), none⟩,
       ⟨some 48, .call (.func 13) [(.tmp 47)], none⟩,
       ⟨some 13, .move (.tmp 48), none⟩])
    (.keep [1, 3, 5, 8, 9, 10, 11, 12, 13] [3, 5, 9, 12] (.seq (.seq (.region [⟨some 49, .move (.tmp 13), none⟩,
        ⟨some 50, .un .not (.tmp 49), none⟩,
        ⟨some 51, .move (.tmp 50), none⟩,
        ⟨some 52, .move (.tmp 8), some (51, false)⟩,
        ⟨some 53, .fieldAddr 1 (.tmp 12), some (51, false)⟩,
        ⟨some 54, .load true 2 (.tmp 53), some (51, false)⟩,
        ⟨some 55, .fieldAddr 3 (.tmp 12), some (51, false)⟩,
        ⟨some 56, .load true 2 (.tmp 55), some (51, false)⟩,
        ⟨some 57, .call (.func 16) [(.tmp 52), (.tmp 54), (.tmp 56)], some (51, false)⟩,
        ⟨some 58, .bin .neq .int (.tmp 57) (.const (.int .i64 0)), some (51, false)⟩,
        ⟨some 59, .pick (.tmp 51) (.const (.bool true)) (.tmp 58), none⟩])
     (.keep [1, 3, 5, 8, 9, 10, 11, 12, 59] [3, 5, 9, 12] (.cond (.tmp 59)
      (.exit 1)
      (.skip))))
    (.keep [1, 3, 5, 8, 9, 10, 11, 12] [3, 5, 9, 12] (.seq (.region [⟨some 60, .move (.tmp 10), none⟩,
       ⟨some 61, .bin .add .none (.tmp 60) (.const (.int .i64 1)), none⟩,
       ⟨some 10, .move (.tmp 61), none⟩])
    (.keep [1, 3, 5, 8, 9, 10, 11, 12] [3, 5, 9, 12] (.seq (.region [⟨some 62, .fieldAddr 1 (.tmp 12), none⟩,
       ⟨some 63, .load true 2 (.tmp 62), none⟩,
       ⟨some 64, .load true 2 (.tmp 5), none⟩,
       ⟨some 65, .call (.func 17) [(.tmp 63), (.tmp 64)], none⟩])
    (.keep [1, 3, 5, 8, 9, 10, 11, 12, 65] [3, 5, 9, 12] (.cond (.tmp 65)
     (.region [⟨some 66, .load true 2 (.tmp 9), none⟩,
       ⟨some 67, .fieldAddr 3 (.tmp 12), none⟩,
       ⟨some 68, .load true 2 (.tmp 67), none⟩,
       ⟨some 69, .call (.func 18) [(.tmp 66), (.tmp 68)], none⟩,
       ⟨none, .store 2 (.tmp 9) (.tmp 69), none⟩])
     (.skip)))))))))))))
  (.keep [1, 3, 5, 8, 9, 10, 11] [3, 5, 9] (.region [⟨some 40, .move (.tmp 11), none⟩,
    ⟨some 41, .bin .add .none (.tmp 40) (.const (.int .i64 1)), none⟩,
    ⟨some 11, .move (.tmp 41), none⟩])))))
def F3 : FnIR := ⟨84, 3, [.tmp 6], [3, 5, 9, 12],
  .seq (.region [⟨some 3, .box true 2 (.tmp 0), none⟩,
     ⟨some 5, .box true 2 (.tmp 2), none⟩,
     ⟨some 6, .move (.const (.bool false)), none⟩])
  (.keep [1, 3, 5] [3, 5] (.seq (.region [⟨some 14, .load true 2 (.tmp 5), none⟩,
     ⟨some 15, .call (.func 13) [(.tmp 14)], none⟩,
     ⟨some 7, .move (.tmp 15), none⟩])
  (.keep [1, 3, 5, 7] [3, 5] (.seq (.region [⟨some 16, .load true 2 (.tmp 3), none⟩,
     ⟨some 17, .call (.func 14) [(.tmp 16)], none⟩,
     ⟨some 8, .move (.tmp 17), none⟩])
  (.keep [1, 3, 5, 7, 8] [3, 5] (.seq (.seq (.region [⟨some 18, .move (.tmp 7), none⟩,
      ⟨some 19, .un .not (.tmp 18), none⟩,
      ⟨some 20, .move (.tmp 19), none⟩,
      ⟨some 21, .move (.tmp 8), some (20, false)⟩,
      ⟨some 22, .bin .eql .ptr (.tmp 21) (.const .nilp), some (20, false)⟩,
      ⟨some 23, .pick (.tmp 20) (.const (.bool true)) (.tmp 22), none⟩,
      ⟨some 24, .move (.tmp 23), none⟩,
      ⟨some 25, .load true 2 (.tmp 5), some (24, false)⟩,
      ⟨some 26, .call (.func 15) [(.tmp 25)], some (24, false)⟩,
      ⟨some 27, .un .not (.tmp 26), some (24, false)⟩,
      ⟨some 28, .pick (.tmp 24) (.const (.bool true)) (.tmp 27), none⟩])
   (.keep [1, 3, 5, 8, 28] [3, 5] (.cond (.tmp 28)
    (.seq (.region [⟨some 29, .move (.tmp 8), none⟩,
       ⟨some 30, .bin .neq .ptr (.tmp 29) (.const .nilp), none⟩,
       ⟨some 6, .move (.tmp 30), none⟩])
    (.keep [6] [] (.ret)))
    (.skip))))
  (.keep [1, 3, 5, 8] [3, 5] (.seq (.region [⟨some 31, .load true 2 (.tmp 3), none⟩,
     ⟨some 9, .alloc true 2 [(.int .i64 0), (.int .i64 0)], none⟩,
     ⟨none, .store 2 (.tmp 9) (.tmp 31), none⟩])
  (.keep [1, 3, 5, 8, 9] [3, 5, 9] (.seq (.region [⟨some 10, .move (.const (.int .i64 0)), none⟩])
  (.keep [1, 3, 5, 8, 9, 10] [3, 5, 9] (.seq (.seq (.region [⟨some 11, .move (.const (.int .i64 0)), none⟩])
   (.keep [1, 3, 5, 8, 9, 10, 11] [3, 5, 9] (.block 0 (.loop L3_0))))
  (.keep [3, 5, 8, 9] [3, 5, 9] (.seq (.regionD [⟨some 70, .call (.func 19) [], none⟩,
     ⟨some 71, .move (.tmp 70), none⟩,
     ⟨some 72, .move (.tmp 8), some (71, true)⟩,
     ⟨some 73, .load true 2 (.tmp 5), some (71, true)⟩,
     ⟨some 74, .call (.func 20) [(.tmp 72), (.tmp 73)], some (71, true)⟩,
     ⟨some 75, .load true 2 (.tmp 9), some (71, true)⟩,
     ⟨some 76, .bin .eql (.struct [(0, false, 1, .int), (1, false, 1, .int)]) (.tmp 74) (.tmp 75), some (71, true)⟩,
     ⟨some 77, .pick (.tmp 71) (.tmp 76) (.const (.bool false)), none⟩,
     ⟨some 78, .move (.tmp 77), none⟩,
     ⟨some 79, .move (.tmp 8), some (78, true)⟩,
     ⟨some 80, .call (.func 21) [(.tmp 79)], some (78, true)⟩,
     ⟨some 81, .load true 2 (.tmp 3), some (78, true)⟩,
     ⟨some 82, .bin .eql (.struct [(0, false, 1, .int), (1, false, 1, .int)]) (.tmp 80) (.tmp 81), some (78, true)⟩,
     ⟨some 83, .pick (.tmp 78) (.tmp 82) (.const (.bool false)), none⟩,
     ⟨some 6, .move (.tmp 83), none⟩] [(5, 1), (11, 5)])
  (.keep [6] [] (.ret))))))))))))))))⟩
/-- wampum/wampumlaw05.Fits -/
def F13 : FnIR := ⟨13, 1, [.tmp 2], [1],
  .seq (.region [⟨some 1, .box true 2 (.tmp 0), none⟩,
     ⟨some 2, .move (.const (.bool false)), none⟩])
  (.keep [1] [1] (.seq (.region [⟨some 3, .fieldAddr 0 (.tmp 1), none⟩,
     ⟨some 4, .load false 1 (.tmp 3), none⟩,
     ⟨some 5, .len .str (.tmp 4), none⟩,
     ⟨some 6, .bin .leq .none (.tmp 5) (.const (.int .i64 200)), none⟩,
     ⟨some 7, .move (.tmp 6), none⟩,
     ⟨some 8, .fieldAddr 1 (.tmp 1), some (7, true)⟩,
     ⟨some 9, .load false 1 (.tmp 8), some (7, true)⟩,
     ⟨some 10, .len .str (.tmp 9), some (7, true)⟩,
     ⟨some 11, .bin .leq .none (.tmp 10) (.const (.int .i64 200)), some (7, true)⟩,
     ⟨some 12, .pick (.tmp 7) (.tmp 11) (.const (.bool false)), none⟩,
     ⟨some 2, .move (.tmp 12), none⟩])
  (.keep [2] [] (.ret))))⟩
/-- wampum/cache.New -/
def F14 : FnIR := ⟨6, 1, [.tmp 2], [1],
  .seq (.region [⟨some 1, .box true 2 (.tmp 0), none⟩,
     ⟨some 2, .move (.const .nilp), none⟩])
  (.keep [1] [1] (.seq (.region [⟨some 3, .load true 2 (.tmp 1), none⟩,
     ⟨some 4, .build [(.int .i64 0), (.int .i64 0), .nils] [(0, 2, (.tmp 3))], none⟩,
     ⟨some 5, .box false 3 (.tmp 4), none⟩,
     ⟨some 2, .move (.tmp 5), none⟩])
  (.keep [2] [] (.ret))))⟩
/-- wampum/wampumref05.Right -/
def F15 : FnIR := ⟨32, 1, [.tmp 2], [1],
  .seq (.region [⟨some 1, .box true 2 (.tmp 0), none⟩,
     ⟨some 2, .move (.const (.bool false)), none⟩])
  (.keep [1] [1] (.seq (.region [⟨some 5, .fieldAddr 0 (.tmp 1), none⟩,
     ⟨some 6, .load false 1 (.tmp 5), none⟩,
     ⟨some 7, .call (.func 32) [(.tmp 6)], none⟩,
     ⟨some 3, .move (.tmp 7), none⟩])
  (.keep [1, 3] [1] (.seq (.region [⟨some 8, .fieldAddr 1 (.tmp 1), none⟩,
     ⟨some 9, .load false 1 (.tmp 8), none⟩,
     ⟨some 10, .call (.func 32) [(.tmp 9)], none⟩,
     ⟨some 4, .move (.tmp 10), none⟩])
  (.keep [1, 3, 4] [1] (.seq (.region [⟨some 11, .move (.tmp 3), none⟩,
     ⟨some 12, .move (.tmp 11), none⟩,
     ⟨some 13, .fieldAddr 1 (.tmp 1), some (12, true)⟩,
     ⟨some 14, .load false 1 (.tmp 13), some (12, true)⟩,
     ⟨some 15, .bin .eql .str (.tmp 14) (.const (.str [])), some (12, true)⟩,
     ⟨some 16, .move (.tmp 15), some (12, true)⟩,
     ⟨some 17, .move (.tmp 4), some (16, false)⟩,
     ⟨some 18, .move (.tmp 17), some (16, false)⟩,
     ⟨some 19, .fieldAddr 1 (.tmp 1), some (18, false)⟩,
     ⟨some 20, .load false 1 (.tmp 19), some (18, false)⟩,
     ⟨some 21, .bin .eql .str (.tmp 20) (.const (.str [123])), some (18, false)⟩,
     ⟨some 22, .pick (.tmp 18) (.const (.bool true)) (.tmp 21), some (16, false)⟩,
     ⟨some 23, .move (.tmp 22), some (16, false)⟩,
     ⟨some 24, .fieldAddr 1 (.tmp 1), some (23, true)⟩,
     ⟨some 25, .load false 1 (.tmp 24), some (23, true)⟩,
     ⟨some 26, .fieldAddr 0 (.tmp 1), some (23, true)⟩,
     ⟨some 27, .load false 1 (.tmp 26), some (23, true)⟩,
     ⟨some 28, .bin .gtr .none (.tmp 25) (.tmp 27), some (23, true)⟩,
     ⟨some 29, .pick (.tmp 23) (.tmp 28) (.const (.bool false)), some (16, false)⟩,
     ⟨some 30, .pick (.tmp 16) (.const (.bool true)) (.tmp 29), some (12, true)⟩,
     ⟨some 31, .pick (.tmp 12) (.tmp 30) (.const (.bool false)), none⟩,
     ⟨some 2, .move (.tmp 31), none⟩])
  (.keep [2] [] (.ret))))))))⟩
/-- wampum/wampumref05.Key -/
def L32_0 : IC :=
  .keep [0, 3] [] (.seq (.seq (.region [⟨some 4, .move (.tmp 3), none⟩,
      ⟨some 5, .move (.tmp 0), none⟩,
      ⟨some 6, .len .str (.tmp 5), none⟩,
      ⟨some 7, .bin .lss .none (.tmp 4) (.tmp 6), none⟩])
   (.keep [0, 3, 7] [] (.cond (.tmp 7)
    (.skip)
    (.exit 0))))
  (.keep [0, 3] [] (.seq (.block 1 (.seq (.region [⟨some 10, .move (.tmp 0), none⟩,
       ⟨some 11, .move (.tmp 3), none⟩,
       ⟨some 12, .index none (.tmp 10) (.tmp 11), none⟩,
       ⟨some 13, .bin .lss .none (.tmp 12) (.const (.int .u8 97)), none⟩,
       ⟨some 14, .move (.tmp 13), none⟩,
       ⟨some 15, .move (.tmp 0), some (14, false)⟩,
       ⟨some 16, .move (.tmp 3), some (14, false)⟩,
       ⟨some 17, .index none (.tmp 15) (.tmp 16), some (14, false)⟩,
       ⟨some 18, .bin .gtr .none (.tmp 17) (.const (.int .u8 122)), some (14, false)⟩,
       ⟨some 19, .pick (.tmp 14) (.const (.bool true)) (.tmp 18), none⟩])
    (.keep [0, 3, 19] [] (.cond (.tmp 19)
     (.seq (.region [⟨some 2, .move (.const (.bool false)), none⟩])
     (.keep [2] [] (.ret)))
     (.skip)))))
  (.keep [0, 3] [] (.region [⟨some 8, .move (.tmp 3), none⟩,
    ⟨some 9, .bin .add .none (.tmp 8) (.const (.int .i64 1)), none⟩,
    ⟨some 3, .move (.tmp 9), none⟩])))))
def F32 : FnIR := ⟨28, 1, [.tmp 2], [],
  .seq (.region [⟨some 2, .move (.const (.bool false)), none⟩])
  (.keep [0] [] (.seq (.seq (.region [⟨some 3, .move (.const (.int .i64 0)), none⟩])
   (.keep [0, 3] [] (.block 0 (.loop L32_0))))
  (.keep [0] [] (.seq (.region [⟨some 20, .move (.tmp 0), none⟩,
     ⟨some 21, .len .str (.tmp 20), none⟩,
     ⟨some 22, .bin .geq .none (.tmp 21) (.const (.int .i64 1)), none⟩,
     ⟨some 23, .move (.tmp 22), none⟩,
     ⟨some 24, .move (.tmp 0), some (23, true)⟩,
     ⟨some 25, .len .str (.tmp 24), some (23, true)⟩,
     ⟨some 26, .bin .leq .none (.tmp 25) (.const (.int .i64 8)), some (23, true)⟩,
     ⟨some 27, .pick (.tmp 23) (.tmp 26) (.const (.bool false)), none⟩,
     ⟨some 2, .move (.tmp 27), none⟩])
  (.keep [2] [] (.ret))))))⟩
/-- (*wampum/cache.Cache).Add -/
def F16 : FnIR := ⟨46, 3, [.tmp 6], [4, 5],
  .seq (.region [⟨some 4, .box true 2 (.tmp 1), none⟩,
     ⟨some 5, .box true 2 (.tmp 2), none⟩,
     ⟨some 6, .move (.const (.int .i64 0)), none⟩])
  (.keep [0, 4, 5] [4, 5] (.seq (.block 0 (.seq (.region [⟨some 8, .move (.tmp 0), none⟩,
       ⟨some 9, .bin .eql .ptr (.tmp 8) (.const .nilp), none⟩,
       ⟨some 7, .move (.tmp 9), none⟩])
    (.keep [0, 4, 5, 7] [4, 5] (.cond (.tmp 7)
     (.seq (.region [⟨some 6, .move (.const (.int .i64 1)), none⟩])
     (.keep [6] [] (.ret)))
     (.seq (.region [⟨some 11, .load true 2 (.tmp 4), none⟩,
        ⟨some 12, .call (.func 33) [(.tmp 11)], none⟩,
        ⟨some 13, .un .not (.tmp 12), none⟩,
        ⟨some 10, .move (.tmp 13), none⟩])
     (.keep [0, 4, 5, 10] [4, 5] (.cond (.tmp 10)
      (.seq (.region [⟨some 6, .move (.const (.int .i64 51)), none⟩])
      (.keep [6] [] (.ret)))
      (.seq (.region [⟨some 15, .load true 2 (.tmp 5), none⟩,
         ⟨some 16, .call (.func 41) [(.tmp 15)], none⟩,
         ⟨some 17, .un .not (.tmp 16), none⟩,
         ⟨some 14, .move (.tmp 17), none⟩])
      (.keep [0, 4, 5, 14] [4, 5] (.cond (.tmp 14)
       (.seq (.region [⟨some 6, .move (.const (.int .i64 31)), none⟩])
       (.keep [6] [] (.ret)))
       (.seq (.regionD [⟨some 19, .move (.tmp 0), none⟩,
          ⟨some 20, .nilCheck (.tmp 19), none⟩,
          ⟨some 21, .fieldAddr 0 (.tmp 20), none⟩,
          ⟨some 22, .load true 2 (.tmp 21), none⟩,
          ⟨some 23, .load true 2 (.tmp 5), none⟩,
          ⟨some 24, .call (.func 23) [(.tmp 22), (.tmp 23)], none⟩,
          ⟨some 25, .un .not (.tmp 24), none⟩,
          ⟨some 18, .move (.tmp 25), none⟩] [])
       (.keep [0, 4, 5, 18] [4, 5] (.cond (.tmp 18)
        (.seq (.region [⟨some 6, .move (.const (.int .i64 0)), none⟩])
        (.keep [6] [] (.ret)))
        (.skip))))))))))))))
  (.keep [0, 4, 5] [4, 5] (.seq (.regionD [⟨some 27, .move (.tmp 0), none⟩,
     ⟨some 28, .nilCheck (.tmp 27), none⟩,
     ⟨some 29, .fieldAddr 2 (.tmp 28), none⟩,
     ⟨some 30, .load false 1 (.tmp 29), none⟩,
     ⟨some 31, .load true 2 (.tmp 4), none⟩,
     ⟨some 32, .load true 2 (.tmp 5), none⟩,
     ⟨some 33, .build [(.str []), (.str []), (.int .i64 0), (.int .i64 0)] [(0, 2, (.tmp 31)), (2, 2, (.tmp 32))], none⟩,
     ⟨some 34, .buildSlice 4 1 [(.str []), (.str []), (.int .i64 0), (.int .i64 0)] [(0, 4, (.tmp 33))], none⟩,
     ⟨some 35, .append 4 48 (.tmp 30) (.tmp 34), none⟩,
     ⟨some 26, .move (.tmp 0), none⟩,
     ⟨some 36, .nilCheck (.tmp 26), none⟩,
     ⟨some 37, .fieldAddr 2 (.tmp 36), none⟩,
     ⟨none, .store 1 (.tmp 37) (.tmp 35), none⟩] [])
  (.keep [0] [] (.seq (.seq (.region [⟨some 38, .move (.tmp 0), none⟩,
      ⟨some 39, .nilCheck (.tmp 38), none⟩,
      ⟨some 40, .fieldAddr 2 (.tmp 39), none⟩,
      ⟨some 41, .load false 1 (.tmp 40), none⟩,
      ⟨some 42, .len .slice (.tmp 41), none⟩,
      ⟨some 43, .bin .gtr .none (.tmp 42) (.const (.int .i64 16)), none⟩])
   (.keep [0, 43] [] (.cond (.tmp 43)
    (.region [⟨some 44, .move (.tmp 0), none⟩,
      ⟨some 45, .call (.func 42) [(.tmp 44)], none⟩])
    (.skip))))
  (.keep [] [] (.seq (.region [⟨some 6, .move (.const (.int .i64 0)), none⟩])
  (.keep [6] [] (.ret))))))))))⟩
/-- wampum/span.Right -/
def F33 : FnIR := ⟨30, 1, [.tmp 2], [1],
  .seq (.region [⟨some 1, .box true 2 (.tmp 0), none⟩,
     ⟨some 2, .move (.const (.bool false)), none⟩])
  (.keep [1] [1] (.seq (.seq (.region [⟨some 3, .fieldAddr 0 (.tmp 1), none⟩,
      ⟨some 4, .load false 1 (.tmp 3), none⟩,
      ⟨some 5, .call (.func 31) [(.tmp 4)], none⟩,
      ⟨some 6, .un .not (.tmp 5), none⟩,
      ⟨some 7, .move (.tmp 6), none⟩,
      ⟨some 8, .fieldAddr 1 (.tmp 1), some (7, false)⟩,
      ⟨some 9, .load false 1 (.tmp 8), some (7, false)⟩,
      ⟨some 10, .bin .eql .str (.tmp 9) (.const (.str [])), some (7, false)⟩,
      ⟨some 11, .pick (.tmp 7) (.const (.bool true)) (.tmp 10), none⟩])
   (.keep [1, 11] [1] (.cond (.tmp 11)
    (.seq (.region [⟨some 12, .fieldAddr 0 (.tmp 1), none⟩,
       ⟨some 13, .load false 1 (.tmp 12), none⟩,
       ⟨some 14, .call (.func 31) [(.tmp 13)], none⟩,
       ⟨some 2, .move (.tmp 14), none⟩])
    (.keep [2] [] (.ret)))
    (.skip))))
  (.keep [1] [1] (.seq (.region [⟨some 15, .fieldAddr 1 (.tmp 1), none⟩,
     ⟨some 16, .load false 1 (.tmp 15), none⟩,
     ⟨some 17, .bin .eql .str (.tmp 16) (.const (.str [123])), none⟩,
     ⟨some 18, .move (.tmp 17), none⟩,
     ⟨some 19, .fieldAddr 1 (.tmp 1), some (18, false)⟩,
     ⟨some 20, .load false 1 (.tmp 19), some (18, false)⟩,
     ⟨some 21, .call (.func 31) [(.tmp 20)], some (18, false)⟩,
     ⟨some 22, .pick (.tmp 18) (.const (.bool true)) (.tmp 21), none⟩,
     ⟨some 23, .move (.tmp 22), none⟩,
     ⟨some 24, .fieldAddr 0 (.tmp 1), some (23, true)⟩,
     ⟨some 25, .load false 1 (.tmp 24), some (23, true)⟩,
     ⟨some 26, .fieldAddr 1 (.tmp 1), some (23, true)⟩,
     ⟨some 27, .load false 1 (.tmp 26), some (23, true)⟩,
     ⟨some 28, .bin .lss .none (.tmp 25) (.tmp 27), some (23, true)⟩,
     ⟨some 29, .pick (.tmp 23) (.tmp 28) (.const (.bool false)), none⟩,
     ⟨some 2, .move (.tmp 29), none⟩])
  (.keep [2] [] (.ret))))))⟩
/-- wampum/span.Key -/
def L31_0 : IC :=
  .keep [0, 5, 6] [] (.seq (.region [⟨some 7, .bin .lss .none (.tmp 6) (.tmp 5), none⟩])
  (.keep [0, 5, 6, 7] [] (.seq (.cond (.tmp 7)
    (.skip)
    (.exit 0))
  (.keep [0, 5, 6] [] (.seq (.block 1 (.seq (.region [⟨some 8, .move (.tmp 6), none⟩,
       ⟨some 3, .move (.tmp 8), none⟩])
    (.keep [0, 3, 5, 6] [] (.seq (.region [⟨some 9, .move (.tmp 0), none⟩,
       ⟨some 10, .move (.tmp 3), none⟩,
       ⟨some 11, .index none (.tmp 9) (.tmp 10), none⟩,
       ⟨some 12, .bin .lss .none (.tmp 11) (.const (.int .u8 97)), none⟩,
       ⟨some 13, .move (.tmp 12), none⟩,
       ⟨some 14, .move (.tmp 0), some (13, false)⟩,
       ⟨some 15, .move (.tmp 3), some (13, false)⟩,
       ⟨some 16, .index none (.tmp 14) (.tmp 15), some (13, false)⟩,
       ⟨some 17, .bin .gtr .none (.tmp 16) (.const (.int .u8 122)), some (13, false)⟩,
       ⟨some 18, .pick (.tmp 13) (.const (.bool true)) (.tmp 17), none⟩])
    (.keep [0, 5, 6, 18] [] (.cond (.tmp 18)
     (.seq (.region [⟨some 2, .move (.const (.bool false)), none⟩])
     (.keep [2] [] (.ret)))
     (.skip)))))))
  (.keep [0, 5, 6] [] (.region [⟨some 19, .bin .add .none (.tmp 6) (.const (.int .i64 1)), none⟩,
    ⟨some 6, .move (.tmp 19), none⟩])))))))
def F31 : FnIR := ⟨27, 1, [.tmp 2], [],
  .seq (.region [⟨some 2, .move (.const (.bool false)), none⟩])
  (.keep [0] [] (.seq (.seq (.region [⟨some 4, .move (.tmp 0), none⟩,
      ⟨some 5, .len .str (.tmp 4), none⟩,
      ⟨some 6, .move (.const (.int .i64 0)), none⟩])
   (.keep [0, 5, 6] [] (.block 0 (.loop L31_0))))
  (.keep [0] [] (.seq (.region [⟨some 20, .move (.tmp 0), none⟩,
     ⟨some 21, .bin .neq .str (.tmp 20) (.const (.str [])), none⟩,
     ⟨some 22, .move (.tmp 21), none⟩,
     ⟨some 23, .move (.tmp 0), some (22, true)⟩,
     ⟨some 24, .len .str (.tmp 23), some (22, true)⟩,
     ⟨some 25, .bin .leq .none (.tmp 24) (.const (.int .i64 8)), some (22, true)⟩,
     ⟨some 26, .pick (.tmp 22) (.tmp 25) (.const (.bool false)), none⟩,
     ⟨some 2, .move (.tmp 26), none⟩])
  (.keep [2] [] (.ret))))))⟩
/-- wampum/stamp.Right -/
def F41 : FnIR := ⟨11, 1, [.tmp 2], [1],
  .seq (.region [⟨some 1, .box true 2 (.tmp 0), none⟩,
     ⟨some 2, .move (.const (.bool false)), none⟩])
  (.keep [1] [1] (.seq (.region [⟨some 3, .fieldAddr 0 (.tmp 1), none⟩,
     ⟨some 4, .load false 1 (.tmp 3), none⟩,
     ⟨some 5, .call (.func 54) [(.tmp 4), (.const (.int .i64 0)), (.const (.int .i64 1099511627776))], none⟩,
     ⟨some 6, .move (.tmp 5), none⟩,
     ⟨some 7, .fieldAddr 1 (.tmp 1), some (6, true)⟩,
     ⟨some 8, .load false 1 (.tmp 7), some (6, true)⟩,
     ⟨some 9, .call (.func 54) [(.tmp 8), (.const (.int .i64 0)), (.const (.int .i64 65535))], some (6, true)⟩,
     ⟨some 10, .pick (.tmp 6) (.tmp 9) (.const (.bool false)), none⟩,
     ⟨some 2, .move (.tmp 10), none⟩])
  (.keep [2] [] (.ret))))⟩
/-- wampum/stamp.within[int] -/
def F54 : FnIR := ⟨15, 3, [.tmp 6], [],
  .seq (.region [⟨some 6, .move (.const (.bool false)), none⟩])
  (.keep [0, 1, 2] [] (.seq (.region [⟨some 7, .move (.tmp 0), none⟩,
     ⟨some 8, .move (.tmp 1), none⟩,
     ⟨some 9, .bin .geq .none (.tmp 7) (.tmp 8), none⟩,
     ⟨some 10, .move (.tmp 9), none⟩,
     ⟨some 11, .move (.tmp 0), some (10, true)⟩,
     ⟨some 12, .move (.tmp 2), some (10, true)⟩,
     ⟨some 13, .bin .leq .none (.tmp 11) (.tmp 12), some (10, true)⟩,
     ⟨some 14, .pick (.tmp 10) (.tmp 13) (.const (.bool false)), none⟩,
     ⟨some 6, .move (.tmp 14), none⟩])
  (.keep [6] [] (.ret))))⟩
/-- wampum/stamp.Less -/
def F23 : FnIR := ⟨9, 2, [.tmp 4], [2, 3],
  .seq (.region [⟨some 2, .box true 2 (.tmp 0), none⟩,
     ⟨some 3, .box true 2 (.tmp 1), none⟩,
     ⟨some 4, .move (.const (.bool false)), none⟩])
  (.keep [2, 3] [2, 3] (.seq (.region [⟨some 5, .load true 2 (.tmp 2), none⟩,
     ⟨some 6, .load true 2 (.tmp 3), none⟩,
     ⟨some 7, .call (.func 45) [(.tmp 5), (.tmp 6)], none⟩,
     ⟨some 8, .bin .lss .none (.tmp 7) (.const (.int .i64 0)), none⟩,
     ⟨some 4, .move (.tmp 8), none⟩])
  (.keep [4] [] (.ret))))⟩
/-- wampum/stamp.Compare -/
def F45 : FnIR := ⟨17, 2, [.tmp 4], [2, 3],
  .seq (.region [⟨some 2, .box true 2 (.tmp 0), none⟩,
     ⟨some 3, .box true 2 (.tmp 1), none⟩,
     ⟨some 4, .move (.const (.int .i64 0)), none⟩])
  (.keep [2, 3] [2, 3] (.seq (.regionD [⟨some 5, .fieldAddr 0 (.tmp 2), none⟩,
     ⟨some 6, .load false 1 (.tmp 5), none⟩,
     ⟨some 7, .fieldAddr 0 (.tmp 3), none⟩,
     ⟨some 8, .load false 1 (.tmp 7), none⟩,
     ⟨some 9, .call (.func 61) [(.tmp 6), (.tmp 8)], none⟩,
     ⟨some 10, .fieldAddr 1 (.tmp 2), none⟩,
     ⟨some 11, .load false 1 (.tmp 10), none⟩,
     ⟨some 12, .fieldAddr 1 (.tmp 3), none⟩,
     ⟨some 13, .load false 1 (.tmp 12), none⟩,
     ⟨some 14, .call (.func 61) [(.tmp 11), (.tmp 13)], none⟩,
     ⟨some 15, .buildSlice 1 2 [(.int .i64 0), (.int .i64 0)] [(0, 1, (.tmp 9)), (1, 1, (.tmp 14))], none⟩,
     ⟨some 16, .call (.func 60) [(.tmp 15)], none⟩,
     ⟨some 4, .move (.tmp 16), none⟩] [(6, 0), (8, 0)])
  (.keep [4] [] (.ret))))⟩
/-- cmp.Compare[int] -/
def F61 : FnIR := ⟨20, 2, [.tmp 4], [],
  .seq (.region [⟨some 4, .move (.const (.int .i64 0)), none⟩])
  (.keep [0, 1] [] (.seq (.region [⟨some 7, .move (.tmp 0), none⟩,
     ⟨some 8, .call (.func 65) [(.tmp 7)], none⟩,
     ⟨some 5, .move (.tmp 8), none⟩])
  (.keep [0, 1, 5] [] (.seq (.region [⟨some 9, .move (.tmp 1), none⟩,
     ⟨some 10, .call (.func 65) [(.tmp 9)], none⟩,
     ⟨some 6, .move (.tmp 10), none⟩])
  (.keep [0, 1, 5, 6] [] (.seq (.seq (.region [⟨some 11, .move (.tmp 5), none⟩])
   (.keep [0, 1, 6, 11] [] (.cond (.tmp 11)
    (.seq (.seq (.region [⟨some 12, .move (.tmp 6), none⟩])
     (.keep [12] [] (.cond (.tmp 12)
      (.seq (.region [⟨some 4, .move (.const (.int .i64 0)), none⟩])
      (.keep [4] [] (.ret)))
      (.skip))))
    (.keep [] [] (.seq (.region [⟨some 4, .move (.const (.int .i64 (-1))), none⟩])
    (.keep [4] [] (.ret)))))
    (.skip))))
  (.keep [0, 1, 6] [] (.seq (.seq (.region [⟨some 13, .move (.tmp 6), none⟩])
   (.keep [0, 1, 13] [] (.cond (.tmp 13)
    (.seq (.region [⟨some 4, .move (.const (.int .i64 1)), none⟩])
    (.keep [4] [] (.ret)))
    (.skip))))
  (.keep [0, 1] [] (.seq (.seq (.region [⟨some 14, .move (.tmp 0), none⟩,
      ⟨some 15, .move (.tmp 1), none⟩,
      ⟨some 16, .bin .lss .none (.tmp 14) (.tmp 15), none⟩])
   (.keep [0, 1, 16] [] (.cond (.tmp 16)
    (.seq (.region [⟨some 4, .move (.const (.int .i64 (-1))), none⟩])
    (.keep [4] [] (.ret)))
    (.skip))))
  (.keep [0, 1] [] (.seq (.seq (.region [⟨some 17, .move (.tmp 0), none⟩,
      ⟨some 18, .move (.tmp 1), none⟩,
      ⟨some 19, .bin .gtr .none (.tmp 17) (.tmp 18), none⟩])
   (.keep [19] [] (.cond (.tmp 19)
    (.seq (.region [⟨some 4, .move (.const (.int .i64 1)), none⟩])
    (.keep [4] [] (.ret)))
    (.skip))))
  (.keep [] [] (.seq (.region [⟨some 4, .move (.const (.int .i64 0)), none⟩])
  (.keep [4] [] (.ret))))))))))))))))⟩
/-- cmp.isNaN[int] -/
def F65 : FnIR := ⟨6, 1, [.tmp 2], [],
  .seq (.region [⟨some 2, .move (.const (.bool false)), none⟩])
  (.keep [0] [] (.seq (.region [⟨some 3, .move (.tmp 0), none⟩,
     ⟨some 4, .move (.tmp 0), none⟩,
     ⟨some 5, .bin .neq .int (.tmp 3) (.tmp 4), none⟩,
     ⟨some 2, .move (.tmp 5), none⟩])
  (.keep [2] [] (.ret))))⟩
/-- cmp.Or[int] -/
def L60_0 : IC :=
  .keep [3, 6, 7, 8] [] (.seq (.region [⟨some 9, .bin .lss .none (.tmp 8) (.tmp 7), none⟩])
  (.keep [3, 6, 7, 8, 9] [] (.seq (.cond (.tmp 9)
    (.skip)
    (.exit 0))
  (.keep [3, 6, 7, 8] [] (.seq (.block 1 (.seq (.region [⟨some 10, .indexAddr none 1 (.tmp 6) (.tmp 8), none⟩,
       ⟨some 11, .load false 1 (.tmp 10), none⟩,
       ⟨some 5, .move (.tmp 11), none⟩])
    (.keep [3, 5, 6, 7, 8] [] (.seq (.region [⟨some 12, .move (.tmp 5), none⟩,
       ⟨some 13, .move (.tmp 3), none⟩,
       ⟨some 14, .bin .neq .int (.tmp 12) (.tmp 13), none⟩])
    (.keep [3, 5, 6, 7, 8, 14] [] (.cond (.tmp 14)
     (.seq (.region [⟨some 15, .move (.tmp 5), none⟩,
        ⟨some 2, .move (.tmp 15), none⟩])
     (.keep [2] [] (.ret)))
     (.skip)))))))
  (.keep [3, 6, 7, 8] [] (.region [⟨some 16, .bin .add .none (.tmp 8) (.const (.int .i64 1)), none⟩,
    ⟨some 8, .move (.tmp 16), none⟩])))))))
def F60 : FnIR := ⟨18, 1, [.tmp 2], [],
  .seq (.region [⟨some 2, .move (.const (.int .i64 0)), none⟩])
  (.keep [0] [] (.seq (.region [⟨some 3, .move (.const (.int .i64 0)), none⟩])
  (.keep [0, 3] [] (.seq (.seq (.region [⟨some 6, .move (.tmp 0), none⟩,
      ⟨some 7, .len .slice (.tmp 6), none⟩,
      ⟨some 8, .move (.const (.int .i64 0)), none⟩])
   (.keep [3, 6, 7, 8] [] (.block 0 (.loop L60_0))))
  (.keep [3] [] (.seq (.region [⟨some 17, .move (.tmp 3), none⟩,
     ⟨some 2, .move (.tmp 17), none⟩])
  (.keep [2] [] (.ret))))))))⟩
/-- (*wampum/cache.Cache).drop -/
def F42 : FnIR := ⟨36, 1, [], [2],
  .seq (.region [⟨some 4, .move (.tmp 0), none⟩,
     ⟨some 5, .nilCheck (.tmp 4), none⟩,
     ⟨some 6, .fieldAddr 2 (.tmp 5), none⟩,
     ⟨some 7, .load false 1 (.tmp 6), none⟩,
     ⟨some 8, .call (.func 55) [(.tmp 7), (.func 56)], none⟩,
     ⟨some 2, .alloc true 4 [(.str []), (.str []), (.int .i64 0), (.int .i64 0)], none⟩,
     ⟨none, .store 4 (.tmp 2) (.tmp 8), none⟩])
  (.keep [0, 2] [2] (.seq (.regionD [⟨some 9, .move (.tmp 0), none⟩,
     ⟨some 10, .nilCheck (.tmp 9), none⟩,
     ⟨some 11, .fieldAddr 2 (.tmp 10), none⟩,
     ⟨some 12, .load false 1 (.tmp 11), none⟩,
     ⟨some 13, .load true 4 (.tmp 2), none⟩,
     ⟨some 14, .call (.func 57) [(.tmp 12), (.tmp 13)], none⟩,
     ⟨some 3, .move (.tmp 14), none⟩] [])
  (.keep [0, 2, 3] [2] (.seq (.region [⟨some 15, .move (.tmp 0), none⟩,
     ⟨some 16, .move (.tmp 0), none⟩,
     ⟨some 17, .nilCheck (.tmp 16), none⟩,
     ⟨some 18, .fieldAddr 2 (.tmp 17), none⟩,
     ⟨some 19, .load false 1 (.tmp 18), none⟩,
     ⟨some 20, .move (.tmp 3), none⟩,
     ⟨some 21, .move (.tmp 3), none⟩,
     ⟨some 22, .bin .add .none (.tmp 21) (.const (.int .i64 1)), none⟩,
     ⟨some 23, .call (.func 58) [(.tmp 19), (.tmp 20), (.tmp 22)], none⟩,
     ⟨some 24, .nilCheck (.tmp 15), none⟩,
     ⟨some 25, .fieldAddr 2 (.tmp 24), none⟩,
     ⟨none, .store 1 (.tmp 25) (.tmp 23), none⟩])
  (.keep [0, 2] [2] (.regionD [⟨some 27, .move (.tmp 0), none⟩,
    ⟨some 28, .nilCheck (.tmp 27), none⟩,
    ⟨some 29, .fieldAddr 0 (.tmp 28), none⟩,
    ⟨some 30, .load true 2 (.tmp 29), none⟩,
    ⟨some 31, .fieldAddr 2 (.tmp 2), none⟩,
    ⟨some 32, .load true 2 (.tmp 31), none⟩,
    ⟨some 33, .call (.func 18) [(.tmp 30), (.tmp 32)], none⟩,
    ⟨some 26, .move (.tmp 0), none⟩,
    ⟨some 34, .nilCheck (.tmp 26), none⟩,
    ⟨some 35, .fieldAddr 0 (.tmp 34), none⟩,
    ⟨none, .store 2 (.tmp 35) (.tmp 33), none⟩] []))))))⟩
/-- slices.MinFunc[[]wampum/cache.seen,wampum/cache.seen] -/
def L55_0 : IC :=
  .keep [0, 1, 4, 5, 6] [4, 5] (.seq (.seq (.region [⟨some 14, .move (.tmp 6), none⟩,
      ⟨some 15, .move (.tmp 0), none⟩,
      ⟨some 16, .len .slice (.tmp 15), none⟩,
      ⟨some 17, .bin .lss .none (.tmp 14) (.tmp 16), none⟩])
   (.keep [0, 1, 4, 5, 6, 17] [4, 5] (.cond (.tmp 17)
    (.skip)
    (.exit 0))))
  (.keep [0, 1, 4, 5, 6] [4, 5] (.seq (.block 1 (.seq (.regionD [⟨some 20, .move (.tmp 1), none⟩,
       ⟨some 21, .move (.tmp 0), none⟩,
       ⟨some 22, .move (.tmp 6), none⟩,
       ⟨some 23, .indexAddr none 4 (.tmp 21) (.tmp 22), none⟩,
       ⟨some 24, .load true 4 (.tmp 23), none⟩,
       ⟨some 25, .load true 4 (.tmp 5), none⟩,
       ⟨some 26, .call (.tmp 20) [(.tmp 24), (.tmp 25)], none⟩,
       ⟨some 27, .bin .lss .none (.tmp 26) (.const (.int .i64 0)), none⟩] [])
    (.keep [0, 1, 4, 5, 6, 27] [4, 5] (.cond (.tmp 27)
     (.region [⟨some 28, .move (.tmp 0), none⟩,
       ⟨some 29, .move (.tmp 6), none⟩,
       ⟨some 30, .indexAddr none 4 (.tmp 28) (.tmp 29), none⟩,
       ⟨some 31, .load true 4 (.tmp 30), none⟩,
       ⟨none, .store 4 (.tmp 5) (.tmp 31), none⟩])
     (.skip)))))
  (.keep [0, 1, 4, 5, 6] [4, 5] (.region [⟨some 18, .move (.tmp 6), none⟩,
    ⟨some 19, .bin .add .none (.tmp 18) (.const (.int .i64 1)), none⟩,
    ⟨some 6, .move (.tmp 19), none⟩])))))
def F55 : FnIR := ⟨33, 2, [.cell 4 true 4], [4, 5],
  .seq (.region [⟨some 4, .alloc true 4 [(.str []), (.str []), (.int .i64 0), (.int .i64 0)], none⟩])
  (.keep [0, 1, 4] [4] (.seq (.seq (.region [⟨some 7, .move (.tmp 0), none⟩,
      ⟨some 8, .len .slice (.tmp 7), none⟩,
      ⟨some 9, .bin .lss .none (.tmp 8) (.const (.int .i64 1)), none⟩])
   (.keep [0, 1, 4, 9] [4] (.cond (.tmp 9)
    (.region [⟨some 10, .mkIface 9 (.const (.str [115, 108, 105, 99, 101, 115, 46, 77, 105, 110, 70, 117, 110, 99, 58, 32, 101, 109, 112, 116, 121, 32, 108, 105, 115, 116])), none⟩,
      ⟨none, .bad, none⟩])
    (.skip))))
  (.keep [0, 1, 4] [4] (.seq (.region [⟨some 11, .move (.tmp 0), none⟩,
     ⟨some 12, .indexAddr none 4 (.tmp 11) (.const (.int .i64 0)), none⟩,
     ⟨some 13, .load true 4 (.tmp 12), none⟩,
     ⟨some 5, .alloc true 4 [(.str []), (.str []), (.int .i64 0), (.int .i64 0)], none⟩,
     ⟨none, .store 4 (.tmp 5) (.tmp 13), none⟩])
  (.keep [0, 1, 4, 5] [4, 5] (.seq (.seq (.region [⟨some 6, .move (.const (.int .i64 1)), none⟩])
   (.keep [0, 1, 4, 5, 6] [4, 5] (.block 0 (.loop L55_0))))
  (.keep [4, 5] [4, 5] (.seq (.region [⟨some 32, .load true 4 (.tmp 5), none⟩,
     ⟨none, .store 4 (.tmp 4) (.tmp 32), none⟩])
  (.keep [4] [4] (.ret))))))))))⟩
/-- (*wampum/cache.Cache).drop$1 -/
def F56 : FnIR := ⟨10, 2, [.tmp 4], [2, 3],
  .seq (.region [⟨some 2, .box true 4 (.tmp 0), none⟩,
     ⟨some 3, .box true 4 (.tmp 1), none⟩,
     ⟨some 4, .move (.const (.int .i64 0)), none⟩])
  (.keep [2, 3] [2, 3] (.seq (.region [⟨some 5, .fieldAddr 2 (.tmp 2), none⟩,
     ⟨some 6, .load true 2 (.tmp 5), none⟩,
     ⟨some 7, .fieldAddr 2 (.tmp 3), none⟩,
     ⟨some 8, .load true 2 (.tmp 7), none⟩,
     ⟨some 9, .call (.func 45) [(.tmp 6), (.tmp 8)], none⟩,
     ⟨some 4, .move (.tmp 9), none⟩])
  (.keep [4] [] (.ret))))⟩
/-- slices.Index[[]wampum/cache.seen,wampum/cache.seen] -/
def L57_0 : IC :=
  .keep [0, 3, 7, 8] [3] (.seq (.region [⟨some 9, .bin .lss .none (.tmp 8) (.tmp 7), none⟩])
  (.keep [0, 3, 7, 8, 9] [3] (.seq (.cond (.tmp 9)
    (.skip)
    (.exit 0))
  (.keep [0, 3, 7, 8] [3] (.seq (.block 1 (.seq (.region [⟨some 10, .move (.tmp 8), none⟩,
       ⟨some 5, .move (.tmp 10), none⟩])
    (.keep [0, 3, 5, 7, 8] [3] (.seq (.regionD [⟨some 11, .load true 4 (.tmp 3), none⟩,
       ⟨some 12, .move (.tmp 0), none⟩,
       ⟨some 13, .move (.tmp 5), none⟩,
       ⟨some 14, .indexAddr none 4 (.tmp 12) (.tmp 13), none⟩,
       ⟨some 15, .load true 4 (.tmp 14), none⟩,
       ⟨some 16, .bin .eql (.struct [(0, true, 2, (.struct [(0, false, 1, .str), (1, false, 1, .str)])), (2, true, 2, (.struct [(0, false, 1, .int), (1, false, 1, .int)]))]) (.tmp 11) (.tmp 15), none⟩] [])
    (.keep [0, 3, 5, 7, 8, 16] [3] (.cond (.tmp 16)
     (.seq (.region [⟨some 17, .move (.tmp 5), none⟩,
        ⟨some 4, .move (.tmp 17), none⟩])
     (.keep [4] [] (.ret)))
     (.skip)))))))
  (.keep [0, 3, 7, 8] [3] (.region [⟨some 18, .bin .add .none (.tmp 8) (.const (.int .i64 1)), none⟩,
    ⟨some 8, .move (.tmp 18), none⟩])))))))
def F57 : FnIR := ⟨19, 2, [.tmp 4], [3],
  .seq (.region [⟨some 3, .box true 4 (.tmp 1), none⟩,
     ⟨some 4, .move (.const (.int .i64 0)), none⟩])
  (.keep [0, 3] [3] (.seq (.seq (.region [⟨some 6, .move (.tmp 0), none⟩,
      ⟨some 7, .len .slice (.tmp 6), none⟩,
      ⟨some 8, .move (.const (.int .i64 0)), none⟩])
   (.keep [0, 3, 7, 8] [3] (.block 0 (.loop L57_0))))
  (.keep [] [] (.seq (.region [⟨some 4, .move (.const (.int .i64 (-1))), none⟩])
  (.keep [4] [] (.ret))))))⟩
/-- slices.Delete[[]wampum/cache.seen,wampum/cache.seen] -/
def F58 : FnIR := ⟨33, 3, [.tmp 6], [],
  .seq (.region [⟨some 6, .move (.const .nils), none⟩])
  (.keep [0, 1, 2] [] (.seq (.region [⟨some 8, .move (.tmp 0), none⟩,
     ⟨some 9, .move (.tmp 1), none⟩,
     ⟨some 10, .move (.tmp 2), none⟩,
     ⟨some 11, .move (.tmp 0), none⟩,
     ⟨some 12, .len .slice (.tmp 11), none⟩,
     ⟨some 13, .slice (.slice 4) (.tmp 8) (some (.tmp 9)) (some (.tmp 10)) (some (.tmp 12)), none⟩])
  (.keep [0, 1, 2] [] (.seq (.seq (.region [⟨some 14, .move (.tmp 1), none⟩,
      ⟨some 15, .move (.tmp 2), none⟩,
      ⟨some 16, .bin .eql .int (.tmp 14) (.tmp 15), none⟩])
   (.keep [0, 1, 2, 16] [] (.cond (.tmp 16)
    (.seq (.region [⟨some 17, .move (.tmp 0), none⟩,
       ⟨some 6, .move (.tmp 17), none⟩])
    (.keep [6] [] (.ret)))
    (.skip))))
  (.keep [0, 1, 2] [] (.seq (.region [⟨some 18, .move (.tmp 0), none⟩,
     ⟨some 19, .len .slice (.tmp 18), none⟩,
     ⟨some 7, .move (.tmp 19), none⟩])
  (.keep [0, 1, 2, 7] [] (.seq (.regionD [⟨some 20, .move (.tmp 0), none⟩,
     ⟨some 21, .move (.tmp 1), none⟩,
     ⟨some 22, .slice (.slice 4) (.tmp 20) none (some (.tmp 21)) none, none⟩,
     ⟨some 23, .move (.tmp 0), none⟩,
     ⟨some 24, .move (.tmp 2), none⟩,
     ⟨some 25, .slice (.slice 4) (.tmp 23) (some (.tmp 24)) none none, none⟩,
     ⟨some 26, .append 4 48 (.tmp 22) (.tmp 25), none⟩,
     ⟨some 0, .move (.tmp 26), none⟩] [])
  (.keep [0, 7] [] (.seq (.region [⟨some 27, .move (.tmp 0), none⟩,
     ⟨some 28, .move (.tmp 0), none⟩,
     ⟨some 29, .len .slice (.tmp 28), none⟩,
     ⟨some 30, .move (.tmp 7), none⟩,
     ⟨some 31, .slice (.slice 4) (.tmp 27) (some (.tmp 29)) (some (.tmp 30)) none, none⟩,
     ⟨none, .clear 4 [(.str []), (.str []), (.int .i64 0), (.int .i64 0)] (.tmp 31), none⟩])
  (.keep [0] [] (.seq (.region [⟨some 32, .move (.tmp 0), none⟩,
     ⟨some 6, .move (.tmp 32), none⟩])
  (.keep [6] [] (.ret))))))))))))))⟩
/-- wampum/stamp.Max -/
def F18 : FnIR := ⟨10, 2, [.cell 4 true 2], [2, 3, 4],
  .seq (.region [⟨some 2, .box true 2 (.tmp 0), none⟩,
     ⟨some 3, .box true 2 (.tmp 1), none⟩,
     ⟨some 4, .alloc true 2 [(.int .i64 0), (.int .i64 0)], none⟩])
  (.keep [2, 3, 4] [2, 3, 4] (.seq (.seq (.region [⟨some 5, .load true 2 (.tmp 2), none⟩,
      ⟨some 6, .load true 2 (.tmp 3), none⟩,
      ⟨some 7, .call (.func 23) [(.tmp 5), (.tmp 6)], none⟩])
   (.keep [2, 3, 4, 7] [2, 3, 4] (.cond (.tmp 7)
    (.seq (.region [⟨some 8, .load true 2 (.tmp 3), none⟩,
       ⟨none, .store 2 (.tmp 4) (.tmp 8), none⟩])
    (.keep [4] [4] (.ret)))
    (.skip))))
  (.keep [2, 4] [2, 4] (.seq (.region [⟨some 9, .load true 2 (.tmp 2), none⟩,
     ⟨none, .store 2 (.tmp 4) (.tmp 9), none⟩])
  (.keep [4] [4] (.ret))))))⟩
/-- wampum/wampumref05.Meet -/
def F17 : FnIR := ⟨31, 2, [.tmp 4], [2, 3],
  .seq (.region [⟨some 2, .box true 2 (.tmp 0), none⟩,
     ⟨some 3, .box true 2 (.tmp 1), none⟩,
     ⟨some 4, .move (.const (.bool false)), none⟩])
  (.keep [2, 3] [2, 3] (.seq (.region [⟨some 9, .load true 2 (.tmp 2), none⟩,
     ⟨some 10, .fieldAddr 0 (.tmp 3), none⟩,
     ⟨some 11, .load false 1 (.tmp 10), none⟩,
     ⟨some 12, .call (.func 35) [(.tmp 9), (.tmp 11)], none⟩,
     ⟨some 5, .move (.tmp 12), none⟩])
  (.keep [2, 3, 5] [2, 3] (.seq (.region [⟨some 13, .load true 2 (.tmp 3), none⟩,
     ⟨some 14, .fieldAddr 0 (.tmp 2), none⟩,
     ⟨some 15, .load false 1 (.tmp 14), none⟩,
     ⟨some 16, .call (.func 35) [(.tmp 13), (.tmp 15)], none⟩,
     ⟨some 6, .move (.tmp 16), none⟩])
  (.keep [2, 3, 5, 6] [2, 3] (.seq (.region [⟨some 17, .load true 2 (.tmp 2), none⟩,
     ⟨some 18, .call (.func 15) [(.tmp 17)], none⟩,
     ⟨some 7, .move (.tmp 18), none⟩])
  (.keep [3, 5, 6, 7] [3] (.seq (.region [⟨some 19, .load true 2 (.tmp 3), none⟩,
     ⟨some 20, .call (.func 15) [(.tmp 19)], none⟩,
     ⟨some 8, .move (.tmp 20), none⟩])
  (.keep [5, 6, 7, 8] [] (.seq (.region [⟨some 21, .move (.tmp 7), none⟩,
     ⟨some 22, .move (.tmp 21), none⟩,
     ⟨some 23, .move (.tmp 8), some (22, true)⟩,
     ⟨some 24, .pick (.tmp 22) (.tmp 23) (.const (.bool false)), none⟩,
     ⟨some 25, .move (.tmp 24), none⟩,
     ⟨some 26, .move (.tmp 5), some (25, true)⟩,
     ⟨some 27, .move (.tmp 26), some (25, true)⟩,
     ⟨some 28, .move (.tmp 6), some (27, false)⟩,
     ⟨some 29, .pick (.tmp 27) (.const (.bool true)) (.tmp 28), some (25, true)⟩,
     ⟨some 30, .pick (.tmp 25) (.tmp 29) (.const (.bool false)), none⟩,
     ⟨some 4, .move (.tmp 30), none⟩])
  (.keep [4] [] (.ret))))))))))))⟩
/-- wampum/wampumref05.Has -/
def F35 : FnIR := ⟨40, 2, [.tmp 4], [2],
  .seq (.region [⟨some 2, .box true 2 (.tmp 0), none⟩,
     ⟨some 4, .move (.const (.bool false)), none⟩])
  (.keep [1, 2] [2] (.seq (.region [⟨some 7, .load true 2 (.tmp 2), none⟩,
     ⟨some 8, .call (.func 15) [(.tmp 7)], none⟩,
     ⟨some 5, .move (.tmp 8), none⟩])
  (.keep [1, 2, 5] [2] (.seq (.region [⟨some 9, .move (.tmp 1), none⟩,
     ⟨some 10, .call (.func 32) [(.tmp 9)], none⟩,
     ⟨some 6, .move (.tmp 10), none⟩])
  (.keep [1, 2, 5, 6] [2] (.seq (.seq (.region [⟨some 11, .fieldAddr 1 (.tmp 2), none⟩,
      ⟨some 12, .load false 1 (.tmp 11), none⟩,
      ⟨some 13, .bin .eql .str (.tmp 12) (.const (.str [])), none⟩])
   (.keep [1, 2, 5, 6, 13] [2] (.cond (.tmp 13)
    (.seq (.region [⟨some 14, .move (.tmp 5), none⟩,
       ⟨some 15, .move (.tmp 14), none⟩,
       ⟨some 16, .move (.tmp 6), some (15, true)⟩,
       ⟨some 17, .pick (.tmp 15) (.tmp 16) (.const (.bool false)), none⟩,
       ⟨some 18, .move (.tmp 17), none⟩,
       ⟨some 19, .move (.tmp 1), some (18, true)⟩,
       ⟨some 20, .fieldAddr 0 (.tmp 2), some (18, true)⟩,
       ⟨some 21, .load false 1 (.tmp 20), some (18, true)⟩,
       ⟨some 22, .bin .eql .str (.tmp 19) (.tmp 21), some (18, true)⟩,
       ⟨some 23, .pick (.tmp 18) (.tmp 22) (.const (.bool false)), none⟩,
       ⟨some 4, .move (.tmp 23), none⟩])
    (.keep [4] [] (.ret)))
    (.skip))))
  (.keep [1, 2, 5, 6] [2] (.seq (.region [⟨some 24, .move (.tmp 5), none⟩,
     ⟨some 25, .move (.tmp 24), none⟩,
     ⟨some 26, .move (.tmp 6), some (25, true)⟩,
     ⟨some 27, .pick (.tmp 25) (.tmp 26) (.const (.bool false)), none⟩,
     ⟨some 28, .move (.tmp 27), none⟩,
     ⟨some 29, .move (.tmp 1), some (28, true)⟩,
     ⟨some 30, .fieldAddr 0 (.tmp 2), some (28, true)⟩,
     ⟨some 31, .load false 1 (.tmp 30), some (28, true)⟩,
     ⟨some 32, .bin .geq .none (.tmp 29) (.tmp 31), some (28, true)⟩,
     ⟨some 33, .pick (.tmp 28) (.tmp 32) (.const (.bool false)), none⟩,
     ⟨some 34, .move (.tmp 33), none⟩,
     ⟨some 35, .move (.tmp 1), some (34, true)⟩,
     ⟨some 36, .fieldAddr 1 (.tmp 2), some (34, true)⟩,
     ⟨some 37, .load false 1 (.tmp 36), some (34, true)⟩,
     ⟨some 38, .bin .lss .none (.tmp 35) (.tmp 37), some (34, true)⟩,
     ⟨some 39, .pick (.tmp 34) (.tmp 38) (.const (.bool false)), none⟩,
     ⟨some 4, .move (.tmp 39), none⟩])
  (.keep [4] [] (.ret))))))))))⟩
/-- wampum/wampumlaw10.alive -/
def F19 : FnIR := ⟨30, 0, [.tmp 0], [],
  .seq (.region [⟨some 0, .move (.const (.bool false)), none⟩])
  (.keep [] [] (.seq (.region [⟨some 3, .build [(.int .i64 0), (.int .i64 0)] [(0, 1, (.const (.int .i64 3)))], none⟩,
     ⟨some 4, .call (.func 14) [(.tmp 3)], none⟩,
     ⟨some 1, .move (.tmp 4), none⟩])
  (.keep [1] [] (.seq (.region [⟨some 5, .move (.tmp 1), none⟩,
     ⟨some 6, .build [(.str []), (.str [])] [(0, 1, (.const (.str [98]))), (1, 1, (.const (.str [100])))], none⟩,
     ⟨some 7, .build [(.int .i64 0), (.int .i64 0)] [(0, 1, (.const (.int .i64 7)))], none⟩,
     ⟨some 8, .call (.func 16) [(.tmp 5), (.tmp 6), (.tmp 7)], none⟩,
     ⟨some 2, .move (.tmp 8), none⟩])
  (.keep [1, 2] [] (.seq (.region [⟨some 9, .move (.tmp 2), none⟩,
     ⟨some 10, .bin .eql .int (.tmp 9) (.const (.int .i64 0)), none⟩,
     ⟨some 11, .move (.tmp 10), none⟩,
     ⟨some 12, .move (.tmp 1), some (11, true)⟩,
     ⟨some 13, .build [(.str []), (.str [])] [(0, 1, (.const (.str [99])))], some (11, true)⟩,
     ⟨some 14, .call (.func 20) [(.tmp 12), (.tmp 13)], some (11, true)⟩,
     ⟨some 15, .build [(.int .i64 0), (.int .i64 0)] [(0, 1, (.const (.int .i64 7)))], some (11, true)⟩,
     ⟨some 16, .bin .eql (.struct [(0, false, 1, .int), (1, false, 1, .int)]) (.tmp 14) (.tmp 15), some (11, true)⟩,
     ⟨some 17, .pick (.tmp 11) (.tmp 16) (.const (.bool false)), none⟩,
     ⟨some 18, .move (.tmp 17), none⟩,
     ⟨some 19, .move (.tmp 1), some (18, true)⟩,
     ⟨some 20, .build [(.str []), (.str [])] [(0, 1, (.const (.str [100])))], some (18, true)⟩,
     ⟨some 21, .call (.func 20) [(.tmp 19), (.tmp 20)], some (18, true)⟩,
     ⟨some 22, .build [(.int .i64 0), (.int .i64 0)] [(0, 1, (.const (.int .i64 3)))], some (18, true)⟩,
     ⟨some 23, .bin .eql (.struct [(0, false, 1, .int), (1, false, 1, .int)]) (.tmp 21) (.tmp 22), some (18, true)⟩,
     ⟨some 24, .pick (.tmp 18) (.tmp 23) (.const (.bool false)), none⟩,
     ⟨some 25, .move (.tmp 24), none⟩,
     ⟨some 26, .move (.tmp 1), some (25, true)⟩,
     ⟨some 27, .call (.func 24) [(.tmp 26)], some (25, true)⟩,
     ⟨some 28, .bin .eql .int (.tmp 27) (.const (.int .i64 1)), some (25, true)⟩,
     ⟨some 29, .pick (.tmp 25) (.tmp 28) (.const (.bool false)), none⟩,
     ⟨some 0, .move (.tmp 29), none⟩])
  (.keep [0] [] (.ret))))))))⟩
/-- (*wampum/cache.Cache).Most -/
def L20_0 : IC :=
  .keep [3, 4, 5, 23, 24, 25] [3, 4, 5] (.seq (.region [⟨some 26, .bin .lss .none (.tmp 25) (.tmp 24), none⟩])
  (.keep [3, 4, 5, 23, 24, 25, 26] [3, 4, 5] (.seq (.cond (.tmp 26)
    (.skip)
    (.exit 0))
  (.keep [3, 4, 5, 23, 24, 25] [3, 4, 5] (.seq (.block 1 (.seq (.region [⟨some 27, .indexAddr none 4 (.tmp 23) (.tmp 25), none⟩,
       ⟨some 28, .load true 4 (.tmp 27), none⟩,
       ⟨some 7, .alloc true 4 [(.str []), (.str []), (.int .i64 0), (.int .i64 0)], none⟩,
       ⟨none, .store 4 (.tmp 7) (.tmp 28), none⟩])
    (.keep [3, 4, 5, 7, 23, 24, 25] [3, 4, 5, 7] (.seq (.region [⟨some 29, .fieldAddr 0 (.tmp 7), none⟩,
       ⟨some 30, .load true 2 (.tmp 29), none⟩,
       ⟨some 31, .load true 2 (.tmp 3), none⟩,
       ⟨some 32, .call (.func 36) [(.tmp 30), (.tmp 31)], none⟩])
    (.keep [3, 4, 5, 7, 23, 24, 25, 32] [3, 4, 5, 7] (.cond (.tmp 32)
     (.region [⟨some 33, .load true 2 (.tmp 5), none⟩,
       ⟨some 34, .fieldAddr 2 (.tmp 7), none⟩,
       ⟨some 35, .load true 2 (.tmp 34), none⟩,
       ⟨some 36, .call (.func 18) [(.tmp 33), (.tmp 35)], none⟩,
       ⟨none, .store 2 (.tmp 5) (.tmp 36), none⟩])
     (.skip)))))))
  (.keep [3, 4, 5, 23, 24, 25] [3, 4, 5] (.region [⟨some 37, .bin .add .none (.tmp 25) (.const (.int .i64 1)), none⟩,
    ⟨some 25, .move (.tmp 37), none⟩])))))))
def F20 : FnIR := ⟨39, 2, [.cell 4 true 2], [3, 4, 5, 7],
  .seq (.region [⟨some 3, .box true 2 (.tmp 1), none⟩,
     ⟨some 4, .alloc true 2 [(.int .i64 0), (.int .i64 0)], none⟩])
  (.keep [0, 3, 4] [3, 4] (.seq (.seq (.region [⟨some 8, .move (.tmp 0), none⟩,
      ⟨some 9, .bin .eql .ptr (.tmp 8) (.const .nilp), none⟩,
      ⟨some 10, .move (.tmp 9), none⟩,
      ⟨some 11, .load true 2 (.tmp 3), some (10, false)⟩,
      ⟨some 12, .call (.func 33) [(.tmp 11)], some (10, false)⟩,
      ⟨some 13, .un .not (.tmp 12), some (10, false)⟩,
      ⟨some 14, .pick (.tmp 10) (.const (.bool true)) (.tmp 13), none⟩])
   (.keep [0, 3, 4, 14] [3, 4] (.cond (.tmp 14)
    (.seq (.region [⟨some 15, .build [(.int .i64 0), (.int .i64 0)] [], none⟩,
       ⟨none, .store 2 (.tmp 4) (.tmp 15), none⟩])
    (.keep [4] [4] (.ret)))
    (.skip))))
  (.keep [0, 3, 4] [3, 4] (.seq (.region [⟨some 16, .move (.tmp 0), none⟩,
     ⟨some 17, .nilCheck (.tmp 16), none⟩,
     ⟨some 18, .fieldAddr 0 (.tmp 17), none⟩,
     ⟨some 19, .load true 2 (.tmp 18), none⟩,
     ⟨some 5, .alloc true 2 [(.int .i64 0), (.int .i64 0)], none⟩,
     ⟨none, .store 2 (.tmp 5) (.tmp 19), none⟩])
  (.keep [0, 3, 4, 5] [3, 4, 5] (.seq (.seq (.region [⟨some 20, .move (.tmp 0), none⟩,
      ⟨some 21, .nilCheck (.tmp 20), none⟩,
      ⟨some 22, .fieldAddr 2 (.tmp 21), none⟩,
      ⟨some 23, .load false 1 (.tmp 22), none⟩,
      ⟨some 24, .len .slice (.tmp 23), none⟩,
      ⟨some 25, .move (.const (.int .i64 0)), none⟩])
   (.keep [3, 4, 5, 23, 24, 25] [3, 4, 5] (.block 0 (.loop L20_0))))
  (.keep [4, 5] [4, 5] (.seq (.region [⟨some 38, .load true 2 (.tmp 5), none⟩,
     ⟨none, .store 2 (.tmp 4) (.tmp 38), none⟩])
  (.keep [4] [4] (.ret))))))))))⟩
/-- wampum/span.Meet -/
def F36 : FnIR := ⟨23, 2, [.tmp 4], [2, 3],
  .seq (.region [⟨some 2, .box true 2 (.tmp 0), none⟩,
     ⟨some 3, .box true 2 (.tmp 1), none⟩,
     ⟨some 4, .move (.const (.bool false)), none⟩])
  (.keep [2, 3] [2, 3] (.seq (.region [⟨some 5, .load true 2 (.tmp 2), none⟩,
     ⟨some 6, .call (.func 33) [(.tmp 5)], none⟩,
     ⟨some 7, .move (.tmp 6), none⟩,
     ⟨some 8, .load true 2 (.tmp 3), some (7, true)⟩,
     ⟨some 9, .call (.func 33) [(.tmp 8)], some (7, true)⟩,
     ⟨some 10, .pick (.tmp 7) (.tmp 9) (.const (.bool false)), none⟩,
     ⟨some 11, .move (.tmp 10), none⟩,
     ⟨some 12, .load true 2 (.tmp 2), some (11, true)⟩,
     ⟨some 13, .fieldAddr 0 (.tmp 3), some (11, true)⟩,
     ⟨some 14, .load false 1 (.tmp 13), some (11, true)⟩,
     ⟨some 15, .call (.func 34) [(.tmp 12), (.tmp 14)], some (11, true)⟩,
     ⟨some 16, .move (.tmp 15), some (11, true)⟩,
     ⟨some 17, .load true 2 (.tmp 3), some (16, false)⟩,
     ⟨some 18, .fieldAddr 0 (.tmp 2), some (16, false)⟩,
     ⟨some 19, .load false 1 (.tmp 18), some (16, false)⟩,
     ⟨some 20, .call (.func 34) [(.tmp 17), (.tmp 19)], some (16, false)⟩,
     ⟨some 21, .pick (.tmp 16) (.const (.bool true)) (.tmp 20), some (11, true)⟩,
     ⟨some 22, .pick (.tmp 11) (.tmp 21) (.const (.bool false)), none⟩,
     ⟨some 4, .move (.tmp 22), none⟩])
  (.keep [4] [] (.ret))))⟩
/-- wampum/span.Has -/
def F34 : FnIR := ⟨32, 2, [.tmp 4], [2],
  .seq (.region [⟨some 2, .box true 2 (.tmp 0), none⟩,
     ⟨some 4, .move (.const (.bool false)), none⟩])
  (.keep [1, 2] [2] (.seq (.block 0 (.seq (.region [⟨some 6, .load true 2 (.tmp 2), none⟩,
       ⟨some 7, .call (.func 33) [(.tmp 6)], none⟩,
       ⟨some 8, .un .not (.tmp 7), none⟩,
       ⟨some 9, .move (.tmp 8), none⟩,
       ⟨some 10, .move (.tmp 1), some (9, false)⟩,
       ⟨some 11, .call (.func 31) [(.tmp 10)], some (9, false)⟩,
       ⟨some 12, .un .not (.tmp 11), some (9, false)⟩,
       ⟨some 13, .pick (.tmp 9) (.const (.bool true)) (.tmp 12), none⟩,
       ⟨some 5, .move (.tmp 13), none⟩])
    (.keep [1, 2, 5] [2] (.cond (.tmp 5)
     (.seq (.region [⟨some 4, .move (.const (.bool false)), none⟩])
     (.keep [4] [] (.ret)))
     (.seq (.region [⟨some 15, .fieldAddr 1 (.tmp 2), none⟩,
        ⟨some 16, .load false 1 (.tmp 15), none⟩,
        ⟨some 17, .bin .eql .str (.tmp 16) (.const (.str [])), none⟩,
        ⟨some 14, .move (.tmp 17), none⟩])
     (.keep [1, 2, 14] [2] (.cond (.tmp 14)
      (.seq (.region [⟨some 18, .move (.tmp 1), none⟩,
         ⟨some 19, .fieldAddr 0 (.tmp 2), none⟩,
         ⟨some 20, .load false 1 (.tmp 19), none⟩,
         ⟨some 21, .bin .eql .str (.tmp 18) (.tmp 20), none⟩,
         ⟨some 4, .move (.tmp 21), none⟩])
      (.keep [4] [] (.ret)))
      (.skip))))))))
  (.keep [1, 2] [2] (.seq (.region [⟨some 22, .fieldAddr 0 (.tmp 2), none⟩,
     ⟨some 23, .load false 1 (.tmp 22), none⟩,
     ⟨some 24, .move (.tmp 1), none⟩,
     ⟨some 25, .bin .leq .none (.tmp 23) (.tmp 24), none⟩,
     ⟨some 26, .move (.tmp 25), none⟩,
     ⟨some 27, .move (.tmp 1), some (26, true)⟩,
     ⟨some 28, .fieldAddr 1 (.tmp 2), some (26, true)⟩,
     ⟨some 29, .load false 1 (.tmp 28), some (26, true)⟩,
     ⟨some 30, .bin .lss .none (.tmp 27) (.tmp 29), some (26, true)⟩,
     ⟨some 31, .pick (.tmp 26) (.tmp 30) (.const (.bool false)), none⟩,
     ⟨some 4, .move (.tmp 31), none⟩])
  (.keep [4] [] (.ret))))))⟩
/-- (*wampum/cache.Cache).Len -/
def F24 : FnIR := ⟨10, 1, [.tmp 2], [],
  .seq (.region [⟨some 2, .move (.const (.int .i64 0)), none⟩])
  (.keep [0] [] (.seq (.seq (.region [⟨some 3, .move (.tmp 0), none⟩,
      ⟨some 4, .bin .eql .ptr (.tmp 3) (.const .nilp), none⟩])
   (.keep [0, 4] [] (.cond (.tmp 4)
    (.seq (.region [⟨some 2, .move (.const (.int .i64 0)), none⟩])
    (.keep [2] [] (.ret)))
    (.skip))))
  (.keep [0] [] (.seq (.region [⟨some 5, .move (.tmp 0), none⟩,
     ⟨some 6, .nilCheck (.tmp 5), none⟩,
     ⟨some 7, .fieldAddr 2 (.tmp 6), none⟩,
     ⟨some 8, .load false 1 (.tmp 7), none⟩,
     ⟨some 9, .len .slice (.tmp 8), none⟩,
     ⟨some 2, .move (.tmp 9), none⟩])
  (.keep [2] [] (.ret))))))⟩
/-- (*wampum/cache.Cache).Low -/
def F21 : FnIR := ⟨10, 1, [.cell 2 true 2], [2],
  .seq (.region [⟨some 2, .alloc true 2 [(.int .i64 0), (.int .i64 0)], none⟩])
  (.keep [0, 2] [2] (.seq (.seq (.region [⟨some 3, .move (.tmp 0), none⟩,
      ⟨some 4, .bin .eql .ptr (.tmp 3) (.const .nilp), none⟩])
   (.keep [0, 2, 4] [2] (.cond (.tmp 4)
    (.seq (.region [⟨some 5, .build [(.int .i64 0), (.int .i64 0)] [], none⟩,
       ⟨none, .store 2 (.tmp 2) (.tmp 5), none⟩])
    (.keep [2] [2] (.ret)))
    (.skip))))
  (.keep [0, 2] [2] (.seq (.region [⟨some 6, .move (.tmp 0), none⟩,
     ⟨some 7, .nilCheck (.tmp 6), none⟩,
     ⟨some 8, .fieldAddr 0 (.tmp 7), none⟩,
     ⟨some 9, .load true 2 (.tmp 8), none⟩,
     ⟨none, .store 2 (.tmp 2) (.tmp 9), none⟩])
  (.keep [2] [2] (.ret))))))⟩
/-- wampum/wampumlaw10.CacheMost -/
def L4_0 : IC :=
  .keep [1, 5, 8, 9, 10, 11, 12, 16, 17, 18] [5, 9, 10, 16] (.seq (.seq (.region [⟨some 105, .move (.tmp 18), none⟩,
      ⟨some 106, .move (.tmp 11), none⟩,
      ⟨some 107, .len .slice (.tmp 106), none⟩,
      ⟨some 108, .bin .lss .none (.tmp 105) (.tmp 107), none⟩])
   (.keep [1, 5, 8, 9, 10, 11, 12, 16, 17, 18, 108] [5, 9, 10, 16] (.cond (.tmp 108)
    (.skip)
    (.exit 2))))
  (.keep [1, 5, 8, 9, 10, 11, 12, 16, 17, 18] [5, 9, 10, 16] (.seq (.block 3 (.regionD [⟨some 111, .move (.tmp 17), none⟩,
      ⟨some 112, .move (.tmp 111), none⟩,
      ⟨some 113, .move (.tmp 11), some (112, false)⟩,
      ⟨some 114, .move (.tmp 18), some (112, false)⟩,
      ⟨some 115, .indexAddr none 2 (.tmp 113) (.tmp 114), some (112, false)⟩,
      ⟨some 116, .load true 2 (.tmp 115), some (112, false)⟩,
      ⟨some 117, .load true 2 (.tmp 16), some (112, false)⟩,
      ⟨some 118, .bin .eql (.struct [(0, false, 1, .int), (1, false, 1, .int)]) (.tmp 116) (.tmp 117), some (112, false)⟩,
      ⟨some 119, .pick (.tmp 112) (.const (.bool true)) (.tmp 118), none⟩,
      ⟨some 17, .move (.tmp 119), none⟩] []))
  (.keep [1, 5, 8, 9, 10, 11, 12, 16, 17, 18] [5, 9, 10, 16] (.region [⟨some 109, .move (.tmp 18), none⟩,
    ⟨some 110, .bin .add .none (.tmp 109) (.const (.int .i64 1)), none⟩,
    ⟨some 18, .move (.tmp 110), none⟩])))))
def L4_1 : IC :=
  .keep [1, 5, 8, 9, 10, 11, 12] [5, 9, 10] (.seq (.seq (.region [⟨some 42, .move (.tmp 12), none⟩,
      ⟨some 43, .move (.tmp 1), none⟩,
      ⟨some 44, .len .slice (.tmp 43), none⟩,
      ⟨some 45, .bin .lss .none (.tmp 42) (.tmp 44), none⟩,
      ⟨some 46, .move (.tmp 45), none⟩,
      ⟨some 47, .move (.tmp 12), some (46, true)⟩,
      ⟨some 48, .bin .lss .none (.tmp 47) (.const (.int .i64 100)), some (46, true)⟩,
      ⟨some 49, .pick (.tmp 46) (.tmp 48) (.const (.bool false)), none⟩])
   (.keep [1, 5, 8, 9, 10, 11, 12, 49] [5, 9, 10] (.cond (.tmp 49)
    (.skip)
    (.exit 0))))
  (.keep [1, 5, 8, 9, 10, 11, 12] [5, 9, 10] (.seq (.block 1 (.seq (.region [⟨some 52, .move (.tmp 1), none⟩,
       ⟨some 53, .move (.tmp 12), none⟩,
       ⟨some 54, .indexAddr none 5 (.tmp 52) (.tmp 53), none⟩,
       ⟨some 55, .load true 5 (.tmp 54), none⟩,
       ⟨some 13, .alloc true 5 [(.int .i64 0), (.str []), (.str []), (.int .i64 0), (.int .i64 0)], none⟩,
       ⟨none, .store 5 (.tmp 13) (.tmp 55), none⟩])
    (.keep [1, 5, 8, 9, 10, 11, 12, 13] [5, 9, 10, 13] (.seq (.region [⟨some 56, .fieldAddr 1 (.tmp 13), none⟩,
       ⟨some 57, .load true 2 (.tmp 56), none⟩,
       ⟨some 58, .call (.func 13) [(.tmp 57)], none⟩,
       ⟨some 14, .move (.tmp 58), none⟩])
    (.keep [1, 5, 8, 9, 10, 11, 12, 13, 14] [5, 9, 10, 13] (.seq (.seq (.region [⟨some 59, .move (.tmp 14), none⟩,
        ⟨some 60, .un .not (.tmp 59), none⟩])
     (.keep [1, 5, 8, 9, 10, 11, 12, 13, 60] [5, 9, 10, 13] (.cond (.tmp 60)
      (.exit 1)
      (.skip))))
    (.keep [1, 5, 8, 9, 10, 11, 12, 13] [5, 9, 10, 13] (.seq (.region [⟨some 15, .move (.const (.int .i64 1)), none⟩])
    (.keep [1, 5, 8, 9, 10, 11, 12, 13, 15] [5, 9, 10, 13] (.seq (.seq (.region [⟨some 61, .fieldAddr 0 (.tmp 13), none⟩,
        ⟨some 62, .load false 1 (.tmp 61), none⟩,
        ⟨some 63, .bin .eql .int (.tmp 62) (.const (.int .i64 1)), none⟩])
     (.keep [1, 5, 8, 9, 10, 11, 12, 13, 15, 63] [5, 9, 10, 13] (.cond (.tmp 63)
      (.seq (.region [⟨some 64, .move (.tmp 8), none⟩,
         ⟨some 65, .fieldAddr 1 (.tmp 13), none⟩,
         ⟨some 66, .load true 2 (.tmp 65), none⟩,
         ⟨some 67, .fieldAddr 3 (.tmp 13), none⟩,
         ⟨some 68, .load true 2 (.tmp 67), none⟩,
         ⟨some 69, .call (.func 16) [(.tmp 64), (.tmp 66), (.tmp 68)], none⟩,
         ⟨some 15, .move (.tmp 69), none⟩])
      (.keep [1, 5, 8, 9, 10, 11, 12, 13, 15] [5, 9, 10, 13] (.seq (.region [⟨some 70, .move (.tmp 15), none⟩,
         ⟨some 71, .bin .eql .int (.tmp 70) (.const (.int .i64 0)), none⟩,
         ⟨some 72, .move (.tmp 71), none⟩,
         ⟨some 73, .fieldAddr 1 (.tmp 13), some (72, true)⟩,
         ⟨some 74, .load true 2 (.tmp 73), some (72, true)⟩,
         ⟨some 75, .load true 2 (.tmp 5), some (72, true)⟩,
         ⟨some 76, .call (.func 17) [(.tmp 74), (.tmp 75)], some (72, true)⟩,
         ⟨some 77, .pick (.tmp 72) (.tmp 76) (.const (.bool false)), none⟩])
      (.keep [1, 5, 8, 9, 10, 11, 12, 13, 15, 77] [5, 9, 10, 13] (.cond (.tmp 77)
       (.region [⟨some 78, .load true 2 (.tmp 10), none⟩,
         ⟨some 79, .fieldAddr 3 (.tmp 13), none⟩,
         ⟨some 80, .load true 2 (.tmp 79), none⟩,
         ⟨some 81, .call (.func 18) [(.tmp 78), (.tmp 80)], none⟩,
         ⟨none, .store 2 (.tmp 10) (.tmp 81), none⟩])
       (.skip))))))
      (.skip))))
    (.keep [1, 5, 8, 9, 10, 11, 12, 13, 15] [5, 9, 10, 13] (.seq (.seq (.region [⟨some 82, .fieldAddr 0 (.tmp 13), none⟩,
        ⟨some 83, .load false 1 (.tmp 82), none⟩,
        ⟨some 84, .bin .eql .int (.tmp 83) (.const (.int .i64 2)), none⟩])
     (.keep [1, 5, 8, 9, 10, 11, 12, 13, 15, 84] [5, 9, 10, 13] (.cond (.tmp 84)
      (.seq (.region [⟨some 85, .move (.tmp 8), none⟩,
         ⟨some 86, .fieldAddr 3 (.tmp 13), none⟩,
         ⟨some 87, .load true 2 (.tmp 86), none⟩,
         ⟨some 88, .call (.func 22) [(.tmp 85), (.tmp 87)], none⟩,
         ⟨some 15, .move (.tmp 88), none⟩])
      (.keep [1, 5, 8, 9, 10, 11, 12, 13, 15] [5, 9, 10, 13] (.seq (.region [⟨some 89, .move (.tmp 15), none⟩,
         ⟨some 90, .bin .eql .int (.tmp 89) (.const (.int .i64 0)), none⟩])
      (.keep [1, 5, 8, 9, 10, 11, 12, 13, 15, 90] [5, 9, 10, 13] (.cond (.tmp 90)
       (.region [⟨some 91, .load true 2 (.tmp 10), none⟩,
         ⟨some 92, .fieldAddr 3 (.tmp 13), none⟩,
         ⟨some 93, .load true 2 (.tmp 92), none⟩,
         ⟨some 94, .call (.func 18) [(.tmp 91), (.tmp 93)], none⟩,
         ⟨none, .store 2 (.tmp 10) (.tmp 94), none⟩])
       (.skip))))))
      (.skip))))
    (.keep [1, 5, 8, 9, 10, 11, 12, 13, 15] [5, 9, 10, 13] (.seq (.seq (.region [⟨some 95, .move (.tmp 15), none⟩,
        ⟨some 96, .bin .eql .int (.tmp 95) (.const (.int .i64 0)), none⟩])
     (.keep [1, 5, 8, 9, 10, 11, 12, 13, 96] [5, 9, 10, 13] (.cond (.tmp 96)
      (.region [⟨some 97, .move (.tmp 11), none⟩,
        ⟨some 98, .fieldAddr 3 (.tmp 13), none⟩,
        ⟨some 99, .load true 2 (.tmp 98), none⟩,
        ⟨some 100, .buildSlice 2 1 [(.int .i64 0), (.int .i64 0)] [(0, 2, (.tmp 99))], none⟩,
        ⟨some 101, .append 2 16 (.tmp 97) (.tmp 100), none⟩,
        ⟨some 11, .move (.tmp 101), none⟩])
      (.skip))))
    (.keep [1, 5, 8, 9, 10, 11, 12] [5, 9, 10] (.seq (.region [⟨some 102, .move (.tmp 8), none⟩,
       ⟨some 103, .load true 2 (.tmp 5), none⟩,
       ⟨some 104, .call (.func 20) [(.tmp 102), (.tmp 103)], none⟩,
       ⟨some 16, .alloc true 2 [(.int .i64 0), (.int .i64 0)], none⟩,
       ⟨none, .store 2 (.tmp 16) (.tmp 104), none⟩])
    (.keep [1, 5, 8, 9, 10, 11, 12, 16] [5, 9, 10, 16] (.seq (.region [⟨some 17, .move (.const (.bool false)), none⟩])
    (.keep [1, 5, 8, 9, 10, 11, 12, 16, 17] [5, 9, 10, 16] (.seq (.seq (.region [⟨some 18, .move (.const (.int .i64 0)), none⟩])
     (.keep [1, 5, 8, 9, 10, 11, 12, 16, 17, 18] [5, 9, 10, 16] (.block 2 (.loop L4_0))))
    (.keep [1, 5, 8, 9, 10, 11, 12, 16, 17] [5, 9, 10, 16] (.seq (.seq (.region [⟨some 120, .load true 2 (.tmp 16), none⟩,
        ⟨some 121, .load true 2 (.tmp 10), none⟩,
        ⟨some 122, .call (.func 23) [(.tmp 120), (.tmp 121)], none⟩,
        ⟨some 123, .move (.tmp 122), none⟩,
        ⟨some 124, .load true 2 (.tmp 16), some (123, false)⟩,
        ⟨some 125, .load true 2 (.tmp 9), some (123, false)⟩,
        ⟨some 126, .call (.func 23) [(.tmp 124), (.tmp 125)], some (123, false)⟩,
        ⟨some 127, .pick (.tmp 123) (.const (.bool true)) (.tmp 126), none⟩,
        ⟨some 128, .move (.tmp 127), none⟩,
        ⟨some 129, .move (.tmp 17), some (128, false)⟩,
        ⟨some 130, .un .not (.tmp 129), some (128, false)⟩,
        ⟨some 131, .pick (.tmp 128) (.const (.bool true)) (.tmp 130), none⟩,
        ⟨some 132, .move (.tmp 131), none⟩,
        ⟨some 133, .move (.tmp 8), some (132, false)⟩,
        ⟨some 134, .call (.func 24) [(.tmp 133)], some (132, false)⟩,
        ⟨some 135, .bin .gtr .none (.tmp 134) (.const (.int .i64 16)), some (132, false)⟩,
        ⟨some 136, .pick (.tmp 132) (.const (.bool true)) (.tmp 135), none⟩])
     (.keep [1, 5, 8, 9, 10, 11, 12, 16, 136] [5, 9, 10, 16] (.cond (.tmp 136)
      (.seq (.region [⟨some 6, .move (.const (.bool false)), none⟩])
      (.keep [6] [] (.ret)))
      (.skip))))
    (.keep [1, 5, 8, 9, 10, 11, 12, 16] [5, 9, 10, 16] (.region [⟨some 137, .load true 2 (.tmp 16), none⟩,
      ⟨none, .store 2 (.tmp 9) (.tmp 137), none⟩]))))))))))))))))))))))))
  (.keep [1, 5, 8, 9, 10, 11, 12] [5, 9, 10] (.region [⟨some 50, .move (.tmp 12), none⟩,
    ⟨some 51, .bin .add .none (.tmp 50) (.const (.int .i64 1)), none⟩,
    ⟨some 12, .move (.tmp 51), none⟩])))))
def F4 : FnIR := ⟨139, 3, [.tmp 6], [3, 5, 9, 10, 13, 16],
  .seq (.region [⟨some 3, .box true 2 (.tmp 0), none⟩,
     ⟨some 5, .box true 2 (.tmp 2), none⟩,
     ⟨some 6, .move (.const (.bool false)), none⟩])
  (.keep [1, 3, 5] [3, 5] (.seq (.region [⟨some 19, .load true 2 (.tmp 5), none⟩,
     ⟨some 20, .call (.func 13) [(.tmp 19)], none⟩,
     ⟨some 7, .move (.tmp 20), none⟩])
  (.keep [1, 3, 5, 7] [3, 5] (.seq (.region [⟨some 21, .load true 2 (.tmp 3), none⟩,
     ⟨some 22, .call (.func 14) [(.tmp 21)], none⟩,
     ⟨some 8, .move (.tmp 22), none⟩])
  (.keep [1, 3, 5, 7, 8] [3, 5] (.seq (.seq (.region [⟨some 23, .move (.tmp 7), none⟩,
      ⟨some 24, .un .not (.tmp 23), none⟩,
      ⟨some 25, .move (.tmp 24), none⟩,
      ⟨some 26, .move (.tmp 8), some (25, false)⟩,
      ⟨some 27, .bin .eql .ptr (.tmp 26) (.const .nilp), some (25, false)⟩,
      ⟨some 28, .pick (.tmp 25) (.const (.bool true)) (.tmp 27), none⟩,
      ⟨some 29, .move (.tmp 28), none⟩,
      ⟨some 30, .load true 2 (.tmp 5), some (29, false)⟩,
      ⟨some 31, .call (.func 15) [(.tmp 30)], some (29, false)⟩,
      ⟨some 32, .un .not (.tmp 31), some (29, false)⟩,
      ⟨some 33, .pick (.tmp 29) (.const (.bool true)) (.tmp 32), none⟩])
   (.keep [1, 3, 5, 8, 33] [3, 5] (.cond (.tmp 33)
    (.seq (.region [⟨some 34, .move (.tmp 8), none⟩,
       ⟨some 35, .bin .neq .ptr (.tmp 34) (.const .nilp), none⟩,
       ⟨some 6, .move (.tmp 35), none⟩])
    (.keep [6] [] (.ret)))
    (.skip))))
  (.keep [1, 3, 5, 8] [3, 5] (.seq (.region [⟨some 36, .load true 2 (.tmp 3), none⟩,
     ⟨some 9, .alloc true 2 [(.int .i64 0), (.int .i64 0)], none⟩,
     ⟨none, .store 2 (.tmp 9) (.tmp 36), none⟩])
  (.keep [1, 3, 5, 8, 9] [3, 5, 9] (.seq (.region [⟨some 37, .load true 2 (.tmp 3), none⟩,
     ⟨some 10, .alloc true 2 [(.int .i64 0), (.int .i64 0)], none⟩,
     ⟨none, .store 2 (.tmp 10) (.tmp 37), none⟩])
  (.keep [1, 3, 5, 8, 9, 10] [3, 5, 9, 10] (.seq (.region [⟨some 11, .move (.const .nils), none⟩])
  (.keep [1, 3, 5, 8, 9, 10, 11] [3, 5, 9, 10] (.seq (.region [⟨some 38, .move (.tmp 11), none⟩,
     ⟨some 39, .load true 2 (.tmp 3), none⟩,
     ⟨some 40, .buildSlice 2 1 [(.int .i64 0), (.int .i64 0)] [(0, 2, (.tmp 39))], none⟩,
     ⟨some 41, .append 2 16 (.tmp 38) (.tmp 40), none⟩,
     ⟨some 11, .move (.tmp 41), none⟩])
  (.keep [1, 5, 8, 9, 10, 11] [5, 9, 10] (.seq (.seq (.region [⟨some 12, .move (.const (.int .i64 0)), none⟩])
   (.keep [1, 5, 8, 9, 10, 11, 12] [5, 9, 10] (.block 0 (.loop L4_1))))
  (.keep [] [] (.seq (.region [⟨some 138, .call (.func 19) [], none⟩,
     ⟨some 6, .move (.tmp 138), none⟩])
  (.keep [6] [] (.ret))))))))))))))))))))⟩
/-- (*wampum/cache.Cache).Raise -/
def F22 : FnIR := ⟨30, 2, [.tmp 4], [3],
  .seq (.region [⟨some 2, .box false 1 (.tmp 0), none⟩,
     ⟨some 3, .box true 2 (.tmp 1), none⟩,
     ⟨some 4, .move (.const (.int .i64 0)), none⟩])
  (.keep [2, 3] [3] (.seq (.block 0 (.seq (.region [⟨some 6, .load false 1 (.tmp 2), none⟩,
       ⟨some 7, .bin .eql .ptr (.tmp 6) (.const .nilp), none⟩,
       ⟨some 5, .move (.tmp 7), none⟩])
    (.keep [2, 3, 5] [3] (.cond (.tmp 5)
     (.seq (.region [⟨some 4, .move (.const (.int .i64 1)), none⟩])
     (.keep [4] [] (.ret)))
     (.seq (.region [⟨some 9, .load true 2 (.tmp 3), none⟩,
        ⟨some 10, .call (.func 41) [(.tmp 9)], none⟩,
        ⟨some 11, .un .not (.tmp 10), none⟩,
        ⟨some 8, .move (.tmp 11), none⟩])
     (.keep [2, 3, 8] [3] (.cond (.tmp 8)
      (.seq (.region [⟨some 4, .move (.const (.int .i64 31)), none⟩])
      (.keep [4] [] (.ret)))
      (.skip))))))))
  (.keep [2, 3] [3] (.seq (.regionD [⟨some 13, .load false 1 (.tmp 2), none⟩,
     ⟨some 14, .nilCheck (.tmp 13), none⟩,
     ⟨some 15, .fieldAddr 0 (.tmp 14), none⟩,
     ⟨some 16, .load true 2 (.tmp 15), none⟩,
     ⟨some 17, .load true 2 (.tmp 3), none⟩,
     ⟨some 18, .call (.func 18) [(.tmp 16), (.tmp 17)], none⟩,
     ⟨some 12, .load false 1 (.tmp 2), none⟩,
     ⟨some 19, .nilCheck (.tmp 12), none⟩,
     ⟨some 20, .fieldAddr 0 (.tmp 19), none⟩,
     ⟨none, .store 2 (.tmp 20) (.tmp 18), none⟩] [(6, 0)])
  (.keep [2] [] (.seq (.regionD [⟨some 22, .load false 1 (.tmp 2), none⟩,
     ⟨some 23, .nilCheck (.tmp 22), none⟩,
     ⟨some 24, .fieldAddr 2 (.tmp 23), none⟩,
     ⟨some 25, .load false 1 (.tmp 24), none⟩,
     ⟨some 26, .mkFunc (.func 44) [] [(.tmp 2)], none⟩,
     ⟨some 27, .call (.func 43) [(.tmp 25), (.tmp 26)], none⟩,
     ⟨some 21, .load false 1 (.tmp 2), none⟩,
     ⟨some 28, .nilCheck (.tmp 21), none⟩,
     ⟨some 29, .fieldAddr 2 (.tmp 28), none⟩,
     ⟨none, .store 1 (.tmp 29) (.tmp 27), none⟩] [(6, 0)])
  (.keep [] [] (.seq (.region [⟨some 4, .move (.const (.int .i64 0)), none⟩])
  (.keep [4] [] (.ret))))))))))⟩
/-- (*wampum/cache.Cache).Raise$1 -/
def F44 : FnIR := ⟨12, 2, [.tmp 3], [2],
  .seq (.region [⟨some 2, .box true 4 (.tmp 0), none⟩,
     ⟨some 3, .move (.const (.bool false)), none⟩])
  (.keep [1, 2] [2] (.seq (.regionD [⟨some 4, .load false 1 (.tmp 1), none⟩,
     ⟨some 5, .nilCheck (.tmp 4), none⟩,
     ⟨some 6, .fieldAddr 0 (.tmp 5), none⟩,
     ⟨some 7, .load true 2 (.tmp 6), none⟩,
     ⟨some 8, .fieldAddr 2 (.tmp 2), none⟩,
     ⟨some 9, .load true 2 (.tmp 8), none⟩,
     ⟨some 10, .call (.func 23) [(.tmp 7), (.tmp 9)], none⟩,
     ⟨some 11, .un .not (.tmp 10), none⟩,
     ⟨some 3, .move (.tmp 11), none⟩] [])
  (.keep [3] [] (.ret))))⟩
/-- slices.DeleteFunc[[]wampum/cache.seen,wampum/cache.seen] -/
def L43_0 : IC :=
  .keep [0, 1, 5, 6] [] (.seq (.seq (.region [⟨some 16, .move (.tmp 6), none⟩,
      ⟨some 17, .move (.tmp 0), none⟩,
      ⟨some 18, .len .slice (.tmp 17), none⟩,
      ⟨some 19, .bin .lss .none (.tmp 16) (.tmp 18), none⟩])
   (.keep [0, 1, 5, 6, 19] [] (.cond (.tmp 19)
    (.skip)
    (.exit 0))))
  (.keep [0, 1, 5, 6] [] (.seq (.block 1 (.seq (.region [⟨some 22, .move (.tmp 0), none⟩,
       ⟨some 23, .move (.tmp 6), none⟩,
       ⟨some 24, .indexAddr none 4 (.tmp 22) (.tmp 23), none⟩,
       ⟨some 25, .load true 4 (.tmp 24), none⟩,
       ⟨some 7, .alloc true 4 [(.str []), (.str []), (.int .i64 0), (.int .i64 0)], none⟩,
       ⟨none, .store 4 (.tmp 7) (.tmp 25), none⟩])
    (.keep [0, 1, 5, 6, 7] [7] (.seq (.region [⟨some 26, .move (.tmp 1), none⟩,
       ⟨some 27, .load true 4 (.tmp 7), none⟩,
       ⟨some 28, .call (.tmp 26) [(.tmp 27)], none⟩,
       ⟨some 29, .un .not (.tmp 28), none⟩])
    (.keep [0, 1, 5, 6, 7, 29] [7] (.cond (.tmp 29)
     (.seq (.region [⟨some 30, .move (.tmp 0), none⟩,
        ⟨some 31, .move (.tmp 5), none⟩,
        ⟨some 32, .load true 4 (.tmp 7), none⟩,
        ⟨some 33, .indexAddr none 4 (.tmp 30) (.tmp 31), none⟩,
        ⟨none, .store 4 (.tmp 33) (.tmp 32), none⟩])
     (.keep [0, 1, 5, 6] [] (.region [⟨some 34, .move (.tmp 5), none⟩,
       ⟨some 35, .bin .add .none (.tmp 34) (.const (.int .i64 1)), none⟩,
       ⟨some 5, .move (.tmp 35), none⟩])))
     (.skip)))))))
  (.keep [0, 1, 5, 6] [] (.region [⟨some 20, .move (.tmp 6), none⟩,
    ⟨some 21, .bin .add .none (.tmp 20) (.const (.int .i64 1)), none⟩,
    ⟨some 6, .move (.tmp 21), none⟩])))))
def F43 : FnIR := ⟨42, 2, [.tmp 4], [7],
  .seq (.region [⟨some 4, .move (.const .nils), none⟩])
  (.keep [0, 1] [] (.seq (.region [⟨some 8, .move (.tmp 0), none⟩,
     ⟨some 9, .move (.tmp 1), none⟩,
     ⟨some 10, .call (.func 59) [(.tmp 8), (.tmp 9)], none⟩,
     ⟨some 5, .move (.tmp 10), none⟩])
  (.keep [0, 1, 5] [] (.seq (.seq (.region [⟨some 11, .move (.tmp 5), none⟩,
      ⟨some 12, .bin .eql .int (.tmp 11) (.const (.int .i64 (-1))), none⟩])
   (.keep [0, 1, 5, 12] [] (.cond (.tmp 12)
    (.seq (.region [⟨some 13, .move (.tmp 0), none⟩,
       ⟨some 4, .move (.tmp 13), none⟩])
    (.keep [4] [] (.ret)))
    (.skip))))
  (.keep [0, 1, 5] [] (.seq (.seq (.region [⟨some 14, .move (.tmp 5), none⟩,
      ⟨some 15, .bin .add .none (.tmp 14) (.const (.int .i64 1)), none⟩,
      ⟨some 6, .move (.tmp 15), none⟩])
   (.keep [0, 1, 5, 6] [] (.block 0 (.loop L43_0))))
  (.keep [0, 5] [] (.seq (.region [⟨some 36, .move (.tmp 0), none⟩,
     ⟨some 37, .move (.tmp 5), none⟩,
     ⟨some 38, .slice (.slice 4) (.tmp 36) (some (.tmp 37)) none none, none⟩,
     ⟨none, .clear 4 [(.str []), (.str []), (.int .i64 0), (.int .i64 0)] (.tmp 38), none⟩])
  (.keep [0, 5] [] (.seq (.region [⟨some 39, .move (.tmp 0), none⟩,
     ⟨some 40, .move (.tmp 5), none⟩,
     ⟨some 41, .slice (.slice 4) (.tmp 39) none (some (.tmp 40)) none, none⟩,
     ⟨some 4, .move (.tmp 41), none⟩])
  (.keep [4] [] (.ret))))))))))))⟩
/-- slices.IndexFunc[[]wampum/cache.seen,wampum/cache.seen] -/
def L59_0 : IC :=
  .keep [0, 1, 7, 8] [] (.seq (.region [⟨some 9, .bin .lss .none (.tmp 8) (.tmp 7), none⟩])
  (.keep [0, 1, 7, 8, 9] [] (.seq (.cond (.tmp 9)
    (.skip)
    (.exit 0))
  (.keep [0, 1, 7, 8] [] (.seq (.block 1 (.seq (.region [⟨some 10, .move (.tmp 8), none⟩,
       ⟨some 5, .move (.tmp 10), none⟩])
    (.keep [0, 1, 5, 7, 8] [] (.seq (.region [⟨some 11, .move (.tmp 1), none⟩,
       ⟨some 12, .move (.tmp 0), none⟩,
       ⟨some 13, .move (.tmp 5), none⟩,
       ⟨some 14, .indexAddr none 4 (.tmp 12) (.tmp 13), none⟩,
       ⟨some 15, .load true 4 (.tmp 14), none⟩,
       ⟨some 16, .call (.tmp 11) [(.tmp 15)], none⟩])
    (.keep [0, 1, 5, 7, 8, 16] [] (.cond (.tmp 16)
     (.seq (.region [⟨some 17, .move (.tmp 5), none⟩,
        ⟨some 4, .move (.tmp 17), none⟩])
     (.keep [4] [] (.ret)))
     (.skip)))))))
  (.keep [0, 1, 7, 8] [] (.region [⟨some 18, .bin .add .none (.tmp 8) (.const (.int .i64 1)), none⟩,
    ⟨some 8, .move (.tmp 18), none⟩])))))))
def F59 : FnIR := ⟨19, 2, [.tmp 4], [],
  .seq (.region [⟨some 4, .move (.const (.int .i64 0)), none⟩])
  (.keep [0, 1] [] (.seq (.seq (.region [⟨some 6, .move (.tmp 0), none⟩,
      ⟨some 7, .len .slice (.tmp 6), none⟩,
      ⟨some 8, .move (.const (.int .i64 0)), none⟩])
   (.keep [0, 1, 7, 8] [] (.block 0 (.loop L59_0))))
  (.keep [] [] (.seq (.region [⟨some 4, .move (.const (.int .i64 (-1))), none⟩])
  (.keep [4] [] (.ret))))))⟩
/-- wampum/wampumlaw10.CachePlays -/
def L5_0 : IC :=
  .keep [1, 5, 6, 7] [] (.seq (.seq (.region [⟨some 15, .move (.tmp 7), none⟩,
      ⟨some 16, .move (.tmp 1), none⟩,
      ⟨some 17, .len .slice (.tmp 16), none⟩,
      ⟨some 18, .bin .lss .none (.tmp 15) (.tmp 17), none⟩,
      ⟨some 19, .move (.tmp 18), none⟩,
      ⟨some 20, .move (.tmp 7), some (19, true)⟩,
      ⟨some 21, .bin .lss .none (.tmp 20) (.const (.int .i64 100)), some (19, true)⟩,
      ⟨some 22, .pick (.tmp 19) (.tmp 21) (.const (.bool false)), none⟩])
   (.keep [1, 5, 6, 7, 22] [] (.cond (.tmp 22)
    (.skip)
    (.exit 0))))
  (.keep [1, 5, 6, 7] [] (.seq (.block 1 (.seq (.region [⟨some 25, .move (.tmp 1), none⟩,
       ⟨some 26, .move (.tmp 7), none⟩,
       ⟨some 27, .indexAddr none 5 (.tmp 25) (.tmp 26), none⟩,
       ⟨some 28, .load true 5 (.tmp 27), none⟩,
       ⟨some 8, .alloc true 5 [(.int .i64 0), (.str []), (.str []), (.int .i64 0), (.int .i64 0)], none⟩,
       ⟨none, .store 5 (.tmp 8) (.tmp 28), none⟩])
    (.keep [1, 5, 6, 7, 8] [8] (.seq (.region [⟨some 29, .fieldAddr 1 (.tmp 8), none⟩,
       ⟨some 30, .load true 2 (.tmp 29), none⟩,
       ⟨some 31, .call (.func 13) [(.tmp 30)], none⟩,
       ⟨some 9, .move (.tmp 31), none⟩])
    (.keep [1, 5, 6, 7, 8, 9] [8] (.seq (.seq (.region [⟨some 32, .move (.tmp 9), none⟩,
        ⟨some 33, .un .not (.tmp 32), none⟩])
     (.keep [1, 5, 6, 7, 8, 33] [8] (.cond (.tmp 33)
      (.exit 1)
      (.skip))))
    (.keep [1, 5, 6, 7, 8] [8] (.seq (.seq (.regionD [⟨some 34, .fieldAddr 0 (.tmp 8), none⟩,
        ⟨some 35, .load false 1 (.tmp 34), none⟩,
        ⟨some 36, .bin .eql .int (.tmp 35) (.const (.int .i64 1)), none⟩,
        ⟨some 37, .move (.tmp 36), none⟩,
        ⟨some 38, .move (.tmp 5), some (37, true)⟩,
        ⟨some 39, .fieldAddr 1 (.tmp 8), some (37, true)⟩,
        ⟨some 40, .load true 2 (.tmp 39), some (37, true)⟩,
        ⟨some 41, .fieldAddr 3 (.tmp 8), some (37, true)⟩,
        ⟨some 42, .load true 2 (.tmp 41), some (37, true)⟩,
        ⟨some 43, .call (.func 16) [(.tmp 38), (.tmp 40), (.tmp 42)], some (37, true)⟩,
        ⟨some 44, .move (.tmp 6), some (37, true)⟩,
        ⟨some 45, .fieldAddr 1 (.tmp 8), some (37, true)⟩,
        ⟨some 46, .load true 2 (.tmp 45), some (37, true)⟩,
        ⟨some 47, .fieldAddr 3 (.tmp 8), some (37, true)⟩,
        ⟨some 48, .load true 2 (.tmp 47), some (37, true)⟩,
        ⟨some 49, .call (.func 25) [(.tmp 44), (.tmp 46), (.tmp 48)], some (37, true)⟩,
        ⟨some 50, .bin .neq .int (.tmp 43) (.tmp 49), some (37, true)⟩,
        ⟨some 51, .pick (.tmp 37) (.tmp 50) (.const (.bool false)), none⟩,
        ⟨some 52, .move (.tmp 51), none⟩,
        ⟨some 53, .fieldAddr 0 (.tmp 8), some (52, false)⟩,
        ⟨some 54, .load false 1 (.tmp 53), some (52, false)⟩,
        ⟨some 55, .bin .eql .int (.tmp 54) (.const (.int .i64 2)), some (52, false)⟩,
        ⟨some 56, .move (.tmp 55), some (52, false)⟩,
        ⟨some 57, .move (.tmp 5), some (56, true)⟩,
        ⟨some 58, .fieldAddr 3 (.tmp 8), some (56, true)⟩,
        ⟨some 59, .load true 2 (.tmp 58), some (56, true)⟩,
        ⟨some 60, .call (.func 22) [(.tmp 57), (.tmp 59)], some (56, true)⟩,
        ⟨some 61, .move (.tmp 6), some (56, true)⟩,
        ⟨some 62, .fieldAddr 3 (.tmp 8), some (56, true)⟩,
        ⟨some 63, .load true 2 (.tmp 62), some (56, true)⟩,
        ⟨some 64, .call (.func 26) [(.tmp 61), (.tmp 63)], some (56, true)⟩,
        ⟨some 65, .bin .neq .int (.tmp 60) (.tmp 64), some (56, true)⟩,
        ⟨some 66, .pick (.tmp 56) (.tmp 65) (.const (.bool false)), some (52, false)⟩,
        ⟨some 67, .pick (.tmp 52) (.const (.bool true)) (.tmp 66), none⟩] [(12, 0), (14, 0), (29, 16)])
     (.keep [1, 5, 6, 7, 8, 67] [8] (.cond (.tmp 67)
      (.seq (.region [⟨some 4, .move (.const (.bool false)), none⟩])
      (.keep [4] [] (.ret)))
      (.skip))))
    (.keep [1, 5, 6, 7, 8] [8] (.seq (.regionD [⟨some 68, .move (.tmp 5), none⟩,
       ⟨some 69, .call (.func 21) [(.tmp 68)], none⟩,
       ⟨some 70, .move (.tmp 6), none⟩,
       ⟨some 71, .nilCheck (.tmp 70), none⟩,
       ⟨some 72, .fieldAddr 0 (.tmp 71), none⟩,
       ⟨some 73, .load true 2 (.tmp 72), none⟩,
       ⟨some 74, .bin .neq (.struct [(0, false, 1, .int), (1, false, 1, .int)]) (.tmp 69) (.tmp 73), none⟩,
       ⟨some 75, .move (.tmp 74), none⟩,
       ⟨some 76, .move (.tmp 5), some (75, false)⟩,
       ⟨some 77, .call (.func 24) [(.tmp 76)], some (75, false)⟩,
       ⟨some 78, .move (.tmp 6), some (75, false)⟩,
       ⟨some 79, .nilCheck (.tmp 78), some (75, false)⟩,
       ⟨some 80, .fieldAddr 2 (.tmp 79), some (75, false)⟩,
       ⟨some 81, .load false 1 (.tmp 80), some (75, false)⟩,
       ⟨some 82, .len .slice (.tmp 81), some (75, false)⟩,
       ⟨some 83, .bin .neq .int (.tmp 77) (.tmp 82), some (75, false)⟩,
       ⟨some 84, .pick (.tmp 75) (.const (.bool true)) (.tmp 83), none⟩,
       ⟨some 85, .move (.tmp 84), none⟩,
       ⟨some 86, .move (.tmp 5), some (85, false)⟩,
       ⟨some 87, .fieldAddr 1 (.tmp 8), some (85, false)⟩,
       ⟨some 88, .load true 2 (.tmp 87), some (85, false)⟩,
       ⟨some 89, .call (.func 20) [(.tmp 86), (.tmp 88)], some (85, false)⟩,
       ⟨some 90, .move (.tmp 6), some (85, false)⟩,
       ⟨some 91, .fieldAddr 1 (.tmp 8), some (85, false)⟩,
       ⟨some 92, .load true 2 (.tmp 91), some (85, false)⟩,
       ⟨some 93, .call (.func 27) [(.tmp 90), (.tmp 92)], some (85, false)⟩,
       ⟨some 94, .bin .neq (.struct [(0, false, 1, .int), (1, false, 1, .int)]) (.tmp 89) (.tmp 93), some (85, false)⟩,
       ⟨some 95, .pick (.tmp 85) (.const (.bool true)) (.tmp 94), none⟩,
       ⟨some 96, .move (.tmp 95), none⟩,
       ⟨some 97, .move (.tmp 5), some (96, false)⟩,
       ⟨some 98, .build [(.str []), (.str [])] [(0, 1, (.const (.str [97]))), (1, 1, (.const (.str [123])))], some (96, false)⟩,
       ⟨some 99, .call (.func 20) [(.tmp 97), (.tmp 98)], some (96, false)⟩,
       ⟨some 100, .move (.tmp 6), some (96, false)⟩,
       ⟨some 101, .build [(.str []), (.str [])] [(0, 1, (.const (.str [97]))), (1, 1, (.const (.str [123])))], some (96, false)⟩,
       ⟨some 102, .call (.func 27) [(.tmp 100), (.tmp 101)], some (96, false)⟩,
       ⟨some 103, .bin .neq (.struct [(0, false, 1, .int), (1, false, 1, .int)]) (.tmp 99) (.tmp 102), some (96, false)⟩,
       ⟨some 104, .pick (.tmp 96) (.const (.bool true)) (.tmp 103), none⟩] [(5, 0), (13, 2), (24, 10)])
    (.keep [1, 5, 6, 7, 104] [] (.cond (.tmp 104)
     (.seq (.region [⟨some 4, .move (.const (.bool false)), none⟩])
     (.keep [4] [] (.ret)))
     (.skip)))))))))))))
  (.keep [1, 5, 6, 7] [] (.region [⟨some 23, .move (.tmp 7), none⟩,
    ⟨some 24, .bin .add .none (.tmp 23) (.const (.int .i64 1)), none⟩,
    ⟨some 7, .move (.tmp 24), none⟩])))))
def F5 : FnIR := ⟨106, 2, [.tmp 4], [2, 8],
  .seq (.region [⟨some 2, .box true 2 (.tmp 0), none⟩,
     ⟨some 4, .move (.const (.bool false)), none⟩])
  (.keep [1, 2] [2] (.seq (.region [⟨some 10, .load true 2 (.tmp 2), none⟩,
     ⟨some 11, .call (.func 14) [(.tmp 10)], none⟩,
     ⟨some 5, .move (.tmp 11), none⟩])
  (.keep [1, 2, 5] [2] (.seq (.region [⟨some 12, .load true 2 (.tmp 2), none⟩,
     ⟨some 13, .build [(.int .i64 0), (.int .i64 0), .nils] [(0, 2, (.tmp 12))], none⟩,
     ⟨some 14, .box false 3 (.tmp 13), none⟩,
     ⟨some 6, .move (.tmp 14), none⟩])
  (.keep [1, 5, 6] [] (.seq (.seq (.region [⟨some 7, .move (.const (.int .i64 0)), none⟩])
   (.keep [1, 5, 6, 7] [] (.block 0 (.loop L5_0))))
  (.keep [] [] (.seq (.region [⟨some 105, .call (.func 19) [], none⟩,
     ⟨some 4, .move (.tmp 105), none⟩])
  (.keep [4] [] (.ret))))))))))⟩
/-- (*wampum/wampumref10.Cache).Add -/
def L25_0 : IC :=
  .keep [0, 10, 11] [] (.seq (.seq (.region [⟨some 49, .move (.tmp 11), none⟩,
      ⟨some 50, .move (.tmp 0), none⟩,
      ⟨some 51, .nilCheck (.tmp 50), none⟩,
      ⟨some 52, .fieldAddr 2 (.tmp 51), none⟩,
      ⟨some 53, .load false 1 (.tmp 52), none⟩,
      ⟨some 54, .len .slice (.tmp 53), none⟩,
      ⟨some 55, .bin .lss .none (.tmp 49) (.tmp 54), none⟩])
   (.keep [0, 10, 11, 55] [] (.cond (.tmp 55)
    (.skip)
    (.exit 0))))
  (.keep [0, 10, 11] [] (.seq (.block 1 (.seq (.regionD [⟨some 58, .move (.tmp 0), none⟩,
       ⟨some 59, .nilCheck (.tmp 58), none⟩,
       ⟨some 60, .fieldAddr 2 (.tmp 59), none⟩,
       ⟨some 61, .load false 1 (.tmp 60), none⟩,
       ⟨some 62, .move (.tmp 11), none⟩,
       ⟨some 63, .indexAddr none 4 (.tmp 61) (.tmp 62), none⟩,
       ⟨some 64, .fieldAddr 2 (.tmp 63), none⟩,
       ⟨some 65, .load true 2 (.tmp 64), none⟩,
       ⟨some 66, .move (.tmp 0), none⟩,
       ⟨some 67, .nilCheck (.tmp 66), none⟩,
       ⟨some 68, .fieldAddr 2 (.tmp 67), none⟩,
       ⟨some 69, .load false 1 (.tmp 68), none⟩,
       ⟨some 70, .move (.tmp 10), none⟩,
       ⟨some 71, .indexAddr none 4 (.tmp 69) (.tmp 70), none⟩,
       ⟨some 72, .fieldAddr 2 (.tmp 71), none⟩,
       ⟨some 73, .load true 2 (.tmp 72), none⟩,
       ⟨some 74, .call (.func 47) [(.tmp 65), (.tmp 73)], none⟩] [])
    (.keep [0, 10, 11, 74] [] (.cond (.tmp 74)
     (.region [⟨some 75, .move (.tmp 11), none⟩,
       ⟨some 10, .move (.tmp 75), none⟩])
     (.skip)))))
  (.keep [0, 10, 11] [] (.region [⟨some 56, .move (.tmp 11), none⟩,
    ⟨some 57, .bin .add .none (.tmp 56) (.const (.int .i64 1)), none⟩,
    ⟨some 11, .move (.tmp 57), none⟩])))))
def F25 : FnIR := ⟨113, 3, [.tmp 6], [4, 5],
  .seq (.region [⟨some 4, .box true 2 (.tmp 1), none⟩,
     ⟨some 5, .box true 2 (.tmp 2), none⟩,
     ⟨some 6, .move (.const (.int .i64 0)), none⟩])
  (.keep [0, 4, 5] [4, 5] (.seq (.region [⟨some 13, .load true 2 (.tmp 4), none⟩,
     ⟨some 14, .call (.func 15) [(.tmp 13)], none⟩,
     ⟨some 7, .move (.tmp 14), none⟩])
  (.keep [0, 4, 5, 7] [4, 5] (.seq (.region [⟨some 15, .load true 2 (.tmp 5), none⟩,
     ⟨some 16, .call (.func 46) [(.tmp 15)], none⟩,
     ⟨some 8, .move (.tmp 16), none⟩])
  (.keep [0, 4, 5, 7, 8] [4, 5] (.seq (.seq (.region [⟨some 17, .move (.tmp 7), none⟩,
      ⟨some 18, .un .not (.tmp 17), none⟩])
   (.keep [0, 4, 5, 8, 18] [4, 5] (.cond (.tmp 18)
    (.seq (.region [⟨some 6, .move (.const (.int .i64 51)), none⟩])
    (.keep [6] [] (.ret)))
    (.skip))))
  (.keep [0, 4, 5, 8] [4, 5] (.seq (.seq (.region [⟨some 19, .move (.tmp 8), none⟩,
      ⟨some 20, .un .not (.tmp 19), none⟩])
   (.keep [0, 4, 5, 20] [4, 5] (.cond (.tmp 20)
    (.seq (.region [⟨some 6, .move (.const (.int .i64 31)), none⟩])
    (.keep [6] [] (.ret)))
    (.skip))))
  (.keep [0, 4, 5] [4, 5] (.seq (.regionD [⟨some 21, .move (.tmp 0), none⟩,
     ⟨some 22, .nilCheck (.tmp 21), none⟩,
     ⟨some 23, .fieldAddr 0 (.tmp 22), none⟩,
     ⟨some 24, .load true 2 (.tmp 23), none⟩,
     ⟨some 25, .load true 2 (.tmp 5), none⟩,
     ⟨some 26, .call (.func 47) [(.tmp 24), (.tmp 25)], none⟩,
     ⟨some 9, .move (.tmp 26), none⟩] [])
  (.keep [0, 4, 5, 9] [4, 5] (.seq (.seq (.region [⟨some 27, .move (.tmp 9), none⟩,
      ⟨some 28, .un .not (.tmp 27), none⟩])
   (.keep [0, 4, 5, 28] [4, 5] (.cond (.tmp 28)
    (.seq (.region [⟨some 6, .move (.const (.int .i64 0)), none⟩])
    (.keep [6] [] (.ret)))
    (.skip))))
  (.keep [0, 4, 5] [4, 5] (.seq (.regionD [⟨some 30, .buildSlice 4 0 [] [], none⟩,
     ⟨some 31, .move (.tmp 0), none⟩,
     ⟨some 32, .nilCheck (.tmp 31), none⟩,
     ⟨some 33, .fieldAddr 2 (.tmp 32), none⟩,
     ⟨some 34, .load false 1 (.tmp 33), none⟩,
     ⟨some 35, .append 4 48 (.tmp 30) (.tmp 34), none⟩,
     ⟨some 36, .load true 2 (.tmp 4), none⟩,
     ⟨some 37, .load true 2 (.tmp 5), none⟩,
     ⟨some 38, .build [(.str []), (.str []), (.int .i64 0), (.int .i64 0)] [(0, 2, (.tmp 36)), (2, 2, (.tmp 37))], none⟩,
     ⟨some 39, .buildSlice 4 1 [(.str []), (.str []), (.int .i64 0), (.int .i64 0)] [(0, 4, (.tmp 38))], none⟩,
     ⟨some 40, .append 4 48 (.tmp 35) (.tmp 39), none⟩,
     ⟨some 29, .move (.tmp 0), none⟩,
     ⟨some 41, .nilCheck (.tmp 29), none⟩,
     ⟨some 42, .fieldAddr 2 (.tmp 41), none⟩,
     ⟨none, .store 1 (.tmp 42) (.tmp 40), none⟩] [(4, 0), (6, 0), (7, 0)])
  (.keep [0] [] (.seq (.seq (.region [⟨some 43, .move (.tmp 0), none⟩,
      ⟨some 44, .nilCheck (.tmp 43), none⟩,
      ⟨some 45, .fieldAddr 2 (.tmp 44), none⟩,
      ⟨some 46, .load false 1 (.tmp 45), none⟩,
      ⟨some 47, .len .slice (.tmp 46), none⟩,
      ⟨some 48, .bin .leq .none (.tmp 47) (.const (.int .i64 16)), none⟩])
   (.keep [0, 48] [] (.cond (.tmp 48)
    (.seq (.region [⟨some 6, .move (.const (.int .i64 0)), none⟩])
    (.keep [6] [] (.ret)))
    (.skip))))
  (.keep [0] [] (.seq (.region [⟨some 10, .move (.const (.int .i64 0)), none⟩])
  (.keep [0, 10] [] (.seq (.seq (.region [⟨some 11, .move (.const (.int .i64 1)), none⟩])
   (.keep [0, 10, 11] [] (.block 0 (.loop L25_0))))
  (.keep [0, 10] [] (.seq (.regionD [⟨some 77, .move (.tmp 0), none⟩,
     ⟨some 78, .nilCheck (.tmp 77), none⟩,
     ⟨some 79, .fieldAddr 0 (.tmp 78), none⟩,
     ⟨some 80, .load true 2 (.tmp 79), none⟩,
     ⟨some 81, .move (.tmp 0), none⟩,
     ⟨some 82, .nilCheck (.tmp 81), none⟩,
     ⟨some 83, .fieldAddr 2 (.tmp 82), none⟩,
     ⟨some 84, .load false 1 (.tmp 83), none⟩,
     ⟨some 85, .move (.tmp 10), none⟩,
     ⟨some 86, .indexAddr none 4 (.tmp 84) (.tmp 85), none⟩,
     ⟨some 87, .fieldAddr 2 (.tmp 86), none⟩,
     ⟨some 88, .load true 2 (.tmp 87), none⟩,
     ⟨some 89, .call (.func 48) [(.tmp 80), (.tmp 88)], none⟩,
     ⟨some 76, .move (.tmp 0), none⟩,
     ⟨some 90, .nilCheck (.tmp 76), none⟩,
     ⟨some 91, .fieldAddr 0 (.tmp 90), none⟩,
     ⟨none, .store 2 (.tmp 91) (.tmp 89), none⟩] [])
  (.keep [0, 10] [] (.seq (.region [⟨some 92, .buildSlice 4 0 [] [], none⟩,
     ⟨some 93, .move (.tmp 0), none⟩,
     ⟨some 94, .nilCheck (.tmp 93), none⟩,
     ⟨some 95, .fieldAddr 2 (.tmp 94), none⟩,
     ⟨some 96, .load false 1 (.tmp 95), none⟩,
     ⟨some 97, .move (.tmp 10), none⟩,
     ⟨some 98, .slice (.slice 4) (.tmp 96) none (some (.tmp 97)) none, none⟩,
     ⟨some 99, .append 4 48 (.tmp 92) (.tmp 98), none⟩,
     ⟨some 12, .move (.tmp 99), none⟩])
  (.keep [0, 10, 12] [] (.seq (.region [⟨some 100, .move (.tmp 12), none⟩,
     ⟨some 101, .move (.tmp 0), none⟩,
     ⟨some 102, .nilCheck (.tmp 101), none⟩,
     ⟨some 103, .fieldAddr 2 (.tmp 102), none⟩,
     ⟨some 104, .load false 1 (.tmp 103), none⟩,
     ⟨some 105, .move (.tmp 10), none⟩,
     ⟨some 106, .bin .add .none (.tmp 105) (.const (.int .i64 1)), none⟩,
     ⟨some 107, .slice (.slice 4) (.tmp 104) (some (.tmp 106)) none none, none⟩,
     ⟨some 108, .append 4 48 (.tmp 100) (.tmp 107), none⟩,
     ⟨some 12, .move (.tmp 108), none⟩])
  (.keep [0, 12] [] (.seq (.region [⟨some 109, .move (.tmp 0), none⟩,
     ⟨some 110, .move (.tmp 12), none⟩,
     ⟨some 111, .nilCheck (.tmp 109), none⟩,
     ⟨some 112, .fieldAddr 2 (.tmp 111), none⟩,
     ⟨none, .store 1 (.tmp 112) (.tmp 110), none⟩])
  (.keep [] [] (.seq (.region [⟨some 6, .move (.const (.int .i64 0)), none⟩])
  (.keep [6] [] (.ret))))))))))))))))))))))))))))))))⟩
/-- wampum/wampumref03.Right -/
def F46 : FnIR := ⟨21, 1, [.tmp 2], [1],
  .seq (.region [⟨some 1, .box true 2 (.tmp 0), none⟩,
     ⟨some 2, .move (.const (.bool false)), none⟩])
  (.keep [1] [1] (.seq (.region [⟨some 3, .fieldAddr 0 (.tmp 1), none⟩,
     ⟨some 4, .load false 1 (.tmp 3), none⟩,
     ⟨some 5, .bin .geq .none (.tmp 4) (.const (.int .i64 0)), none⟩,
     ⟨some 6, .move (.tmp 5), none⟩,
     ⟨some 7, .fieldAddr 0 (.tmp 1), some (6, true)⟩,
     ⟨some 8, .load false 1 (.tmp 7), some (6, true)⟩,
     ⟨some 9, .bin .leq .none (.tmp 8) (.const (.int .i64 1099511627776)), some (6, true)⟩,
     ⟨some 10, .pick (.tmp 6) (.tmp 9) (.const (.bool false)), none⟩,
     ⟨some 11, .move (.tmp 10), none⟩,
     ⟨some 12, .fieldAddr 1 (.tmp 1), some (11, true)⟩,
     ⟨some 13, .load false 1 (.tmp 12), some (11, true)⟩,
     ⟨some 14, .bin .geq .none (.tmp 13) (.const (.int .i64 0)), some (11, true)⟩,
     ⟨some 15, .pick (.tmp 11) (.tmp 14) (.const (.bool false)), none⟩,
     ⟨some 16, .move (.tmp 15), none⟩,
     ⟨some 17, .fieldAddr 1 (.tmp 1), some (16, true)⟩,
     ⟨some 18, .load false 1 (.tmp 17), some (16, true)⟩,
     ⟨some 19, .bin .leq .none (.tmp 18) (.const (.int .i64 65535)), some (16, true)⟩,
     ⟨some 20, .pick (.tmp 16) (.tmp 19) (.const (.bool false)), none⟩,
     ⟨some 2, .move (.tmp 20), none⟩])
  (.keep [2] [] (.ret))))⟩
/-- wampum/wampumref03.Less -/
def F47 : FnIR := ⟨24, 2, [.tmp 4], [2, 3],
  .seq (.region [⟨some 2, .box true 2 (.tmp 0), none⟩,
     ⟨some 3, .box true 2 (.tmp 1), none⟩,
     ⟨some 4, .move (.const (.bool false)), none⟩])
  (.keep [2, 3] [2, 3] (.seq (.region [⟨some 5, .fieldAddr 0 (.tmp 2), none⟩,
     ⟨some 6, .load false 1 (.tmp 5), none⟩,
     ⟨some 7, .fieldAddr 0 (.tmp 3), none⟩,
     ⟨some 8, .load false 1 (.tmp 7), none⟩,
     ⟨some 9, .bin .lss .none (.tmp 6) (.tmp 8), none⟩,
     ⟨some 10, .move (.tmp 9), none⟩,
     ⟨some 11, .fieldAddr 0 (.tmp 2), some (10, false)⟩,
     ⟨some 12, .load false 1 (.tmp 11), some (10, false)⟩,
     ⟨some 13, .fieldAddr 0 (.tmp 3), some (10, false)⟩,
     ⟨some 14, .load false 1 (.tmp 13), some (10, false)⟩,
     ⟨some 15, .bin .eql .int (.tmp 12) (.tmp 14), some (10, false)⟩,
     ⟨some 16, .move (.tmp 15), some (10, false)⟩,
     ⟨some 17, .fieldAddr 1 (.tmp 2), some (16, true)⟩,
     ⟨some 18, .load false 1 (.tmp 17), some (16, true)⟩,
     ⟨some 19, .fieldAddr 1 (.tmp 3), some (16, true)⟩,
     ⟨some 20, .load false 1 (.tmp 19), some (16, true)⟩,
     ⟨some 21, .bin .lss .none (.tmp 18) (.tmp 20), some (16, true)⟩,
     ⟨some 22, .pick (.tmp 16) (.tmp 21) (.const (.bool false)), some (10, false)⟩,
     ⟨some 23, .pick (.tmp 10) (.const (.bool true)) (.tmp 22), none⟩,
     ⟨some 4, .move (.tmp 23), none⟩])
  (.keep [4] [] (.ret))))⟩
/-- wampum/wampumref03.Max -/
def F48 : FnIR := ⟨12, 2, [.cell 4 true 2], [2, 3, 4],
  .seq (.region [⟨some 2, .box true 2 (.tmp 0), none⟩,
     ⟨some 3, .box true 2 (.tmp 1), none⟩,
     ⟨some 4, .alloc true 2 [(.int .i64 0), (.int .i64 0)], none⟩])
  (.keep [2, 3, 4] [2, 3, 4] (.seq (.region [⟨some 6, .load true 2 (.tmp 2), none⟩,
     ⟨some 7, .load true 2 (.tmp 3), none⟩,
     ⟨some 8, .call (.func 47) [(.tmp 6), (.tmp 7)], none⟩,
     ⟨some 5, .move (.tmp 8), none⟩])
  (.keep [2, 3, 4, 5] [2, 3, 4] (.seq (.seq (.region [⟨some 9, .move (.tmp 5), none⟩])
   (.keep [2, 3, 4, 9] [2, 3, 4] (.cond (.tmp 9)
    (.seq (.region [⟨some 10, .load true 2 (.tmp 3), none⟩,
       ⟨none, .store 2 (.tmp 4) (.tmp 10), none⟩])
    (.keep [4] [4] (.ret)))
    (.skip))))
  (.keep [2, 4] [2, 4] (.seq (.region [⟨some 11, .load true 2 (.tmp 2), none⟩,
     ⟨none, .store 2 (.tmp 4) (.tmp 11), none⟩])
  (.keep [4] [4] (.ret))))))))⟩
/-- (*wampum/wampumref10.Cache).Raise -/
def L26_0 : IC :=
  .keep [0, 6, 7] [] (.seq (.seq (.region [⟨some 22, .move (.tmp 7), none⟩,
      ⟨some 23, .move (.tmp 0), none⟩,
      ⟨some 24, .nilCheck (.tmp 23), none⟩,
      ⟨some 25, .fieldAddr 2 (.tmp 24), none⟩,
      ⟨some 26, .load false 1 (.tmp 25), none⟩,
      ⟨some 27, .len .slice (.tmp 26), none⟩,
      ⟨some 28, .bin .lss .none (.tmp 22) (.tmp 27), none⟩])
   (.keep [0, 6, 7, 28] [] (.cond (.tmp 28)
    (.skip)
    (.exit 0))))
  (.keep [0, 6, 7] [] (.seq (.block 1 (.seq (.regionD [⟨some 31, .move (.tmp 0), none⟩,
       ⟨some 32, .nilCheck (.tmp 31), none⟩,
       ⟨some 33, .fieldAddr 0 (.tmp 32), none⟩,
       ⟨some 34, .load true 2 (.tmp 33), none⟩,
       ⟨some 35, .move (.tmp 0), none⟩,
       ⟨some 36, .nilCheck (.tmp 35), none⟩,
       ⟨some 37, .fieldAddr 2 (.tmp 36), none⟩,
       ⟨some 38, .load false 1 (.tmp 37), none⟩,
       ⟨some 39, .move (.tmp 7), none⟩,
       ⟨some 40, .indexAddr none 4 (.tmp 38) (.tmp 39), none⟩,
       ⟨some 41, .fieldAddr 2 (.tmp 40), none⟩,
       ⟨some 42, .load true 2 (.tmp 41), none⟩,
       ⟨some 43, .call (.func 47) [(.tmp 34), (.tmp 42)], none⟩,
       ⟨some 8, .move (.tmp 43), none⟩] [])
    (.keep [0, 6, 7, 8] [] (.seq (.region [⟨some 44, .move (.tmp 8), none⟩])
    (.keep [0, 6, 7, 44] [] (.cond (.tmp 44)
     (.region [⟨some 45, .move (.tmp 6), none⟩,
       ⟨some 46, .move (.tmp 0), none⟩,
       ⟨some 47, .nilCheck (.tmp 46), none⟩,
       ⟨some 48, .fieldAddr 2 (.tmp 47), none⟩,
       ⟨some 49, .load false 1 (.tmp 48), none⟩,
       ⟨some 50, .move (.tmp 7), none⟩,
       ⟨some 51, .indexAddr none 4 (.tmp 49) (.tmp 50), none⟩,
       ⟨some 52, .load true 4 (.tmp 51), none⟩,
       ⟨some 53, .buildSlice 4 1 [(.str []), (.str []), (.int .i64 0), (.int .i64 0)] [(0, 4, (.tmp 52))], none⟩,
       ⟨some 54, .append 4 48 (.tmp 45) (.tmp 53), none⟩,
       ⟨some 6, .move (.tmp 54), none⟩])
     (.skip)))))))
  (.keep [0, 6, 7] [] (.region [⟨some 29, .move (.tmp 7), none⟩,
    ⟨some 30, .bin .add .none (.tmp 29) (.const (.int .i64 1)), none⟩,
    ⟨some 7, .move (.tmp 30), none⟩])))))
def F26 : FnIR := ⟨59, 2, [.tmp 4], [3],
  .seq (.region [⟨some 3, .box true 2 (.tmp 1), none⟩,
     ⟨some 4, .move (.const (.int .i64 0)), none⟩])
  (.keep [0, 3] [3] (.seq (.region [⟨some 9, .load true 2 (.tmp 3), none⟩,
     ⟨some 10, .call (.func 46) [(.tmp 9)], none⟩,
     ⟨some 5, .move (.tmp 10), none⟩])
  (.keep [0, 3, 5] [3] (.seq (.seq (.region [⟨some 11, .move (.tmp 5), none⟩,
      ⟨some 12, .un .not (.tmp 11), none⟩])
   (.keep [0, 3, 12] [3] (.cond (.tmp 12)
    (.seq (.region [⟨some 4, .move (.const (.int .i64 31)), none⟩])
    (.keep [4] [] (.ret)))
    (.skip))))
  (.keep [0, 3] [3] (.seq (.regionD [⟨some 14, .move (.tmp 0), none⟩,
     ⟨some 15, .nilCheck (.tmp 14), none⟩,
     ⟨some 16, .fieldAddr 0 (.tmp 15), none⟩,
     ⟨some 17, .load true 2 (.tmp 16), none⟩,
     ⟨some 18, .load true 2 (.tmp 3), none⟩,
     ⟨some 19, .call (.func 48) [(.tmp 17), (.tmp 18)], none⟩,
     ⟨some 13, .move (.tmp 0), none⟩,
     ⟨some 20, .nilCheck (.tmp 13), none⟩,
     ⟨some 21, .fieldAddr 0 (.tmp 20), none⟩,
     ⟨none, .store 2 (.tmp 21) (.tmp 19), none⟩] [])
  (.keep [0] [] (.seq (.region [⟨some 6, .move (.const .nils), none⟩])
  (.keep [0, 6] [] (.seq (.seq (.region [⟨some 7, .move (.const (.int .i64 0)), none⟩])
   (.keep [0, 6, 7] [] (.block 0 (.loop L26_0))))
  (.keep [0, 6] [] (.seq (.region [⟨some 55, .move (.tmp 0), none⟩,
     ⟨some 56, .move (.tmp 6), none⟩,
     ⟨some 57, .nilCheck (.tmp 55), none⟩,
     ⟨some 58, .fieldAddr 2 (.tmp 57), none⟩,
     ⟨none, .store 1 (.tmp 58) (.tmp 56), none⟩])
  (.keep [] [] (.seq (.region [⟨some 4, .move (.const (.int .i64 0)), none⟩])
  (.keep [4] [] (.ret))))))))))))))))⟩
/-- (*wampum/wampumref10.Cache).Most -/
def L27_0 : IC :=
  .keep [0, 3, 4, 6, 7] [3, 4, 6] (.seq (.seq (.region [⟨some 18, .move (.tmp 7), none⟩,
      ⟨some 19, .move (.tmp 0), none⟩,
      ⟨some 20, .nilCheck (.tmp 19), none⟩,
      ⟨some 21, .fieldAddr 2 (.tmp 20), none⟩,
      ⟨some 22, .load false 1 (.tmp 21), none⟩,
      ⟨some 23, .len .slice (.tmp 22), none⟩,
      ⟨some 24, .bin .lss .none (.tmp 18) (.tmp 23), none⟩])
   (.keep [0, 3, 4, 6, 7, 24] [3, 4, 6] (.cond (.tmp 24)
    (.skip)
    (.exit 0))))
  (.keep [0, 3, 4, 6, 7] [3, 4, 6] (.seq (.block 1 (.seq (.regionD [⟨some 27, .move (.tmp 0), none⟩,
       ⟨some 28, .nilCheck (.tmp 27), none⟩,
       ⟨some 29, .fieldAddr 2 (.tmp 28), none⟩,
       ⟨some 30, .load false 1 (.tmp 29), none⟩,
       ⟨some 31, .move (.tmp 7), none⟩,
       ⟨some 32, .indexAddr none 4 (.tmp 30) (.tmp 31), none⟩,
       ⟨some 33, .fieldAddr 0 (.tmp 32), none⟩,
       ⟨some 34, .load true 2 (.tmp 33), none⟩,
       ⟨some 35, .load true 2 (.tmp 3), none⟩,
       ⟨some 36, .call (.func 17) [(.tmp 34), (.tmp 35)], none⟩,
       ⟨some 8, .move (.tmp 36), none⟩] [])
    (.keep [0, 3, 4, 6, 7, 8] [3, 4, 6] (.seq (.region [⟨some 37, .move (.tmp 8), none⟩])
    (.keep [0, 3, 4, 6, 7, 37] [3, 4, 6] (.cond (.tmp 37)
     (.regionD [⟨some 38, .load true 2 (.tmp 6), none⟩,
       ⟨some 39, .move (.tmp 0), none⟩,
       ⟨some 40, .nilCheck (.tmp 39), none⟩,
       ⟨some 41, .fieldAddr 2 (.tmp 40), none⟩,
       ⟨some 42, .load false 1 (.tmp 41), none⟩,
       ⟨some 43, .move (.tmp 7), none⟩,
       ⟨some 44, .indexAddr none 4 (.tmp 42) (.tmp 43), none⟩,
       ⟨some 45, .fieldAddr 2 (.tmp 44), none⟩,
       ⟨some 46, .load true 2 (.tmp 45), none⟩,
       ⟨some 47, .call (.func 48) [(.tmp 38), (.tmp 46)], none⟩,
       ⟨none, .store 2 (.tmp 6) (.tmp 47), none⟩] [])
     (.skip)))))))
  (.keep [0, 3, 4, 6, 7] [3, 4, 6] (.region [⟨some 25, .move (.tmp 7), none⟩,
    ⟨some 26, .bin .add .none (.tmp 25) (.const (.int .i64 1)), none⟩,
    ⟨some 7, .move (.tmp 26), none⟩])))))
def F27 : FnIR := ⟨49, 2, [.cell 4 true 2], [3, 4, 6],
  .seq (.region [⟨some 3, .box true 2 (.tmp 1), none⟩,
     ⟨some 4, .alloc true 2 [(.int .i64 0), (.int .i64 0)], none⟩])
  (.keep [0, 3, 4] [3, 4] (.seq (.region [⟨some 9, .load true 2 (.tmp 3), none⟩,
     ⟨some 10, .call (.func 15) [(.tmp 9)], none⟩,
     ⟨some 5, .move (.tmp 10), none⟩])
  (.keep [0, 3, 4, 5] [3, 4] (.seq (.seq (.region [⟨some 11, .move (.tmp 5), none⟩,
      ⟨some 12, .un .not (.tmp 11), none⟩])
   (.keep [0, 3, 4, 12] [3, 4] (.cond (.tmp 12)
    (.seq (.region [⟨some 13, .build [(.int .i64 0), (.int .i64 0)] [], none⟩,
       ⟨none, .store 2 (.tmp 4) (.tmp 13), none⟩])
    (.keep [4] [4] (.ret)))
    (.skip))))
  (.keep [0, 3, 4] [3, 4] (.seq (.region [⟨some 14, .move (.tmp 0), none⟩,
     ⟨some 15, .nilCheck (.tmp 14), none⟩,
     ⟨some 16, .fieldAddr 0 (.tmp 15), none⟩,
     ⟨some 17, .load true 2 (.tmp 16), none⟩,
     ⟨some 6, .alloc true 2 [(.int .i64 0), (.int .i64 0)], none⟩,
     ⟨none, .store 2 (.tmp 6) (.tmp 17), none⟩])
  (.keep [0, 3, 4, 6] [3, 4, 6] (.seq (.seq (.region [⟨some 7, .move (.const (.int .i64 0)), none⟩])
   (.keep [0, 3, 4, 6, 7] [3, 4, 6] (.block 0 (.loop L27_0))))
  (.keep [4, 6] [4, 6] (.seq (.region [⟨some 48, .load true 2 (.tmp 6), none⟩,
     ⟨none, .store 2 (.tmp 4) (.tmp 48), none⟩])
  (.keep [4] [4] (.ret))))))))))))⟩
/-- wampum/wampumlaw10.CacheNil -/
def F6 : FnIR := ⟨47, 1, [.tmp 2], [1],
  .seq (.region [⟨some 1, .box true 5 (.tmp 0), none⟩,
     ⟨some 2, .move (.const (.bool false)), none⟩])
  (.keep [1] [1] (.seq (.region [⟨some 5, .fieldAddr 1 (.tmp 1), none⟩,
     ⟨some 6, .load true 2 (.tmp 5), none⟩,
     ⟨some 7, .call (.func 13) [(.tmp 6)], none⟩,
     ⟨some 3, .move (.tmp 7), none⟩])
  (.keep [1, 3] [1] (.seq (.seq (.region [⟨some 8, .move (.tmp 3), none⟩,
      ⟨some 9, .un .not (.tmp 8), none⟩])
   (.keep [1, 9] [1] (.cond (.tmp 9)
    (.seq (.region [⟨some 10, .call (.func 19) [], none⟩,
       ⟨some 2, .move (.tmp 10), none⟩])
    (.keep [2] [] (.ret)))
    (.skip))))
  (.keep [1] [1] (.seq (.region [⟨some 4, .move (.const .nilp), none⟩])
  (.keep [1, 4] [1] (.seq (.region [⟨some 11, .call (.func 19) [], none⟩,
     ⟨some 12, .move (.tmp 11), none⟩,
     ⟨some 13, .move (.tmp 4), some (12, true)⟩,
     ⟨some 14, .fieldAddr 1 (.tmp 1), some (12, true)⟩,
     ⟨some 15, .load true 2 (.tmp 14), some (12, true)⟩,
     ⟨some 16, .fieldAddr 3 (.tmp 1), some (12, true)⟩,
     ⟨some 17, .load true 2 (.tmp 16), some (12, true)⟩,
     ⟨some 18, .call (.func 16) [(.tmp 13), (.tmp 15), (.tmp 17)], some (12, true)⟩,
     ⟨some 19, .bin .eql .int (.tmp 18) (.const (.int .i64 1)), some (12, true)⟩,
     ⟨some 20, .pick (.tmp 12) (.tmp 19) (.const (.bool false)), none⟩,
     ⟨some 21, .move (.tmp 20), none⟩,
     ⟨some 22, .move (.tmp 4), some (21, true)⟩,
     ⟨some 23, .fieldAddr 3 (.tmp 1), some (21, true)⟩,
     ⟨some 24, .load true 2 (.tmp 23), some (21, true)⟩,
     ⟨some 25, .call (.func 22) [(.tmp 22), (.tmp 24)], some (21, true)⟩,
     ⟨some 26, .bin .eql .int (.tmp 25) (.const (.int .i64 1)), some (21, true)⟩,
     ⟨some 27, .pick (.tmp 21) (.tmp 26) (.const (.bool false)), none⟩,
     ⟨some 28, .move (.tmp 27), none⟩,
     ⟨some 29, .move (.tmp 4), some (28, true)⟩,
     ⟨some 30, .fieldAddr 1 (.tmp 1), some (28, true)⟩,
     ⟨some 31, .load true 2 (.tmp 30), some (28, true)⟩,
     ⟨some 32, .call (.func 20) [(.tmp 29), (.tmp 31)], some (28, true)⟩,
     ⟨some 33, .build [(.int .i64 0), (.int .i64 0)] [], some (28, true)⟩,
     ⟨some 34, .bin .eql (.struct [(0, false, 1, .int), (1, false, 1, .int)]) (.tmp 32) (.tmp 33), some (28, true)⟩,
     ⟨some 35, .pick (.tmp 28) (.tmp 34) (.const (.bool false)), none⟩,
     ⟨some 36, .move (.tmp 35), none⟩,
     ⟨some 37, .move (.tmp 4), some (36, true)⟩,
     ⟨some 38, .call (.func 21) [(.tmp 37)], some (36, true)⟩,
     ⟨some 39, .build [(.int .i64 0), (.int .i64 0)] [], some (36, true)⟩,
     ⟨some 40, .bin .eql (.struct [(0, false, 1, .int), (1, false, 1, .int)]) (.tmp 38) (.tmp 39), some (36, true)⟩,
     ⟨some 41, .pick (.tmp 36) (.tmp 40) (.const (.bool false)), none⟩,
     ⟨some 42, .move (.tmp 41), none⟩,
     ⟨some 43, .move (.tmp 4), some (42, true)⟩,
     ⟨some 44, .call (.func 24) [(.tmp 43)], some (42, true)⟩,
     ⟨some 45, .bin .eql .int (.tmp 44) (.const (.int .i64 0)), some (42, true)⟩,
     ⟨some 46, .pick (.tmp 42) (.tmp 45) (.const (.bool false)), none⟩,
     ⟨some 2, .move (.tmp 46), none⟩])
  (.keep [2] [] (.ret))))))))))⟩
def table : List (Nat × FnDef) := [(3, .ir F3), (13, .ir F13), (14, .ir F14), (15, .ir F15), (32, .ir F32), (16, .ir F16), (33, .ir F33), (31, .ir F31), (41, .ir F41), (54, .ir F54), (23, .ir F23), (45, .ir F45), (61, .ir F61), (65, .ir F65), (60, .ir F60), (42, .ir F42), (55, .ir F55), (56, .ir F56), (57, .ir F57), (58, .ir F58), (18, .ir F18), (17, .ir F17), (35, .ir F35), (19, .ir F19), (20, .ir F20), (36, .ir F36), (34, .ir F34), (24, .ir F24), (21, .ir F21), (4, .ir F4), (22, .ir F22), (44, .ir F44), (43, .ir F43), (59, .ir F59), (5, .ir F5), (25, .ir F25), (46, .ir F46), (47, .ir F47), (48, .ir F48), (26, .ir F26), (27, .ir F27), (6, .ir F6)]
def T : FuncId → Option FnDef := fun f => Go.Wam.look f table
theorem T3 : T 3 = some (.ir F3) := rfl
theorem T13 : T 13 = some (.ir F13) := rfl
theorem T14 : T 14 = some (.ir F14) := rfl
theorem T15 : T 15 = some (.ir F15) := rfl
theorem T32 : T 32 = some (.ir F32) := rfl
theorem T16 : T 16 = some (.ir F16) := rfl
theorem T33 : T 33 = some (.ir F33) := rfl
theorem T31 : T 31 = some (.ir F31) := rfl
theorem T41 : T 41 = some (.ir F41) := rfl
theorem T54 : T 54 = some (.ir F54) := rfl
theorem T23 : T 23 = some (.ir F23) := rfl
theorem T45 : T 45 = some (.ir F45) := rfl
theorem T61 : T 61 = some (.ir F61) := rfl
theorem T65 : T 65 = some (.ir F65) := rfl
theorem T60 : T 60 = some (.ir F60) := rfl
theorem T42 : T 42 = some (.ir F42) := rfl
theorem T55 : T 55 = some (.ir F55) := rfl
theorem T56 : T 56 = some (.ir F56) := rfl
theorem T57 : T 57 = some (.ir F57) := rfl
theorem T58 : T 58 = some (.ir F58) := rfl
theorem T18 : T 18 = some (.ir F18) := rfl
theorem T17 : T 17 = some (.ir F17) := rfl
theorem T35 : T 35 = some (.ir F35) := rfl
theorem T19 : T 19 = some (.ir F19) := rfl
theorem T20 : T 20 = some (.ir F20) := rfl
theorem T36 : T 36 = some (.ir F36) := rfl
theorem T34 : T 34 = some (.ir F34) := rfl
theorem T24 : T 24 = some (.ir F24) := rfl
theorem T21 : T 21 = some (.ir F21) := rfl
theorem T4 : T 4 = some (.ir F4) := rfl
theorem T22 : T 22 = some (.ir F22) := rfl
theorem T44 : T 44 = some (.ir F44) := rfl
theorem T43 : T 43 = some (.ir F43) := rfl
theorem T59 : T 59 = some (.ir F59) := rfl
theorem T5 : T 5 = some (.ir F5) := rfl
theorem T25 : T 25 = some (.ir F25) := rfl
theorem T46 : T 46 = some (.ir F46) := rfl
theorem T47 : T 47 = some (.ir F47) := rfl
theorem T48 : T 48 = some (.ir F48) := rfl
theorem T26 : T 26 = some (.ir F26) := rfl
theorem T27 : T 27 = some (.ir F27) := rfl
theorem T6 : T 6 = some (.ir F6) := rfl
theorem fits3 : FnFits Try.prog 3 F3 := ⟨Try.f3, _, Try.func3, rfl, by decide, rfl, by decide, by kernel_rfl, by kernel_rfl⟩
theorem fits13 : FnFits Try.prog 13 F13 := ⟨Try.f13, _, Try.func13, rfl, by decide, rfl, by decide, by kernel_rfl, by kernel_rfl⟩
theorem fits14 : FnFits Try.prog 14 F14 := ⟨Try.f14, _, Try.func14, rfl, by decide, rfl, by decide, by kernel_rfl, by kernel_rfl⟩
theorem fits15 : FnFits Try.prog 15 F15 := ⟨Try.f15, _, Try.func15, rfl, by decide, rfl, by decide, by kernel_rfl, by kernel_rfl⟩
theorem fits32 : FnFits Try.prog 32 F32 := ⟨Try.f32, _, Try.func32, rfl, by decide, rfl, by decide, by kernel_rfl, by kernel_rfl⟩
theorem fits16 : FnFits Try.prog 16 F16 := ⟨Try.f16, _, Try.func16, rfl, by decide, rfl, by decide, by kernel_rfl, by kernel_rfl⟩
theorem fits33 : FnFits Try.prog 33 F33 := ⟨Try.f33, _, Try.func33, rfl, by decide, rfl, by decide, by kernel_rfl, by kernel_rfl⟩
theorem fits31 : FnFits Try.prog 31 F31 := ⟨Try.f31, _, Try.func31, rfl, by decide, rfl, by decide, by kernel_rfl, by kernel_rfl⟩
theorem fits41 : FnFits Try.prog 41 F41 := ⟨Try.f41, _, Try.func41, rfl, by decide, rfl, by decide, by kernel_rfl, by kernel_rfl⟩
theorem fits54 : FnFits Try.prog 54 F54 := ⟨Try.f54, _, Try.func54, rfl, by decide, rfl, by decide, by kernel_rfl, by kernel_rfl⟩
theorem fits23 : FnFits Try.prog 23 F23 := ⟨Try.f23, _, Try.func23, rfl, by decide, rfl, by decide, by kernel_rfl, by kernel_rfl⟩
theorem fits45 : FnFits Try.prog 45 F45 := ⟨Try.f45, _, Try.func45, rfl, by decide, rfl, by decide, by kernel_rfl, by kernel_rfl⟩
theorem fits61 : FnFits Try.prog 61 F61 := ⟨Try.f61, _, Try.func61, rfl, by decide, rfl, by decide, by kernel_rfl, by kernel_rfl⟩
theorem fits65 : FnFits Try.prog 65 F65 := ⟨Try.f65, _, Try.func65, rfl, by decide, rfl, by decide, by kernel_rfl, by kernel_rfl⟩
theorem fits60 : FnFits Try.prog 60 F60 := ⟨Try.f60, _, Try.func60, rfl, by decide, rfl, by decide, by kernel_rfl, by kernel_rfl⟩
theorem fits42 : FnFits Try.prog 42 F42 := ⟨Try.f42, _, Try.func42, rfl, by decide, rfl, by decide, by kernel_rfl, by kernel_rfl⟩
theorem fits55 : FnFits Try.prog 55 F55 := ⟨Try.f55, _, Try.func55, rfl, by decide, rfl, by decide, by kernel_rfl, by kernel_rfl⟩
theorem fits56 : FnFits Try.prog 56 F56 := ⟨Try.f56, _, Try.func56, rfl, by decide, rfl, by decide, by kernel_rfl, by kernel_rfl⟩
theorem fits57 : FnFits Try.prog 57 F57 := ⟨Try.f57, _, Try.func57, rfl, by decide, rfl, by decide, by kernel_rfl, by kernel_rfl⟩
theorem fits58 : FnFits Try.prog 58 F58 := ⟨Try.f58, _, Try.func58, rfl, by decide, rfl, by decide, by kernel_rfl, by kernel_rfl⟩
theorem fits18 : FnFits Try.prog 18 F18 := ⟨Try.f18, _, Try.func18, rfl, by decide, rfl, by decide, by kernel_rfl, by kernel_rfl⟩
theorem fits17 : FnFits Try.prog 17 F17 := ⟨Try.f17, _, Try.func17, rfl, by decide, rfl, by decide, by kernel_rfl, by kernel_rfl⟩
theorem fits35 : FnFits Try.prog 35 F35 := ⟨Try.f35, _, Try.func35, rfl, by decide, rfl, by decide, by kernel_rfl, by kernel_rfl⟩
theorem fits19 : FnFits Try.prog 19 F19 := ⟨Try.f19, _, Try.func19, rfl, by decide, rfl, by decide, by kernel_rfl, by kernel_rfl⟩
theorem fits20 : FnFits Try.prog 20 F20 := ⟨Try.f20, _, Try.func20, rfl, by decide, rfl, by decide, by kernel_rfl, by kernel_rfl⟩
theorem fits36 : FnFits Try.prog 36 F36 := ⟨Try.f36, _, Try.func36, rfl, by decide, rfl, by decide, by kernel_rfl, by kernel_rfl⟩
theorem fits34 : FnFits Try.prog 34 F34 := ⟨Try.f34, _, Try.func34, rfl, by decide, rfl, by decide, by kernel_rfl, by kernel_rfl⟩
theorem fits24 : FnFits Try.prog 24 F24 := ⟨Try.f24, _, Try.func24, rfl, by decide, rfl, by decide, by kernel_rfl, by kernel_rfl⟩
theorem fits21 : FnFits Try.prog 21 F21 := ⟨Try.f21, _, Try.func21, rfl, by decide, rfl, by decide, by kernel_rfl, by kernel_rfl⟩
theorem fits4 : FnFits Try.prog 4 F4 := ⟨Try.f4, _, Try.func4, rfl, by decide, rfl, by decide, by kernel_rfl, by kernel_rfl⟩
theorem fits22 : FnFits Try.prog 22 F22 := ⟨Try.f22, _, Try.func22, rfl, by decide, rfl, by decide, by kernel_rfl, by kernel_rfl⟩
theorem fits44 : FnFits Try.prog 44 F44 := ⟨Try.f44, _, Try.func44, rfl, by decide, rfl, by decide, by kernel_rfl, by kernel_rfl⟩
theorem fits43 : FnFits Try.prog 43 F43 := ⟨Try.f43, _, Try.func43, rfl, by decide, rfl, by decide, by kernel_rfl, by kernel_rfl⟩
theorem fits59 : FnFits Try.prog 59 F59 := ⟨Try.f59, _, Try.func59, rfl, by decide, rfl, by decide, by kernel_rfl, by kernel_rfl⟩
theorem fits5 : FnFits Try.prog 5 F5 := ⟨Try.f5, _, Try.func5, rfl, by decide, rfl, by decide, by kernel_rfl, by kernel_rfl⟩
theorem fits25 : FnFits Try.prog 25 F25 := ⟨Try.f25, _, Try.func25, rfl, by decide, rfl, by decide, by kernel_rfl, by kernel_rfl⟩
theorem fits46 : FnFits Try.prog 46 F46 := ⟨Try.f46, _, Try.func46, rfl, by decide, rfl, by decide, by kernel_rfl, by kernel_rfl⟩
theorem fits47 : FnFits Try.prog 47 F47 := ⟨Try.f47, _, Try.func47, rfl, by decide, rfl, by decide, by kernel_rfl, by kernel_rfl⟩
theorem fits48 : FnFits Try.prog 48 F48 := ⟨Try.f48, _, Try.func48, rfl, by decide, rfl, by decide, by kernel_rfl, by kernel_rfl⟩
theorem fits26 : FnFits Try.prog 26 F26 := ⟨Try.f26, _, Try.func26, rfl, by decide, rfl, by decide, by kernel_rfl, by kernel_rfl⟩
theorem fits27 : FnFits Try.prog 27 F27 := ⟨Try.f27, _, Try.func27, rfl, by decide, rfl, by decide, by kernel_rfl, by kernel_rfl⟩
theorem fits6 : FnFits Try.prog 6 F6 := ⟨Try.f6, _, Try.func6, rfl, by decide, rfl, by decide, by kernel_rfl, by kernel_rfl⟩
theorem fits : TableOk Try.prog T := tableOk (t := table) ⟨fits3, fits13, fits14, fits15, fits32, fits16, fits33, fits31, fits41, fits54, fits23, fits45, fits61, fits65, fits60, fits42, fits55, fits56, fits57, fits58, fits18, fits17, fits35, fits19, fits20, fits36, fits34, fits24, fits21, fits4, fits22, fits44, fits43, fits59, fits5, fits25, fits46, fits47, fits48, fits26, fits27, fits6, trivial⟩
theorem own : ownKnob Try.prog.godebug = none := by kernel_rfl
theorem laidOut : laidOutB Try.prog = true := by kernel_rfl
theorem mixed : Try.prog.follows .mixedOrders = true := by kernel_rfl
end Go.Proofs.Ytdnnpgmekbnlbaa
