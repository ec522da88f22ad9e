/- Functions of the program in our form (S14, c). No condition. -/
import Derived.Test.YtgokjbjbdnbcdaaGreatAmNil
import Derived.Test.YtgokjbjbdnbcdaaGreatRows
import Derived.KernelRfl
set_option linter.unusedVariables false
namespace Go.Proofs.YtgokjbjbdnbcdaaGreat.AlS14
open Go.Wam
/-- (*wampum/state.State).record -/
def F133 : FnIR := ⟨96, 2, [.cell 4 true 18], [3, 4, 5],
  .seq (.region [⟨some 3, .box true 22 (.tmp 1), none⟩,
     ⟨some 4, .alloc true 18 [(.int .i64 0), (.int .i64 0), (.int .i64 0), .nils, (.bool false), (.int .i64 0), (.int .i64 0), (.str []), (.int .i64 0), (.int .i64 0), (.int .i64 0), (.int .i64 0), (.int .i64 0), (.int .i64 0), (.int .i64 0), (.int .i64 0), (.int .i64 0), .nils], none⟩])
  (.keep [0, 3, 4] [3, 4] (.seq (.region [⟨some 6, .move (.tmp 0), none⟩,
     ⟨some 7, .fieldAddr 4 (.tmp 3), none⟩,
     ⟨some 8, .fieldAddr 0 (.tmp 7), none⟩,
     ⟨some 9, .load false 1 (.tmp 8), none⟩,
     ⟨some 10, .call (.func 36) [(.tmp 6), (.tmp 9)], none⟩,
     ⟨some 5, .alloc true 8 [(.int .i64 0), (.int .i64 0), (.int .i64 0), (.int .i64 0), (.int .i64 0), (.int .i64 0), (.int .i64 0), .nils], none⟩,
     ⟨none, .store 8 (.tmp 5) (.tmp 10), none⟩])
  (.keep [0, 3, 4, 5] [3, 4, 5] (.seq (.seq (.region [⟨some 11, .fieldAddr 0 (.tmp 3), none⟩,
      ⟨some 12, .load false 1 (.tmp 11), none⟩])
   (.keep [0, 3, 4, 5, 12] [3, 4, 5] (.block 0 (.seq (.region [⟨some 27, .bin .eql .int (.tmp 12) (.const (.int .i64 5)), none⟩,
       ⟨some 26, .move (.tmp 27), none⟩])
    (.keep [0, 3, 4, 5, 12, 26] [3, 4, 5] (.cond (.tmp 26)
     (.region [⟨some 29, .load true 8 (.tmp 5), none⟩,
       ⟨some 30, .fieldAddr 4 (.tmp 3), none⟩,
       ⟨some 31, .fieldAddr 1 (.tmp 30), none⟩,
       ⟨some 32, .load false 1 (.tmp 31), none⟩,
       ⟨some 33, .fieldAddr 14 (.tmp 3), none⟩,
       ⟨some 34, .load true 2 (.tmp 33), none⟩,
       ⟨some 35, .call (.func 197) [(.tmp 29), (.tmp 32), (.tmp 34)], none⟩,
       ⟨some 28, .move (.tmp 35), none⟩,
       ⟨some 36, .extract (.tmp 28) 0, none⟩,
       ⟨some 37, .extract (.tmp 28) 1, none⟩,
       ⟨some 38, .fieldAddr 10 (.tmp 4), none⟩,
       ⟨none, .store 8 (.tmp 38) (.tmp 36), none⟩,
       ⟨some 39, .fieldAddr 0 (.tmp 4), none⟩,
       ⟨none, .store 1 (.tmp 39) (.tmp 37), none⟩])
     (.seq (.region [⟨some 41, .bin .eql .int (.tmp 12) (.const (.int .i64 6)), none⟩,
        ⟨some 40, .move (.tmp 41), none⟩])
     (.keep [0, 3, 4, 5, 12, 40] [3, 4, 5] (.cond (.tmp 40)
      (.region [⟨some 43, .load true 8 (.tmp 5), none⟩,
        ⟨some 44, .fieldAddr 4 (.tmp 3), none⟩,
        ⟨some 45, .fieldAddr 1 (.tmp 44), none⟩,
        ⟨some 46, .load false 1 (.tmp 45), none⟩,
        ⟨some 47, .fieldAddr 14 (.tmp 3), none⟩,
        ⟨some 48, .load true 2 (.tmp 47), none⟩,
        ⟨some 49, .fieldAddr 16 (.tmp 3), none⟩,
        ⟨some 50, .load true 2 (.tmp 49), none⟩,
        ⟨some 51, .fieldAddr 20 (.tmp 3), none⟩,
        ⟨some 52, .load false 1 (.tmp 51), none⟩,
        ⟨some 53, .call (.func 198) [(.tmp 43), (.tmp 46), (.tmp 48), (.tmp 50), (.tmp 52)], none⟩,
        ⟨some 42, .move (.tmp 53), none⟩,
        ⟨some 54, .extract (.tmp 42) 0, none⟩,
        ⟨some 55, .extract (.tmp 42) 1, none⟩,
        ⟨some 56, .fieldAddr 10 (.tmp 4), none⟩,
        ⟨none, .store 8 (.tmp 56) (.tmp 54), none⟩,
        ⟨some 57, .fieldAddr 0 (.tmp 4), none⟩,
        ⟨none, .store 1 (.tmp 57) (.tmp 55), none⟩])
      (.seq (.region [⟨some 59, .bin .eql .int (.tmp 12) (.const (.int .i64 7)), none⟩,
         ⟨some 58, .move (.tmp 59), none⟩])
      (.keep [0, 3, 4, 5, 58] [3, 4, 5] (.cond (.tmp 58)
       (.region [⟨some 61, .load true 8 (.tmp 5), none⟩,
         ⟨some 62, .fieldAddr 4 (.tmp 3), none⟩,
         ⟨some 63, .fieldAddr 1 (.tmp 62), none⟩,
         ⟨some 64, .load false 1 (.tmp 63), none⟩,
         ⟨some 65, .fieldAddr 14 (.tmp 3), none⟩,
         ⟨some 66, .load true 2 (.tmp 65), none⟩,
         ⟨some 67, .fieldAddr 18 (.tmp 3), none⟩,
         ⟨some 68, .load false 1 (.tmp 67), none⟩,
         ⟨some 69, .fieldAddr 19 (.tmp 3), none⟩,
         ⟨some 70, .load false 1 (.tmp 69), none⟩,
         ⟨some 71, .call (.func 199) [(.tmp 61), (.tmp 64), (.tmp 66), (.tmp 68), (.tmp 70)], none⟩,
         ⟨some 60, .move (.tmp 71), none⟩,
         ⟨some 72, .extract (.tmp 60) 0, none⟩,
         ⟨some 73, .extract (.tmp 60) 1, none⟩,
         ⟨some 74, .fieldAddr 10 (.tmp 4), none⟩,
         ⟨none, .store 8 (.tmp 74) (.tmp 72), none⟩,
         ⟨some 75, .fieldAddr 0 (.tmp 4), none⟩,
         ⟨none, .store 1 (.tmp 75) (.tmp 73), none⟩])
       (.region [⟨some 14, .load true 8 (.tmp 5), none⟩,
         ⟨some 15, .fieldAddr 4 (.tmp 3), none⟩,
         ⟨some 16, .load true 5 (.tmp 15), none⟩,
         ⟨some 17, .fieldAddr 16 (.tmp 3), none⟩,
         ⟨some 18, .load true 2 (.tmp 17), none⟩,
         ⟨some 19, .fieldAddr 21 (.tmp 3), none⟩,
         ⟨some 20, .load false 1 (.tmp 19), none⟩,
         ⟨some 21, .call (.func 200) [(.tmp 14), (.tmp 16), (.tmp 18), (.tmp 20)], none⟩,
         ⟨some 13, .move (.tmp 21), none⟩,
         ⟨some 22, .extract (.tmp 13) 0, none⟩,
         ⟨some 23, .extract (.tmp 13) 1, none⟩,
         ⟨some 24, .fieldAddr 10 (.tmp 4), none⟩,
         ⟨none, .store 8 (.tmp 24) (.tmp 22), none⟩,
         ⟨some 25, .fieldAddr 0 (.tmp 4), none⟩,
         ⟨none, .store 1 (.tmp 25) (.tmp 23), none⟩])))))))))))))
  (.keep [0, 3, 4] [3, 4] (.seq (.seq (.region [⟨some 76, .fieldAddr 10 (.tmp 4), none⟩,
      ⟨some 77, .fieldAddr 2 (.tmp 76), none⟩,
      ⟨some 78, .load false 1 (.tmp 77), none⟩,
      ⟨some 79, .bin .neq .int (.tmp 78) (.const (.int .i64 0)), none⟩])
   (.keep [0, 3, 4, 79] [3, 4] (.cond (.tmp 79)
    (.seq (.regionD [⟨some 80, .move (.tmp 0), none⟩,
       ⟨some 81, .nilCheck (.tmp 80), none⟩,
       ⟨some 82, .fieldAddr 7 (.tmp 81), none⟩,
       ⟨some 83, .load false 1 (.tmp 82), none⟩,
       ⟨some 84, .fieldAddr 4 (.tmp 3), none⟩,
       ⟨some 85, .fieldAddr 0 (.tmp 84), none⟩,
       ⟨some 86, .load false 1 (.tmp 85), none⟩,
       ⟨some 87, .fieldAddr 10 (.tmp 4), none⟩,
       ⟨some 88, .load true 8 (.tmp 87), none⟩,
       ⟨none, .mapUpdate (.int .i64) (.tmp 83) (.tmp 86) (.tmp 88), none⟩] [])
    (.keep [4] [4] (.region [⟨some 89, .fieldAddr 10 (.tmp 4), none⟩,
      ⟨some 90, .fieldAddr 7 (.tmp 89), none⟩,
      ⟨some 91, .load false 1 (.tmp 90), none⟩,
      ⟨some 92, .call (.func 91) [(.tmp 91)], none⟩,
      ⟨some 93, .fieldAddr 10 (.tmp 4), none⟩,
      ⟨some 94, .fieldAddr 7 (.tmp 93), none⟩,
      ⟨none, .store 1 (.tmp 94) (.tmp 92), none⟩])))
    (.skip))))
  (.keep [4] [4] (.seq (.region [⟨some 95, .load true 18 (.tmp 4), none⟩,
     ⟨none, .store 18 (.tmp 4) (.tmp 95), none⟩])
  (.keep [4] [4] (.ret))))))))))⟩
/-- (*wampum/state.State).Record -/
def F36 : FnIR := ⟨28, 2, [.cell 4 true 8], [4, 5],
  .seq (.region [⟨some 4, .alloc true 8 [(.int .i64 0), (.int .i64 0), (.int .i64 0), (.int .i64 0), (.int .i64 0), (.int .i64 0), (.int .i64 0), .nils], none⟩])
  (.keep [0, 1, 4] [4] (.seq (.seq (.region [⟨some 7, .move (.tmp 0), none⟩,
      ⟨some 8, .bin .eql .ptr (.tmp 7) (.const .nilp), none⟩])
   (.keep [0, 1, 4, 8] [4] (.cond (.tmp 8)
    (.seq (.region [⟨some 9, .build [(.int .i64 0), (.int .i64 0), (.int .i64 0), (.int .i64 0), (.int .i64 0), (.int .i64 0), (.int .i64 0), .nils] [], none⟩,
       ⟨none, .store 8 (.tmp 4) (.tmp 9), none⟩])
    (.keep [4] [4] (.ret)))
    (.skip))))
  (.keep [0, 1, 4] [4] (.seq (.region [⟨some 11, .move (.tmp 0), none⟩,
     ⟨some 12, .nilCheck (.tmp 11), none⟩,
     ⟨some 13, .fieldAddr 7 (.tmp 12), none⟩,
     ⟨some 14, .load false 1 (.tmp 13), none⟩,
     ⟨some 15, .move (.tmp 1), none⟩,
     ⟨some 16, .lookup (.int .i64) true (.agg [(.int .i64 0), (.int .i64 0), (.int .i64 0), (.int .i64 0), (.int .i64 0), (.int .i64 0), (.int .i64 0), .nils]) (.tmp 14) (.tmp 15), none⟩,
     ⟨some 10, .move (.tmp 16), none⟩,
     ⟨some 17, .extract (.tmp 10) 0, none⟩,
     ⟨some 18, .extract (.tmp 10) 1, none⟩,
     ⟨some 5, .alloc true 8 [(.int .i64 0), (.int .i64 0), (.int .i64 0), (.int .i64 0), (.int .i64 0), (.int .i64 0), (.int .i64 0), .nils], none⟩,
     ⟨none, .store 8 (.tmp 5) (.tmp 17), none⟩,
     ⟨some 6, .move (.tmp 18), none⟩])
  (.keep [1, 4, 5, 6] [4, 5] (.seq (.seq (.region [⟨some 19, .move (.tmp 6), none⟩,
      ⟨some 20, .un .not (.tmp 19), none⟩])
   (.keep [1, 4, 5, 20] [4, 5] (.cond (.tmp 20)
    (.seq (.region [⟨some 21, .move (.tmp 1), none⟩,
       ⟨some 22, .build [(.int .i64 0), (.int .i64 0), (.int .i64 0), (.int .i64 0), (.int .i64 0), (.int .i64 0), (.int .i64 0), .nils] [(0, 1, (.tmp 21))], none⟩,
       ⟨none, .store 8 (.tmp 4) (.tmp 22), none⟩])
    (.keep [4] [4] (.ret)))
    (.skip))))
  (.keep [4, 5] [4, 5] (.seq (.region [⟨some 23, .fieldAddr 7 (.tmp 5), none⟩,
     ⟨some 24, .load false 1 (.tmp 23), none⟩,
     ⟨some 25, .call (.func 91) [(.tmp 24)], none⟩,
     ⟨some 26, .fieldAddr 7 (.tmp 5), none⟩,
     ⟨none, .store 1 (.tmp 26) (.tmp 25), none⟩])
  (.keep [4, 5] [4, 5] (.seq (.region [⟨some 27, .load true 8 (.tmp 5), none⟩,
     ⟨none, .store 8 (.tmp 4) (.tmp 27), none⟩])
  (.keep [4] [4] (.ret))))))))))))⟩
/-- slices.Clone[[]wampum/api.Write,wampum/api.Write] -/
def F91 : FnIR := ⟨8, 1, [.tmp 2], [],
  .seq (.region [⟨some 2, .move (.const .nils), none⟩])
  (.keep [0] [] (.seq (.seq (.region [⟨some 3, .move (.tmp 0), none⟩,
      ⟨some 4, .bin .eql .slice (.tmp 3) (.const .nils), none⟩])
   (.keep [0, 4] [] (.cond (.tmp 4)
    (.seq (.region [⟨some 2, .move (.const .nils), none⟩])
    (.keep [2] [] (.ret)))
    (.skip))))
  (.keep [0] [] (.seq (.region [⟨some 5, .buildSlice 2 0 [] [], none⟩,
     ⟨some 6, .move (.tmp 0), none⟩,
     ⟨some 7, .append 2 24 (.tmp 5) (.tmp 6), none⟩,
     ⟨some 2, .move (.tmp 7), none⟩])
  (.keep [2] [] (.ret))))))⟩
/-- wampum/record.Beat -/
def F197 : FnIR := ⟨58, 3, [.cell 6 true 8, .tmp 7], [3, 5, 6],
  .seq (.region [⟨some 3, .box true 8 (.tmp 0), none⟩,
     ⟨some 5, .box true 2 (.tmp 2), none⟩,
     ⟨some 6, .alloc true 8 [(.int .i64 0), (.int .i64 0), (.int .i64 0), (.int .i64 0), (.int .i64 0), (.int .i64 0), (.int .i64 0), .nils], none⟩,
     ⟨some 7, .move (.const (.int .i64 0)), none⟩])
  (.keep [1, 3, 5, 6] [3, 5, 6] (.seq (.region [⟨some 8, .load true 8 (.tmp 3), none⟩,
     ⟨some 9, .call (.func 231) [(.tmp 8)], none⟩,
     ⟨none, .store 8 (.tmp 3) (.tmp 9), none⟩])
  (.keep [1, 3, 5, 6] [3, 5, 6] (.seq (.block 0 (.seq (.region [⟨some 11, .move (.tmp 1), none⟩,
       ⟨some 12, .call (.func 218) [(.tmp 11)], none⟩,
       ⟨some 13, .un .not (.tmp 12), none⟩,
       ⟨some 14, .move (.tmp 13), none⟩,
       ⟨some 15, .load true 2 (.tmp 5), some (14, false)⟩,
       ⟨some 16, .call (.func 184) [(.tmp 15)], some (14, false)⟩,
       ⟨some 17, .un .not (.tmp 16), some (14, false)⟩,
       ⟨some 18, .pick (.tmp 14) (.const (.bool true)) (.tmp 17), none⟩,
       ⟨some 10, .move (.tmp 18), none⟩])
    (.keep [1, 3, 5, 6, 10] [3, 5, 6] (.cond (.tmp 10)
     (.seq (.region [⟨some 19, .load true 8 (.tmp 3), none⟩,
        ⟨none, .store 8 (.tmp 6) (.tmp 19), none⟩,
        ⟨some 7, .move (.const (.int .i64 1)), none⟩])
     (.keep [6, 7] [6] (.ret)))
     (.seq (.region [⟨some 21, .fieldAddr 2 (.tmp 3), none⟩,
        ⟨some 22, .load false 1 (.tmp 21), none⟩,
        ⟨some 23, .bin .eql .int (.tmp 22) (.const (.int .i64 3)), none⟩,
        ⟨some 20, .move (.tmp 23), none⟩])
     (.keep [1, 3, 5, 6, 20] [3, 5, 6] (.cond (.tmp 20)
      (.seq (.region [⟨some 24, .load true 8 (.tmp 3), none⟩,
         ⟨none, .store 8 (.tmp 6) (.tmp 24), none⟩,
         ⟨some 7, .move (.const (.int .i64 0)), none⟩])
      (.keep [6, 7] [6] (.ret)))
      (.seq (.region [⟨some 26, .fieldAddr 2 (.tmp 3), none⟩,
         ⟨some 27, .load false 1 (.tmp 26), none⟩,
         ⟨some 28, .bin .eql .int (.tmp 27) (.const (.int .i64 4)), none⟩,
         ⟨some 25, .move (.tmp 28), none⟩])
      (.keep [1, 3, 5, 6, 25] [3, 5, 6] (.cond (.tmp 25)
       (.seq (.region [⟨some 29, .load true 8 (.tmp 3), none⟩,
          ⟨none, .store 8 (.tmp 6) (.tmp 29), none⟩,
          ⟨some 7, .move (.const (.int .i64 122)), none⟩])
       (.keep [6, 7] [6] (.ret)))
       (.seq (.region [⟨some 31, .fieldAddr 1 (.tmp 3), none⟩,
          ⟨some 32, .load false 1 (.tmp 31), none⟩,
          ⟨some 33, .move (.tmp 1), none⟩,
          ⟨some 34, .bin .gtr .none (.tmp 32) (.tmp 33), none⟩,
          ⟨some 30, .move (.tmp 34), none⟩])
       (.keep [1, 3, 5, 6, 30] [3, 5, 6] (.cond (.tmp 30)
        (.seq (.region [⟨some 35, .load true 8 (.tmp 3), none⟩,
           ⟨none, .store 8 (.tmp 6) (.tmp 35), none⟩,
           ⟨some 7, .move (.const (.int .i64 84)), none⟩])
        (.keep [6, 7] [6] (.ret)))
        (.seq (.region [⟨some 37, .fieldAddr 2 (.tmp 3), none⟩,
           ⟨some 38, .load false 1 (.tmp 37), none⟩,
           ⟨some 39, .bin .eql .int (.tmp 38) (.const (.int .i64 0)), none⟩,
           ⟨some 40, .move (.tmp 39), none⟩,
           ⟨some 41, .fieldAddr 1 (.tmp 3), some (40, false)⟩,
           ⟨some 42, .load false 1 (.tmp 41), some (40, false)⟩,
           ⟨some 43, .move (.tmp 1), some (40, false)⟩,
           ⟨some 44, .bin .lss .none (.tmp 42) (.tmp 43), some (40, false)⟩,
           ⟨some 45, .pick (.tmp 40) (.const (.bool true)) (.tmp 44), none⟩,
           ⟨some 36, .move (.tmp 45), none⟩])
        (.keep [1, 3, 5, 6, 36] [3, 5, 6] (.cond (.tmp 36)
         (.region [⟨some 46, .fieldAddr 0 (.tmp 3), none⟩,
           ⟨some 47, .load false 1 (.tmp 46), none⟩,
           ⟨some 48, .move (.tmp 1), none⟩,
           ⟨some 49, .fieldAddr 5 (.tmp 3), none⟩,
           ⟨some 50, .load true 2 (.tmp 49), none⟩,
           ⟨some 51, .build [(.int .i64 0), (.int .i64 0), (.int .i64 0), (.int .i64 0), (.int .i64 0), (.int .i64 0), (.int .i64 0), .nils] [(0, 1, (.tmp 47)), (1, 1, (.tmp 48)), (2, 1, (.const (.int .i64 1))), (5, 2, (.tmp 50))], none⟩,
           ⟨none, .store 8 (.tmp 3) (.tmp 51), none⟩])
         (.skip)))))))))))))))))
  (.keep [3, 5, 6] [3, 5, 6] (.seq (.region [⟨some 52, .fieldAddr 5 (.tmp 3), none⟩,
     ⟨some 53, .load true 2 (.tmp 52), none⟩,
     ⟨some 54, .load true 2 (.tmp 5), none⟩,
     ⟨some 55, .call (.func 223) [(.tmp 53), (.tmp 54)], none⟩,
     ⟨some 56, .fieldAddr 5 (.tmp 3), none⟩,
     ⟨none, .store 2 (.tmp 56) (.tmp 55), none⟩])
  (.keep [3, 6] [3, 6] (.seq (.region [⟨some 57, .load true 8 (.tmp 3), none⟩,
     ⟨none, .store 8 (.tmp 6) (.tmp 57), none⟩,
     ⟨some 7, .move (.const (.int .i64 0)), none⟩])
  (.keep [6, 7] [6] (.ret))))))))))⟩
/-- wampum/record.copied -/
def F231 : FnIR := ⟨8, 1, [.cell 2 true 8], [1, 2],
  .seq (.region [⟨some 1, .box true 8 (.tmp 0), none⟩,
     ⟨some 2, .alloc true 8 [(.int .i64 0), (.int .i64 0), (.int .i64 0), (.int .i64 0), (.int .i64 0), (.int .i64 0), (.int .i64 0), .nils], none⟩])
  (.keep [1, 2] [1, 2] (.seq (.region [⟨some 3, .fieldAddr 7 (.tmp 1), none⟩,
     ⟨some 4, .load false 1 (.tmp 3), none⟩,
     ⟨some 5, .call (.func 91) [(.tmp 4)], none⟩,
     ⟨some 6, .fieldAddr 7 (.tmp 1), none⟩,
     ⟨none, .store 1 (.tmp 6) (.tmp 5), none⟩])
  (.keep [1, 2] [1, 2] (.seq (.region [⟨some 7, .load true 8 (.tmp 1), none⟩,
     ⟨none, .store 8 (.tmp 2) (.tmp 7), none⟩])
  (.keep [2] [2] (.ret))))))⟩
/-- wampum/record.number -/
def F218 : FnIR := ⟨9, 1, [.tmp 2], [],
  .seq (.region [⟨some 2, .move (.const (.bool false)), none⟩])
  (.keep [0] [] (.seq (.region [⟨some 3, .move (.tmp 0), none⟩,
     ⟨some 4, .bin .geq .none (.tmp 3) (.const (.int .i64 0)), none⟩,
     ⟨some 5, .move (.tmp 4), none⟩,
     ⟨some 6, .move (.tmp 0), some (5, true)⟩,
     ⟨some 7, .bin .leq .none (.tmp 6) (.const (.int .i64 1099511627776)), some (5, true)⟩,
     ⟨some 8, .pick (.tmp 5) (.tmp 7) (.const (.bool false)), none⟩,
     ⟨some 2, .move (.tmp 8), none⟩])
  (.keep [2] [] (.ret))))⟩
/-- wampum/record.Stage -/
def F198 : FnIR := ⟨73, 5, [.cell 10 true 8, .tmp 11], [5, 7, 8, 10],
  .seq (.region [⟨some 5, .box true 8 (.tmp 0), none⟩,
     ⟨some 7, .box true 2 (.tmp 2), none⟩,
     ⟨some 8, .box true 2 (.tmp 3), none⟩,
     ⟨some 10, .alloc true 8 [(.int .i64 0), (.int .i64 0), (.int .i64 0), (.int .i64 0), (.int .i64 0), (.int .i64 0), (.int .i64 0), .nils], none⟩,
     ⟨some 11, .move (.const (.int .i64 0)), none⟩])
  (.keep [1, 4, 5, 7, 8, 10] [5, 7, 8, 10] (.seq (.region [⟨some 13, .load true 8 (.tmp 5), none⟩,
     ⟨some 14, .call (.func 231) [(.tmp 13)], none⟩,
     ⟨none, .store 8 (.tmp 5) (.tmp 14), none⟩])
  (.keep [1, 4, 5, 7, 8, 10] [5, 7, 8, 10] (.seq (.seq (.region [⟨some 15, .move (.tmp 1), none⟩,
      ⟨some 16, .call (.func 218) [(.tmp 15)], none⟩,
      ⟨some 17, .un .not (.tmp 16), none⟩,
      ⟨some 18, .move (.tmp 17), none⟩,
      ⟨some 19, .load true 2 (.tmp 7), some (18, false)⟩,
      ⟨some 20, .call (.func 184) [(.tmp 19)], some (18, false)⟩,
      ⟨some 21, .un .not (.tmp 20), some (18, false)⟩,
      ⟨some 22, .pick (.tmp 18) (.const (.bool true)) (.tmp 21), none⟩,
      ⟨some 23, .move (.tmp 22), none⟩,
      ⟨some 24, .load true 2 (.tmp 8), some (23, false)⟩,
      ⟨some 25, .call (.func 184) [(.tmp 24)], some (23, false)⟩,
      ⟨some 26, .un .not (.tmp 25), some (23, false)⟩,
      ⟨some 27, .pick (.tmp 23) (.const (.bool true)) (.tmp 26), none⟩,
      ⟨some 28, .move (.tmp 27), none⟩,
      ⟨some 29, .move (.tmp 4), some (28, false)⟩,
      ⟨some 30, .call (.func 219) [(.tmp 29)], some (28, false)⟩,
      ⟨some 31, .un .not (.tmp 30), some (28, false)⟩,
      ⟨some 32, .pick (.tmp 28) (.const (.bool true)) (.tmp 31), none⟩])
   (.keep [1, 4, 5, 7, 8, 10, 32] [5, 7, 8, 10] (.cond (.tmp 32)
    (.seq (.region [⟨some 33, .load true 8 (.tmp 5), none⟩,
       ⟨none, .store 8 (.tmp 10) (.tmp 33), none⟩,
       ⟨some 11, .move (.const (.int .i64 1)), none⟩])
    (.keep [10, 11] [10] (.ret)))
    (.skip))))
  (.keep [1, 4, 5, 7, 8, 10] [5, 7, 8, 10] (.seq (.seq (.region [⟨some 34, .load true 8 (.tmp 5), none⟩,
      ⟨some 35, .call (.func 232) [(.tmp 34)], none⟩,
      ⟨some 12, .move (.tmp 35), none⟩])
   (.keep [1, 4, 5, 7, 8, 10, 12] [5, 7, 8, 10] (.seq (.region [⟨some 36, .move (.tmp 12), none⟩,
      ⟨some 37, .bin .neq .int (.tmp 36) (.const (.int .i64 0)), none⟩])
   (.keep [1, 4, 5, 7, 8, 10, 12, 37] [5, 7, 8, 10] (.cond (.tmp 37)
    (.seq (.region [⟨some 38, .load true 8 (.tmp 5), none⟩,
       ⟨some 39, .move (.tmp 12), none⟩,
       ⟨none, .store 8 (.tmp 10) (.tmp 38), none⟩,
       ⟨some 11, .move (.tmp 39), none⟩])
    (.keep [10, 11] [10] (.ret)))
    (.skip))))))
  (.keep [1, 4, 5, 7, 8, 10] [5, 7, 8, 10] (.seq (.seq (.region [⟨some 40, .fieldAddr 1 (.tmp 5), none⟩,
      ⟨some 41, .load false 1 (.tmp 40), none⟩,
      ⟨some 42, .move (.tmp 1), none⟩,
      ⟨some 43, .bin .gtr .none (.tmp 41) (.tmp 42), none⟩,
      ⟨some 44, .move (.tmp 43), none⟩,
      ⟨some 45, .fieldAddr 2 (.tmp 5), some (44, false)⟩,
      ⟨some 46, .load false 1 (.tmp 45), some (44, false)⟩,
      ⟨some 47, .bin .eql .int (.tmp 46) (.const (.int .i64 2)), some (44, false)⟩,
      ⟨some 48, .move (.tmp 47), some (44, false)⟩,
      ⟨some 49, .fieldAddr 1 (.tmp 5), some (48, true)⟩,
      ⟨some 50, .load false 1 (.tmp 49), some (48, true)⟩,
      ⟨some 51, .move (.tmp 1), some (48, true)⟩,
      ⟨some 52, .bin .eql .int (.tmp 50) (.tmp 51), some (48, true)⟩,
      ⟨some 53, .pick (.tmp 48) (.tmp 52) (.const (.bool false)), some (44, false)⟩,
      ⟨some 54, .move (.tmp 53), some (44, false)⟩,
      ⟨some 55, .load true 2 (.tmp 7), some (54, true)⟩,
      ⟨some 56, .fieldAddr 3 (.tmp 5), some (54, true)⟩,
      ⟨some 57, .load true 2 (.tmp 56), some (54, true)⟩,
      ⟨some 58, .call (.func 186) [(.tmp 55), (.tmp 57)], some (54, true)⟩,
      ⟨some 59, .pick (.tmp 54) (.tmp 58) (.const (.bool false)), some (44, false)⟩,
      ⟨some 60, .pick (.tmp 44) (.const (.bool true)) (.tmp 59), none⟩])
   (.keep [1, 4, 5, 7, 8, 10, 60] [5, 7, 8, 10] (.cond (.tmp 60)
    (.seq (.region [⟨some 61, .load true 8 (.tmp 5), none⟩,
       ⟨none, .store 8 (.tmp 10) (.tmp 61), none⟩,
       ⟨some 11, .move (.const (.int .i64 84)), none⟩])
    (.keep [10, 11] [10] (.ret)))
    (.skip))))
  (.keep [1, 4, 5, 7, 8, 10] [5, 7, 8, 10] (.seq (.regionD [⟨some 66, .fieldAddr 5 (.tmp 5), none⟩,
     ⟨some 67, .load true 2 (.tmp 66), none⟩,
     ⟨some 68, .load true 2 (.tmp 8), none⟩,
     ⟨some 69, .call (.func 223) [(.tmp 67), (.tmp 68)], none⟩,
     ⟨some 70, .move (.tmp 4), none⟩,
     ⟨some 71, .call (.func 91) [(.tmp 70)], none⟩,
     ⟨some 62, .fieldAddr 0 (.tmp 5), none⟩,
     ⟨some 63, .load false 1 (.tmp 62), none⟩,
     ⟨some 64, .move (.tmp 1), none⟩,
     ⟨some 65, .load true 2 (.tmp 7), none⟩,
     ⟨some 72, .build [(.int .i64 0), (.int .i64 0), (.int .i64 0), (.int .i64 0), (.int .i64 0), (.int .i64 0), (.int .i64 0), .nils] [(0, 1, (.tmp 63)), (1, 1, (.tmp 64)), (2, 1, (.const (.int .i64 2))), (3, 2, (.tmp 65)), (5, 2, (.tmp 69)), (7, 1, (.tmp 71))], none⟩,
     ⟨none, .store 8 (.tmp 10) (.tmp 72), none⟩,
     ⟨some 11, .move (.const (.int .i64 0)), none⟩] [(7, 0), (7, 4), (9, 0), (9, 4)])
  (.keep [10, 11] [10] (.ret))))))))))))⟩
/-- wampum/record.written -/
def L219_0 : IC :=
  .keep [0, 3, 7, 8, 9] [] (.seq (.region [⟨some 10, .bin .lss .none (.tmp 9) (.tmp 8), none⟩])
  (.keep [0, 3, 7, 8, 9, 10] [] (.seq (.cond (.tmp 10)
    (.skip)
    (.exit 0))
  (.keep [0, 3, 7, 8, 9] [] (.seq (.block 1 (.seq (.region [⟨some 11, .indexAddr none 2 (.tmp 7) (.tmp 9), none⟩,
       ⟨some 12, .load true 2 (.tmp 11), none⟩,
       ⟨some 5, .alloc true 2 [(.str []), (.int .i64 0)], none⟩,
       ⟨none, .store 2 (.tmp 5) (.tmp 12), none⟩])
    (.keep [0, 3, 5, 7, 8, 9] [5] (.seq (.seq (.region [⟨some 13, .fieldAddr 0 (.tmp 5), none⟩,
        ⟨some 14, .load false 1 (.tmp 13), none⟩,
        ⟨some 15, .call (.func 47) [(.tmp 14)], none⟩,
        ⟨some 16, .un .not (.tmp 15), none⟩,
        ⟨some 17, .move (.tmp 16), none⟩,
        ⟨some 18, .fieldAddr 1 (.tmp 5), some (17, false)⟩,
        ⟨some 19, .load false 1 (.tmp 18), some (17, false)⟩,
        ⟨some 20, .call (.func 218) [(.tmp 19)], some (17, false)⟩,
        ⟨some 21, .un .not (.tmp 20), some (17, false)⟩,
        ⟨some 22, .pick (.tmp 17) (.const (.bool true)) (.tmp 21), none⟩])
     (.keep [0, 3, 5, 7, 8, 9, 22] [5] (.cond (.tmp 22)
      (.seq (.region [⟨some 2, .move (.const (.bool false)), none⟩])
      (.keep [2] [] (.ret)))
      (.skip))))
    (.keep [0, 3, 5, 7, 8, 9] [5] (.region [⟨some 23, .move (.tmp 3), none⟩,
      ⟨some 24, .fieldAddr 0 (.tmp 5), none⟩,
      ⟨some 25, .load false 1 (.tmp 24), none⟩,
      ⟨some 26, .fieldAddr 1 (.tmp 5), none⟩,
      ⟨some 27, .load false 1 (.tmp 26), none⟩,
      ⟨none, .mapUpdate .str (.tmp 23) (.tmp 25) (.tmp 27), none⟩]))))))
  (.keep [0, 3, 7, 8, 9] [] (.region [⟨some 28, .bin .add .none (.tmp 9) (.const (.int .i64 1)), none⟩,
    ⟨some 9, .move (.tmp 28), none⟩])))))))
def F219 : FnIR := ⟨44, 1, [.tmp 2], [5],
  .seq (.region [⟨some 2, .move (.const (.bool false)), none⟩])
  (.keep [0] [] (.seq (.region [⟨some 6, .mkMap, none⟩,
     ⟨some 3, .move (.tmp 6), none⟩])
  (.keep [0, 3] [] (.seq (.seq (.region [⟨some 7, .move (.tmp 0), none⟩,
      ⟨some 8, .len .slice (.tmp 7), none⟩,
      ⟨some 9, .move (.const (.int .i64 0)), none⟩])
   (.keep [0, 3, 7, 8, 9] [] (.block 0 (.loop L219_0))))
  (.keep [0, 3] [] (.seq (.region [⟨some 29, .move (.tmp 0), none⟩,
     ⟨some 30, .len .slice (.tmp 29), none⟩,
     ⟨some 31, .bin .gtr .none (.tmp 30) (.const (.int .i64 0)), none⟩,
     ⟨some 32, .move (.tmp 31), none⟩,
     ⟨some 33, .move (.tmp 0), some (32, true)⟩,
     ⟨some 34, .len .slice (.tmp 33), some (32, true)⟩,
     ⟨some 35, .bin .leq .none (.tmp 34) (.const (.int .i64 8)), some (32, true)⟩,
     ⟨some 36, .pick (.tmp 32) (.tmp 35) (.const (.bool false)), none⟩,
     ⟨some 37, .move (.tmp 36), none⟩,
     ⟨some 38, .move (.tmp 3), some (37, true)⟩,
     ⟨some 39, .len .map (.tmp 38), some (37, true)⟩,
     ⟨some 40, .move (.tmp 0), some (37, true)⟩,
     ⟨some 41, .len .slice (.tmp 40), some (37, true)⟩,
     ⟨some 42, .bin .eql .int (.tmp 39) (.tmp 41), some (37, true)⟩,
     ⟨some 43, .pick (.tmp 37) (.tmp 42) (.const (.bool false)), none⟩,
     ⟨some 2, .move (.tmp 43), none⟩])
  (.keep [2] [] (.ret))))))))⟩
/-- wampum/record.over -/
def F232 : FnIR := ⟨9, 1, [.tmp 2], [1],
  .seq (.region [⟨some 1, .box true 8 (.tmp 0), none⟩,
     ⟨some 2, .move (.const (.int .i64 0)), none⟩])
  (.keep [1] [1] (.seq (.seq (.region [⟨some 3, .fieldAddr 2 (.tmp 1), none⟩,
      ⟨some 4, .load false 1 (.tmp 3), none⟩])
   (.keep [4] [] (.block 0 (.seq (.region [⟨some 6, .bin .eql .int (.tmp 4) (.const (.int .i64 3)), none⟩,
       ⟨some 5, .move (.tmp 6), none⟩])
    (.keep [4, 5] [] (.cond (.tmp 5)
     (.seq (.region [⟨some 2, .move (.const (.int .i64 83)), none⟩])
     (.keep [2] [] (.ret)))
     (.seq (.region [⟨some 8, .bin .eql .int (.tmp 4) (.const (.int .i64 4)), none⟩,
        ⟨some 7, .move (.tmp 8), none⟩])
     (.keep [7] [] (.cond (.tmp 7)
      (.seq (.region [⟨some 2, .move (.const (.int .i64 122)), none⟩])
      (.keep [2] [] (.ret)))
      (.skip))))))))))
  (.keep [] [] (.seq (.region [⟨some 2, .move (.const (.int .i64 0)), none⟩])
  (.keep [2] [] (.ret))))))⟩
/-- wampum/record.Finish -/
def F199 : FnIR := ⟨86, 5, [.cell 10 true 8, .tmp 11], [5, 7, 10],
  .seq (.region [⟨some 5, .box true 8 (.tmp 0), none⟩,
     ⟨some 7, .box true 2 (.tmp 2), none⟩,
     ⟨some 10, .alloc true 8 [(.int .i64 0), (.int .i64 0), (.int .i64 0), (.int .i64 0), (.int .i64 0), (.int .i64 0), (.int .i64 0), .nils], none⟩,
     ⟨some 11, .move (.const (.int .i64 0)), none⟩])
  (.keep [1, 3, 4, 5, 7, 10] [5, 7, 10] (.seq (.region [⟨some 13, .load true 8 (.tmp 5), none⟩,
     ⟨some 14, .call (.func 231) [(.tmp 13)], none⟩,
     ⟨none, .store 8 (.tmp 5) (.tmp 14), none⟩])
  (.keep [1, 3, 4, 5, 7, 10] [5, 7, 10] (.seq (.seq (.region [⟨some 15, .move (.tmp 1), none⟩,
      ⟨some 16, .call (.func 218) [(.tmp 15)], none⟩,
      ⟨some 17, .un .not (.tmp 16), none⟩,
      ⟨some 18, .move (.tmp 17), none⟩,
      ⟨some 19, .load true 2 (.tmp 7), some (18, false)⟩,
      ⟨some 20, .call (.func 184) [(.tmp 19)], some (18, false)⟩,
      ⟨some 21, .un .not (.tmp 20), some (18, false)⟩,
      ⟨some 22, .pick (.tmp 18) (.const (.bool true)) (.tmp 21), none⟩])
   (.keep [1, 3, 4, 5, 7, 10, 22] [5, 7, 10] (.cond (.tmp 22)
    (.seq (.region [⟨some 23, .load true 8 (.tmp 5), none⟩,
       ⟨none, .store 8 (.tmp 10) (.tmp 23), none⟩,
       ⟨some 11, .move (.const (.int .i64 1)), none⟩])
    (.keep [10, 11] [10] (.ret)))
    (.skip))))
  (.keep [1, 3, 4, 5, 7, 10] [5, 7, 10] (.seq (.seq (.region [⟨some 24, .move (.tmp 4), none⟩])
   (.keep [1, 3, 5, 7, 10, 24] [5, 7, 10] (.cond (.tmp 24)
    (.seq (.region [⟨some 25, .load true 8 (.tmp 5), none⟩,
       ⟨some 26, .move (.tmp 1), none⟩,
       ⟨some 27, .load true 2 (.tmp 7), none⟩,
       ⟨some 28, .move (.tmp 3), none⟩,
       ⟨some 29, .call (.func 233) [(.tmp 25), (.tmp 26), (.tmp 27), (.tmp 28)], none⟩,
       ⟨some 30, .extract (.tmp 29) 0, none⟩,
       ⟨some 31, .extract (.tmp 29) 1, none⟩,
       ⟨none, .store 8 (.tmp 10) (.tmp 30), none⟩,
       ⟨some 11, .move (.tmp 31), none⟩])
    (.keep [10, 11] [10] (.ret)))
    (.skip))))
  (.keep [1, 3, 5, 7, 10] [5, 7, 10] (.seq (.seq (.region [⟨some 32, .load true 8 (.tmp 5), none⟩,
      ⟨some 33, .call (.func 232) [(.tmp 32)], none⟩,
      ⟨some 12, .move (.tmp 33), none⟩])
   (.keep [1, 3, 5, 7, 10, 12] [5, 7, 10] (.block 0 (.seq (.region [⟨some 35, .move (.tmp 12), none⟩,
       ⟨some 36, .bin .eql .int (.tmp 35) (.const (.int .i64 83)), none⟩,
       ⟨some 37, .move (.tmp 36), none⟩,
       ⟨some 38, .move (.tmp 3), some (37, true)⟩,
       ⟨some 39, .pick (.tmp 37) (.tmp 38) (.const (.bool false)), none⟩,
       ⟨some 40, .move (.tmp 39), none⟩,
       ⟨some 41, .move (.tmp 12), some (40, false)⟩,
       ⟨some 42, .bin .eql .int (.tmp 41) (.const (.int .i64 122)), some (40, false)⟩,
       ⟨some 43, .move (.tmp 42), some (40, false)⟩,
       ⟨some 44, .move (.tmp 3), some (43, true)⟩,
       ⟨some 45, .un .not (.tmp 44), some (43, true)⟩,
       ⟨some 46, .pick (.tmp 43) (.tmp 45) (.const (.bool false)), some (40, false)⟩,
       ⟨some 47, .pick (.tmp 40) (.const (.bool true)) (.tmp 46), none⟩,
       ⟨some 34, .move (.tmp 47), none⟩])
    (.keep [1, 3, 5, 7, 10, 12, 34] [5, 7, 10] (.cond (.tmp 34)
     (.seq (.region [⟨some 48, .load true 8 (.tmp 5), none⟩,
        ⟨none, .store 8 (.tmp 10) (.tmp 48), none⟩,
        ⟨some 11, .move (.const (.int .i64 0)), none⟩])
     (.keep [10, 11] [10] (.ret)))
     (.seq (.region [⟨some 50, .move (.tmp 12), none⟩,
        ⟨some 51, .bin .neq .int (.tmp 50) (.const (.int .i64 0)), none⟩,
        ⟨some 49, .move (.tmp 51), none⟩])
     (.keep [1, 3, 5, 7, 10, 12, 49] [5, 7, 10] (.cond (.tmp 49)
      (.seq (.region [⟨some 52, .load true 8 (.tmp 5), none⟩,
         ⟨some 53, .move (.tmp 12), none⟩,
         ⟨none, .store 8 (.tmp 10) (.tmp 52), none⟩,
         ⟨some 11, .move (.tmp 53), none⟩])
      (.keep [10, 11] [10] (.ret)))
      (.seq (.region [⟨some 55, .fieldAddr 1 (.tmp 5), none⟩,
         ⟨some 56, .load false 1 (.tmp 55), none⟩,
         ⟨some 57, .move (.tmp 1), none⟩,
         ⟨some 58, .bin .gtr .none (.tmp 56) (.tmp 57), none⟩,
         ⟨some 54, .move (.tmp 58), none⟩])
      (.keep [1, 3, 5, 7, 10, 54] [5, 7, 10] (.cond (.tmp 54)
       (.seq (.region [⟨some 59, .load true 8 (.tmp 5), none⟩,
          ⟨none, .store 8 (.tmp 10) (.tmp 59), none⟩,
          ⟨some 11, .move (.const (.int .i64 84)), none⟩])
       (.keep [10, 11] [10] (.ret)))
       (.seq (.region [⟨some 61, .fieldAddr 2 (.tmp 5), none⟩,
          ⟨some 62, .load false 1 (.tmp 61), none⟩,
          ⟨some 63, .bin .eql .int (.tmp 62) (.const (.int .i64 2)), none⟩,
          ⟨some 64, .move (.tmp 63), none⟩,
          ⟨some 65, .move (.tmp 3), some (64, true)⟩,
          ⟨some 66, .un .not (.tmp 65), some (64, true)⟩,
          ⟨some 67, .move (.tmp 66), some (64, true)⟩,
          ⟨some 68, .fieldAddr 1 (.tmp 5), some (67, false)⟩,
          ⟨some 69, .load false 1 (.tmp 68), some (67, false)⟩,
          ⟨some 70, .move (.tmp 1), some (67, false)⟩,
          ⟨some 71, .bin .lss .none (.tmp 69) (.tmp 70), some (67, false)⟩,
          ⟨some 72, .pick (.tmp 67) (.const (.bool true)) (.tmp 71), some (64, true)⟩,
          ⟨some 73, .move (.tmp 72), some (64, true)⟩,
          ⟨some 74, .fieldAddr 3 (.tmp 5), some (73, false)⟩,
          ⟨some 75, .load true 2 (.tmp 74), some (73, false)⟩,
          ⟨some 76, .load true 2 (.tmp 7), some (73, false)⟩,
          ⟨some 77, .bin .neq (.struct [(0, false, 1, .int), (1, false, 1, .int)]) (.tmp 75) (.tmp 76), some (73, false)⟩,
          ⟨some 78, .pick (.tmp 73) (.const (.bool true)) (.tmp 77), some (64, true)⟩,
          ⟨some 79, .pick (.tmp 64) (.tmp 78) (.const (.bool false)), none⟩,
          ⟨some 60, .move (.tmp 79), none⟩])
       (.keep [1, 3, 5, 7, 10, 60] [5, 7, 10] (.cond (.tmp 60)
        (.seq (.region [⟨some 80, .load true 8 (.tmp 5), none⟩,
           ⟨none, .store 8 (.tmp 10) (.tmp 80), none⟩,
           ⟨some 11, .move (.const (.int .i64 123)), none⟩])
        (.keep [10, 11] [10] (.ret)))
        (.skip))))))))))))))))
  (.keep [1, 3, 5, 7, 10] [5, 7, 10] (.seq (.region [⟨some 81, .load true 8 (.tmp 5), none⟩,
     ⟨some 82, .move (.tmp 1), none⟩,
     ⟨some 83, .load true 2 (.tmp 7), none⟩,
     ⟨some 84, .move (.tmp 3), none⟩,
     ⟨some 85, .call (.func 234) [(.tmp 81), (.tmp 82), (.tmp 83), (.tmp 84)], none⟩,
     ⟨none, .store 8 (.tmp 10) (.tmp 85), none⟩,
     ⟨some 11, .move (.const (.int .i64 0)), none⟩])
  (.keep [10, 11] [10] (.ret))))))))))))⟩
/-- wampum/record.recovers -/
def F233 : FnIR := ⟨37, 4, [.cell 8 true 8, .tmp 9], [4, 6, 8],
  .seq (.region [⟨some 4, .box true 8 (.tmp 0), none⟩,
     ⟨some 6, .box true 2 (.tmp 2), none⟩,
     ⟨some 8, .alloc true 8 [(.int .i64 0), (.int .i64 0), (.int .i64 0), (.int .i64 0), (.int .i64 0), (.int .i64 0), (.int .i64 0), .nils], none⟩,
     ⟨some 9, .move (.const (.int .i64 0)), none⟩])
  (.keep [1, 3, 4, 6, 8] [4, 6, 8] (.seq (.block 0 (.seq (.region [⟨some 11, .load true 8 (.tmp 4), none⟩,
       ⟨some 12, .call (.func 232) [(.tmp 11)], none⟩,
       ⟨some 13, .bin .neq .int (.tmp 12) (.const (.int .i64 0)), none⟩,
       ⟨some 10, .move (.tmp 13), none⟩])
    (.keep [1, 3, 4, 6, 8, 10] [4, 6, 8] (.cond (.tmp 10)
     (.seq (.region [⟨some 14, .load true 8 (.tmp 4), none⟩,
        ⟨none, .store 8 (.tmp 8) (.tmp 14), none⟩,
        ⟨some 9, .move (.const (.int .i64 0)), none⟩])
     (.keep [8, 9] [8] (.ret)))
     (.seq (.region [⟨some 16, .fieldAddr 2 (.tmp 4), none⟩,
        ⟨some 17, .load false 1 (.tmp 16), none⟩,
        ⟨some 18, .bin .neq .int (.tmp 17) (.const (.int .i64 2)), none⟩,
        ⟨some 19, .move (.tmp 18), none⟩,
        ⟨some 20, .fieldAddr 1 (.tmp 4), some (19, false)⟩,
        ⟨some 21, .load false 1 (.tmp 20), some (19, false)⟩,
        ⟨some 22, .move (.tmp 1), some (19, false)⟩,
        ⟨some 23, .bin .neq .int (.tmp 21) (.tmp 22), some (19, false)⟩,
        ⟨some 24, .pick (.tmp 19) (.const (.bool true)) (.tmp 23), none⟩,
        ⟨some 25, .move (.tmp 24), none⟩,
        ⟨some 26, .fieldAddr 3 (.tmp 4), some (25, false)⟩,
        ⟨some 27, .load true 2 (.tmp 26), some (25, false)⟩,
        ⟨some 28, .load true 2 (.tmp 6), some (25, false)⟩,
        ⟨some 29, .bin .neq (.struct [(0, false, 1, .int), (1, false, 1, .int)]) (.tmp 27) (.tmp 28), some (25, false)⟩,
        ⟨some 30, .pick (.tmp 25) (.const (.bool true)) (.tmp 29), none⟩,
        ⟨some 15, .move (.tmp 30), none⟩])
     (.keep [1, 3, 4, 6, 8, 15] [4, 6, 8] (.cond (.tmp 15)
      (.seq (.region [⟨some 31, .load true 8 (.tmp 4), none⟩,
         ⟨none, .store 8 (.tmp 8) (.tmp 31), none⟩,
         ⟨some 9, .move (.const (.int .i64 84)), none⟩])
      (.keep [8, 9] [8] (.ret)))
      (.skip))))))))
  (.keep [1, 3, 4, 6, 8] [4, 6, 8] (.seq (.region [⟨some 32, .load true 8 (.tmp 4), none⟩,
     ⟨some 33, .move (.tmp 1), none⟩,
     ⟨some 34, .load true 2 (.tmp 6), none⟩,
     ⟨some 35, .move (.tmp 3), none⟩,
     ⟨some 36, .call (.func 234) [(.tmp 32), (.tmp 33), (.tmp 34), (.tmp 35)], none⟩,
     ⟨none, .store 8 (.tmp 8) (.tmp 36), none⟩,
     ⟨some 9, .move (.const (.int .i64 0)), none⟩])
  (.keep [8, 9] [8] (.ret))))))⟩
/-- wampum/record.decided -/
def F234 : FnIR := ⟨21, 4, [.cell 8 true 8], [4, 6, 8, 9],
  .seq (.region [⟨some 4, .box true 8 (.tmp 0), none⟩,
     ⟨some 6, .box true 2 (.tmp 2), none⟩,
     ⟨some 8, .alloc true 8 [(.int .i64 0), (.int .i64 0), (.int .i64 0), (.int .i64 0), (.int .i64 0), (.int .i64 0), (.int .i64 0), .nils], none⟩])
  (.keep [1, 3, 4, 6, 8] [4, 6, 8] (.seq (.region [⟨some 10, .fieldAddr 0 (.tmp 4), none⟩,
     ⟨some 11, .load false 1 (.tmp 10), none⟩,
     ⟨some 12, .move (.tmp 1), none⟩,
     ⟨some 13, .fieldAddr 5 (.tmp 4), none⟩,
     ⟨some 14, .load true 2 (.tmp 13), none⟩,
     ⟨some 15, .build [(.int .i64 0), (.int .i64 0), (.int .i64 0), (.int .i64 0), (.int .i64 0), (.int .i64 0), (.int .i64 0), .nils] [(0, 1, (.tmp 11)), (1, 1, (.tmp 12)), (2, 1, (.const (.int .i64 4))), (5, 2, (.tmp 14))], none⟩,
     ⟨some 9, .alloc true 8 [(.int .i64 0), (.int .i64 0), (.int .i64 0), (.int .i64 0), (.int .i64 0), (.int .i64 0), (.int .i64 0), .nils], none⟩,
     ⟨none, .store 8 (.tmp 9) (.tmp 15), none⟩])
  (.keep [3, 6, 8, 9] [6, 8, 9] (.seq (.seq (.region [⟨some 16, .move (.tmp 3), none⟩])
   (.keep [6, 8, 9, 16] [6, 8, 9] (.cond (.tmp 16)
    (.regionD [⟨some 18, .fieldAddr 2 (.tmp 9), none⟩,
      ⟨none, .store 1 (.tmp 18) (.const (.int .i64 3)), none⟩,
      ⟨some 17, .load true 2 (.tmp 6), none⟩,
      ⟨some 19, .fieldAddr 3 (.tmp 9), none⟩,
      ⟨none, .store 2 (.tmp 19) (.tmp 17), none⟩] [(2, 0)])
    (.skip))))
  (.keep [8, 9] [8, 9] (.seq (.region [⟨some 20, .load true 8 (.tmp 9), none⟩,
     ⟨none, .store 8 (.tmp 8) (.tmp 20), none⟩])
  (.keep [8] [8] (.ret))))))))⟩
/-- wampum/record.Push -/
def F200 : FnIR := ⟨68, 4, [.cell 8 true 8, .tmp 9], [4, 5, 6, 8, 10],
  .seq (.region [⟨some 4, .box true 8 (.tmp 0), none⟩,
     ⟨some 5, .box true 5 (.tmp 1), none⟩,
     ⟨some 6, .box true 2 (.tmp 2), none⟩,
     ⟨some 8, .alloc true 8 [(.int .i64 0), (.int .i64 0), (.int .i64 0), (.int .i64 0), (.int .i64 0), (.int .i64 0), (.int .i64 0), .nils], none⟩,
     ⟨some 9, .move (.const (.int .i64 0)), none⟩])
  (.keep [3, 4, 5, 6, 8] [4, 5, 6, 8] (.seq (.region [⟨some 11, .load true 8 (.tmp 4), none⟩,
     ⟨some 12, .call (.func 231) [(.tmp 11)], none⟩,
     ⟨none, .store 8 (.tmp 4) (.tmp 12), none⟩])
  (.keep [3, 4, 5, 6, 8] [4, 5, 6, 8] (.seq (.seq (.region [⟨some 13, .fieldAddr 1 (.tmp 5), none⟩,
      ⟨some 14, .load false 1 (.tmp 13), none⟩,
      ⟨some 15, .call (.func 218) [(.tmp 14)], none⟩,
      ⟨some 16, .un .not (.tmp 15), none⟩,
      ⟨some 17, .move (.tmp 16), none⟩,
      ⟨some 18, .load true 2 (.tmp 6), some (17, false)⟩,
      ⟨some 19, .call (.func 184) [(.tmp 18)], some (17, false)⟩,
      ⟨some 20, .un .not (.tmp 19), some (17, false)⟩,
      ⟨some 21, .pick (.tmp 17) (.const (.bool true)) (.tmp 20), none⟩,
      ⟨some 22, .move (.tmp 21), none⟩,
      ⟨some 23, .fieldAddr 3 (.tmp 5), some (22, false)⟩,
      ⟨some 24, .load true 2 (.tmp 23), some (22, false)⟩,
      ⟨some 25, .call (.func 184) [(.tmp 24)], some (22, false)⟩,
      ⟨some 26, .un .not (.tmp 25), some (22, false)⟩,
      ⟨some 27, .pick (.tmp 22) (.const (.bool true)) (.tmp 26), none⟩])
   (.keep [3, 4, 5, 6, 8, 27] [4, 5, 6, 8] (.cond (.tmp 27)
    (.seq (.region [⟨some 28, .load true 8 (.tmp 4), none⟩,
       ⟨none, .store 8 (.tmp 8) (.tmp 28), none⟩,
       ⟨some 9, .move (.const (.int .i64 1)), none⟩])
    (.keep [8, 9] [8] (.ret)))
    (.skip))))
  (.keep [3, 4, 5, 6, 8] [4, 5, 6, 8] (.seq (.region [⟨some 29, .fieldAddr 5 (.tmp 4), none⟩,
     ⟨some 30, .load true 2 (.tmp 29), none⟩,
     ⟨some 10, .alloc true 2 [(.int .i64 0), (.int .i64 0)], none⟩,
     ⟨none, .store 2 (.tmp 10) (.tmp 30), none⟩])
  (.keep [3, 4, 5, 6, 8, 10] [4, 5, 6, 8, 10] (.seq (.seq (.region [⟨some 31, .fieldAddr 2 (.tmp 4), none⟩,
      ⟨some 32, .load false 1 (.tmp 31), none⟩])
   (.keep [3, 4, 5, 6, 8, 10, 32] [4, 5, 6, 8, 10] (.block 0 (.seq (.seq (.region [⟨some 34, .bin .eql .int (.tmp 32) (.const (.int .i64 3)), none⟩,
        ⟨some 33, .move (.tmp 34), none⟩])
     (.keep [3, 4, 5, 6, 8, 10, 32, 33] [4, 5, 6, 8, 10] (.cond (.tmp 33)
      (.skip)
      (.region [⟨some 35, .bin .eql .int (.tmp 32) (.const (.int .i64 4)), none⟩,
        ⟨some 33, .move (.tmp 35), none⟩]))))
    (.keep [3, 4, 5, 6, 8, 10, 32, 33] [4, 5, 6, 8, 10] (.cond (.tmp 33)
     (.seq (.region [⟨some 36, .load true 8 (.tmp 4), none⟩,
        ⟨none, .store 8 (.tmp 8) (.tmp 36), none⟩,
        ⟨some 9, .move (.const (.int .i64 0)), none⟩])
     (.keep [8, 9] [8] (.ret)))
     (.seq (.region [⟨some 38, .bin .eql .int (.tmp 32) (.const (.int .i64 0)), none⟩,
        ⟨some 37, .move (.tmp 38), none⟩])
     (.keep [3, 4, 5, 6, 8, 10, 37] [4, 5, 6, 8, 10] (.cond (.tmp 37)
      (.region [⟨some 39, .fieldAddr 3 (.tmp 5), none⟩,
        ⟨some 40, .load true 2 (.tmp 39), none⟩,
        ⟨none, .store 2 (.tmp 10) (.tmp 40), none⟩])
      (.skip))))))))))
  (.keep [3, 4, 5, 6, 8, 10] [4, 5, 6, 8, 10] (.seq (.block 1 (.seq (.region [⟨some 42, .move (.tmp 3), none⟩,
       ⟨some 43, .fieldAddr 0 (.tmp 5), none⟩,
       ⟨some 44, .load false 1 (.tmp 43), none⟩,
       ⟨some 45, .bin .geq .none (.tmp 42) (.tmp 44), none⟩,
       ⟨some 46, .move (.tmp 45), none⟩,
       ⟨some 47, .fieldAddr 0 (.tmp 10), some (46, true)⟩,
       ⟨some 48, .load false 1 (.tmp 47), some (46, true)⟩,
       ⟨some 49, .bin .add .none (.tmp 48) (.const (.int .i64 40)), some (46, true)⟩,
       ⟨some 50, .fieldAddr 0 (.tmp 6), some (46, true)⟩,
       ⟨some 51, .load false 1 (.tmp 50), some (46, true)⟩,
       ⟨some 52, .bin .geq .none (.tmp 49) (.tmp 51), some (46, true)⟩,
       ⟨some 53, .pick (.tmp 46) (.tmp 52) (.const (.bool false)), none⟩,
       ⟨some 41, .move (.tmp 53), none⟩])
    (.keep [4, 5, 8, 41] [4, 5, 8] (.cond (.tmp 41)
     (.seq (.region [⟨some 54, .load true 8 (.tmp 4), none⟩,
        ⟨none, .store 8 (.tmp 8) (.tmp 54), none⟩,
        ⟨some 9, .move (.const (.int .i64 121)), none⟩])
     (.keep [8, 9] [8] (.ret)))
     (.seq (.region [⟨some 56, .fieldAddr 2 (.tmp 4), none⟩,
        ⟨some 57, .load false 1 (.tmp 56), none⟩,
        ⟨some 58, .bin .eql .int (.tmp 57) (.const (.int .i64 2)), none⟩,
        ⟨some 55, .move (.tmp 58), none⟩])
     (.keep [4, 5, 8, 55] [4, 5, 8] (.cond (.tmp 55)
      (.seq (.region [⟨some 59, .load true 8 (.tmp 4), none⟩,
         ⟨none, .store 8 (.tmp 8) (.tmp 59), none⟩,
         ⟨some 9, .move (.const (.int .i64 123)), none⟩])
      (.keep [8, 9] [8] (.ret)))
      (.skip))))))))
  (.keep [4, 5, 8] [4, 5, 8] (.seq (.region [⟨some 60, .load true 8 (.tmp 4), none⟩,
     ⟨some 61, .fieldAddr 1 (.tmp 4), none⟩,
     ⟨some 62, .load false 1 (.tmp 61), none⟩,
     ⟨some 63, .fieldAddr 1 (.tmp 5), none⟩,
     ⟨some 64, .load false 1 (.tmp 63), none⟩,
     ⟨some 65, .maxs (.tmp 62) [(.tmp 64)], none⟩,
     ⟨some 66, .build [(.int .i64 0), (.int .i64 0)] [], none⟩,
     ⟨some 67, .call (.func 234) [(.tmp 60), (.tmp 65), (.tmp 66), (.const (.bool false))], none⟩,
     ⟨none, .store 8 (.tmp 8) (.tmp 67), none⟩,
     ⟨some 9, .move (.const (.int .i64 0)), none⟩])
  (.keep [8, 9] [8] (.ret))))))))))))))⟩
/-- (*wampum/state.State).Lease -/
def F20 : FnIR := ⟨14, 1, [.tmp 2, .tmp 3], [],
  .seq (.region [⟨some 2, .move (.const (.int .i64 0)), none⟩,
     ⟨some 3, .move (.const (.int .i64 0)), none⟩])
  (.keep [0] [] (.seq (.seq (.region [⟨some 4, .move (.tmp 0), none⟩,
      ⟨some 5, .bin .eql .ptr (.tmp 4) (.const .nilp), none⟩])
   (.keep [0, 5] [] (.cond (.tmp 5)
    (.seq (.region [⟨some 2, .move (.const (.int .i64 0)), none⟩,
       ⟨some 3, .move (.const (.int .i64 0)), none⟩])
    (.keep [2, 3] [] (.ret)))
    (.skip))))
  (.keep [0] [] (.seq (.regionD [⟨some 6, .move (.tmp 0), none⟩,
     ⟨some 7, .nilCheck (.tmp 6), none⟩,
     ⟨some 8, .fieldAddr 2 (.tmp 7), none⟩,
     ⟨some 9, .load false 1 (.tmp 8), none⟩,
     ⟨some 10, .move (.tmp 0), none⟩,
     ⟨some 11, .nilCheck (.tmp 10), none⟩,
     ⟨some 12, .fieldAddr 3 (.tmp 11), none⟩,
     ⟨some 13, .load false 1 (.tmp 12), none⟩,
     ⟨some 2, .move (.tmp 9), none⟩,
     ⟨some 3, .move (.tmp 13), none⟩] [])
  (.keep [2, 3] [] (.ret))))))⟩
theorem fits133 : FnFits Tryz.prog 133 F133 := ⟨Tryz.f133, _, Tryz.func133, rfl, by decide, rfl, by decide, by kernel_rfl, by kernel_rfl⟩
theorem fits36 : FnFits Tryz.prog 36 F36 := ⟨Tryz.f36, _, Tryz.func36, rfl, by decide, rfl, by decide, by kernel_rfl, by kernel_rfl⟩
theorem fits91 : FnFits Tryz.prog 91 F91 := ⟨Tryz.f91, _, Tryz.func91, rfl, by decide, rfl, by decide, by kernel_rfl, by kernel_rfl⟩
theorem fits197 : FnFits Tryz.prog 197 F197 := ⟨Tryz.f197, _, Tryz.func197, rfl, by decide, rfl, by decide, by kernel_rfl, by kernel_rfl⟩
theorem fits231 : FnFits Tryz.prog 231 F231 := ⟨Tryz.f231, _, Tryz.func231, rfl, by decide, rfl, by decide, by kernel_rfl, by kernel_rfl⟩
theorem fits218 : FnFits Tryz.prog 218 F218 := ⟨Tryz.f218, _, Tryz.func218, rfl, by decide, rfl, by decide, by kernel_rfl, by kernel_rfl⟩
theorem fits198 : FnFits Tryz.prog 198 F198 := ⟨Tryz.f198, _, Tryz.func198, rfl, by decide, rfl, by decide, by kernel_rfl, by kernel_rfl⟩
theorem fits219 : FnFits Tryz.prog 219 F219 := ⟨Tryz.f219, _, Tryz.func219, rfl, by decide, rfl, by decide, by kernel_rfl, by kernel_rfl⟩
theorem fits232 : FnFits Tryz.prog 232 F232 := ⟨Tryz.f232, _, Tryz.func232, rfl, by decide, rfl, by decide, by kernel_rfl, by kernel_rfl⟩
theorem fits199 : FnFits Tryz.prog 199 F199 := ⟨Tryz.f199, _, Tryz.func199, rfl, by decide, rfl, by decide, by kernel_rfl, by kernel_rfl⟩
theorem fits233 : FnFits Tryz.prog 233 F233 := ⟨Tryz.f233, _, Tryz.func233, rfl, by decide, rfl, by decide, by kernel_rfl, by kernel_rfl⟩
theorem fits234 : FnFits Tryz.prog 234 F234 := ⟨Tryz.f234, _, Tryz.func234, rfl, by decide, rfl, by decide, by kernel_rfl, by kernel_rfl⟩
theorem fits200 : FnFits Tryz.prog 200 F200 := ⟨Tryz.f200, _, Tryz.func200, rfl, by decide, rfl, by decide, by kernel_rfl, by kernel_rfl⟩
theorem fits20 : FnFits Tryz.prog 20 F20 := ⟨Tryz.f20, _, Tryz.func20, rfl, by decide, rfl, by decide, by kernel_rfl, by kernel_rfl⟩
end Go.Proofs.YtgokjbjbdnbcdaaGreat.AlS14
