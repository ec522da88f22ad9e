/- Functions of the program in our form (S9, a). No condition. -/
import Derived.Test.YtgokjbjbdnbcdaaAmZ
import Derived.Test.YtgokjbjbdnbcdaaRows
set_option linter.unusedVariables false
set_option linter.unusedSimpArgs false
namespace Go.Proofs.Ytgokjbjbdnbcdaa
open Go.Wam
variable {R : Type} (C : CallF) (D : IC → St → Option (AExit × St)) (c : IC) (H : AHeap) (k : AExit → SK → Option R)
/-- (wampum/wampumlaw09.Act).fits -/
def O7_0 : List IOper :=
  [⟨some 1, .box true 21 (.tmp 0), none⟩,
   ⟨some 2, .move (.const (.bool false)), none⟩]
@[simp] theorem R7_0 (x0 : AV) :
  evK C D (.seq (.region O7_0) (.keep [1] [1] c)) ⟨[(0, .v x0)], [], H⟩ k =
  (boxC x0).bind fun m0 =>
  evK C D c ⟨[(1, .l 1 0)], [(1, m0)], H⟩ k := by kernel_rfl
def O7_1 : List IOper :=
  [⟨some 3, .fieldAddr 3 (.tmp 1), none⟩,
   ⟨some 4, .load false 1 (.tmp 3), none⟩,
   ⟨some 5, .len .str (.tmp 4), none⟩,
   ⟨some 6, .bin .leq .none (.tmp 5) (.const (.int .i64 60)), none⟩,
   ⟨some 7, .move (.tmp 6), none⟩,
   ⟨some 8, .fieldAddr 4 (.tmp 1), some (7, true)⟩,
   ⟨some 9, .fieldAddr 0 (.tmp 8), some (7, true)⟩,
   ⟨some 10, .load false 1 (.tmp 9), some (7, true)⟩,
   ⟨some 11, .len .str (.tmp 10), some (7, true)⟩,
   ⟨some 12, .bin .leq .none (.tmp 11) (.const (.int .i64 60)), some (7, true)⟩,
   ⟨some 13, .pick (.tmp 7) (.tmp 12) (.const (.bool false)), none⟩,
   ⟨some 14, .move (.tmp 13), none⟩,
   ⟨some 15, .fieldAddr 4 (.tmp 1), some (14, true)⟩,
   ⟨some 16, .fieldAddr 1 (.tmp 15), some (14, true)⟩,
   ⟨some 17, .load false 1 (.tmp 16), some (14, true)⟩,
   ⟨some 18, .len .str (.tmp 17), some (14, true)⟩,
   ⟨some 19, .bin .leq .none (.tmp 18) (.const (.int .i64 60)), some (14, true)⟩,
   ⟨some 20, .pick (.tmp 14) (.tmp 19) (.const (.bool false)), none⟩,
   ⟨some 21, .move (.tmp 20), none⟩,
   ⟨some 22, .fieldAddr 6 (.tmp 1), some (21, true)⟩,
   ⟨some 23, .fieldAddr 8 (.tmp 22), some (21, true)⟩,
   ⟨some 24, .load false 1 (.tmp 23), some (21, true)⟩,
   ⟨some 25, .len .str (.tmp 24), some (21, true)⟩,
   ⟨some 26, .bin .leq .none (.tmp 25) (.const (.int .i64 60)), some (21, true)⟩,
   ⟨some 27, .pick (.tmp 21) (.tmp 26) (.const (.bool false)), none⟩,
   ⟨some 28, .move (.tmp 27), none⟩,
   ⟨some 29, .fieldAddr 6 (.tmp 1), some (28, true)⟩,
   ⟨some 30, .fieldAddr 0 (.tmp 29), some (28, true)⟩,
   ⟨some 31, .fieldAddr 2 (.tmp 30), some (28, true)⟩,
   ⟨some 32, .load false 1 (.tmp 31), some (28, true)⟩,
   ⟨some 33, .len .str (.tmp 32), some (28, true)⟩,
   ⟨some 34, .bin .leq .none (.tmp 33) (.const (.int .i64 60)), some (28, true)⟩,
   ⟨some 35, .pick (.tmp 28) (.tmp 34) (.const (.bool false)), none⟩,
   ⟨some 36, .move (.tmp 35), none⟩,
   ⟨some 37, .fieldAddr 6 (.tmp 1), some (36, true)⟩,
   ⟨some 38, .fieldAddr 0 (.tmp 37), some (36, true)⟩,
   ⟨some 39, .fieldAddr 0 (.tmp 38), some (36, true)⟩,
   ⟨some 40, .load false 1 (.tmp 39), some (36, true)⟩,
   ⟨some 41, .bin .geq .none (.tmp 40) (.const (.int .i64 0)), some (36, true)⟩,
   ⟨some 42, .pick (.tmp 36) (.tmp 41) (.const (.bool false)), none⟩,
   ⟨some 43, .move (.tmp 42), none⟩,
   ⟨some 44, .fieldAddr 6 (.tmp 1), some (43, true)⟩,
   ⟨some 45, .fieldAddr 0 (.tmp 44), some (43, true)⟩,
   ⟨some 46, .fieldAddr 0 (.tmp 45), some (43, true)⟩,
   ⟨some 47, .load false 1 (.tmp 46), some (43, true)⟩,
   ⟨some 48, .bin .leq .none (.tmp 47) (.const (.int .i64 1099511627776)), some (43, true)⟩,
   ⟨some 49, .pick (.tmp 43) (.tmp 48) (.const (.bool false)), none⟩,
   ⟨some 50, .move (.tmp 49), none⟩,
   ⟨some 51, .fieldAddr 6 (.tmp 1), some (50, true)⟩,
   ⟨some 52, .fieldAddr 0 (.tmp 51), some (50, true)⟩,
   ⟨some 53, .fieldAddr 1 (.tmp 52), some (50, true)⟩,
   ⟨some 54, .load false 1 (.tmp 53), some (50, true)⟩,
   ⟨some 55, .bin .geq .none (.tmp 54) (.const (.int .i64 0)), some (50, true)⟩,
   ⟨some 56, .pick (.tmp 50) (.tmp 55) (.const (.bool false)), none⟩,
   ⟨some 57, .move (.tmp 56), none⟩,
   ⟨some 58, .fieldAddr 6 (.tmp 1), some (57, true)⟩,
   ⟨some 59, .fieldAddr 0 (.tmp 58), some (57, true)⟩,
   ⟨some 60, .fieldAddr 1 (.tmp 59), some (57, true)⟩,
   ⟨some 61, .load false 1 (.tmp 60), some (57, true)⟩,
   ⟨some 62, .bin .leq .none (.tmp 61) (.const (.int .i64 1099511627776)), some (57, true)⟩,
   ⟨some 63, .pick (.tmp 57) (.tmp 62) (.const (.bool false)), none⟩,
   ⟨some 64, .move (.tmp 63), none⟩,
   ⟨some 65, .fieldAddr 6 (.tmp 1), some (64, true)⟩,
   ⟨some 66, .fieldAddr 5 (.tmp 65), some (64, true)⟩,
   ⟨some 67, .load false 1 (.tmp 66), some (64, true)⟩,
   ⟨some 68, .bin .geq .none (.tmp 67) (.const (.int .i64 0)), some (64, true)⟩,
   ⟨some 69, .pick (.tmp 64) (.tmp 68) (.const (.bool false)), none⟩,
   ⟨some 70, .move (.tmp 69), none⟩,
   ⟨some 71, .fieldAddr 6 (.tmp 1), some (70, true)⟩,
   ⟨some 72, .fieldAddr 5 (.tmp 71), some (70, true)⟩,
   ⟨some 73, .load false 1 (.tmp 72), some (70, true)⟩,
   ⟨some 74, .bin .leq .none (.tmp 73) (.const (.int .i64 1099511627776)), some (70, true)⟩,
   ⟨some 75, .pick (.tmp 70) (.tmp 74) (.const (.bool false)), none⟩,
   ⟨some 76, .move (.tmp 75), none⟩,
   ⟨some 77, .fieldAddr 6 (.tmp 1), some (76, true)⟩,
   ⟨some 78, .fieldAddr 0 (.tmp 77), some (76, true)⟩,
   ⟨some 79, .fieldAddr 2 (.tmp 78), some (76, true)⟩,
   ⟨some 80, .load false 1 (.tmp 79), some (76, true)⟩,
   ⟨some 81, .call (.func 22) [(.tmp 80)], some (76, true)⟩,
   ⟨some 82, .pick (.tmp 76) (.tmp 81) (.const (.bool false)), none⟩,
   ⟨some 83, .move (.tmp 82), none⟩,
   ⟨some 84, .fieldAddr 6 (.tmp 1), some (83, true)⟩,
   ⟨some 85, .fieldAddr 0 (.tmp 84), some (83, true)⟩,
   ⟨some 86, .fieldAddr 3 (.tmp 85), some (83, true)⟩,
   ⟨some 87, .load true 2 (.tmp 86), some (83, true)⟩,
   ⟨some 88, .call (.func 23) [(.tmp 87)], some (83, true)⟩,
   ⟨some 89, .pick (.tmp 83) (.tmp 88) (.const (.bool false)), none⟩,
   ⟨some 2, .move (.tmp 89), none⟩]
@[simp] theorem R7_1 (l1 : List AV) :
  evK C D (.seq (.region O7_1) (.keep [2] [] c)) ⟨[(1, .l 1 0)], [(1, l1)], H⟩ k =
  (nl (rd false 1 3 l1)).bind fun t1 =>
  (lenStr t1).bind fun t2 =>
  (nl (binA .leq .none t2 (.int .i64 60))).bind fun t3 =>
  guardK t3 true (
  (nl (rd false 1 4 l1)).bind fun t7 =>
  (lenStr t7).bind fun t8 =>
  (nl (binA .leq .none t8 (.int .i64 60))).bind fun t9 =>
  guardK t9 true (
  (nl (rd false 1 5 l1)).bind fun t14 =>
  (lenStr t14).bind fun t15 =>
  (nl (binA .leq .none t15 (.int .i64 60))).bind fun t16 =>
  guardK t16 true (
  (nl (rd false 1 14 l1)).bind fun t21 =>
  (lenStr t21).bind fun t22 =>
  (nl (binA .leq .none t22 (.int .i64 60))).bind fun t23 =>
  guardK t23 true (
  (nl (rd false 1 8 l1)).bind fun t29 =>
  (lenStr t29).bind fun t30 =>
  (nl (binA .leq .none t30 (.int .i64 60))).bind fun t31 =>
  guardK t31 true (
  (nl (rd false 1 6 l1)).bind fun t37 =>
  (nl (binA .geq .none t37 (.int .i64 0))).bind fun t38 =>
  guardK t38 true (
  (nl (rd false 1 6 l1)).bind fun t44 =>
  (nl (binA .leq .none t44 (.int .i64 1099511627776))).bind fun t45 =>
  guardK t45 true (
  (nl (rd false 1 7 l1)).bind fun t51 =>
  (nl (binA .geq .none t51 (.int .i64 0))).bind fun t52 =>
  guardK t52 true (
  (nl (rd false 1 7 l1)).bind fun t58 =>
  (nl (binA .leq .none t58 (.int .i64 1099511627776))).bind fun t59 =>
  guardK t59 true (
  (nl (rd false 1 11 l1)).bind fun t64 =>
  (nl (binA .geq .none t64 (.int .i64 0))).bind fun t65 =>
  guardK t65 true (
  (nl (rd false 1 11 l1)).bind fun t70 =>
  (nl (binA .leq .none t70 (.int .i64 1099511627776))).bind fun t71 =>
  guardK t71 true (
  (nl (rd false 1 8 l1)).bind fun t77 =>
  (callN C (.func (.func 22) [] []) [t77] H).bind fun r78 =>
  guardK r78.1 true (
  (nl (rd true 2 9 l1)).bind fun t84 =>
  (callN C (.func (.func 23) [] []) [t84] r78.2).bind fun r85 =>
  evK C D c ⟨[(2, .v r85.1)], [], r85.2⟩ k)
  (evK C D c ⟨[(2, .v (.bool false))], [], r78.2⟩ k))
  (evK C D c ⟨[(2, .v (.bool false))], [], H⟩ k))
  (evK C D c ⟨[(2, .v (.bool false))], [], H⟩ k))
  (evK C D c ⟨[(2, .v (.bool false))], [], H⟩ k))
  (evK C D c ⟨[(2, .v (.bool false))], [], H⟩ k))
  (evK C D c ⟨[(2, .v (.bool false))], [], H⟩ k))
  (evK C D c ⟨[(2, .v (.bool false))], [], H⟩ k))
  (evK C D c ⟨[(2, .v (.bool false))], [], H⟩ k))
  (evK C D c ⟨[(2, .v (.bool false))], [], H⟩ k))
  (evK C D c ⟨[(2, .v (.bool false))], [], H⟩ k))
  (evK C D c ⟨[(2, .v (.bool false))], [], H⟩ k))
  (evK C D c ⟨[(2, .v (.bool false))], [], H⟩ k) := by kernel_rfl
def F7 : FnIR := ⟨90, 1, [.tmp 2], [1],
  .seq (.region O7_0)
  (.keep [1] [1] (.seq (.region O7_1)
  (.keep [2] [] (.ret))))⟩
/-- wampum/wampumref05.Key -/
def O22_0 : List IOper :=
  [⟨some 2, .move (.const (.bool false)), none⟩]
@[simp] theorem R22_0 (x0 : AV) :
  evK C D (.seq (.region O22_0) (.keep [0] [] c)) ⟨[(0, .v x0)], [], H⟩ k =
  evK C D c ⟨[(0, .v x0)], [], H⟩ k := by kernel_rfl
def O22_1 : List IOper :=
  [⟨some 3, .move (.const (.int .i64 0)), none⟩]
@[simp] theorem R22_1 (x0 : AV) :
  evK C D (.seq (.region O22_1) (.keep [0, 3] [] c)) ⟨[(0, .v x0)], [], H⟩ k =
  evK C D c ⟨[(0, .v x0), (3, .v (.int .i64 0))], [], H⟩ k := by kernel_rfl
def O22_2 : List IOper :=
  [⟨some 4, .move (.tmp 3), none⟩,
   ⟨some 5, .move (.tmp 0), none⟩,
   ⟨some 6, .len .str (.tmp 5), none⟩,
   ⟨some 7, .bin .lss .none (.tmp 4) (.tmp 6), none⟩]
@[simp] theorem R22_2 (x0 x3 : AV) :
  evK C D (.seq (.region O22_2) (.keep [0, 3, 7] [] c)) ⟨[(0, .v x0), (3, .v x3)], [], H⟩ k =
  (lenStr x0).bind fun t2 =>
  (nl (binA .lss .none x3 t2)).bind fun t3 =>
  evK C D c ⟨[(0, .v x0), (3, .v x3), (7, .v t3)], [], H⟩ k := by kernel_rfl
def O22_3 : List IOper :=
  [⟨some 10, .move (.tmp 0), none⟩,
   ⟨some 11, .move (.tmp 3), none⟩,
   ⟨some 12, .index none (.tmp 10) (.tmp 11), none⟩,
   ⟨some 13, .bin .lss .none (.tmp 12) (.const (.int .u8 97)), none⟩,
   ⟨some 14, .move (.tmp 13), none⟩,
   ⟨some 15, .move (.tmp 0), some (14, false)⟩,
   ⟨some 16, .move (.tmp 3), some (14, false)⟩,
   ⟨some 17, .index none (.tmp 15) (.tmp 16), some (14, false)⟩,
   ⟨some 18, .bin .gtr .none (.tmp 17) (.const (.int .u8 122)), some (14, false)⟩,
   ⟨some 19, .pick (.tmp 14) (.const (.bool true)) (.tmp 18), none⟩]
@[simp] theorem R22_3 (x0 x3 : AV) :
  evK C D (.seq (.region O22_3) (.keep [0, 3, 19] [] c)) ⟨[(0, .v x0), (3, .v x3)], [], H⟩ k =
  (idxStr x0 x3).bind fun t2 =>
  (nl (binA .lss .none t2 (.int .u8 97))).bind fun t3 =>
  guardK t3 false (
  (idxStr x0 x3).bind fun t7 =>
  (nl (binA .gtr .none t7 (.int .u8 122))).bind fun t8 =>
  evK C D c ⟨[(0, .v x0), (3, .v x3), (19, .v t8)], [], H⟩ k)
  (evK C D c ⟨[(0, .v x0), (3, .v x3), (19, .v (.bool true))], [], H⟩ k) := by kernel_rfl
def O22_4 : List IOper :=
  [⟨some 2, .move (.const (.bool false)), none⟩]
@[simp] theorem R22_4 (x0 x3 x19 : AV) :
  evK C D (.seq (.region O22_4) (.keep [2] [] c)) ⟨[(0, .v x0), (3, .v x3), (19, .v x19)], [], H⟩ k =
  evK C D c ⟨[(2, .v (.bool false))], [], H⟩ k := by kernel_rfl
def O22_5 : List IOper :=
  [⟨some 8, .move (.tmp 3), none⟩,
   ⟨some 9, .bin .add .none (.tmp 8) (.const (.int .i64 1)), none⟩,
   ⟨some 3, .move (.tmp 9), none⟩]
@[simp] theorem R22_5 (x0 x3 : AV) :
  evK C D (.region O22_5) ⟨[(0, .v x0), (3, .v x3)], [], H⟩ k =
  (nl (binA .add .none x3 (.int .i64 1))).bind fun t1 =>
  k .normal ⟨[(3, .v t1), (9, .v t1), (8, .v x3), (0, .v x0), (3, .v x3)], [], H⟩ := by kernel_rfl
def B22_0 : IC :=
  .seq (.seq (.region O22_2)
   (.keep [0, 3, 7] [] (.cond (.tmp 7)
    (.skip)
    (.exit 0))))
  (.keep [0, 3] [] (.seq (.block 1 (.seq (.region O22_3)
    (.keep [0, 3, 19] [] (.cond (.tmp 19)
     (.seq (.region O22_4)
     (.keep [2] [] (.ret)))
     (.skip)))))
  (.keep [0, 3] [] (.region O22_5))))
def L22_0 : IC := .keep [0, 3] [] B22_0
@[simp] theorem LK22_0 (s : SK) (k : AExit → SK → Option R) : evK C D (.loop L22_0) s k = (D (.loop L22_0) (prK [0, 3] [] s).toSt).bind fun r => k r.1 (ofSt r.2) := by kernel_rfl
def O22_6 : List IOper :=
  [⟨some 20, .move (.tmp 0), none⟩,
   ⟨some 21, .len .str (.tmp 20), none⟩,
   ⟨some 22, .bin .geq .none (.tmp 21) (.const (.int .i64 1)), none⟩,
   ⟨some 23, .move (.tmp 22), none⟩,
   ⟨some 24, .move (.tmp 0), some (23, true)⟩,
   ⟨some 25, .len .str (.tmp 24), some (23, true)⟩,
   ⟨some 26, .bin .leq .none (.tmp 25) (.const (.int .i64 8)), some (23, true)⟩,
   ⟨some 27, .pick (.tmp 23) (.tmp 26) (.const (.bool false)), none⟩,
   ⟨some 2, .move (.tmp 27), none⟩]
@[simp] theorem R22_6 (x0 : AV) :
  evK C D (.seq (.region O22_6) (.keep [2] [] c)) ⟨[(0, .v x0)], [], H⟩ k =
  (lenStr x0).bind fun t1 =>
  (nl (binA .geq .none t1 (.int .i64 1))).bind fun t2 =>
  guardK t2 true (
  (lenStr x0).bind fun t5 =>
  (nl (binA .leq .none t5 (.int .i64 8))).bind fun t6 =>
  evK C D c ⟨[(2, .v t6)], [], H⟩ k)
  (evK C D c ⟨[(2, .v (.bool false))], [], H⟩ k) := by kernel_rfl
def F22 : FnIR := ⟨28, 1, [.tmp 2], [],
  .seq (.region O22_0)
  (.keep [0] [] (.seq (.seq (.region O22_1)
   (.keep [0, 3] [] (.block 0 (.loop L22_0))))
  (.keep [0] [] (.seq (.region O22_6)
  (.keep [2] [] (.ret))))))⟩
/-- wampum/wampumref03.Right -/
def O23_0 : List IOper :=
  [⟨some 1, .box true 2 (.tmp 0), none⟩,
   ⟨some 2, .move (.const (.bool false)), none⟩]
@[simp] theorem R23_0 (x0 : AV) :
  evK C D (.seq (.region O23_0) (.keep [1] [1] c)) ⟨[(0, .v x0)], [], H⟩ k =
  (boxC x0).bind fun m0 =>
  evK C D c ⟨[(1, .l 1 0)], [(1, m0)], H⟩ k := by kernel_rfl
def O23_1 : List IOper :=
  [⟨some 3, .fieldAddr 0 (.tmp 1), none⟩,
   ⟨some 4, .load false 1 (.tmp 3), none⟩,
   ⟨some 5, .bin .geq .none (.tmp 4) (.const (.int .i64 0)), none⟩,
   ⟨some 6, .move (.tmp 5), none⟩,
   ⟨some 7, .fieldAddr 0 (.tmp 1), some (6, true)⟩,
   ⟨some 8, .load false 1 (.tmp 7), some (6, true)⟩,
   ⟨some 9, .bin .leq .none (.tmp 8) (.const (.int .i64 1099511627776)), some (6, true)⟩,
   ⟨some 10, .pick (.tmp 6) (.tmp 9) (.const (.bool false)), none⟩,
   ⟨some 11, .move (.tmp 10), none⟩,
   ⟨some 12, .fieldAddr 1 (.tmp 1), some (11, true)⟩,
   ⟨some 13, .load false 1 (.tmp 12), some (11, true)⟩,
   ⟨some 14, .bin .geq .none (.tmp 13) (.const (.int .i64 0)), some (11, true)⟩,
   ⟨some 15, .pick (.tmp 11) (.tmp 14) (.const (.bool false)), none⟩,
   ⟨some 16, .move (.tmp 15), none⟩,
   ⟨some 17, .fieldAddr 1 (.tmp 1), some (16, true)⟩,
   ⟨some 18, .load false 1 (.tmp 17), some (16, true)⟩,
   ⟨some 19, .bin .leq .none (.tmp 18) (.const (.int .i64 65535)), some (16, true)⟩,
   ⟨some 20, .pick (.tmp 16) (.tmp 19) (.const (.bool false)), none⟩,
   ⟨some 2, .move (.tmp 20), none⟩]
@[simp] theorem R23_1 (l1 : List AV) :
  evK C D (.seq (.region O23_1) (.keep [2] [] c)) ⟨[(1, .l 1 0)], [(1, l1)], H⟩ k =
  (nl (rd false 1 0 l1)).bind fun t1 =>
  (nl (binA .geq .none t1 (.int .i64 0))).bind fun t2 =>
  guardK t2 true (
  (nl (rd false 1 0 l1)).bind fun t5 =>
  (nl (binA .leq .none t5 (.int .i64 1099511627776))).bind fun t6 =>
  guardK t6 true (
  (nl (rd false 1 1 l1)).bind fun t10 =>
  (nl (binA .geq .none t10 (.int .i64 0))).bind fun t11 =>
  guardK t11 true (
  (nl (rd false 1 1 l1)).bind fun t15 =>
  (nl (binA .leq .none t15 (.int .i64 65535))).bind fun t16 =>
  evK C D c ⟨[(2, .v t16)], [], H⟩ k)
  (evK C D c ⟨[(2, .v (.bool false))], [], H⟩ k))
  (evK C D c ⟨[(2, .v (.bool false))], [], H⟩ k))
  (evK C D c ⟨[(2, .v (.bool false))], [], H⟩ k) := by kernel_rfl
def F23 : FnIR := ⟨21, 1, [.tmp 2], [1],
  .seq (.region O23_0)
  (.keep [1] [1] (.seq (.region O23_1)
  (.keep [2] [] (.ret))))⟩
end Go.Proofs.Ytgokjbjbdnbcdaa
