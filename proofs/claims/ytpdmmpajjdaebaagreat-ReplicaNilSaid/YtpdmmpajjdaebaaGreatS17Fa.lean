/- Functions of the program in our form (S17, a). No condition. -/
import Derived.Test.YtpdmmpajjdaebaaGreatAmZ
import Derived.Test.YtpdmmpajjdaebaaGreatRows
set_option linter.unusedVariables false
set_option linter.unusedSimpArgs false
namespace Go.Proofs.YtpdmmpajjdaebaaGreat
open Go.Wam
variable {R : Type} (C : CallF) (D : IC → St → Option (AExit × St)) (c : IC) (H : AHeap) (k : AExit → SK → Option R)
/-- wampum/wampumlaw17.ReplicaNil -/
def O3_0 : List IOper :=
  [⟨some 1, .box true 80 (.tmp 0), none⟩,
   ⟨some 2, .move (.const (.bool false)), none⟩]
@[simp] theorem R3_0 (x0 : AV) :
  evK C D (.seq (.region O3_0) (.keep [1] [1] c)) ⟨[(0, .v x0)], [], H⟩ k =
  (boxC x0).bind fun m0 =>
  evK C D c ⟨[(1, .l 1 0)], [(1, m0)], H⟩ k := by kernel_rfl
def O3_1 : List IOper :=
  [⟨some 12, .load true 80 (.tmp 1), none⟩,
   ⟨some 13, .call (.func 6) [(.tmp 12)], none⟩,
   ⟨some 3, .move (.tmp 13), none⟩]
@[simp] theorem R3_1 (l1 : List AV) :
  evK C D (.seq (.region O3_1) (.keep [1, 3] [1] c)) ⟨[(1, .l 1 0)], [(1, l1)], H⟩ k =
  (nl (rd true 80 0 l1)).bind fun t0 =>
  (callN C (.func (.func 6) [] []) [t0] H).bind fun r1 =>
  evK C D c ⟨[(1, .l 1 0), (3, .v r1.1)], [(1, l1)], r1.2⟩ k := by kernel_rfl
def O3_2 : List IOper :=
  [⟨some 14, .move (.tmp 3), none⟩,
   ⟨some 15, .un .not (.tmp 14), none⟩]
@[simp] theorem R3_2 (x3 : AV) (l1 : List AV) :
  evK C D (.seq (.region O3_2) (.keep [1, 15] [1] c)) ⟨[(1, .l 1 0), (3, .v x3)], [(1, l1)], H⟩ k =
  (nl (unA .not x3)).bind fun t1 =>
  evK C D c ⟨[(1, .l 1 0), (15, .v t1)], [(1, l1)], H⟩ k := by kernel_rfl
def O3_3 : List IOper :=
  [⟨some 16, .call (.func 7) [], none⟩,
   ⟨some 2, .move (.tmp 16), none⟩]
@[simp] theorem R3_3 (x15 : AV) (l1 : List AV) :
  evK C D (.seq (.region O3_3) (.keep [2] [] c)) ⟨[(1, .l 1 0), (15, .v x15)], [(1, l1)], H⟩ k =
  (callN C (.func (.func 7) [] []) [] H).bind fun r0 =>
  evK C D c ⟨[(2, .v r0.1)], [], r0.2⟩ k := by kernel_rfl
def O3_4 : List IOper :=
  [⟨some 4, .move (.const .nilp), none⟩]
@[simp] theorem R3_4 (l1 : List AV) :
  evK C D (.seq (.region O3_4) (.keep [1, 4] [1] c)) ⟨[(1, .l 1 0)], [(1, l1)], H⟩ k =
  evK C D c ⟨[(1, .l 1 0), (4, .v .nilp)], [(1, l1)], H⟩ k := by kernel_rfl
def O3_5 : List IOper :=
  [⟨some 18, .call (.func 9) [], none⟩,
   ⟨some 19, .call (.func 8) [(.const .nilp), (.const (.int .i64 0)), (.const (.int .i64 0)), (.tmp 18)], none⟩,
   ⟨some 17, .move (.tmp 19), none⟩,
   ⟨some 20, .extract (.tmp 17) 0, none⟩,
   ⟨some 21, .extract (.tmp 17) 1, none⟩,
   ⟨some 5, .move (.tmp 20), none⟩,
   ⟨some 6, .move (.tmp 21), none⟩]
@[simp] theorem R3_5 (x4 : AV) (l1 : List AV) :
  evK C D (.seq (.region O3_5) (.keep [1, 4, 5, 6] [1] c)) ⟨[(1, .l 1 0), (4, .v x4)], [(1, l1)], H⟩ k =
  (callN C (.func (.func 9) [] []) [] H).bind fun r0 =>
  (callN C (.func (.func 8) [] []) [.nilp, (.int .i64 0), (.int .i64 0), r0.1] r0.2).bind fun r1 =>
  (nl (extA 0 r1.1)).bind fun t3 =>
  (nl (extA 1 r1.1)).bind fun t4 =>
  evK C D c ⟨[(1, .l 1 0), (4, .v x4), (5, .v t3), (6, .v t4)], [(1, l1)], r1.2⟩ k := by kernel_rfl
def O3_6 : List IOper :=
  [⟨some 23, .move (.tmp 4), none⟩,
   ⟨some 24, .fieldAddr 56 (.tmp 1), none⟩,
   ⟨some 25, .load true 22 (.tmp 24), none⟩,
   ⟨some 26, .call (.func 10) [(.tmp 23), (.tmp 25)], none⟩,
   ⟨some 22, .move (.tmp 26), none⟩,
   ⟨some 27, .extract (.tmp 22) 0, none⟩,
   ⟨some 28, .extract (.tmp 22) 1, none⟩,
   ⟨some 29, .extract (.tmp 22) 2, none⟩,
   ⟨some 7, .move (.tmp 27), none⟩,
   ⟨some 8, .move (.tmp 28), none⟩,
   ⟨some 9, .move (.tmp 29), none⟩]
@[simp] theorem R3_6 (x4 x5 x6 : AV) (l1 : List AV) :
  evK C D (.seq (.region O3_6) (.keep [1, 4, 5, 6, 9] [1] c)) ⟨[(1, .l 1 0), (4, .v x4), (5, .v x5), (6, .v x6)], [(1, l1)], H⟩ k =
  (nl (rd true 22 56 l1)).bind fun t2 =>
  (callN C (.func (.func 10) [] []) [x4, t2] H).bind fun r3 =>
  (nl (extA 0 r3.1)).bind fun t5 =>
  (nl (extA 1 r3.1)).bind fun t6 =>
  (nl (extA 2 r3.1)).bind fun t7 =>
  evK C D c ⟨[(1, .l 1 0), (4, .v x4), (5, .v x5), (6, .v x6), (9, .v t7)], [(1, l1)], r3.2⟩ k := by kernel_rfl
def O3_7 : List IOper :=
  [⟨some 31, .move (.tmp 4), none⟩,
   ⟨some 32, .call (.func 11) [(.tmp 31)], none⟩,
   ⟨some 30, .move (.tmp 32), none⟩,
   ⟨some 33, .extract (.tmp 30) 0, none⟩,
   ⟨some 34, .extract (.tmp 30) 1, none⟩,
   ⟨some 10, .move (.tmp 33), none⟩,
   ⟨some 11, .move (.tmp 34), none⟩]
@[simp] theorem R3_7 (x4 x5 x6 x9 : AV) (l1 : List AV) :
  evK C D (.seq (.region O3_7) (.keep [1, 4, 5, 6, 9, 10, 11] [1] c)) ⟨[(1, .l 1 0), (4, .v x4), (5, .v x5), (6, .v x6), (9, .v x9)], [(1, l1)], H⟩ k =
  (callN C (.func (.func 11) [] []) [x4] H).bind fun r1 =>
  (nl (extA 0 r1.1)).bind fun t3 =>
  (nl (extA 1 r1.1)).bind fun t4 =>
  evK C D c ⟨[(1, .l 1 0), (4, .v x4), (5, .v x5), (6, .v x6), (9, .v x9), (10, .v t3), (11, .v t4)], [(1, l1)], r1.2⟩ k := by kernel_rfl
def O3_8 : List IOper :=
  [⟨some 35, .call (.func 7) [], none⟩,
   ⟨some 36, .move (.tmp 35), none⟩,
   ⟨some 37, .move (.tmp 5), some (36, true)⟩,
   ⟨some 38, .bin .eql .ptr (.tmp 37) (.const .nilp), some (36, true)⟩,
   ⟨some 39, .pick (.tmp 36) (.tmp 38) (.const (.bool false)), none⟩,
   ⟨some 40, .move (.tmp 39), none⟩,
   ⟨some 41, .move (.tmp 6), some (40, true)⟩,
   ⟨some 42, .bin .eql .int (.tmp 41) (.const (.int .i64 1)), some (40, true)⟩,
   ⟨some 43, .pick (.tmp 40) (.tmp 42) (.const (.bool false)), none⟩,
   ⟨some 44, .move (.tmp 43), none⟩,
   ⟨some 45, .move (.tmp 4), some (44, true)⟩,
   ⟨some 46, .fieldAddr 3 (.tmp 1), some (44, true)⟩,
   ⟨some 47, .load true 53 (.tmp 46), some (44, true)⟩,
   ⟨some 48, .call (.func 12) [(.tmp 45), (.tmp 47)], some (44, true)⟩,
   ⟨some 49, .bin .eql .int (.tmp 48) (.const (.int .i64 1)), some (44, true)⟩,
   ⟨some 50, .pick (.tmp 44) (.tmp 49) (.const (.bool false)), none⟩,
   ⟨some 51, .move (.tmp 50), none⟩,
   ⟨some 52, .move (.tmp 4), some (51, true)⟩,
   ⟨some 53, .call (.func 13) [(.tmp 52)], some (51, true)⟩,
   ⟨some 54, .bin .eql .int (.tmp 53) (.const (.int .i64 1)), some (51, true)⟩,
   ⟨some 55, .pick (.tmp 51) (.tmp 54) (.const (.bool false)), none⟩,
   ⟨some 56, .move (.tmp 55), none⟩,
   ⟨some 57, .move (.tmp 4), some (56, true)⟩,
   ⟨some 58, .call (.func 14) [(.tmp 57)], some (56, true)⟩,
   ⟨some 59, .bin .eql .int (.tmp 58) (.const (.int .i64 1)), some (56, true)⟩,
   ⟨some 60, .pick (.tmp 56) (.tmp 59) (.const (.bool false)), none⟩,
   ⟨some 61, .move (.tmp 60), none⟩,
   ⟨some 62, .move (.tmp 9), some (61, true)⟩,
   ⟨some 63, .bin .eql .int (.tmp 62) (.const (.int .i64 1)), some (61, true)⟩,
   ⟨some 64, .pick (.tmp 61) (.tmp 63) (.const (.bool false)), none⟩,
   ⟨some 65, .move (.tmp 64), none⟩,
   ⟨some 66, .move (.tmp 4), some (65, true)⟩,
   ⟨some 67, .call (.func 15) [(.tmp 66)], some (65, true)⟩,
   ⟨some 68, .len .slice (.tmp 67), some (65, true)⟩,
   ⟨some 69, .bin .eql .int (.tmp 68) (.const (.int .i64 0)), some (65, true)⟩,
   ⟨some 70, .pick (.tmp 65) (.tmp 69) (.const (.bool false)), none⟩,
   ⟨some 71, .move (.tmp 70), none⟩,
   ⟨some 72, .move (.tmp 4), some (71, true)⟩,
   ⟨some 73, .call (.func 16) [(.tmp 72)], some (71, true)⟩,
   ⟨some 74, .len .slice (.tmp 73), some (71, true)⟩,
   ⟨some 75, .bin .eql .int (.tmp 74) (.const (.int .i64 0)), some (71, true)⟩,
   ⟨some 76, .pick (.tmp 71) (.tmp 75) (.const (.bool false)), none⟩,
   ⟨some 77, .move (.tmp 76), none⟩,
   ⟨some 78, .move (.tmp 10), some (77, true)⟩,
   ⟨some 79, .bin .eql .int (.tmp 78) (.const (.int .i64 0)), some (77, true)⟩,
   ⟨some 80, .pick (.tmp 77) (.tmp 79) (.const (.bool false)), none⟩,
   ⟨some 81, .move (.tmp 80), none⟩,
   ⟨some 82, .move (.tmp 11), some (81, true)⟩,
   ⟨some 83, .bin .eql .int (.tmp 82) (.const (.int .i64 0)), some (81, true)⟩,
   ⟨some 84, .pick (.tmp 81) (.tmp 83) (.const (.bool false)), none⟩,
   ⟨some 85, .move (.tmp 84), none⟩,
   ⟨some 86, .move (.tmp 4), some (85, true)⟩,
   ⟨some 87, .call (.func 17) [(.tmp 86)], some (85, true)⟩,
   ⟨some 88, .bin .eql .int (.tmp 87) (.const (.int .i64 0)), some (85, true)⟩,
   ⟨some 89, .pick (.tmp 85) (.tmp 88) (.const (.bool false)), none⟩,
   ⟨some 90, .move (.tmp 89), none⟩,
   ⟨some 91, .move (.tmp 4), some (90, true)⟩,
   ⟨some 92, .call (.func 18) [(.tmp 91)], some (90, true)⟩,
   ⟨some 93, .bin .eql .int (.tmp 92) (.const (.int .i64 0)), some (90, true)⟩,
   ⟨some 94, .pick (.tmp 90) (.tmp 93) (.const (.bool false)), none⟩,
   ⟨some 95, .move (.tmp 94), none⟩,
   ⟨some 96, .move (.tmp 4), some (95, true)⟩,
   ⟨some 97, .call (.func 19) [(.tmp 96)], some (95, true)⟩,
   ⟨some 98, .bin .eql .int (.tmp 97) (.const (.int .i64 0)), some (95, true)⟩,
   ⟨some 99, .pick (.tmp 95) (.tmp 98) (.const (.bool false)), none⟩,
   ⟨some 100, .move (.tmp 99), none⟩,
   ⟨some 101, .move (.tmp 4), some (100, true)⟩,
   ⟨some 102, .call (.func 20) [(.tmp 101)], some (100, true)⟩,
   ⟨some 103, .bin .eql .ptr (.tmp 102) (.const .nilp), some (100, true)⟩,
   ⟨some 104, .pick (.tmp 100) (.tmp 103) (.const (.bool false)), none⟩,
   ⟨some 2, .move (.tmp 104), none⟩]
@[simp] theorem R3_8 (x4 x5 x6 x9 x10 x11 : AV) (l1 : List AV) :
  evK C D (.seq (.region O3_8) (.keep [2] [] c)) ⟨[(1, .l 1 0), (4, .v x4), (5, .v x5), (6, .v x6), (9, .v x9), (10, .v x10), (11, .v x11)], [(1, l1)], H⟩ k =
  (callN C (.func (.func 7) [] []) [] H).bind fun r0 =>
  guardK r0.1 true (
  (nl (binA .eql .ptr x5 .nilp)).bind fun t3 =>
  guardK t3 true (
  (nl (binA .eql .int x6 (.int .i64 1))).bind fun t7 =>
  guardK t7 true (
  (nl (rd true 53 3 l1)).bind fun t12 =>
  (callN C (.func (.func 12) [] []) [x4, t12] r0.2).bind fun r13 =>
  (nl (binA .eql .int r13.1 (.int .i64 1))).bind fun t14 =>
  guardK t14 true (
  (callN C (.func (.func 13) [] []) [x4] r13.2).bind fun r18 =>
  (nl (binA .eql .int r18.1 (.int .i64 1))).bind fun t19 =>
  guardK t19 true (
  (callN C (.func (.func 14) [] []) [x4] r18.2).bind fun r23 =>
  (nl (binA .eql .int r23.1 (.int .i64 1))).bind fun t24 =>
  guardK t24 true (
  (nl (binA .eql .int x9 (.int .i64 1))).bind fun t28 =>
  guardK t28 true (
  (callN C (.func (.func 15) [] []) [x4] r23.2).bind fun r32 =>
  (lenS r32.1).bind fun t33 =>
  (nl (binA .eql .int t33 (.int .i64 0))).bind fun t34 =>
  guardK t34 true (
  (callN C (.func (.func 16) [] []) [x4] r32.2).bind fun r38 =>
  (lenS r38.1).bind fun t39 =>
  (nl (binA .eql .int t39 (.int .i64 0))).bind fun t40 =>
  guardK t40 true (
  (nl (binA .eql .int x10 (.int .i64 0))).bind fun t44 =>
  guardK t44 true (
  (nl (binA .eql .int x11 (.int .i64 0))).bind fun t48 =>
  guardK t48 true (
  (callN C (.func (.func 17) [] []) [x4] r38.2).bind fun r52 =>
  (nl (binA .eql .int r52.1 (.int .i64 0))).bind fun t53 =>
  guardK t53 true (
  (callN C (.func (.func 18) [] []) [x4] r52.2).bind fun r57 =>
  (nl (binA .eql .int r57.1 (.int .i64 0))).bind fun t58 =>
  guardK t58 true (
  (callN C (.func (.func 19) [] []) [x4] r57.2).bind fun r62 =>
  (nl (binA .eql .int r62.1 (.int .i64 0))).bind fun t63 =>
  guardK t63 true (
  (callN C (.func (.func 20) [] []) [x4] r62.2).bind fun r67 =>
  (nl (binA .eql .ptr r67.1 .nilp)).bind fun t68 =>
  evK C D c ⟨[(2, .v t68)], [], r67.2⟩ k)
  (evK C D c ⟨[(2, .v (.bool false))], [], r62.2⟩ k))
  (evK C D c ⟨[(2, .v (.bool false))], [], r57.2⟩ k))
  (evK C D c ⟨[(2, .v (.bool false))], [], r52.2⟩ k))
  (evK C D c ⟨[(2, .v (.bool false))], [], r38.2⟩ k))
  (evK C D c ⟨[(2, .v (.bool false))], [], r38.2⟩ k))
  (evK C D c ⟨[(2, .v (.bool false))], [], r38.2⟩ k))
  (evK C D c ⟨[(2, .v (.bool false))], [], r32.2⟩ k))
  (evK C D c ⟨[(2, .v (.bool false))], [], r23.2⟩ k))
  (evK C D c ⟨[(2, .v (.bool false))], [], r23.2⟩ k))
  (evK C D c ⟨[(2, .v (.bool false))], [], r18.2⟩ k))
  (evK C D c ⟨[(2, .v (.bool false))], [], r13.2⟩ k))
  (evK C D c ⟨[(2, .v (.bool false))], [], r0.2⟩ k))
  (evK C D c ⟨[(2, .v (.bool false))], [], r0.2⟩ k))
  (evK C D c ⟨[(2, .v (.bool false))], [], r0.2⟩ k) := by kernel_rfl
def F3 : FnIR := ⟨105, 1, [.tmp 2], [1],
  .seq (.region O3_0)
  (.keep [1] [1] (.seq (.region O3_1)
  (.keep [1, 3] [1] (.seq (.seq (.region O3_2)
   (.keep [1, 15] [1] (.cond (.tmp 15)
    (.seq (.region O3_3)
    (.keep [2] [] (.ret)))
    (.skip))))
  (.keep [1] [1] (.seq (.region O3_4)
  (.keep [1, 4] [1] (.seq (.region O3_5)
  (.keep [1, 4, 5, 6] [1] (.seq (.region O3_6)
  (.keep [1, 4, 5, 6, 9] [1] (.seq (.region O3_7)
  (.keep [1, 4, 5, 6, 9, 10, 11] [1] (.seq (.region O3_8)
  (.keep [2] [] (.ret))))))))))))))))⟩
/-- (wampum/wampumlaw17.Act).fits -/
def O6_0 : List IOper :=
  [⟨some 1, .box true 80 (.tmp 0), none⟩,
   ⟨some 2, .move (.const (.bool false)), none⟩]
@[simp] theorem R6_0 (x0 : AV) :
  evK C D (.seq (.region O6_0) (.keep [1] [1] c)) ⟨[(0, .v x0)], [], H⟩ k =
  (boxC x0).bind fun m0 =>
  evK C D c ⟨[(1, .l 1 0)], [(1, m0)], H⟩ k := by kernel_rfl
def O6_1 : List IOper :=
  [⟨some 3, .move (.const (.int .i64 0)), none⟩]
@[simp] theorem R6_1 (l1 : List AV) :
  evK C D (.seq (.region O6_1) (.keep [1, 3] [1] c)) ⟨[(1, .l 1 0)], [(1, l1)], H⟩ k =
  evK C D c ⟨[(1, .l 1 0), (3, .v (.int .i64 0))], [(1, l1)], H⟩ k := by kernel_rfl
def O6_2 : List IOper :=
  [⟨some 5, .move (.tmp 3), none⟩,
   ⟨some 6, .fieldAddr 3 (.tmp 1), none⟩,
   ⟨some 7, .fieldAddr 9 (.tmp 6), none⟩,
   ⟨some 8, .load false 1 (.tmp 7), none⟩,
   ⟨some 9, .len .slice (.tmp 8), none⟩,
   ⟨some 10, .bin .lss .none (.tmp 5) (.tmp 9), none⟩]
@[simp] theorem R6_2 (x3 : AV) (l1 : List AV) :
  evK C D (.seq (.region O6_2) (.keep [1, 3, 10] [1] c)) ⟨[(1, .l 1 0), (3, .v x3)], [(1, l1)], H⟩ k =
  (nl (rd false 1 12 l1)).bind fun t3 =>
  (lenS t3).bind fun t4 =>
  (nl (binA .lss .none x3 t4)).bind fun t5 =>
  evK C D c ⟨[(1, .l 1 0), (3, .v x3), (10, .v t5)], [(1, l1)], H⟩ k := by kernel_rfl
def O6_3 : List IOper :=
  [⟨some 13, .move (.tmp 3), none⟩,
   ⟨some 14, .bin .eql .int (.tmp 13) (.const (.int .i64 12)), none⟩,
   ⟨some 15, .move (.tmp 14), none⟩,
   ⟨some 16, .fieldAddr 3 (.tmp 1), some (15, false)⟩,
   ⟨some 17, .fieldAddr 9 (.tmp 16), some (15, false)⟩,
   ⟨some 18, .load false 1 (.tmp 17), some (15, false)⟩,
   ⟨some 19, .move (.tmp 3), some (15, false)⟩,
   ⟨some 20, .indexAddr none 2 (.tmp 18) (.tmp 19), some (15, false)⟩,
   ⟨some 21, .fieldAddr 1 (.tmp 20), some (15, false)⟩,
   ⟨some 22, .load false 1 (.tmp 21), some (15, false)⟩,
   ⟨some 23, .len .slice (.tmp 22), some (15, false)⟩,
   ⟨some 24, .bin .gtr .none (.tmp 23) (.const (.int .i64 300)), some (15, false)⟩,
   ⟨some 25, .pick (.tmp 15) (.const (.bool true)) (.tmp 24), none⟩]
@[simp] theorem R6_3 (x3 : AV) (l1 : List AV) :
  evK C D (.seq (.region O6_3) (.keep [1, 3, 25] [1] c)) ⟨[(1, .l 1 0), (3, .v x3)], [(1, l1)], H⟩ k =
  (nl (binA .eql .int x3 (.int .i64 12))).bind fun t1 =>
  guardK t1 false (
  (nl (rd false 1 12 l1)).bind fun t5 =>
  (nl (idxS 2 t5 x3)).bind fun t7 =>
  (fldP 1 t7).bind fun t8 =>
  (nl (loadP H false 1 t8)).bind fun t9 =>
  (lenS t9).bind fun t10 =>
  (nl (binA .gtr .none t10 (.int .i64 300))).bind fun t11 =>
  evK C D c ⟨[(1, .l 1 0), (3, .v x3), (25, .v t11)], [(1, l1)], H⟩ k)
  (evK C D c ⟨[(1, .l 1 0), (3, .v x3), (25, .v (.bool true))], [(1, l1)], H⟩ k) := by kernel_rfl
def O6_4 : List IOper :=
  [⟨some 2, .move (.const (.bool false)), none⟩]
@[simp] theorem R6_4 (x3 x25 : AV) (l1 : List AV) :
  evK C D (.seq (.region O6_4) (.keep [2] [] c)) ⟨[(1, .l 1 0), (3, .v x3), (25, .v x25)], [(1, l1)], H⟩ k =
  evK C D c ⟨[(2, .v (.bool false))], [], H⟩ k := by kernel_rfl
def O6_5 : List IOper :=
  [⟨some 11, .move (.tmp 3), none⟩,
   ⟨some 12, .bin .add .none (.tmp 11) (.const (.int .i64 1)), none⟩,
   ⟨some 3, .move (.tmp 12), none⟩]
@[simp] theorem R6_5 (x3 : AV) (l1 : List AV) :
  evK C D (.region O6_5) ⟨[(1, .l 1 0), (3, .v x3)], [(1, l1)], H⟩ k =
  (nl (binA .add .none x3 (.int .i64 1))).bind fun t1 =>
  k .normal ⟨[(3, .v t1), (12, .v t1), (11, .v x3), (1, .l 1 0), (3, .v x3)], [(1, l1)], H⟩ := by kernel_rfl
def B6_0 : IC :=
  .seq (.seq (.region O6_2)
   (.keep [1, 3, 10] [1] (.cond (.tmp 10)
    (.skip)
    (.exit 0))))
  (.keep [1, 3] [1] (.seq (.block 1 (.seq (.region O6_3)
    (.keep [1, 3, 25] [1] (.cond (.tmp 25)
     (.seq (.region O6_4)
     (.keep [2] [] (.ret)))
     (.skip)))))
  (.keep [1, 3] [1] (.region O6_5))))
def L6_0 : IC := .keep [1, 3] [1] B6_0
@[simp] theorem LK6_0 (s : SK) (k : AExit → SK → Option R) : evK C D (.loop L6_0) s k = (D (.loop L6_0) (prK [1, 3] [1] s).toSt).bind fun r => k r.1 (ofSt r.2) := by kernel_rfl
def O6_6 : List IOper :=
  [⟨some 26, .fieldAddr 56 (.tmp 1), none⟩,
   ⟨some 27, .load true 22 (.tmp 26), none⟩,
   ⟨some 28, .call (.func 21) [(.tmp 27)], none⟩,
   ⟨some 4, .move (.tmp 28), none⟩]
@[simp] theorem R6_6 (l1 : List AV) :
  evK C D (.seq (.region O6_6) (.keep [1, 4] [1] c)) ⟨[(1, .l 1 0)], [(1, l1)], H⟩ k =
  (nl (rd true 22 56 l1)).bind fun t1 =>
  (callN C (.func (.func 21) [] []) [t1] H).bind fun r2 =>
  evK C D c ⟨[(1, .l 1 0), (4, .v r2.1)], [(1, l1)], r2.2⟩ k := by kernel_rfl
def O6_7 : List IOper :=
  [⟨some 29, .move (.tmp 4), none⟩,
   ⟨some 30, .move (.tmp 29), none⟩,
   ⟨some 31, .fieldAddr 3 (.tmp 1), some (30, true)⟩,
   ⟨some 32, .fieldAddr 10 (.tmp 31), some (30, true)⟩,
   ⟨some 33, .load false 1 (.tmp 32), some (30, true)⟩,
   ⟨some 34, .len .slice (.tmp 33), some (30, true)⟩,
   ⟨some 35, .bin .leq .none (.tmp 34) (.const (.int .i64 300)), some (30, true)⟩,
   ⟨some 36, .pick (.tmp 30) (.tmp 35) (.const (.bool false)), none⟩,
   ⟨some 2, .move (.tmp 36), none⟩]
@[simp] theorem R6_7 (x4 : AV) (l1 : List AV) :
  evK C D (.seq (.region O6_7) (.keep [2] [] c)) ⟨[(1, .l 1 0), (4, .v x4)], [(1, l1)], H⟩ k =
  guardK x4 true (
  (nl (rd false 1 13 l1)).bind fun t4 =>
  (lenS t4).bind fun t5 =>
  (nl (binA .leq .none t5 (.int .i64 300))).bind fun t6 =>
  evK C D c ⟨[(2, .v t6)], [], H⟩ k)
  (evK C D c ⟨[(2, .v (.bool false))], [], H⟩ k) := by kernel_rfl
def F6 : FnIR := ⟨37, 1, [.tmp 2], [1],
  .seq (.region O6_0)
  (.keep [1] [1] (.seq (.seq (.region O6_1)
   (.keep [1, 3] [1] (.block 0 (.loop L6_0))))
  (.keep [1] [1] (.seq (.region O6_6)
  (.keep [1, 4] [1] (.seq (.region O6_7)
  (.keep [2] [] (.ret))))))))⟩
/-- wampum/replica.Open -/
def O8_0 : List IOper :=
  [⟨some 7, .box true 2 (.tmp 3), none⟩,
   ⟨some 8, .move (.const .nilp), none⟩,
   ⟨some 9, .move (.const (.int .i64 0)), none⟩]
@[simp] theorem R8_0 (x0 x1 x2 x3 : AV) :
  evK C D (.seq (.region O8_0) (.keep [0, 1, 2, 7] [7] c)) ⟨[(0, .v x0), (1, .v x1), (2, .v x2), (3, .v x3)], [], H⟩ k =
  (boxC x3).bind fun m0 =>
  evK C D c ⟨[(0, .v x0), (1, .v x1), (2, .v x2), (7, .l 7 0)], [(7, m0)], H⟩ k := by kernel_rfl
def O8_1 : List IOper :=
  [⟨some 15, .move (.tmp 0), none⟩,
   ⟨some 16, .bin .eql .ptr (.tmp 15) (.const .nilp), none⟩,
   ⟨some 17, .move (.tmp 16), none⟩,
   ⟨some 18, .move (.tmp 1), some (17, false)⟩,
   ⟨some 19, .bin .lss .none (.tmp 18) (.const (.int .i64 0)), some (17, false)⟩,
   ⟨some 20, .pick (.tmp 17) (.const (.bool true)) (.tmp 19), none⟩,
   ⟨some 21, .move (.tmp 20), none⟩,
   ⟨some 22, .move (.tmp 1), some (21, false)⟩,
   ⟨some 23, .bin .geq .none (.tmp 22) (.const (.int .i64 3)), some (21, false)⟩,
   ⟨some 24, .pick (.tmp 21) (.const (.bool true)) (.tmp 23), none⟩,
   ⟨some 25, .move (.tmp 24), none⟩,
   ⟨some 26, .move (.tmp 2), some (25, false)⟩,
   ⟨some 27, .bin .lss .none (.tmp 26) (.const (.int .i64 0)), some (25, false)⟩,
   ⟨some 28, .pick (.tmp 25) (.const (.bool true)) (.tmp 27), none⟩,
   ⟨some 29, .move (.tmp 28), none⟩,
   ⟨some 30, .move (.tmp 2), some (29, false)⟩,
   ⟨some 31, .bin .geq .none (.tmp 30) (.const (.int .i64 4)), some (29, false)⟩,
   ⟨some 32, .pick (.tmp 29) (.const (.bool true)) (.tmp 31), none⟩]
@[simp] theorem R8_1 (x0 x1 x2 : AV) (l7 : List AV) :
  evK C D (.seq (.region O8_1) (.keep [0, 1, 2, 7, 32] [7] c)) ⟨[(0, .v x0), (1, .v x1), (2, .v x2), (7, .l 7 0)], [(7, l7)], H⟩ k =
  (nl (binA .eql .ptr x0 .nilp)).bind fun t1 =>
  guardK t1 false (
  (nl (binA .lss .none x1 (.int .i64 0))).bind fun t4 =>
  guardK t4 false (
  (nl (binA .geq .none x1 (.int .i64 3))).bind fun t8 =>
  guardK t8 false (
  (nl (binA .lss .none x2 (.int .i64 0))).bind fun t12 =>
  guardK t12 false (
  (nl (binA .geq .none x2 (.int .i64 4))).bind fun t16 =>
  evK C D c ⟨[(0, .v x0), (1, .v x1), (2, .v x2), (7, .l 7 0), (32, .v t16)], [(7, l7)], H⟩ k)
  (evK C D c ⟨[(0, .v x0), (1, .v x1), (2, .v x2), (7, .l 7 0), (32, .v (.bool true))], [(7, l7)], H⟩ k))
  (evK C D c ⟨[(0, .v x0), (1, .v x1), (2, .v x2), (7, .l 7 0), (32, .v (.bool true))], [(7, l7)], H⟩ k))
  (evK C D c ⟨[(0, .v x0), (1, .v x1), (2, .v x2), (7, .l 7 0), (32, .v (.bool true))], [(7, l7)], H⟩ k))
  (evK C D c ⟨[(0, .v x0), (1, .v x1), (2, .v x2), (7, .l 7 0), (32, .v (.bool true))], [(7, l7)], H⟩ k) := by kernel_rfl
def O8_2 : List IOper :=
  [⟨some 8, .move (.const .nilp), none⟩,
   ⟨some 9, .move (.const (.int .i64 1)), none⟩]
@[simp] theorem R8_2 (x0 x1 x2 x32 : AV) (l7 : List AV) :
  evK C D (.seq (.region O8_2) (.keep [8, 9] [] c)) ⟨[(0, .v x0), (1, .v x1), (2, .v x2), (7, .l 7 0), (32, .v x32)], [(7, l7)], H⟩ k =
  evK C D c ⟨[(8, .v .nilp), (9, .v (.int .i64 1))], [], H⟩ k := by kernel_rfl
def O8_3 : List IOper :=
  [⟨some 34, .load true 2 (.tmp 7), none⟩,
   ⟨some 35, .call (.func 47) [(.tmp 34)], none⟩,
   ⟨some 33, .move (.tmp 35), none⟩,
   ⟨some 36, .extract (.tmp 33) 0, none⟩,
   ⟨some 37, .extract (.tmp 33) 1, none⟩,
   ⟨some 10, .move (.tmp 36), none⟩,
   ⟨some 11, .move (.tmp 37), none⟩]
@[simp] theorem R8_3 (x0 x1 x2 : AV) (l7 : List AV) :
  evK C D (.seq (.region O8_3) (.keep [0, 1, 2, 7, 11] [7] c)) ⟨[(0, .v x0), (1, .v x1), (2, .v x2), (7, .l 7 0)], [(7, l7)], H⟩ k =
  (nl (rd true 2 0 l7)).bind fun t0 =>
  (callN C (.func (.func 47) [] []) [t0] H).bind fun r1 =>
  (nl (extA 0 r1.1)).bind fun t3 =>
  (nl (extA 1 r1.1)).bind fun t4 =>
  evK C D c ⟨[(0, .v x0), (1, .v x1), (2, .v x2), (7, .l 7 0), (11, .v t4)], [(7, l7)], r1.2⟩ k := by kernel_rfl
def O8_4 : List IOper :=
  [⟨some 38, .move (.tmp 11), none⟩,
   ⟨some 39, .bin .neq .int (.tmp 38) (.const (.int .i64 0)), none⟩]
@[simp] theorem R8_4 (x0 x1 x2 x11 : AV) (l7 : List AV) :
  evK C D (.seq (.region O8_4) (.keep [0, 1, 2, 7, 11, 39] [7] c)) ⟨[(0, .v x0), (1, .v x1), (2, .v x2), (7, .l 7 0), (11, .v x11)], [(7, l7)], H⟩ k =
  (nl (binA .neq .int x11 (.int .i64 0))).bind fun t1 =>
  evK C D c ⟨[(0, .v x0), (1, .v x1), (2, .v x2), (7, .l 7 0), (11, .v x11), (39, .v t1)], [(7, l7)], H⟩ k := by kernel_rfl
def O8_5 : List IOper :=
  [⟨some 40, .move (.tmp 11), none⟩,
   ⟨some 8, .move (.const .nilp), none⟩,
   ⟨some 9, .move (.tmp 40), none⟩]
@[simp] theorem R8_5 (x0 x1 x2 x11 x39 : AV) (l7 : List AV) :
  evK C D (.seq (.region O8_5) (.keep [8, 9] [] c)) ⟨[(0, .v x0), (1, .v x1), (2, .v x2), (7, .l 7 0), (11, .v x11), (39, .v x39)], [(7, l7)], H⟩ k =
  evK C D c ⟨[(8, .v .nilp), (9, .v x11)], [], H⟩ k := by kernel_rfl
def O8_6 : List IOper :=
  [⟨some 42, .move (.tmp 0), none⟩,
   ⟨some 43, .call (.func 48) [(.tmp 42)], none⟩,
   ⟨some 41, .move (.tmp 43), none⟩,
   ⟨some 44, .extract (.tmp 41) 0, none⟩,
   ⟨some 45, .extract (.tmp 41) 1, none⟩,
   ⟨some 12, .move (.tmp 44), none⟩,
   ⟨some 13, .move (.tmp 45), none⟩]
@[simp] theorem R8_6 (x0 x1 x2 : AV) (l7 : List AV) :
  evK C D (.seq (.region O8_6) (.keep [1, 2, 7, 12, 13] [7] c)) ⟨[(0, .v x0), (1, .v x1), (2, .v x2), (7, .l 7 0)], [(7, l7)], H⟩ k =
  (callN C (.func (.func 48) [] []) [x0] H).bind fun r1 =>
  (nl (extA 0 r1.1)).bind fun t3 =>
  (nl (extA 1 r1.1)).bind fun t4 =>
  evK C D c ⟨[(1, .v x1), (2, .v x2), (7, .l 7 0), (12, .v t3), (13, .v t4)], [(7, l7)], r1.2⟩ k := by kernel_rfl
def O8_7 : List IOper :=
  [⟨some 46, .move (.tmp 13), none⟩,
   ⟨some 47, .bin .neq .int (.tmp 46) (.const (.int .i64 0)), none⟩]
@[simp] theorem R8_7 (x1 x2 x12 x13 : AV) (l7 : List AV) :
  evK C D (.seq (.region O8_7) (.keep [1, 2, 7, 12, 47] [7] c)) ⟨[(1, .v x1), (2, .v x2), (7, .l 7 0), (12, .v x12), (13, .v x13)], [(7, l7)], H⟩ k =
  (nl (binA .neq .int x13 (.int .i64 0))).bind fun t1 =>
  evK C D c ⟨[(1, .v x1), (2, .v x2), (7, .l 7 0), (12, .v x12), (47, .v t1)], [(7, l7)], H⟩ k := by kernel_rfl
def O8_8 : List IOper :=
  [⟨some 8, .move (.const .nilp), none⟩,
   ⟨some 9, .move (.const (.int .i64 71)), none⟩]
@[simp] theorem R8_8 (x1 x2 x12 x47 : AV) (l7 : List AV) :
  evK C D (.seq (.region O8_8) (.keep [8, 9] [] c)) ⟨[(1, .v x1), (2, .v x2), (7, .l 7 0), (12, .v x12), (47, .v x47)], [(7, l7)], H⟩ k =
  evK C D c ⟨[(8, .v .nilp), (9, .v (.int .i64 71))], [], H⟩ k := by kernel_rfl
def O8_9 : List IOper :=
  [⟨some 49, .move (.tmp 12), none⟩,
   ⟨some 50, .move (.tmp 1), none⟩,
   ⟨some 51, .move (.tmp 2), none⟩,
   ⟨some 52, .load true 2 (.tmp 7), none⟩,
   ⟨some 53, .call (.func 49) [(.tmp 49), (.tmp 50), (.tmp 51), (.tmp 52)], none⟩,
   ⟨some 48, .move (.tmp 53), none⟩,
   ⟨some 54, .extract (.tmp 48) 0, none⟩,
   ⟨some 55, .extract (.tmp 48) 1, none⟩,
   ⟨some 14, .move (.tmp 54), none⟩,
   ⟨some 13, .move (.tmp 55), none⟩]
@[simp] theorem R8_9 (x1 x2 x12 : AV) (l7 : List AV) :
  evK C D (.seq (.region O8_9) (.keep [13, 14] [] c)) ⟨[(1, .v x1), (2, .v x2), (7, .l 7 0), (12, .v x12)], [(7, l7)], H⟩ k =
  (nl (rd true 2 0 l7)).bind fun t3 =>
  (callN C (.func (.func 49) [] []) [x12, x1, x2, t3] H).bind fun r4 =>
  (nl (extA 0 r4.1)).bind fun t6 =>
  (nl (extA 1 r4.1)).bind fun t7 =>
  evK C D c ⟨[(13, .v t7), (14, .v t6)], [], r4.2⟩ k := by kernel_rfl
def O8_10 : List IOper :=
  [⟨some 56, .move (.tmp 13), none⟩,
   ⟨some 57, .bin .neq .int (.tmp 56) (.const (.int .i64 0)), none⟩]
@[simp] theorem R8_10 (x13 x14 : AV) :
  evK C D (.seq (.region O8_10) (.keep [14, 57] [] c)) ⟨[(13, .v x13), (14, .v x14)], [], H⟩ k =
  (nl (binA .neq .int x13 (.int .i64 0))).bind fun t1 =>
  evK C D c ⟨[(14, .v x14), (57, .v t1)], [], H⟩ k := by kernel_rfl
def O8_11 : List IOper :=
  [⟨some 8, .move (.const .nilp), none⟩,
   ⟨some 9, .move (.const (.int .i64 71)), none⟩]
@[simp] theorem R8_11 (x14 x57 : AV) :
  evK C D (.seq (.region O8_11) (.keep [8, 9] [] c)) ⟨[(14, .v x14), (57, .v x57)], [], H⟩ k =
  evK C D c ⟨[(8, .v .nilp), (9, .v (.int .i64 71))], [], H⟩ k := by kernel_rfl
def O8_12 : List IOper :=
  [⟨some 58, .move (.tmp 14), none⟩,
   ⟨some 8, .move (.tmp 58), none⟩,
   ⟨some 9, .move (.const (.int .i64 0)), none⟩]
@[simp] theorem R8_12 (x14 : AV) :
  evK C D (.seq (.region O8_12) (.keep [8, 9] [] c)) ⟨[(14, .v x14)], [], H⟩ k =
  evK C D c ⟨[(8, .v x14), (9, .v (.int .i64 0))], [], H⟩ k := by kernel_rfl
def F8 : FnIR := ⟨59, 4, [.tmp 8, .tmp 9], [7],
  .seq (.region O8_0)
  (.keep [0, 1, 2, 7] [7] (.seq (.seq (.region O8_1)
   (.keep [0, 1, 2, 7, 32] [7] (.cond (.tmp 32)
    (.seq (.region O8_2)
    (.keep [8, 9] [] (.ret)))
    (.skip))))
  (.keep [0, 1, 2, 7] [7] (.seq (.seq (.region O8_3)
   (.keep [0, 1, 2, 7, 11] [7] (.seq (.region O8_4)
   (.keep [0, 1, 2, 7, 11, 39] [7] (.cond (.tmp 39)
    (.seq (.region O8_5)
    (.keep [8, 9] [] (.ret)))
    (.skip))))))
  (.keep [0, 1, 2, 7] [7] (.seq (.region O8_6)
  (.keep [1, 2, 7, 12, 13] [7] (.seq (.seq (.region O8_7)
   (.keep [1, 2, 7, 12, 47] [7] (.cond (.tmp 47)
    (.seq (.region O8_8)
    (.keep [8, 9] [] (.ret)))
    (.skip))))
  (.keep [1, 2, 7, 12] [7] (.seq (.region O8_9)
  (.keep [13, 14] [] (.seq (.seq (.region O8_10)
   (.keep [14, 57] [] (.cond (.tmp 57)
    (.seq (.region O8_11)
    (.keep [8, 9] [] (.ret)))
    (.skip))))
  (.keep [14] [] (.seq (.region O8_12)
  (.keep [8, 9] [] (.ret))))))))))))))))⟩
/-- wampum/wampumlaw17.all -/
def O9_0 : List IOper :=
  [⟨some 0, .alloc true 2 [(.str []), (.str [])], none⟩]
@[simp] theorem R9_0 :
  evK C D (.seq (.region O9_0) (.keep [0] [0] c)) ⟨[], [], H⟩ k =
  evK C D c ⟨[(0, .l 0 0)], [(0, [(.str []), (.str [])])], H⟩ k := by kernel_rfl
def O9_1 : List IOper :=
  [⟨some 1, .build [(.str []), (.str [])] [(0, 1, (.const (.str [97]))), (1, 1, (.const (.str [123])))], none⟩,
   ⟨none, .store 2 (.tmp 0) (.tmp 1), none⟩]
@[simp] theorem R9_1 (l0 : List AV) :
  evK C D (.seq (.region O9_1) (.keep [0] [0] c)) ⟨[(0, .l 0 0)], [(0, l0)], H⟩ k =
  ((fillC [(0, 1, (.str [97])), (1, 1, (.str [123]))] [(.str []), (.str [])]).map AV.agg).bind fun t0 =>
  (stL 2 0 t0 l0).bind fun m1 =>
  evK C D c ⟨[(0, .l 0 0)], [(0, m1)], H⟩ k := by kernel_rfl
def F9 : FnIR := ⟨2, 0, [.cell 0 true 2], [0],
  .seq (.region O9_0)
  (.keep [0] [0] (.seq (.region O9_1)
  (.keep [0] [0] (.ret))))⟩
/-- (*wampum/replica.Replica).Propose -/
def O10_0 : List IOper :=
  [⟨some 3, .box true 22 (.tmp 1), none⟩,
   ⟨some 4, .move (.const (.int .i64 0)), none⟩,
   ⟨some 5, .move (.const (.int .i64 0)), none⟩,
   ⟨some 6, .move (.const (.int .i64 0)), none⟩]
@[simp] theorem R10_0 (x0 x1 : AV) :
  evK C D (.seq (.region O10_0) (.keep [0, 3] [3] c)) ⟨[(0, .v x0), (1, .v x1)], [], H⟩ k =
  (boxC x1).bind fun m0 =>
  evK C D c ⟨[(0, .v x0), (3, .l 3 0)], [(3, m0)], H⟩ k := by kernel_rfl
def O10_1 : List IOper :=
  [⟨some 9, .move (.tmp 0), none⟩,
   ⟨some 10, .bin .eql .ptr (.tmp 9) (.const .nilp), none⟩]
@[simp] theorem R10_1 (x0 : AV) (l3 : List AV) :
  evK C D (.seq (.region O10_1) (.keep [0, 3, 10] [3] c)) ⟨[(0, .v x0), (3, .l 3 0)], [(3, l3)], H⟩ k =
  (nl (binA .eql .ptr x0 .nilp)).bind fun t1 =>
  evK C D c ⟨[(0, .v x0), (3, .l 3 0), (10, .v t1)], [(3, l3)], H⟩ k := by kernel_rfl
def O10_2 : List IOper :=
  [⟨some 4, .move (.const (.int .i64 0)), none⟩,
   ⟨some 5, .move (.const (.int .i64 0)), none⟩,
   ⟨some 6, .move (.const (.int .i64 1)), none⟩]
@[simp] theorem R10_2 (x0 x10 : AV) (l3 : List AV) :
  evK C D (.seq (.region O10_2) (.keep [4, 5, 6] [] c)) ⟨[(0, .v x0), (3, .l 3 0), (10, .v x10)], [(3, l3)], H⟩ k =
  evK C D c ⟨[(4, .v (.int .i64 0)), (5, .v (.int .i64 0)), (6, .v (.int .i64 1))], [], H⟩ k := by kernel_rfl
def O10_3 : List IOper :=
  [⟨some 12, .load true 22 (.tmp 3), none⟩,
   ⟨some 13, .call (.func 50) [(.tmp 12)], none⟩,
   ⟨some 11, .move (.tmp 13), none⟩,
   ⟨some 14, .extract (.tmp 11) 0, none⟩,
   ⟨some 15, .extract (.tmp 11) 1, none⟩,
   ⟨some 7, .move (.tmp 14), none⟩,
   ⟨some 8, .move (.tmp 15), none⟩]
@[simp] theorem R10_3 (x0 : AV) (l3 : List AV) :
  evK C D (.seq (.region O10_3) (.keep [0, 7, 8] [] c)) ⟨[(0, .v x0), (3, .l 3 0)], [(3, l3)], H⟩ k =
  (nl (rd true 22 0 l3)).bind fun t0 =>
  (callN C (.func (.func 50) [] []) [t0] H).bind fun r1 =>
  (nl (extA 0 r1.1)).bind fun t3 =>
  (nl (extA 1 r1.1)).bind fun t4 =>
  evK C D c ⟨[(0, .v x0), (7, .v t3), (8, .v t4)], [], r1.2⟩ k := by kernel_rfl
def O10_4 : List IOper :=
  [⟨some 16, .move (.tmp 8), none⟩,
   ⟨some 17, .bin .neq .int (.tmp 16) (.const (.int .i64 0)), none⟩]
@[simp] theorem R10_4 (x0 x7 x8 : AV) :
  evK C D (.seq (.region O10_4) (.keep [0, 7, 17] [] c)) ⟨[(0, .v x0), (7, .v x7), (8, .v x8)], [], H⟩ k =
  (nl (binA .neq .int x8 (.int .i64 0))).bind fun t1 =>
  evK C D c ⟨[(0, .v x0), (7, .v x7), (17, .v t1)], [], H⟩ k := by kernel_rfl
def O10_5 : List IOper :=
  [⟨some 4, .move (.const (.int .i64 0)), none⟩,
   ⟨some 5, .move (.const (.int .i64 0)), none⟩,
   ⟨some 6, .move (.const (.int .i64 131)), none⟩]
@[simp] theorem R10_5 (x0 x7 x17 : AV) :
  evK C D (.seq (.region O10_5) (.keep [4, 5, 6] [] c)) ⟨[(0, .v x0), (7, .v x7), (17, .v x17)], [], H⟩ k =
  evK C D c ⟨[(4, .v (.int .i64 0)), (5, .v (.int .i64 0)), (6, .v (.int .i64 131))], [], H⟩ k := by kernel_rfl
def O10_6 : List IOper :=
  [⟨some 18, .move (.tmp 0), none⟩,
   ⟨none, .defer (.func 51) [(.tmp 18)], none⟩]
-- R10_6: not resolved
def O10_7 : List IOper :=
  [⟨some 19, .move (.tmp 0), none⟩,
   ⟨some 20, .nilCheck (.tmp 19), none⟩,
   ⟨some 21, .fieldAddr 1 (.tmp 20), none⟩,
   ⟨some 22, .load false 1 (.tmp 21), none⟩,
   ⟨some 23, .move (.tmp 7), none⟩,
   ⟨some 24, .call (.func 52) [(.tmp 22), (.tmp 23)], none⟩,
   ⟨some 25, .extract (.tmp 24) 0, none⟩,
   ⟨some 26, .extract (.tmp 24) 1, none⟩,
   ⟨some 27, .extract (.tmp 24) 2, none⟩,
   ⟨some 4, .move (.tmp 25), none⟩,
   ⟨some 5, .move (.tmp 26), none⟩,
   ⟨some 6, .move (.tmp 27), none⟩]
@[simp] theorem R10_7 (x0 x7 : AV) :
  evK C D (.seq (.region O10_7) (.keep [4, 5, 6] [] c)) ⟨[(0, .v x0), (7, .v x7)], [], H⟩ k =
  (nilC x0).bind fun t1 =>
  (fldP 1 t1).bind fun t2 =>
  (nl (loadP H false 1 t2)).bind fun t3 =>
  (callN C (.func (.func 52) [] []) [t3, x7] H).bind fun r5 =>
  (nl (extA 0 r5.1)).bind fun t6 =>
  (nl (extA 1 r5.1)).bind fun t7 =>
  (nl (extA 2 r5.1)).bind fun t8 =>
  evK C D c ⟨[(4, .v t6), (5, .v t7), (6, .v t8)], [], r5.2⟩ k := by kernel_rfl
def F10 : FnIR := ⟨28, 2, [.tmp 4, .tmp 5, .tmp 6], [3],
  .seq (.region O10_0)
  (.keep [0, 3] [3] (.seq (.seq (.region O10_1)
   (.keep [0, 3, 10] [3] (.cond (.tmp 10)
    (.seq (.region O10_2)
    (.keep [4, 5, 6] [] (.ret)))
    (.skip))))
  (.keep [0, 3] [3] (.seq (.region O10_3)
  (.keep [0, 7, 8] [] (.seq (.seq (.region O10_4)
   (.keep [0, 7, 17] [] (.cond (.tmp 17)
    (.seq (.region O10_5)
    (.keep [4, 5, 6] [] (.ret)))
    (.skip))))
  (.keep [0, 7] [] (.seq (.region O10_6)
  (.keep [0, 7] [] (.seq (.region O10_7)
  (.keep [4, 5, 6] [] (.ret))))))))))))⟩
/-- (*wampum/replica.Replica).Role -/
def O11_0 : List IOper :=
  [⟨some 2, .move (.const (.int .i64 0)), none⟩,
   ⟨some 3, .move (.const (.int .i64 0)), none⟩]
@[simp] theorem R11_0 (x0 : AV) :
  evK C D (.seq (.region O11_0) (.keep [0] [] c)) ⟨[(0, .v x0)], [], H⟩ k =
  evK C D c ⟨[(0, .v x0)], [], H⟩ k := by kernel_rfl
def O11_1 : List IOper :=
  [⟨some 4, .move (.tmp 0), none⟩,
   ⟨some 5, .bin .eql .ptr (.tmp 4) (.const .nilp), none⟩]
@[simp] theorem R11_1 (x0 : AV) :
  evK C D (.seq (.region O11_1) (.keep [0, 5] [] c)) ⟨[(0, .v x0)], [], H⟩ k =
  (nl (binA .eql .ptr x0 .nilp)).bind fun t1 =>
  evK C D c ⟨[(0, .v x0), (5, .v t1)], [], H⟩ k := by kernel_rfl
def O11_2 : List IOper :=
  [⟨some 2, .move (.const (.int .i64 0)), none⟩,
   ⟨some 3, .move (.const (.int .i64 0)), none⟩]
@[simp] theorem R11_2 (x0 x5 : AV) :
  evK C D (.seq (.region O11_2) (.keep [2, 3] [] c)) ⟨[(0, .v x0), (5, .v x5)], [], H⟩ k =
  evK C D c ⟨[(2, .v (.int .i64 0)), (3, .v (.int .i64 0))], [], H⟩ k := by kernel_rfl
def O11_3 : List IOper :=
  [⟨some 6, .move (.tmp 0), none⟩,
   ⟨some 7, .nilCheck (.tmp 6), none⟩,
   ⟨some 8, .fieldAddr 1 (.tmp 7), none⟩,
   ⟨some 9, .load false 1 (.tmp 8), none⟩,
   ⟨some 10, .call (.func 53) [(.tmp 9)], none⟩,
   ⟨some 11, .extract (.tmp 10) 0, none⟩,
   ⟨some 12, .extract (.tmp 10) 1, none⟩,
   ⟨some 2, .move (.tmp 11), none⟩,
   ⟨some 3, .move (.tmp 12), none⟩]
@[simp] theorem R11_3 (x0 : AV) :
  evK C D (.seq (.region O11_3) (.keep [2, 3] [] c)) ⟨[(0, .v x0)], [], H⟩ k =
  (nilC x0).bind fun t1 =>
  (fldP 1 t1).bind fun t2 =>
  (nl (loadP H false 1 t2)).bind fun t3 =>
  (callN C (.func (.func 53) [] []) [t3] H).bind fun r4 =>
  (nl (extA 0 r4.1)).bind fun t5 =>
  (nl (extA 1 r4.1)).bind fun t6 =>
  evK C D c ⟨[(2, .v t5), (3, .v t6)], [], r4.2⟩ k := by kernel_rfl
def F11 : FnIR := ⟨13, 1, [.tmp 2, .tmp 3], [],
  .seq (.region O11_0)
  (.keep [0] [] (.seq (.seq (.region O11_1)
   (.keep [0, 5] [] (.cond (.tmp 5)
    (.seq (.region O11_2)
    (.keep [2, 3] [] (.ret)))
    (.skip))))
  (.keep [0] [] (.seq (.region O11_3)
  (.keep [2, 3] [] (.ret))))))⟩
/-- (*wampum/replica.Replica).Step -/
def O12_0 : List IOper :=
  [⟨some 3, .box true 53 (.tmp 1), none⟩,
   ⟨some 4, .move (.const (.int .i64 0)), none⟩]
@[simp] theorem R12_0 (x0 x1 : AV) :
  evK C D (.seq (.region O12_0) (.keep [0, 3] [3] c)) ⟨[(0, .v x0), (1, .v x1)], [], H⟩ k =
  (boxC x1).bind fun m0 =>
  evK C D c ⟨[(0, .v x0), (3, .l 3 0)], [(3, m0)], H⟩ k := by kernel_rfl
def O12_1 : List IOper :=
  [⟨some 5, .move (.tmp 0), none⟩,
   ⟨some 6, .bin .eql .ptr (.tmp 5) (.const .nilp), none⟩]
@[simp] theorem R12_1 (x0 : AV) (l3 : List AV) :
  evK C D (.seq (.region O12_1) (.keep [0, 3, 6] [3] c)) ⟨[(0, .v x0), (3, .l 3 0)], [(3, l3)], H⟩ k =
  (nl (binA .eql .ptr x0 .nilp)).bind fun t1 =>
  evK C D c ⟨[(0, .v x0), (3, .l 3 0), (6, .v t1)], [(3, l3)], H⟩ k := by kernel_rfl
def O12_2 : List IOper :=
  [⟨some 4, .move (.const (.int .i64 1)), none⟩]
@[simp] theorem R12_2 (x0 x6 : AV) (l3 : List AV) :
  evK C D (.seq (.region O12_2) (.keep [4] [] c)) ⟨[(0, .v x0), (3, .l 3 0), (6, .v x6)], [(3, l3)], H⟩ k =
  evK C D c ⟨[(4, .v (.int .i64 1))], [], H⟩ k := by kernel_rfl
def O12_3 : List IOper :=
  [⟨some 7, .move (.tmp 0), none⟩,
   ⟨none, .defer (.func 51) [(.tmp 7)], none⟩]
-- R12_3: not resolved
def O12_4 : List IOper :=
  [⟨some 8, .move (.tmp 0), none⟩,
   ⟨some 9, .nilCheck (.tmp 8), none⟩,
   ⟨some 10, .fieldAddr 1 (.tmp 9), none⟩,
   ⟨some 11, .load false 1 (.tmp 10), none⟩,
   ⟨some 12, .load true 53 (.tmp 3), none⟩,
   ⟨some 13, .call (.func 54) [(.tmp 11), (.tmp 12)], none⟩,
   ⟨some 4, .move (.tmp 13), none⟩]
@[simp] theorem R12_4 (x0 : AV) (l3 : List AV) :
  evK C D (.seq (.regionD O12_4 []) (.keep [4] [] c)) ⟨[(0, .v x0), (3, .l 3 0)], [(3, l3)], H⟩ k =
  (nilC x0).bind fun t1 =>
  (fldP 1 t1).bind fun t2 =>
  (nl (loadP H false 1 t2)).bind fun t3 =>
  kB (AV.okB H.n t3) (
  (nl (rd true 53 0 l3)).bind fun t4 =>
  kB (AV.okB H.n t4) (
  (callN C (.func (.func 54) [] []) [t3, t4] H).bind fun r5 =>
  evK C D c ⟨[(4, .v r5.1)], [], r5.2⟩ k)) := by kernel_rfl
def F12 : FnIR := ⟨14, 2, [.tmp 4], [3],
  .seq (.region O12_0)
  (.keep [0, 3] [3] (.seq (.seq (.region O12_1)
   (.keep [0, 3, 6] [3] (.cond (.tmp 6)
    (.seq (.region O12_2)
    (.keep [4] [] (.ret)))
    (.skip))))
  (.keep [0, 3] [3] (.seq (.region O12_3)
  (.keep [0, 3] [3] (.seq (.regionD O12_4 [])
  (.keep [4] [] (.ret))))))))⟩
/-- (*wampum/replica.Replica).Elect -/
def O13_0 : List IOper :=
  [⟨some 2, .move (.const (.int .i64 0)), none⟩]
@[simp] theorem R13_0 (x0 : AV) :
  evK C D (.seq (.region O13_0) (.keep [0] [] c)) ⟨[(0, .v x0)], [], H⟩ k =
  evK C D c ⟨[(0, .v x0)], [], H⟩ k := by kernel_rfl
def O13_1 : List IOper :=
  [⟨some 3, .move (.tmp 0), none⟩,
   ⟨some 4, .bin .eql .ptr (.tmp 3) (.const .nilp), none⟩]
@[simp] theorem R13_1 (x0 : AV) :
  evK C D (.seq (.region O13_1) (.keep [0, 4] [] c)) ⟨[(0, .v x0)], [], H⟩ k =
  (nl (binA .eql .ptr x0 .nilp)).bind fun t1 =>
  evK C D c ⟨[(0, .v x0), (4, .v t1)], [], H⟩ k := by kernel_rfl
def O13_2 : List IOper :=
  [⟨some 2, .move (.const (.int .i64 1)), none⟩]
@[simp] theorem R13_2 (x0 x4 : AV) :
  evK C D (.seq (.region O13_2) (.keep [2] [] c)) ⟨[(0, .v x0), (4, .v x4)], [], H⟩ k =
  evK C D c ⟨[(2, .v (.int .i64 1))], [], H⟩ k := by kernel_rfl
def O13_3 : List IOper :=
  [⟨some 5, .move (.tmp 0), none⟩,
   ⟨none, .defer (.func 51) [(.tmp 5)], none⟩]
-- R13_3: not resolved
def O13_4 : List IOper :=
  [⟨some 6, .move (.tmp 0), none⟩,
   ⟨some 7, .nilCheck (.tmp 6), none⟩,
   ⟨some 8, .fieldAddr 1 (.tmp 7), none⟩,
   ⟨some 9, .load false 1 (.tmp 8), none⟩,
   ⟨some 10, .call (.func 55) [(.tmp 9)], none⟩,
   ⟨some 2, .move (.tmp 10), none⟩]
@[simp] theorem R13_4 (x0 : AV) :
  evK C D (.seq (.region O13_4) (.keep [2] [] c)) ⟨[(0, .v x0)], [], H⟩ k =
  (nilC x0).bind fun t1 =>
  (fldP 1 t1).bind fun t2 =>
  (nl (loadP H false 1 t2)).bind fun t3 =>
  (callN C (.func (.func 55) [] []) [t3] H).bind fun r4 =>
  evK C D c ⟨[(2, .v r4.1)], [], r4.2⟩ k := by kernel_rfl
def F13 : FnIR := ⟨11, 1, [.tmp 2], [],
  .seq (.region O13_0)
  (.keep [0] [] (.seq (.seq (.region O13_1)
   (.keep [0, 4] [] (.cond (.tmp 4)
    (.seq (.region O13_2)
    (.keep [2] [] (.ret)))
    (.skip))))
  (.keep [0] [] (.seq (.region O13_3)
  (.keep [0] [] (.seq (.region O13_4)
  (.keep [2] [] (.ret))))))))⟩
/-- (*wampum/replica.Replica).Beat -/
def O14_0 : List IOper :=
  [⟨some 2, .move (.const (.int .i64 0)), none⟩]
@[simp] theorem R14_0 (x0 : AV) :
  evK C D (.seq (.region O14_0) (.keep [0] [] c)) ⟨[(0, .v x0)], [], H⟩ k =
  evK C D c ⟨[(0, .v x0)], [], H⟩ k := by kernel_rfl
def O14_1 : List IOper :=
  [⟨some 3, .move (.tmp 0), none⟩,
   ⟨some 4, .bin .eql .ptr (.tmp 3) (.const .nilp), none⟩]
@[simp] theorem R14_1 (x0 : AV) :
  evK C D (.seq (.region O14_1) (.keep [0, 4] [] c)) ⟨[(0, .v x0)], [], H⟩ k =
  (nl (binA .eql .ptr x0 .nilp)).bind fun t1 =>
  evK C D c ⟨[(0, .v x0), (4, .v t1)], [], H⟩ k := by kernel_rfl
def O14_2 : List IOper :=
  [⟨some 2, .move (.const (.int .i64 1)), none⟩]
@[simp] theorem R14_2 (x0 x4 : AV) :
  evK C D (.seq (.region O14_2) (.keep [2] [] c)) ⟨[(0, .v x0), (4, .v x4)], [], H⟩ k =
  evK C D c ⟨[(2, .v (.int .i64 1))], [], H⟩ k := by kernel_rfl
def O14_3 : List IOper :=
  [⟨some 5, .move (.tmp 0), none⟩,
   ⟨none, .defer (.func 51) [(.tmp 5)], none⟩]
-- R14_3: not resolved
def O14_4 : List IOper :=
  [⟨some 6, .move (.tmp 0), none⟩,
   ⟨some 7, .nilCheck (.tmp 6), none⟩,
   ⟨some 8, .fieldAddr 1 (.tmp 7), none⟩,
   ⟨some 9, .load false 1 (.tmp 8), none⟩,
   ⟨some 10, .call (.func 56) [(.tmp 9)], none⟩,
   ⟨some 2, .move (.tmp 10), none⟩]
@[simp] theorem R14_4 (x0 : AV) :
  evK C D (.seq (.region O14_4) (.keep [2] [] c)) ⟨[(0, .v x0)], [], H⟩ k =
  (nilC x0).bind fun t1 =>
  (fldP 1 t1).bind fun t2 =>
  (nl (loadP H false 1 t2)).bind fun t3 =>
  (callN C (.func (.func 56) [] []) [t3] H).bind fun r4 =>
  evK C D c ⟨[(2, .v r4.1)], [], r4.2⟩ k := by kernel_rfl
def F14 : FnIR := ⟨11, 1, [.tmp 2], [],
  .seq (.region O14_0)
  (.keep [0] [] (.seq (.seq (.region O14_1)
   (.keep [0, 4] [] (.cond (.tmp 4)
    (.seq (.region O14_2)
    (.keep [2] [] (.ret)))
    (.skip))))
  (.keep [0] [] (.seq (.region O14_3)
  (.keep [0] [] (.seq (.region O14_4)
  (.keep [2] [] (.ret))))))))⟩
/-- (*wampum/replica.Replica).Out -/
def O15_0 : List IOper :=
  [⟨some 2, .move (.const .nils), none⟩]
@[simp] theorem R15_0 (x0 : AV) :
  evK C D (.seq (.region O15_0) (.keep [0] [] c)) ⟨[(0, .v x0)], [], H⟩ k =
  evK C D c ⟨[(0, .v x0)], [], H⟩ k := by kernel_rfl
def O15_1 : List IOper :=
  [⟨some 3, .move (.tmp 0), none⟩,
   ⟨some 4, .bin .eql .ptr (.tmp 3) (.const .nilp), none⟩]
@[simp] theorem R15_1 (x0 : AV) :
  evK C D (.seq (.region O15_1) (.keep [0, 4] [] c)) ⟨[(0, .v x0)], [], H⟩ k =
  (nl (binA .eql .ptr x0 .nilp)).bind fun t1 =>
  evK C D c ⟨[(0, .v x0), (4, .v t1)], [], H⟩ k := by kernel_rfl
def O15_2 : List IOper :=
  [⟨some 2, .move (.const .nils), none⟩]
@[simp] theorem R15_2 (x0 x4 : AV) :
  evK C D (.seq (.region O15_2) (.keep [2] [] c)) ⟨[(0, .v x0), (4, .v x4)], [], H⟩ k =
  evK C D c ⟨[(2, .v .nils)], [], H⟩ k := by kernel_rfl
def O15_3 : List IOper :=
  [⟨some 5, .move (.tmp 0), none⟩,
   ⟨some 6, .nilCheck (.tmp 5), none⟩,
   ⟨some 7, .fieldAddr 1 (.tmp 6), none⟩,
   ⟨some 8, .load false 1 (.tmp 7), none⟩,
   ⟨some 9, .call (.func 57) [(.tmp 8)], none⟩,
   ⟨some 2, .move (.tmp 9), none⟩]
@[simp] theorem R15_3 (x0 : AV) :
  evK C D (.seq (.region O15_3) (.keep [2] [] c)) ⟨[(0, .v x0)], [], H⟩ k =
  (nilC x0).bind fun t1 =>
  (fldP 1 t1).bind fun t2 =>
  (nl (loadP H false 1 t2)).bind fun t3 =>
  (callN C (.func (.func 57) [] []) [t3] H).bind fun r4 =>
  evK C D c ⟨[(2, .v r4.1)], [], r4.2⟩ k := by kernel_rfl
def F15 : FnIR := ⟨10, 1, [.tmp 2], [],
  .seq (.region O15_0)
  (.keep [0] [] (.seq (.seq (.region O15_1)
   (.keep [0, 4] [] (.cond (.tmp 4)
    (.seq (.region O15_2)
    (.keep [2] [] (.ret)))
    (.skip))))
  (.keep [0] [] (.seq (.region O15_3)
  (.keep [2] [] (.ret))))))⟩
/-- (*wampum/replica.Replica).Done -/
def O16_0 : List IOper :=
  [⟨some 2, .move (.const .nils), none⟩]
@[simp] theorem R16_0 (x0 : AV) :
  evK C D (.seq (.region O16_0) (.keep [0] [] c)) ⟨[(0, .v x0)], [], H⟩ k =
  evK C D c ⟨[(0, .v x0)], [], H⟩ k := by kernel_rfl
def O16_1 : List IOper :=
  [⟨some 4, .move (.tmp 0), none⟩,
   ⟨some 5, .bin .eql .ptr (.tmp 4) (.const .nilp), none⟩]
@[simp] theorem R16_1 (x0 : AV) :
  evK C D (.seq (.region O16_1) (.keep [0, 5] [] c)) ⟨[(0, .v x0)], [], H⟩ k =
  (nl (binA .eql .ptr x0 .nilp)).bind fun t1 =>
  evK C D c ⟨[(0, .v x0), (5, .v t1)], [], H⟩ k := by kernel_rfl
def O16_2 : List IOper :=
  [⟨some 2, .move (.const .nils), none⟩]
@[simp] theorem R16_2 (x0 x5 : AV) :
  evK C D (.seq (.region O16_2) (.keep [2] [] c)) ⟨[(0, .v x0), (5, .v x5)], [], H⟩ k =
  evK C D c ⟨[(2, .v .nils)], [], H⟩ k := by kernel_rfl
def O16_3 : List IOper :=
  [⟨some 6, .move (.tmp 0), none⟩,
   ⟨some 7, .nilCheck (.tmp 6), none⟩,
   ⟨some 8, .fieldAddr 6 (.tmp 7), none⟩,
   ⟨some 9, .load false 1 (.tmp 8), none⟩,
   ⟨some 3, .move (.tmp 9), none⟩]
@[simp] theorem R16_3 (x0 : AV) :
  evK C D (.seq (.region O16_3) (.keep [0, 3] [] c)) ⟨[(0, .v x0)], [], H⟩ k =
  (nilC x0).bind fun t1 =>
  (fldP 6 t1).bind fun t2 =>
  (nl (loadP H false 1 t2)).bind fun t3 =>
  evK C D c ⟨[(0, .v x0), (3, .v t3)], [], H⟩ k := by kernel_rfl
def O16_4 : List IOper :=
  [⟨some 10, .move (.tmp 0), none⟩,
   ⟨some 11, .nilCheck (.tmp 10), none⟩,
   ⟨some 12, .fieldAddr 6 (.tmp 11), none⟩,
   ⟨none, .store 1 (.tmp 12) (.const .nils), none⟩]
@[simp] theorem R16_4 (x0 x3 : AV) :
  evK C D (.seq (.region O16_4) (.keep [3] [] c)) ⟨[(0, .v x0), (3, .v x3)], [], H⟩ k =
  (nilC x0).bind fun t1 =>
  (fldP 6 t1).bind fun t2 =>
  (storeP H 1 .nils t2).bind fun H3 =>
  evK C D c ⟨[(3, .v x3)], [], H3⟩ k := by kernel_rfl
def O16_5 : List IOper :=
  [⟨some 13, .move (.tmp 3), none⟩,
   ⟨some 2, .move (.tmp 13), none⟩]
@[simp] theorem R16_5 (x3 : AV) :
  evK C D (.seq (.region O16_5) (.keep [2] [] c)) ⟨[(3, .v x3)], [], H⟩ k =
  evK C D c ⟨[(2, .v x3)], [], H⟩ k := by kernel_rfl
def F16 : FnIR := ⟨14, 1, [.tmp 2], [],
  .seq (.region O16_0)
  (.keep [0] [] (.seq (.seq (.region O16_1)
   (.keep [0, 5] [] (.cond (.tmp 5)
    (.seq (.region O16_2)
    (.keep [2] [] (.ret)))
    (.skip))))
  (.keep [0] [] (.seq (.region O16_3)
  (.keep [0, 3] [] (.seq (.region O16_4)
  (.keep [3] [] (.seq (.region O16_5)
  (.keep [2] [] (.ret))))))))))⟩
/-- (*wampum/replica.Replica).Term -/
def O17_0 : List IOper :=
  [⟨some 2, .move (.const (.int .i64 0)), none⟩]
@[simp] theorem R17_0 (x0 : AV) :
  evK C D (.seq (.region O17_0) (.keep [0] [] c)) ⟨[(0, .v x0)], [], H⟩ k =
  evK C D c ⟨[(0, .v x0)], [], H⟩ k := by kernel_rfl
def O17_1 : List IOper :=
  [⟨some 5, .move (.tmp 0), none⟩,
   ⟨some 6, .bin .eql .ptr (.tmp 5) (.const .nilp), none⟩]
@[simp] theorem R17_1 (x0 : AV) :
  evK C D (.seq (.region O17_1) (.keep [0, 6] [] c)) ⟨[(0, .v x0)], [], H⟩ k =
  (nl (binA .eql .ptr x0 .nilp)).bind fun t1 =>
  evK C D c ⟨[(0, .v x0), (6, .v t1)], [], H⟩ k := by kernel_rfl
def O17_2 : List IOper :=
  [⟨some 2, .move (.const (.int .i64 0)), none⟩]
@[simp] theorem R17_2 (x0 x6 : AV) :
  evK C D (.seq (.region O17_2) (.keep [2] [] c)) ⟨[(0, .v x0), (6, .v x6)], [], H⟩ k =
  evK C D c ⟨[(2, .v (.int .i64 0))], [], H⟩ k := by kernel_rfl
def O17_3 : List IOper :=
  [⟨some 8, .move (.tmp 0), none⟩,
   ⟨some 9, .nilCheck (.tmp 8), none⟩,
   ⟨some 10, .fieldAddr 1 (.tmp 9), none⟩,
   ⟨some 11, .load false 1 (.tmp 10), none⟩,
   ⟨some 12, .call (.func 58) [(.tmp 11)], none⟩,
   ⟨some 7, .move (.tmp 12), none⟩,
   ⟨some 13, .extract (.tmp 7) 0, none⟩,
   ⟨some 14, .extract (.tmp 7) 1, none⟩,
   ⟨some 3, .move (.tmp 13), none⟩,
   ⟨some 4, .move (.tmp 14), none⟩]
@[simp] theorem R17_3 (x0 : AV) :
  evK C D (.seq (.region O17_3) (.keep [3] [] c)) ⟨[(0, .v x0)], [], H⟩ k =
  (nilC x0).bind fun t1 =>
  (fldP 1 t1).bind fun t2 =>
  (nl (loadP H false 1 t2)).bind fun t3 =>
  (callN C (.func (.func 58) [] []) [t3] H).bind fun r4 =>
  (nl (extA 0 r4.1)).bind fun t6 =>
  (nl (extA 1 r4.1)).bind fun t7 =>
  evK C D c ⟨[(3, .v t6)], [], r4.2⟩ k := by kernel_rfl
def O17_4 : List IOper :=
  [⟨some 15, .move (.tmp 3), none⟩,
   ⟨some 2, .move (.tmp 15), none⟩]
@[simp] theorem R17_4 (x3 : AV) :
  evK C D (.seq (.region O17_4) (.keep [2] [] c)) ⟨[(3, .v x3)], [], H⟩ k =
  evK C D c ⟨[(2, .v x3)], [], H⟩ k := by kernel_rfl
def F17 : FnIR := ⟨16, 1, [.tmp 2], [],
  .seq (.region O17_0)
  (.keep [0] [] (.seq (.seq (.region O17_1)
   (.keep [0, 6] [] (.cond (.tmp 6)
    (.seq (.region O17_2)
    (.keep [2] [] (.ret)))
    (.skip))))
  (.keep [0] [] (.seq (.region O17_3)
  (.keep [3] [] (.seq (.region O17_4)
  (.keep [2] [] (.ret))))))))⟩
/-- (*wampum/replica.Replica).Applied -/
def O18_0 : List IOper :=
  [⟨some 2, .move (.const (.int .i64 0)), none⟩]
@[simp] theorem R18_0 (x0 : AV) :
  evK C D (.seq (.region O18_0) (.keep [0] [] c)) ⟨[(0, .v x0)], [], H⟩ k =
  evK C D c ⟨[(0, .v x0)], [], H⟩ k := by kernel_rfl
def O18_1 : List IOper :=
  [⟨some 3, .move (.tmp 0), none⟩,
   ⟨some 4, .bin .eql .ptr (.tmp 3) (.const .nilp), none⟩]
@[simp] theorem R18_1 (x0 : AV) :
  evK C D (.seq (.region O18_1) (.keep [0, 4] [] c)) ⟨[(0, .v x0)], [], H⟩ k =
  (nl (binA .eql .ptr x0 .nilp)).bind fun t1 =>
  evK C D c ⟨[(0, .v x0), (4, .v t1)], [], H⟩ k := by kernel_rfl
def O18_2 : List IOper :=
  [⟨some 2, .move (.const (.int .i64 0)), none⟩]
@[simp] theorem R18_2 (x0 x4 : AV) :
  evK C D (.seq (.region O18_2) (.keep [2] [] c)) ⟨[(0, .v x0), (4, .v x4)], [], H⟩ k =
  evK C D c ⟨[(2, .v (.int .i64 0))], [], H⟩ k := by kernel_rfl
def O18_3 : List IOper :=
  [⟨some 5, .move (.tmp 0), none⟩,
   ⟨some 6, .nilCheck (.tmp 5), none⟩,
   ⟨some 7, .fieldAddr 5 (.tmp 6), none⟩,
   ⟨some 8, .load false 1 (.tmp 7), none⟩,
   ⟨some 2, .move (.tmp 8), none⟩]
@[simp] theorem R18_3 (x0 : AV) :
  evK C D (.seq (.region O18_3) (.keep [2] [] c)) ⟨[(0, .v x0)], [], H⟩ k =
  (nilC x0).bind fun t1 =>
  (fldP 5 t1).bind fun t2 =>
  (nl (loadP H false 1 t2)).bind fun t3 =>
  evK C D c ⟨[(2, .v t3)], [], H⟩ k := by kernel_rfl
def F18 : FnIR := ⟨9, 1, [.tmp 2], [],
  .seq (.region O18_0)
  (.keep [0] [] (.seq (.seq (.region O18_1)
   (.keep [0, 4] [] (.cond (.tmp 4)
    (.seq (.region O18_2)
    (.keep [2] [] (.ret)))
    (.skip))))
  (.keep [0] [] (.seq (.region O18_3)
  (.keep [2] [] (.ret))))))⟩
/-- (*wampum/replica.Replica).Boot -/
def O19_0 : List IOper :=
  [⟨some 2, .move (.const (.int .i64 0)), none⟩]
@[simp] theorem R19_0 (x0 : AV) :
  evK C D (.seq (.region O19_0) (.keep [0] [] c)) ⟨[(0, .v x0)], [], H⟩ k =
  evK C D c ⟨[(0, .v x0)], [], H⟩ k := by kernel_rfl
def O19_1 : List IOper :=
  [⟨some 3, .move (.tmp 0), none⟩,
   ⟨some 4, .bin .eql .ptr (.tmp 3) (.const .nilp), none⟩]
@[simp] theorem R19_1 (x0 : AV) :
  evK C D (.seq (.region O19_1) (.keep [0, 4] [] c)) ⟨[(0, .v x0)], [], H⟩ k =
  (nl (binA .eql .ptr x0 .nilp)).bind fun t1 =>
  evK C D c ⟨[(0, .v x0), (4, .v t1)], [], H⟩ k := by kernel_rfl
def O19_2 : List IOper :=
  [⟨some 2, .move (.const (.int .i64 0)), none⟩]
@[simp] theorem R19_2 (x0 x4 : AV) :
  evK C D (.seq (.region O19_2) (.keep [2] [] c)) ⟨[(0, .v x0), (4, .v x4)], [], H⟩ k =
  evK C D c ⟨[(2, .v (.int .i64 0))], [], H⟩ k := by kernel_rfl
def O19_3 : List IOper :=
  [⟨some 5, .move (.tmp 0), none⟩,
   ⟨some 6, .nilCheck (.tmp 5), none⟩,
   ⟨some 7, .fieldAddr 0 (.tmp 6), none⟩,
   ⟨some 8, .load false 1 (.tmp 7), none⟩,
   ⟨some 9, .call (.func 59) [(.tmp 8)], none⟩,
   ⟨some 10, .field false 1 2 (.tmp 9), none⟩,
   ⟨some 2, .move (.tmp 10), none⟩]
@[simp] theorem R19_3 (x0 : AV) :
  evK C D (.seq (.region O19_3) (.keep [2] [] c)) ⟨[(0, .v x0)], [], H⟩ k =
  (nilC x0).bind fun t1 =>
  (fldP 0 t1).bind fun t2 =>
  (nl (loadP H false 1 t2)).bind fun t3 =>
  (callN C (.func (.func 59) [] []) [t3] H).bind fun r4 =>
  (nl (fldV false 1 2 r4.1)).bind fun t5 =>
  evK C D c ⟨[(2, .v t5)], [], r4.2⟩ k := by kernel_rfl
def F19 : FnIR := ⟨11, 1, [.tmp 2], [],
  .seq (.region O19_0)
  (.keep [0] [] (.seq (.seq (.region O19_1)
   (.keep [0, 4] [] (.cond (.tmp 4)
    (.seq (.region O19_2)
    (.keep [2] [] (.ret)))
    (.skip))))
  (.keep [0] [] (.seq (.region O19_3)
  (.keep [2] [] (.ret))))))⟩
/-- (*wampum/replica.Replica).State -/
def O20_0 : List IOper :=
  [⟨some 2, .move (.const .nilp), none⟩]
@[simp] theorem R20_0 (x0 : AV) :
  evK C D (.seq (.region O20_0) (.keep [0] [] c)) ⟨[(0, .v x0)], [], H⟩ k =
  evK C D c ⟨[(0, .v x0)], [], H⟩ k := by kernel_rfl
def O20_1 : List IOper :=
  [⟨some 3, .move (.tmp 0), none⟩,
   ⟨some 4, .bin .eql .ptr (.tmp 3) (.const .nilp), none⟩]
@[simp] theorem R20_1 (x0 : AV) :
  evK C D (.seq (.region O20_1) (.keep [0, 4] [] c)) ⟨[(0, .v x0)], [], H⟩ k =
  (nl (binA .eql .ptr x0 .nilp)).bind fun t1 =>
  evK C D c ⟨[(0, .v x0), (4, .v t1)], [], H⟩ k := by kernel_rfl
def O20_2 : List IOper :=
  [⟨some 2, .move (.const .nilp), none⟩]
@[simp] theorem R20_2 (x0 x4 : AV) :
  evK C D (.seq (.region O20_2) (.keep [2] [] c)) ⟨[(0, .v x0), (4, .v x4)], [], H⟩ k =
  evK C D c ⟨[(2, .v .nilp)], [], H⟩ k := by kernel_rfl
def O20_3 : List IOper :=
  [⟨some 5, .move (.tmp 0), none⟩,
   ⟨some 6, .nilCheck (.tmp 5), none⟩,
   ⟨some 7, .fieldAddr 2 (.tmp 6), none⟩,
   ⟨some 8, .load false 1 (.tmp 7), none⟩,
   ⟨some 2, .move (.tmp 8), none⟩]
@[simp] theorem R20_3 (x0 : AV) :
  evK C D (.seq (.region O20_3) (.keep [2] [] c)) ⟨[(0, .v x0)], [], H⟩ k =
  (nilC x0).bind fun t1 =>
  (fldP 2 t1).bind fun t2 =>
  (nl (loadP H false 1 t2)).bind fun t3 =>
  evK C D c ⟨[(2, .v t3)], [], H⟩ k := by kernel_rfl
def F20 : FnIR := ⟨9, 1, [.tmp 2], [],
  .seq (.region O20_0)
  (.keep [0] [] (.seq (.seq (.region O20_1)
   (.keep [0, 4] [] (.cond (.tmp 4)
    (.seq (.region O20_2)
    (.keep [2] [] (.ret)))
    (.skip))))
  (.keep [0] [] (.seq (.region O20_3)
  (.keep [2] [] (.ret))))))⟩
/-- wampum/wampumlaw13.Fits -/
def O21_0 : List IOper :=
  [⟨some 1, .box true 22 (.tmp 0), none⟩,
   ⟨some 2, .move (.const (.bool false)), none⟩]
@[simp] theorem R21_0 (x0 : AV) :
  evK C D (.seq (.region O21_0) (.keep [1] [1] c)) ⟨[(0, .v x0)], [], H⟩ k =
  (boxC x0).bind fun m0 =>
  evK C D c ⟨[(1, .l 1 0)], [(1, m0)], H⟩ k := by kernel_rfl
def O21_1 : List IOper :=
  [⟨some 3, .move (.const (.int .i64 0)), none⟩]
@[simp] theorem R21_1 (l1 : List AV) :
  evK C D (.seq (.region O21_1) (.keep [1, 3] [1] c)) ⟨[(1, .l 1 0)], [(1, l1)], H⟩ k =
  evK C D c ⟨[(1, .l 1 0), (3, .v (.int .i64 0))], [(1, l1)], H⟩ k := by kernel_rfl
def O21_2 : List IOper :=
  [⟨some 4, .move (.tmp 3), none⟩,
   ⟨some 5, .fieldAddr 20 (.tmp 1), none⟩,
   ⟨some 6, .load false 1 (.tmp 5), none⟩,
   ⟨some 7, .len .slice (.tmp 6), none⟩,
   ⟨some 8, .bin .lss .none (.tmp 4) (.tmp 7), none⟩]
@[simp] theorem R21_2 (x3 : AV) (l1 : List AV) :
  evK C D (.seq (.region O21_2) (.keep [1, 3, 8] [1] c)) ⟨[(1, .l 1 0), (3, .v x3)], [(1, l1)], H⟩ k =
  (nl (rd false 1 20 l1)).bind fun t2 =>
  (lenS t2).bind fun t3 =>
  (nl (binA .lss .none x3 t3)).bind fun t4 =>
  evK C D c ⟨[(1, .l 1 0), (3, .v x3), (8, .v t4)], [(1, l1)], H⟩ k := by kernel_rfl
def O21_3 : List IOper :=
  [⟨some 11, .move (.tmp 3), none⟩,
   ⟨some 12, .bin .eql .int (.tmp 11) (.const (.int .i64 20)), none⟩,
   ⟨some 13, .move (.tmp 12), none⟩,
   ⟨some 14, .fieldAddr 20 (.tmp 1), some (13, false)⟩,
   ⟨some 15, .load false 1 (.tmp 14), some (13, false)⟩,
   ⟨some 16, .move (.tmp 3), some (13, false)⟩,
   ⟨some 17, .indexAddr none 2 (.tmp 15) (.tmp 16), some (13, false)⟩,
   ⟨some 18, .fieldAddr 0 (.tmp 17), some (13, false)⟩,
   ⟨some 19, .load false 1 (.tmp 18), some (13, false)⟩,
   ⟨some 20, .len .str (.tmp 19), some (13, false)⟩,
   ⟨some 21, .bin .gtr .none (.tmp 20) (.const (.int .i64 400)), some (13, false)⟩,
   ⟨some 22, .pick (.tmp 13) (.const (.bool true)) (.tmp 21), none⟩]
@[simp] theorem R21_3 (x3 : AV) (l1 : List AV) :
  evK C D (.seq (.region O21_3) (.keep [1, 3, 22] [1] c)) ⟨[(1, .l 1 0), (3, .v x3)], [(1, l1)], H⟩ k =
  (nl (binA .eql .int x3 (.int .i64 20))).bind fun t1 =>
  guardK t1 false (
  (nl (rd false 1 20 l1)).bind fun t4 =>
  (nl (idxS 2 t4 x3)).bind fun t6 =>
  (fldP 0 t6).bind fun t7 =>
  (nl (loadP H false 1 t7)).bind fun t8 =>
  (lenStr t8).bind fun t9 =>
  (nl (binA .gtr .none t9 (.int .i64 400))).bind fun t10 =>
  evK C D c ⟨[(1, .l 1 0), (3, .v x3), (22, .v t10)], [(1, l1)], H⟩ k)
  (evK C D c ⟨[(1, .l 1 0), (3, .v x3), (22, .v (.bool true))], [(1, l1)], H⟩ k) := by kernel_rfl
def O21_4 : List IOper :=
  [⟨some 2, .move (.const (.bool false)), none⟩]
@[simp] theorem R21_4 (x3 x22 : AV) (l1 : List AV) :
  evK C D (.seq (.region O21_4) (.keep [2] [] c)) ⟨[(1, .l 1 0), (3, .v x3), (22, .v x22)], [(1, l1)], H⟩ k =
  evK C D c ⟨[(2, .v (.bool false))], [], H⟩ k := by kernel_rfl
def O21_5 : List IOper :=
  [⟨some 9, .move (.tmp 3), none⟩,
   ⟨some 10, .bin .add .none (.tmp 9) (.const (.int .i64 1)), none⟩,
   ⟨some 3, .move (.tmp 10), none⟩]
@[simp] theorem R21_5 (x3 : AV) (l1 : List AV) :
  evK C D (.region O21_5) ⟨[(1, .l 1 0), (3, .v x3)], [(1, l1)], H⟩ k =
  (nl (binA .add .none x3 (.int .i64 1))).bind fun t1 =>
  k .normal ⟨[(3, .v t1), (10, .v t1), (9, .v x3), (1, .l 1 0), (3, .v x3)], [(1, l1)], H⟩ := by kernel_rfl
def B21_0 : IC :=
  .seq (.seq (.region O21_2)
   (.keep [1, 3, 8] [1] (.cond (.tmp 8)
    (.skip)
    (.exit 0))))
  (.keep [1, 3] [1] (.seq (.block 1 (.seq (.region O21_3)
    (.keep [1, 3, 22] [1] (.cond (.tmp 22)
     (.seq (.region O21_4)
     (.keep [2] [] (.ret)))
     (.skip)))))
  (.keep [1, 3] [1] (.region O21_5))))
def L21_0 : IC := .keep [1, 3] [1] B21_0
@[simp] theorem LK21_0 (s : SK) (k : AExit → SK → Option R) : evK C D (.loop L21_0) s k = (D (.loop L21_0) (prK [1, 3] [1] s).toSt).bind fun r => k r.1 (ofSt r.2) := by kernel_rfl
def O21_6 : List IOper :=
  [⟨some 23, .fieldAddr 4 (.tmp 1), none⟩,
   ⟨some 24, .fieldAddr 2 (.tmp 23), none⟩,
   ⟨some 25, .load false 1 (.tmp 24), none⟩,
   ⟨some 26, .len .str (.tmp 25), none⟩,
   ⟨some 27, .bin .leq .none (.tmp 26) (.const (.int .i64 400)), none⟩,
   ⟨some 28, .move (.tmp 27), none⟩,
   ⟨some 29, .fieldAddr 10 (.tmp 1), some (28, true)⟩,
   ⟨some 30, .fieldAddr 0 (.tmp 29), some (28, true)⟩,
   ⟨some 31, .load false 1 (.tmp 30), some (28, true)⟩,
   ⟨some 32, .len .str (.tmp 31), some (28, true)⟩,
   ⟨some 33, .bin .leq .none (.tmp 32) (.const (.int .i64 400)), some (28, true)⟩,
   ⟨some 34, .pick (.tmp 28) (.tmp 33) (.const (.bool false)), none⟩,
   ⟨some 35, .move (.tmp 34), none⟩,
   ⟨some 36, .fieldAddr 10 (.tmp 1), some (35, true)⟩,
   ⟨some 37, .fieldAddr 1 (.tmp 36), some (35, true)⟩,
   ⟨some 38, .load false 1 (.tmp 37), some (35, true)⟩,
   ⟨some 39, .len .str (.tmp 38), some (35, true)⟩,
   ⟨some 40, .bin .leq .none (.tmp 39) (.const (.int .i64 400)), some (35, true)⟩,
   ⟨some 41, .pick (.tmp 35) (.tmp 40) (.const (.bool false)), none⟩,
   ⟨some 42, .move (.tmp 41), none⟩,
   ⟨some 43, .fieldAddr 12 (.tmp 1), some (42, true)⟩,
   ⟨some 44, .load false 1 (.tmp 43), some (42, true)⟩,
   ⟨some 45, .len .str (.tmp 44), some (42, true)⟩,
   ⟨some 46, .bin .leq .none (.tmp 45) (.const (.int .i64 400)), some (42, true)⟩,
   ⟨some 47, .pick (.tmp 42) (.tmp 46) (.const (.bool false)), none⟩,
   ⟨some 2, .move (.tmp 47), none⟩]
@[simp] theorem R21_6 (l1 : List AV) :
  evK C D (.seq (.region O21_6) (.keep [2] [] c)) ⟨[(1, .l 1 0)], [(1, l1)], H⟩ k =
  (nl (rd false 1 6 l1)).bind fun t2 =>
  (lenStr t2).bind fun t3 =>
  (nl (binA .leq .none t3 (.int .i64 400))).bind fun t4 =>
  guardK t4 true (
  (nl (rd false 1 10 l1)).bind fun t8 =>
  (lenStr t8).bind fun t9 =>
  (nl (binA .leq .none t9 (.int .i64 400))).bind fun t10 =>
  guardK t10 true (
  (nl (rd false 1 11 l1)).bind fun t15 =>
  (lenStr t15).bind fun t16 =>
  (nl (binA .leq .none t16 (.int .i64 400))).bind fun t17 =>
  guardK t17 true (
  (nl (rd false 1 12 l1)).bind fun t21 =>
  (lenStr t21).bind fun t22 =>
  (nl (binA .leq .none t22 (.int .i64 400))).bind fun t23 =>
  evK C D c ⟨[(2, .v t23)], [], H⟩ k)
  (evK C D c ⟨[(2, .v (.bool false))], [], H⟩ k))
  (evK C D c ⟨[(2, .v (.bool false))], [], H⟩ k))
  (evK C D c ⟨[(2, .v (.bool false))], [], H⟩ k) := by kernel_rfl
def F21 : FnIR := ⟨48, 1, [.tmp 2], [1],
  .seq (.region O21_0)
  (.keep [1] [1] (.seq (.seq (.region O21_1)
   (.keep [1, 3] [1] (.block 0 (.loop L21_0))))
  (.keep [1] [1] (.seq (.region O21_6)
  (.keep [2] [] (.ret))))))⟩
end Go.Proofs.YtpdmmpajjdaebaaGreat
