/- Functions of the program in our form (S20, a). No condition. -/
import Derived.Test.YtpdmmpajjdaebaaGreatAmZ
import Derived.Test.YtpdmmpajjdaebaaGreatRows
set_option linter.unusedVariables false
set_option linter.unusedSimpArgs false
namespace Go.Proofs.YtpdmmpajjdaebaaGreat
open Go.Wam
variable {R : Type} (C : CallF) (D : IC → St → Option (AExit × St)) (c : IC) (H : AHeap) (k : AExit → SK → Option R)
/-- wampum/wampumlaw20.ServerNil -/
def O4_0 : List IOper :=
  [⟨some 1, .box true 22 (.tmp 0), none⟩,
   ⟨some 2, .move (.const (.bool false)), none⟩]
@[simp] theorem R4_0 (x0 : AV) :
  evK C D (.seq (.region O4_0) (.keep [1] [1] c)) ⟨[(0, .v x0)], [], H⟩ k =
  (boxC x0).bind fun m0 =>
  evK C D c ⟨[(1, .l 1 0)], [(1, m0)], H⟩ k := by kernel_rfl
def O4_1 : List IOper :=
  [⟨some 7, .load true 22 (.tmp 1), none⟩,
   ⟨some 8, .call (.func 21) [(.tmp 7)], none⟩,
   ⟨some 3, .move (.tmp 8), none⟩]
@[simp] theorem R4_1 (l1 : List AV) :
  evK C D (.seq (.region O4_1) (.keep [1, 3] [1] c)) ⟨[(1, .l 1 0)], [(1, l1)], H⟩ k =
  (nl (rd true 22 0 l1)).bind fun t0 =>
  (callN C (.func (.func 21) [] []) [t0] H).bind fun r1 =>
  evK C D c ⟨[(1, .l 1 0), (3, .v r1.1)], [(1, l1)], r1.2⟩ k := by kernel_rfl
def O4_2 : List IOper :=
  [⟨some 9, .move (.tmp 3), none⟩,
   ⟨some 10, .un .not (.tmp 9), none⟩]
@[simp] theorem R4_2 (x3 : AV) (l1 : List AV) :
  evK C D (.seq (.region O4_2) (.keep [1, 10] [1] c)) ⟨[(1, .l 1 0), (3, .v x3)], [(1, l1)], H⟩ k =
  (nl (unA .not x3)).bind fun t1 =>
  evK C D c ⟨[(1, .l 1 0), (10, .v t1)], [(1, l1)], H⟩ k := by kernel_rfl
def O4_3 : List IOper :=
  [⟨some 11, .call (.func 22) [], none⟩,
   ⟨some 2, .move (.tmp 11), none⟩]
@[simp] theorem R4_3 (x10 : AV) (l1 : List AV) :
  evK C D (.seq (.region O4_3) (.keep [2] [] c)) ⟨[(1, .l 1 0), (10, .v x10)], [(1, l1)], H⟩ k =
  (callN C (.func (.func 22) [] []) [] H).bind fun r0 =>
  evK C D c ⟨[(2, .v r0.1)], [], r0.2⟩ k := by kernel_rfl
def O4_4 : List IOper :=
  [⟨some 4, .move (.const .nilp), none⟩]
@[simp] theorem R4_4 (l1 : List AV) :
  evK C D (.seq (.region O4_4) (.keep [1, 4] [1] c)) ⟨[(1, .l 1 0)], [(1, l1)], H⟩ k =
  evK C D c ⟨[(1, .l 1 0), (4, .v .nilp)], [(1, l1)], H⟩ k := by kernel_rfl
def O4_5 : List IOper :=
  [⟨some 13, .call (.func 23) [(.const .nilp), (.const (.int .i64 0))], none⟩,
   ⟨some 12, .move (.tmp 13), none⟩,
   ⟨some 14, .extract (.tmp 12) 0, none⟩,
   ⟨some 15, .extract (.tmp 12) 1, none⟩,
   ⟨some 5, .move (.tmp 14), none⟩,
   ⟨some 6, .move (.tmp 15), none⟩]
@[simp] theorem R4_5 (x4 : AV) (l1 : List AV) :
  evK C D (.seq (.region O4_5) (.keep [1, 4, 5, 6] [1] c)) ⟨[(1, .l 1 0), (4, .v x4)], [(1, l1)], H⟩ k =
  (callN C (.func (.func 23) [] []) [.nilp, (.int .i64 0)] H).bind fun r0 =>
  (nl (extA 0 r0.1)).bind fun t2 =>
  (nl (extA 1 r0.1)).bind fun t3 =>
  evK C D c ⟨[(1, .l 1 0), (4, .v x4), (5, .v t2), (6, .v t3)], [(1, l1)], r0.2⟩ k := by kernel_rfl
def O4_6 : List IOper :=
  [⟨some 16, .call (.func 22) [], none⟩,
   ⟨some 17, .move (.tmp 16), none⟩,
   ⟨some 18, .move (.tmp 5), some (17, true)⟩,
   ⟨some 19, .bin .eql .ptr (.tmp 18) (.const .nilp), some (17, true)⟩,
   ⟨some 20, .pick (.tmp 17) (.tmp 19) (.const (.bool false)), none⟩,
   ⟨some 21, .move (.tmp 20), none⟩,
   ⟨some 22, .move (.tmp 6), some (21, true)⟩,
   ⟨some 23, .bin .eql .int (.tmp 22) (.const (.int .i64 1)), some (21, true)⟩,
   ⟨some 24, .pick (.tmp 21) (.tmp 23) (.const (.bool false)), none⟩,
   ⟨some 25, .move (.tmp 24), none⟩,
   ⟨some 26, .move (.tmp 4), some (25, true)⟩,
   ⟨some 27, .load true 22 (.tmp 1), some (25, true)⟩,
   ⟨some 28, .call (.func 24) [(.tmp 26), (.const (.int .i64 0)), (.const (.int .i64 0)), (.tmp 27)], some (25, true)⟩,
   ⟨some 29, .bin .eql .int (.tmp 28) (.const (.int .i64 1)), some (25, true)⟩,
   ⟨some 30, .pick (.tmp 25) (.tmp 29) (.const (.bool false)), none⟩,
   ⟨some 31, .move (.tmp 30), none⟩,
   ⟨some 32, .move (.tmp 4), some (31, true)⟩,
   ⟨some 33, .call (.func 25) [(.tmp 32)], some (31, true)⟩,
   ⟨some 34, .bin .eql .int (.tmp 33) (.const (.int .i64 1)), some (31, true)⟩,
   ⟨some 35, .pick (.tmp 31) (.tmp 34) (.const (.bool false)), none⟩,
   ⟨some 36, .move (.tmp 35), none⟩,
   ⟨some 37, .move (.tmp 4), some (36, true)⟩,
   ⟨some 38, .call (.func 26) [(.tmp 37)], some (36, true)⟩,
   ⟨some 39, .bin .eql .int (.tmp 38) (.const (.int .i64 1)), some (36, true)⟩,
   ⟨some 40, .pick (.tmp 36) (.tmp 39) (.const (.bool false)), none⟩,
   ⟨some 41, .move (.tmp 40), none⟩,
   ⟨some 42, .move (.tmp 4), some (41, true)⟩,
   ⟨some 43, .call (.func 27) [(.tmp 42)], some (41, true)⟩,
   ⟨some 44, .len .slice (.tmp 43), some (41, true)⟩,
   ⟨some 45, .bin .eql .int (.tmp 44) (.const (.int .i64 0)), some (41, true)⟩,
   ⟨some 46, .pick (.tmp 41) (.tmp 45) (.const (.bool false)), none⟩,
   ⟨some 47, .move (.tmp 46), none⟩,
   ⟨some 48, .move (.tmp 4), some (47, true)⟩,
   ⟨some 49, .call (.func 28) [(.tmp 48)], some (47, true)⟩,
   ⟨some 50, .un .not (.tmp 49), some (47, true)⟩,
   ⟨some 51, .pick (.tmp 47) (.tmp 50) (.const (.bool false)), none⟩,
   ⟨some 52, .move (.tmp 51), none⟩,
   ⟨some 53, .move (.tmp 4), some (52, true)⟩,
   ⟨some 54, .call (.func 29) [(.tmp 53)], some (52, true)⟩,
   ⟨some 55, .bin .eql .int (.tmp 54) (.const (.int .i64 0)), some (52, true)⟩,
   ⟨some 56, .pick (.tmp 52) (.tmp 55) (.const (.bool false)), none⟩,
   ⟨some 2, .move (.tmp 56), none⟩]
@[simp] theorem R4_6 (x4 x5 x6 : AV) (l1 : List AV) :
  evK C D (.seq (.region O4_6) (.keep [2] [] c)) ⟨[(1, .l 1 0), (4, .v x4), (5, .v x5), (6, .v x6)], [(1, l1)], H⟩ k =
  (callN C (.func (.func 22) [] []) [] H).bind fun r0 =>
  guardK r0.1 true (
  (nl (binA .eql .ptr x5 .nilp)).bind fun t3 =>
  guardK t3 true (
  (nl (binA .eql .int x6 (.int .i64 1))).bind fun t7 =>
  guardK t7 true (
  (nl (rd true 22 0 l1)).bind fun t11 =>
  (callN C (.func (.func 24) [] []) [x4, (.int .i64 0), (.int .i64 0), t11] r0.2).bind fun r12 =>
  (nl (binA .eql .int r12.1 (.int .i64 1))).bind fun t13 =>
  guardK t13 true (
  (callN C (.func (.func 25) [] []) [x4] r12.2).bind fun r17 =>
  (nl (binA .eql .int r17.1 (.int .i64 1))).bind fun t18 =>
  guardK t18 true (
  (callN C (.func (.func 26) [] []) [x4] r17.2).bind fun r22 =>
  (nl (binA .eql .int r22.1 (.int .i64 1))).bind fun t23 =>
  guardK t23 true (
  (callN C (.func (.func 27) [] []) [x4] r22.2).bind fun r27 =>
  (lenS r27.1).bind fun t28 =>
  (nl (binA .eql .int t28 (.int .i64 0))).bind fun t29 =>
  guardK t29 true (
  (callN C (.func (.func 28) [] []) [x4] r27.2).bind fun r33 =>
  (nl (unA .not r33.1)).bind fun t34 =>
  guardK t34 true (
  (callN C (.func (.func 29) [] []) [x4] r33.2).bind fun r38 =>
  (nl (binA .eql .int r38.1 (.int .i64 0))).bind fun t39 =>
  evK C D c ⟨[(2, .v t39)], [], r38.2⟩ k)
  (evK C D c ⟨[(2, .v (.bool false))], [], r33.2⟩ k))
  (evK C D c ⟨[(2, .v (.bool false))], [], r27.2⟩ k))
  (evK C D c ⟨[(2, .v (.bool false))], [], r22.2⟩ k))
  (evK C D c ⟨[(2, .v (.bool false))], [], r17.2⟩ k))
  (evK C D c ⟨[(2, .v (.bool false))], [], r12.2⟩ k))
  (evK C D c ⟨[(2, .v (.bool false))], [], r0.2⟩ k))
  (evK C D c ⟨[(2, .v (.bool false))], [], r0.2⟩ k))
  (evK C D c ⟨[(2, .v (.bool false))], [], r0.2⟩ k) := by kernel_rfl
def F4 : FnIR := ⟨57, 1, [.tmp 2], [1],
  .seq (.region O4_0)
  (.keep [1] [1] (.seq (.region O4_1)
  (.keep [1, 3] [1] (.seq (.seq (.region O4_2)
   (.keep [1, 10] [1] (.cond (.tmp 10)
    (.seq (.region O4_3)
    (.keep [2] [] (.ret)))
    (.skip))))
  (.keep [1] [1] (.seq (.region O4_4)
  (.keep [1, 4] [1] (.seq (.region O4_5)
  (.keep [1, 4, 5, 6] [1] (.seq (.region O4_6)
  (.keep [2] [] (.ret))))))))))))⟩
/-- wampum/wampumlaw13.Fits -/
def O21_0 : List IOper :=
  [⟨some 1, .box true 22 (.tmp 0), none⟩,
   ⟨some 2, .move (.const (.bool false)), none⟩]
@[simp] theorem R21_0 (x0 : AV) :
  evK C D (.seq (.region O21_0) (.keep [1] [1] c)) ⟨[(0, .v x0)], [], H⟩ k =
  (boxC x0).bind fun m0 =>
  evK C D c ⟨[(1, .l 1 0)], [(1, m0)], H⟩ k := by kernel_rfl
def O21_1 : List IOper :=
  [⟨some 3, .move (.const (.int .i64 0)), none⟩]
@[simp] theorem R21_1 (l1 : List AV) :
  evK C D (.seq (.region O21_1) (.keep [1, 3] [1] c)) ⟨[(1, .l 1 0)], [(1, l1)], H⟩ k =
  evK C D c ⟨[(1, .l 1 0), (3, .v (.int .i64 0))], [(1, l1)], H⟩ k := by kernel_rfl
def O21_2 : List IOper :=
  [⟨some 4, .move (.tmp 3), none⟩,
   ⟨some 5, .fieldAddr 20 (.tmp 1), none⟩,
   ⟨some 6, .load false 1 (.tmp 5), none⟩,
   ⟨some 7, .len .slice (.tmp 6), none⟩,
   ⟨some 8, .bin .lss .none (.tmp 4) (.tmp 7), none⟩]
@[simp] theorem R21_2 (x3 : AV) (l1 : List AV) :
  evK C D (.seq (.region O21_2) (.keep [1, 3, 8] [1] c)) ⟨[(1, .l 1 0), (3, .v x3)], [(1, l1)], H⟩ k =
  (nl (rd false 1 20 l1)).bind fun t2 =>
  (lenS t2).bind fun t3 =>
  (nl (binA .lss .none x3 t3)).bind fun t4 =>
  evK C D c ⟨[(1, .l 1 0), (3, .v x3), (8, .v t4)], [(1, l1)], H⟩ k := by kernel_rfl
def O21_3 : List IOper :=
  [⟨some 11, .move (.tmp 3), none⟩,
   ⟨some 12, .bin .eql .int (.tmp 11) (.const (.int .i64 20)), none⟩,
   ⟨some 13, .move (.tmp 12), none⟩,
   ⟨some 14, .fieldAddr 20 (.tmp 1), some (13, false)⟩,
   ⟨some 15, .load false 1 (.tmp 14), some (13, false)⟩,
   ⟨some 16, .move (.tmp 3), some (13, false)⟩,
   ⟨some 17, .indexAddr none 2 (.tmp 15) (.tmp 16), some (13, false)⟩,
   ⟨some 18, .fieldAddr 0 (.tmp 17), some (13, false)⟩,
   ⟨some 19, .load false 1 (.tmp 18), some (13, false)⟩,
   ⟨some 20, .len .str (.tmp 19), some (13, false)⟩,
   ⟨some 21, .bin .gtr .none (.tmp 20) (.const (.int .i64 400)), some (13, false)⟩,
   ⟨some 22, .pick (.tmp 13) (.const (.bool true)) (.tmp 21), none⟩]
@[simp] theorem R21_3 (x3 : AV) (l1 : List AV) :
  evK C D (.seq (.region O21_3) (.keep [1, 3, 22] [1] c)) ⟨[(1, .l 1 0), (3, .v x3)], [(1, l1)], H⟩ k =
  (nl (binA .eql .int x3 (.int .i64 20))).bind fun t1 =>
  guardK t1 false (
  (nl (rd false 1 20 l1)).bind fun t4 =>
  (nl (idxS 2 t4 x3)).bind fun t6 =>
  (fldP 0 t6).bind fun t7 =>
  (nl (loadP H false 1 t7)).bind fun t8 =>
  (lenStr t8).bind fun t9 =>
  (nl (binA .gtr .none t9 (.int .i64 400))).bind fun t10 =>
  evK C D c ⟨[(1, .l 1 0), (3, .v x3), (22, .v t10)], [(1, l1)], H⟩ k)
  (evK C D c ⟨[(1, .l 1 0), (3, .v x3), (22, .v (.bool true))], [(1, l1)], H⟩ k) := by kernel_rfl
def O21_4 : List IOper :=
  [⟨some 2, .move (.const (.bool false)), none⟩]
@[simp] theorem R21_4 (x3 x22 : AV) (l1 : List AV) :
  evK C D (.seq (.region O21_4) (.keep [2] [] c)) ⟨[(1, .l 1 0), (3, .v x3), (22, .v x22)], [(1, l1)], H⟩ k =
  evK C D c ⟨[(2, .v (.bool false))], [], H⟩ k := by kernel_rfl
def O21_5 : List IOper :=
  [⟨some 9, .move (.tmp 3), none⟩,
   ⟨some 10, .bin .add .none (.tmp 9) (.const (.int .i64 1)), none⟩,
   ⟨some 3, .move (.tmp 10), none⟩]
@[simp] theorem R21_5 (x3 : AV) (l1 : List AV) :
  evK C D (.region O21_5) ⟨[(1, .l 1 0), (3, .v x3)], [(1, l1)], H⟩ k =
  (nl (binA .add .none x3 (.int .i64 1))).bind fun t1 =>
  k .normal ⟨[(3, .v t1), (10, .v t1), (9, .v x3), (1, .l 1 0), (3, .v x3)], [(1, l1)], H⟩ := by kernel_rfl
def B21_0 : IC :=
  .seq (.seq (.region O21_2)
   (.keep [1, 3, 8] [1] (.cond (.tmp 8)
    (.skip)
    (.exit 0))))
  (.keep [1, 3] [1] (.seq (.block 1 (.seq (.region O21_3)
    (.keep [1, 3, 22] [1] (.cond (.tmp 22)
     (.seq (.region O21_4)
     (.keep [2] [] (.ret)))
     (.skip)))))
  (.keep [1, 3] [1] (.region O21_5))))
def L21_0 : IC := .keep [1, 3] [1] B21_0
@[simp] theorem LK21_0 (s : SK) (k : AExit → SK → Option R) : evK C D (.loop L21_0) s k = (D (.loop L21_0) (prK [1, 3] [1] s).toSt).bind fun r => k r.1 (ofSt r.2) := by kernel_rfl
def O21_6 : List IOper :=
  [⟨some 23, .fieldAddr 4 (.tmp 1), none⟩,
   ⟨some 24, .fieldAddr 2 (.tmp 23), none⟩,
   ⟨some 25, .load false 1 (.tmp 24), none⟩,
   ⟨some 26, .len .str (.tmp 25), none⟩,
   ⟨some 27, .bin .leq .none (.tmp 26) (.const (.int .i64 400)), none⟩,
   ⟨some 28, .move (.tmp 27), none⟩,
   ⟨some 29, .fieldAddr 10 (.tmp 1), some (28, true)⟩,
   ⟨some 30, .fieldAddr 0 (.tmp 29), some (28, true)⟩,
   ⟨some 31, .load false 1 (.tmp 30), some (28, true)⟩,
   ⟨some 32, .len .str (.tmp 31), some (28, true)⟩,
   ⟨some 33, .bin .leq .none (.tmp 32) (.const (.int .i64 400)), some (28, true)⟩,
   ⟨some 34, .pick (.tmp 28) (.tmp 33) (.const (.bool false)), none⟩,
   ⟨some 35, .move (.tmp 34), none⟩,
   ⟨some 36, .fieldAddr 10 (.tmp 1), some (35, true)⟩,
   ⟨some 37, .fieldAddr 1 (.tmp 36), some (35, true)⟩,
   ⟨some 38, .load false 1 (.tmp 37), some (35, true)⟩,
   ⟨some 39, .len .str (.tmp 38), some (35, true)⟩,
   ⟨some 40, .bin .leq .none (.tmp 39) (.const (.int .i64 400)), some (35, true)⟩,
   ⟨some 41, .pick (.tmp 35) (.tmp 40) (.const (.bool false)), none⟩,
   ⟨some 42, .move (.tmp 41), none⟩,
   ⟨some 43, .fieldAddr 12 (.tmp 1), some (42, true)⟩,
   ⟨some 44, .load false 1 (.tmp 43), some (42, true)⟩,
   ⟨some 45, .len .str (.tmp 44), some (42, true)⟩,
   ⟨some 46, .bin .leq .none (.tmp 45) (.const (.int .i64 400)), some (42, true)⟩,
   ⟨some 47, .pick (.tmp 42) (.tmp 46) (.const (.bool false)), none⟩,
   ⟨some 2, .move (.tmp 47), none⟩]
@[simp] theorem R21_6 (l1 : List AV) :
  evK C D (.seq (.region O21_6) (.keep [2] [] c)) ⟨[(1, .l 1 0)], [(1, l1)], H⟩ k =
  (nl (rd false 1 6 l1)).bind fun t2 =>
  (lenStr t2).bind fun t3 =>
  (nl (binA .leq .none t3 (.int .i64 400))).bind fun t4 =>
  guardK t4 true (
  (nl (rd false 1 10 l1)).bind fun t8 =>
  (lenStr t8).bind fun t9 =>
  (nl (binA .leq .none t9 (.int .i64 400))).bind fun t10 =>
  guardK t10 true (
  (nl (rd false 1 11 l1)).bind fun t15 =>
  (lenStr t15).bind fun t16 =>
  (nl (binA .leq .none t16 (.int .i64 400))).bind fun t17 =>
  guardK t17 true (
  (nl (rd false 1 12 l1)).bind fun t21 =>
  (lenStr t21).bind fun t22 =>
  (nl (binA .leq .none t22 (.int .i64 400))).bind fun t23 =>
  evK C D c ⟨[(2, .v t23)], [], H⟩ k)
  (evK C D c ⟨[(2, .v (.bool false))], [], H⟩ k))
  (evK C D c ⟨[(2, .v (.bool false))], [], H⟩ k))
  (evK C D c ⟨[(2, .v (.bool false))], [], H⟩ k) := by kernel_rfl
def F21 : FnIR := ⟨48, 1, [.tmp 2], [1],
  .seq (.region O21_0)
  (.keep [1] [1] (.seq (.seq (.region O21_1)
   (.keep [1, 3] [1] (.block 0 (.loop L21_0))))
  (.keep [1] [1] (.seq (.region O21_6)
  (.keep [2] [] (.ret))))))⟩
/-- wampum/server.New -/
def O23_0 : List IOper :=
  [⟨some 4, .move (.const .nilp), none⟩,
   ⟨some 5, .move (.const (.int .i64 0)), none⟩]
@[simp] theorem R23_0 (x0 x1 : AV) :
  evK C D (.seq (.region O23_0) (.keep [0, 1] [] c)) ⟨[(0, .v x0), (1, .v x1)], [], H⟩ k =
  evK C D c ⟨[(0, .v x0), (1, .v x1)], [], H⟩ k := by kernel_rfl
def O23_1 : List IOper :=
  [⟨some 6, .move (.tmp 0), none⟩,
   ⟨some 7, .bin .eql .ptr (.tmp 6) (.const .nilp), none⟩,
   ⟨some 8, .move (.tmp 7), none⟩,
   ⟨some 9, .move (.tmp 1), some (8, false)⟩,
   ⟨some 10, .bin .lss .none (.tmp 9) (.const (.int .i64 0)), some (8, false)⟩,
   ⟨some 11, .pick (.tmp 8) (.const (.bool true)) (.tmp 10), none⟩,
   ⟨some 12, .move (.tmp 11), none⟩,
   ⟨some 13, .move (.tmp 1), some (12, false)⟩,
   ⟨some 14, .bin .geq .none (.tmp 13) (.const (.int .i64 3)), some (12, false)⟩,
   ⟨some 15, .pick (.tmp 12) (.const (.bool true)) (.tmp 14), none⟩]
@[simp] theorem R23_1 (x0 x1 : AV) :
  evK C D (.seq (.region O23_1) (.keep [0, 1, 15] [] c)) ⟨[(0, .v x0), (1, .v x1)], [], H⟩ k =
  (nl (binA .eql .ptr x0 .nilp)).bind fun t1 =>
  guardK t1 false (
  (nl (binA .lss .none x1 (.int .i64 0))).bind fun t4 =>
  guardK t4 false (
  (nl (binA .geq .none x1 (.int .i64 3))).bind fun t8 =>
  evK C D c ⟨[(0, .v x0), (1, .v x1), (15, .v t8)], [], H⟩ k)
  (evK C D c ⟨[(0, .v x0), (1, .v x1), (15, .v (.bool true))], [], H⟩ k))
  (evK C D c ⟨[(0, .v x0), (1, .v x1), (15, .v (.bool true))], [], H⟩ k) := by kernel_rfl
def O23_2 : List IOper :=
  [⟨some 4, .move (.const .nilp), none⟩,
   ⟨some 5, .move (.const (.int .i64 1)), none⟩]
@[simp] theorem R23_2 (x0 x1 x15 : AV) :
  evK C D (.seq (.region O23_2) (.keep [4, 5] [] c)) ⟨[(0, .v x0), (1, .v x1), (15, .v x15)], [], H⟩ k =
  evK C D c ⟨[(4, .v .nilp), (5, .v (.int .i64 1))], [], H⟩ k := by kernel_rfl
def O23_3 : List IOper :=
  [⟨some 16, .move (.tmp 0), none⟩,
   ⟨some 17, .move (.tmp 1), none⟩,
   ⟨some 18, .build [(.int .i64 0), (.int .i64 0)] [], none⟩,
   ⟨some 19, .call (.func 63) [(.tmp 18)], none⟩,
   ⟨some 20, .call (.func 64) [], none⟩,
   ⟨some 21, .build [.nilp, (.int .i64 0), (.int .i64 0), .nilp, .nilp, .nils, (.int .i64 0), (.int .i64 0), (.int .i64 0), .nils] [(0, 1, (.tmp 16)), (1, 1, (.tmp 17)), (2, 1, (.const (.int .i64 (-1)))), (3, 1, (.tmp 19)), (4, 1, (.tmp 20))], none⟩,
   ⟨some 22, .box false 10 (.tmp 21), none⟩,
   ⟨some 4, .move (.tmp 22), none⟩,
   ⟨some 5, .move (.const (.int .i64 0)), none⟩]
@[simp] theorem R23_3 (x0 x1 : AV) :
  evK C D (.seq (.region O23_3) (.keep [4, 5] [] c)) ⟨[(0, .v x0), (1, .v x1)], [], H⟩ k =
  ((fillC [] [(.int .i64 0), (.int .i64 0)]).map AV.agg).bind fun t2 =>
  (callN C (.func (.func 63) [] []) [t2] H).bind fun r3 =>
  (callN C (.func (.func 64) [] []) [] r3.2).bind fun r4 =>
  ((fillC [(0, 1, x0), (1, 1, x1), (2, 1, (.int .i64 (-1))), (3, 1, r3.1), (4, 1, r4.1)] [.nilp, (.int .i64 0), (.int .i64 0), .nilp, .nilp, .nils, (.int .i64 0), (.int .i64 0), (.int .i64 0), .nils]).map AV.agg).bind fun t5 =>
  ((boxC t5).map fun cs => (AV.ptr r4.2.n 0, r4.2.alloc (.row false 10 cs))).bind fun r6 =>
  evK C D c ⟨[(4, .v r6.1), (5, .v (.int .i64 0))], [], r6.2⟩ k := by kernel_rfl
def F23 : FnIR := ⟨23, 2, [.tmp 4, .tmp 5], [],
  .seq (.region O23_0)
  (.keep [0, 1] [] (.seq (.seq (.region O23_1)
   (.keep [0, 1, 15] [] (.cond (.tmp 15)
    (.seq (.region O23_2)
    (.keep [4, 5] [] (.ret)))
    (.skip))))
  (.keep [0, 1] [] (.seq (.region O23_3)
  (.keep [4, 5] [] (.ret))))))⟩
/-- (*wampum/server.Server).Ask -/
def O24_0 : List IOper :=
  [⟨some 7, .box true 22 (.tmp 3), none⟩,
   ⟨some 8, .move (.const (.int .i64 0)), none⟩]
@[simp] theorem R24_0 (x0 x1 x2 x3 : AV) :
  evK C D (.seq (.region O24_0) (.keep [0, 1, 2, 7] [7] c)) ⟨[(0, .v x0), (1, .v x1), (2, .v x2), (3, .v x3)], [], H⟩ k =
  (boxC x3).bind fun m0 =>
  evK C D c ⟨[(0, .v x0), (1, .v x1), (2, .v x2), (7, .l 7 0)], [(7, m0)], H⟩ k := by kernel_rfl
def O24_1 : List IOper :=
  [⟨some 15, .move (.tmp 0), none⟩,
   ⟨some 16, .bin .eql .ptr (.tmp 15) (.const .nilp), none⟩,
   ⟨some 17, .move (.tmp 16), none⟩,
   ⟨some 18, .move (.tmp 1), some (17, false)⟩,
   ⟨some 19, .bin .lss .none (.tmp 18) (.const (.int .i64 0)), some (17, false)⟩,
   ⟨some 20, .pick (.tmp 17) (.const (.bool true)) (.tmp 19), none⟩,
   ⟨some 21, .move (.tmp 20), none⟩,
   ⟨some 22, .move (.tmp 1), some (21, false)⟩,
   ⟨some 23, .bin .geq .none (.tmp 22) (.const (.int .i64 3)), some (21, false)⟩,
   ⟨some 24, .pick (.tmp 21) (.const (.bool true)) (.tmp 23), none⟩,
   ⟨some 25, .move (.tmp 24), none⟩,
   ⟨some 26, .move (.tmp 2), some (25, false)⟩,
   ⟨some 27, .bin .lss .none (.tmp 26) (.const (.int .i64 0)), some (25, false)⟩,
   ⟨some 28, .pick (.tmp 25) (.const (.bool true)) (.tmp 27), none⟩]
@[simp] theorem R24_1 (x0 x1 x2 : AV) (l7 : List AV) :
  evK C D (.seq (.region O24_1) (.keep [0, 1, 2, 7, 28] [7] c)) ⟨[(0, .v x0), (1, .v x1), (2, .v x2), (7, .l 7 0)], [(7, l7)], H⟩ k =
  (nl (binA .eql .ptr x0 .nilp)).bind fun t1 =>
  guardK t1 false (
  (nl (binA .lss .none x1 (.int .i64 0))).bind fun t4 =>
  guardK t4 false (
  (nl (binA .geq .none x1 (.int .i64 3))).bind fun t8 =>
  guardK t8 false (
  (nl (binA .lss .none x2 (.int .i64 0))).bind fun t12 =>
  evK C D c ⟨[(0, .v x0), (1, .v x1), (2, .v x2), (7, .l 7 0), (28, .v t12)], [(7, l7)], H⟩ k)
  (evK C D c ⟨[(0, .v x0), (1, .v x1), (2, .v x2), (7, .l 7 0), (28, .v (.bool true))], [(7, l7)], H⟩ k))
  (evK C D c ⟨[(0, .v x0), (1, .v x1), (2, .v x2), (7, .l 7 0), (28, .v (.bool true))], [(7, l7)], H⟩ k))
  (evK C D c ⟨[(0, .v x0), (1, .v x1), (2, .v x2), (7, .l 7 0), (28, .v (.bool true))], [(7, l7)], H⟩ k) := by kernel_rfl
def O24_2 : List IOper :=
  [⟨some 8, .move (.const (.int .i64 1)), none⟩]
@[simp] theorem R24_2 (x0 x1 x2 x28 : AV) (l7 : List AV) :
  evK C D (.seq (.region O24_2) (.keep [8] [] c)) ⟨[(0, .v x0), (1, .v x1), (2, .v x2), (7, .l 7 0), (28, .v x28)], [(7, l7)], H⟩ k =
  evK C D c ⟨[(8, .v (.int .i64 1))], [], H⟩ k := by kernel_rfl
def O24_3 : List IOper :=
  [⟨some 29, .move (.tmp 0), none⟩,
   ⟨some 30, .load true 22 (.tmp 7), none⟩,
   ⟨some 31, .call (.func 65) [(.tmp 29), (.tmp 30)], none⟩,
   ⟨some 9, .move (.tmp 31), none⟩]
@[simp] theorem R24_3 (x0 x1 x2 : AV) (l7 : List AV) :
  evK C D (.seq (.region O24_3) (.keep [0, 1, 2, 7, 9] [7] c)) ⟨[(0, .v x0), (1, .v x1), (2, .v x2), (7, .l 7 0)], [(7, l7)], H⟩ k =
  (nl (rd true 22 0 l7)).bind fun t1 =>
  (callN C (.func (.func 65) [] []) [x0, t1] H).bind fun r2 =>
  evK C D c ⟨[(0, .v x0), (1, .v x1), (2, .v x2), (7, .l 7 0), (9, .v r2.1)], [(7, l7)], r2.2⟩ k := by kernel_rfl
def O24_4 : List IOper :=
  [⟨some 32, .move (.tmp 9), none⟩,
   ⟨some 33, .bin .neq .int (.tmp 32) (.const (.int .i64 0)), none⟩]
@[simp] theorem R24_4 (x0 x1 x2 x9 : AV) (l7 : List AV) :
  evK C D (.seq (.region O24_4) (.keep [0, 1, 2, 7, 9, 33] [7] c)) ⟨[(0, .v x0), (1, .v x1), (2, .v x2), (7, .l 7 0), (9, .v x9)], [(7, l7)], H⟩ k =
  (nl (binA .neq .int x9 (.int .i64 0))).bind fun t1 =>
  evK C D c ⟨[(0, .v x0), (1, .v x1), (2, .v x2), (7, .l 7 0), (9, .v x9), (33, .v t1)], [(7, l7)], H⟩ k := by kernel_rfl
def O24_5 : List IOper :=
  [⟨some 34, .move (.tmp 0), none⟩,
   ⟨some 35, .move (.tmp 0), none⟩,
   ⟨some 36, .nilCheck (.tmp 35), none⟩,
   ⟨some 37, .fieldAddr 9 (.tmp 36), none⟩,
   ⟨some 38, .load false 1 (.tmp 37), none⟩,
   ⟨some 39, .move (.tmp 1), none⟩,
   ⟨some 40, .move (.tmp 2), none⟩,
   ⟨some 41, .move (.tmp 9), none⟩,
   ⟨some 42, .build [(.int .i64 0), (.int .i64 0), (.int .i64 0), .nils, (.bool false), (.int .i64 0), (.int .i64 0), (.str []), (.int .i64 0), (.int .i64 0), (.int .i64 0), (.int .i64 0), (.int .i64 0), (.int .i64 0), (.int .i64 0), (.int .i64 0), (.int .i64 0), .nils] [(0, 1, (.tmp 41))], none⟩,
   ⟨some 43, .build [(.int .i64 0), (.int .i64 0), (.int .i64 0), (.int .i64 0), (.int .i64 0), (.int .i64 0), .nils, (.bool false), (.int .i64 0), (.int .i64 0), (.str []), (.int .i64 0), (.int .i64 0), (.int .i64 0), (.int .i64 0), (.int .i64 0), (.int .i64 0), (.int .i64 0), (.int .i64 0), (.int .i64 0), .nils] [(0, 1, (.tmp 39)), (1, 1, (.tmp 40)), (3, 18, (.tmp 42))], none⟩,
   ⟨some 44, .buildSlice 21 1 [(.int .i64 0), (.int .i64 0), (.int .i64 0), (.int .i64 0), (.int .i64 0), (.int .i64 0), .nils, (.bool false), (.int .i64 0), (.int .i64 0), (.str []), (.int .i64 0), (.int .i64 0), (.int .i64 0), (.int .i64 0), (.int .i64 0), (.int .i64 0), (.int .i64 0), (.int .i64 0), (.int .i64 0), .nils] [(0, 21, (.tmp 43))], none⟩,
   ⟨some 45, .append 21 208 (.tmp 38) (.tmp 44), none⟩,
   ⟨some 46, .nilCheck (.tmp 34), none⟩,
   ⟨some 47, .fieldAddr 9 (.tmp 46), none⟩,
   ⟨none, .store 1 (.tmp 47) (.tmp 45), none⟩]
@[simp] theorem R24_5 (x0 x1 x2 x9 x33 : AV) (l7 : List AV) :
  evK C D (.seq (.region O24_5) (.keep [] [] c)) ⟨[(0, .v x0), (1, .v x1), (2, .v x2), (7, .l 7 0), (9, .v x9), (33, .v x33)], [(7, l7)], H⟩ k =
  (nilC x0).bind fun t2 =>
  (fldP 9 t2).bind fun t3 =>
  (nl (loadP H false 1 t3)).bind fun t4 =>
  ((fillC [(0, 1, x9)] [(.int .i64 0), (.int .i64 0), (.int .i64 0), .nils, (.bool false), (.int .i64 0), (.int .i64 0), (.str []), (.int .i64 0), (.int .i64 0), (.int .i64 0), (.int .i64 0), (.int .i64 0), (.int .i64 0), (.int .i64 0), (.int .i64 0), (.int .i64 0), .nils]).map AV.agg).bind fun t8 =>
  ((fillC [(0, 1, x1), (1, 1, x2), (3, 18, t8)] [(.int .i64 0), (.int .i64 0), (.int .i64 0), (.int .i64 0), (.int .i64 0), (.int .i64 0), .nils, (.bool false), (.int .i64 0), (.int .i64 0), (.str []), (.int .i64 0), (.int .i64 0), (.int .i64 0), (.int .i64 0), (.int .i64 0), (.int .i64 0), (.int .i64 0), (.int .i64 0), (.int .i64 0), .nils]).map AV.agg).bind fun t9 =>
  ((fillC [(0, 21, t9)] [(.int .i64 0), (.int .i64 0), (.int .i64 0), (.int .i64 0), (.int .i64 0), (.int .i64 0), .nils, (.bool false), (.int .i64 0), (.int .i64 0), (.str []), (.int .i64 0), (.int .i64 0), (.int .i64 0), (.int .i64 0), (.int .i64 0), (.int .i64 0), (.int .i64 0), (.int .i64 0), (.int .i64 0), .nils]).map fun cs => (AV.slice H.n 0 1 1, H.alloc (.row false 21 cs))).bind fun r10 =>
  (nlR (appendA r10.2 21 208 t4 r10.1)).bind fun r11 =>
  (nilC x0).bind fun t12 =>
  (fldP 9 t12).bind fun t13 =>
  (storeP r11.2 1 r11.1 t13).bind fun H14 =>
  evK C D c ⟨[], [], H14⟩ k := by kernel_rfl
def O24_6 : List IOper :=
  [⟨some 8, .move (.const (.int .i64 0)), none⟩]
@[simp] theorem R24_6 :
  evK C D (.seq (.region O24_6) (.keep [8] [] c)) ⟨[], [], H⟩ k =
  evK C D c ⟨[(8, .v (.int .i64 0))], [], H⟩ k := by kernel_rfl
def O24_7 : List IOper :=
  [⟨some 48, .fieldAddr 20 (.tmp 7), none⟩,
   ⟨some 49, .load false 1 (.tmp 48), none⟩,
   ⟨some 50, .call (.func 66) [(.tmp 49)], none⟩,
   ⟨some 51, .fieldAddr 20 (.tmp 7), none⟩,
   ⟨none, .store 1 (.tmp 51) (.tmp 50), none⟩]
@[simp] theorem R24_7 (x0 x1 x2 : AV) (l7 : List AV) :
  evK C D (.seq (.region O24_7) (.keep [0, 1, 2, 7] [7] c)) ⟨[(0, .v x0), (1, .v x1), (2, .v x2), (7, .l 7 0)], [(7, l7)], H⟩ k =
  (nl (rd false 1 20 l7)).bind fun t1 =>
  (callN C (.func (.func 66) [] []) [t1] H).bind fun r2 =>
  (stL 1 20 r2.1 l7).bind fun m4 =>
  evK C D c ⟨[(0, .v x0), (1, .v x1), (2, .v x2), (7, .l 7 0)], [(7, m4)], r2.2⟩ k := by kernel_rfl
def O24_8 : List IOper :=
  [⟨some 52, .move (.tmp 0), none⟩,
   ⟨some 53, .nilCheck (.tmp 52), none⟩,
   ⟨some 54, .fieldAddr 6 (.tmp 53), none⟩,
   ⟨some 55, .load false 1 (.tmp 54), none⟩,
   ⟨some 56, .move (.tmp 1), none⟩,
   ⟨some 57, .move (.tmp 2), none⟩,
   ⟨some 58, .load true 22 (.tmp 7), none⟩,
   ⟨some 59, .build [(.int .i64 0), (.int .i64 0), (.int .i64 0), (.int .i64 0), (.int .i64 0), (.int .i64 0), (.int .i64 0), (.int .i64 0), (.int .i64 0), (.str []), (.int .i64 0), (.int .i64 0), (.int .i64 0), (.str []), (.str []), (.str []), (.bool false), (.int .i64 0), (.int .i64 0), (.int .i64 0), (.int .i64 0), (.bool false), (.bool false), .nils, (.int .i64 0), (.bool false), (.int .i64 0), (.int .i64 0)] [(0, 1, (.tmp 55)), (1, 1, (.tmp 56)), (2, 1, (.tmp 57)), (3, 22, (.tmp 58))], none⟩,
   ⟨some 60, .box false 28 (.tmp 59), none⟩,
   ⟨some 10, .move (.tmp 60), none⟩]
@[simp] theorem R24_8 (x0 x1 x2 : AV) (l7 : List AV) :
  evK C D (.seq (.regionD O24_8 []) (.keep [0, 7, 10] [7] c)) ⟨[(0, .v x0), (1, .v x1), (2, .v x2), (7, .l 7 0)], [(7, l7)], H⟩ k =
  (nilC x0).bind fun t1 =>
  (fldP 6 t1).bind fun t2 =>
  (nl (loadP H false 1 t2)).bind fun t3 =>
  kB (AV.okB H.n t3) (
  (nl (rd true 22 0 l7)).bind fun t6 =>
  kB (AV.okB H.n t6) (
  ((fillC [(0, 1, t3), (1, 1, x1), (2, 1, x2), (3, 22, t6)] [(.int .i64 0), (.int .i64 0), (.int .i64 0), (.int .i64 0), (.int .i64 0), (.int .i64 0), (.int .i64 0), (.int .i64 0), (.int .i64 0), (.str []), (.int .i64 0), (.int .i64 0), (.int .i64 0), (.str []), (.str []), (.str []), (.bool false), (.int .i64 0), (.int .i64 0), (.int .i64 0), (.int .i64 0), (.bool false), (.bool false), .nils, (.int .i64 0), (.bool false), (.int .i64 0), (.int .i64 0)]).map AV.agg).bind fun t7 =>
  ((boxC t7).map fun cs => (AV.ptr H.n 0, H.alloc (.row false 28 cs))).bind fun r8 =>
  evK C D c ⟨[(0, .v x0), (7, .l 7 0), (10, .v r8.1)], [(7, l7)], r8.2⟩ k)) := by kernel_rfl
def O24_9 : List IOper :=
  [⟨some 61, .move (.tmp 0), none⟩,
   ⟨some 62, .nilCheck (.tmp 61), none⟩,
   ⟨some 63, .fieldAddr 6 (.tmp 62), none⟩,
   ⟨some 64, .load false 1 (.tmp 63), none⟩,
   ⟨some 65, .bin .add .none (.tmp 64) (.const (.int .i64 1)), none⟩,
   ⟨some 66, .nilCheck (.tmp 61), none⟩,
   ⟨some 67, .fieldAddr 6 (.tmp 66), none⟩,
   ⟨none, .store 1 (.tmp 67) (.tmp 65), none⟩]
@[simp] theorem R24_9 (x0 x10 : AV) (l7 : List AV) :
  evK C D (.seq (.region O24_9) (.keep [0, 7, 10] [7] c)) ⟨[(0, .v x0), (7, .l 7 0), (10, .v x10)], [(7, l7)], H⟩ k =
  (nilC x0).bind fun t1 =>
  (fldP 6 t1).bind fun t2 =>
  (nl (loadP H false 1 t2)).bind fun t3 =>
  (nl (binA .add .none t3 (.int .i64 1))).bind fun t4 =>
  (nilC x0).bind fun t5 =>
  (fldP 6 t5).bind fun t6 =>
  (storeP H 1 t4 t6).bind fun H7 =>
  evK C D c ⟨[(0, .v x0), (7, .l 7 0), (10, .v x10)], [(7, l7)], H7⟩ k := by kernel_rfl
def O24_10 : List IOper :=
  [⟨some 68, .move (.tmp 0), none⟩,
   ⟨some 69, .move (.tmp 0), none⟩,
   ⟨some 70, .nilCheck (.tmp 69), none⟩,
   ⟨some 71, .fieldAddr 5 (.tmp 70), none⟩,
   ⟨some 72, .load false 1 (.tmp 71), none⟩,
   ⟨some 73, .move (.tmp 10), none⟩,
   ⟨some 74, .buildSlice 1 1 [.nilp] [(0, 1, (.tmp 73))], none⟩,
   ⟨some 75, .append 1 8 (.tmp 72) (.tmp 74), none⟩,
   ⟨some 76, .nilCheck (.tmp 68), none⟩,
   ⟨some 77, .fieldAddr 5 (.tmp 76), none⟩,
   ⟨none, .store 1 (.tmp 77) (.tmp 75), none⟩]
@[simp] theorem R24_10 (x0 x10 : AV) (l7 : List AV) :
  evK C D (.seq (.region O24_10) (.keep [0, 7, 10] [7] c)) ⟨[(0, .v x0), (7, .l 7 0), (10, .v x10)], [(7, l7)], H⟩ k =
  (nilC x0).bind fun t2 =>
  (fldP 5 t2).bind fun t3 =>
  (nl (loadP H false 1 t3)).bind fun t4 =>
  ((fillC [(0, 1, x10)] [.nilp]).map fun cs => (AV.slice H.n 0 1 1, H.alloc (.row false 1 cs))).bind fun r6 =>
  (nlR (appendA r6.2 1 8 t4 r6.1)).bind fun r7 =>
  (nilC x0).bind fun t8 =>
  (fldP 5 t8).bind fun t9 =>
  (storeP r7.2 1 r7.1 t9).bind fun H10 =>
  evK C D c ⟨[(0, .v x0), (7, .l 7 0), (10, .v x10)], [(7, l7)], H10⟩ k := by kernel_rfl
def O24_11 : List IOper :=
  [⟨some 79, .load true 22 (.tmp 7), none⟩,
   ⟨some 80, .call (.func 67) [(.tmp 79)], none⟩,
   ⟨some 78, .move (.tmp 80), none⟩,
   ⟨some 81, .extract (.tmp 78) 0, none⟩,
   ⟨some 82, .extract (.tmp 78) 1, none⟩,
   ⟨some 11, .move (.tmp 81), none⟩,
   ⟨some 12, .move (.tmp 82), none⟩]
@[simp] theorem R24_11 (x0 x10 : AV) (l7 : List AV) :
  evK C D (.seq (.region O24_11) (.keep [0, 10, 11, 12] [] c)) ⟨[(0, .v x0), (7, .l 7 0), (10, .v x10)], [(7, l7)], H⟩ k =
  (nl (rd true 22 0 l7)).bind fun t0 =>
  (callN C (.func (.func 67) [] []) [t0] H).bind fun r1 =>
  (nl (extA 0 r1.1)).bind fun t3 =>
  (nl (extA 1 r1.1)).bind fun t4 =>
  evK C D c ⟨[(0, .v x0), (10, .v x10), (11, .v t3), (12, .v t4)], [], r1.2⟩ k := by kernel_rfl
def O24_12 : List IOper :=
  [⟨some 84, .move (.tmp 0), none⟩,
   ⟨some 85, .nilCheck (.tmp 84), none⟩,
   ⟨some 86, .fieldAddr 4 (.tmp 85), none⟩,
   ⟨some 87, .load false 1 (.tmp 86), none⟩,
   ⟨some 88, .move (.tmp 10), none⟩,
   ⟨some 89, .nilCheck (.tmp 88), none⟩,
   ⟨some 90, .fieldAddr 0 (.tmp 89), none⟩,
   ⟨some 91, .load false 1 (.tmp 90), none⟩,
   ⟨some 92, .move (.tmp 11), none⟩,
   ⟨some 93, .move (.tmp 12), none⟩,
   ⟨some 94, .call (.func 68) [(.tmp 87), (.tmp 91), (.tmp 92), (.tmp 93)], none⟩,
   ⟨some 83, .move (.tmp 94), none⟩,
   ⟨some 95, .extract (.tmp 83) 0, none⟩,
   ⟨some 96, .extract (.tmp 83) 1, none⟩,
   ⟨some 13, .move (.tmp 95), none⟩,
   ⟨some 14, .move (.tmp 96), none⟩]
@[simp] theorem R24_12 (x0 x10 x11 x12 : AV) :
  evK C D (.seq (.regionD O24_12 []) (.keep [0, 10, 13] [] c)) ⟨[(0, .v x0), (10, .v x10), (11, .v x11), (12, .v x12)], [], H⟩ k =
  (nilC x0).bind fun t1 =>
  (fldP 4 t1).bind fun t2 =>
  (nl (loadP H false 1 t2)).bind fun t3 =>
  kB (AV.okB H.n t3) (
  (nilC x10).bind fun t5 =>
  (fldP 0 t5).bind fun t6 =>
  (nl (loadP H false 1 t6)).bind fun t7 =>
  kB (AV.okB H.n t7) (
  (callN C (.func (.func 68) [] []) [t3, t7, x11, x12] H).bind fun r10 =>
  (nl (extA 0 r10.1)).bind fun t12 =>
  (nl (extA 1 r10.1)).bind fun t13 =>
  evK C D c ⟨[(0, .v x0), (10, .v x10), (13, .v t12)], [], r10.2⟩ k)) := by kernel_rfl
def O24_13 : List IOper :=
  [⟨some 97, .move (.tmp 13), none⟩]
@[simp] theorem R24_13 (x0 x10 x13 : AV) :
  evK C D (.seq (.region O24_13) (.keep [0, 10, 97] [] c)) ⟨[(0, .v x0), (10, .v x10), (13, .v x13)], [], H⟩ k =
  evK C D c ⟨[(0, .v x0), (10, .v x10), (97, .v x13)], [], H⟩ k := by kernel_rfl
def O24_14 : List IOper :=
  [⟨some 98, .move (.tmp 0), none⟩,
   ⟨some 99, .move (.tmp 10), none⟩,
   ⟨some 100, .call (.func 69) [(.tmp 98), (.tmp 99)], none⟩]
@[simp] theorem R24_14 (x0 x10 x97 : AV) :
  evK C D (.region O24_14) ⟨[(0, .v x0), (10, .v x10), (97, .v x97)], [], H⟩ k =
  (callN C (.func (.func 69) [] []) [x0, x10] H).bind fun r2 =>
  k .normal ⟨[(100, .v r2.1), (99, .v x10), (98, .v x0), (0, .v x0), (10, .v x10), (97, .v x97)], [], r2.2⟩ := by kernel_rfl
def O24_15 : List IOper :=
  [⟨some 8, .move (.const (.int .i64 0)), none⟩]
@[simp] theorem R24_15 :
  evK C D (.seq (.region O24_15) (.keep [8] [] c)) ⟨[], [], H⟩ k =
  evK C D c ⟨[(8, .v (.int .i64 0))], [], H⟩ k := by kernel_rfl
def F24 : FnIR := ⟨101, 4, [.tmp 8], [7],
  .seq (.region O24_0)
  (.keep [0, 1, 2, 7] [7] (.seq (.seq (.region O24_1)
   (.keep [0, 1, 2, 7, 28] [7] (.cond (.tmp 28)
    (.seq (.region O24_2)
    (.keep [8] [] (.ret)))
    (.skip))))
  (.keep [0, 1, 2, 7] [7] (.seq (.seq (.region O24_3)
   (.keep [0, 1, 2, 7, 9] [7] (.seq (.region O24_4)
   (.keep [0, 1, 2, 7, 9, 33] [7] (.cond (.tmp 33)
    (.seq (.region O24_5)
    (.keep [] [] (.seq (.region O24_6)
    (.keep [8] [] (.ret)))))
    (.skip))))))
  (.keep [0, 1, 2, 7] [7] (.seq (.region O24_7)
  (.keep [0, 1, 2, 7] [7] (.seq (.regionD O24_8 [])
  (.keep [0, 7, 10] [7] (.seq (.region O24_9)
  (.keep [0, 7, 10] [7] (.seq (.region O24_10)
  (.keep [0, 7, 10] [7] (.seq (.region O24_11)
  (.keep [0, 10, 11, 12] [] (.seq (.seq (.regionD O24_12 [])
   (.keep [0, 10, 13] [] (.seq (.region O24_13)
   (.keep [0, 10, 97] [] (.cond (.tmp 97)
    (.region O24_14)
    (.skip))))))
  (.keep [] [] (.seq (.region O24_15)
  (.keep [8] [] (.ret))))))))))))))))))))⟩
/-- (*wampum/server.Server).Tick -/
def O25_0 : List IOper :=
  [⟨some 2, .move (.const (.int .i64 0)), none⟩]
@[simp] theorem R25_0 (x0 : AV) :
  evK C D (.seq (.region O25_0) (.keep [0] [] c)) ⟨[(0, .v x0)], [], H⟩ k =
  evK C D c ⟨[(0, .v x0)], [], H⟩ k := by kernel_rfl
def O25_1 : List IOper :=
  [⟨some 8, .move (.tmp 0), none⟩,
   ⟨some 9, .bin .eql .ptr (.tmp 8) (.const .nilp), none⟩]
@[simp] theorem R25_1 (x0 : AV) :
  evK C D (.seq (.region O25_1) (.keep [0, 9] [] c)) ⟨[(0, .v x0)], [], H⟩ k =
  (nl (binA .eql .ptr x0 .nilp)).bind fun t1 =>
  evK C D c ⟨[(0, .v x0), (9, .v t1)], [], H⟩ k := by kernel_rfl
def O25_2 : List IOper :=
  [⟨some 2, .move (.const (.int .i64 1)), none⟩]
@[simp] theorem R25_2 (x0 x9 : AV) :
  evK C D (.seq (.region O25_2) (.keep [2] [] c)) ⟨[(0, .v x0), (9, .v x9)], [], H⟩ k =
  evK C D c ⟨[(2, .v (.int .i64 1))], [], H⟩ k := by kernel_rfl
def O25_3 : List IOper :=
  [⟨some 10, .move (.tmp 0), none⟩,
   ⟨some 11, .call (.func 70) [(.tmp 10)], none⟩,
   ⟨some 12, .move (.tmp 11), none⟩,
   ⟨some 13, .move (.tmp 0), some (12, true)⟩,
   ⟨some 14, .call (.func 28) [(.tmp 13)], some (12, true)⟩,
   ⟨some 15, .un .not (.tmp 14), some (12, true)⟩,
   ⟨some 16, .pick (.tmp 12) (.tmp 15) (.const (.bool false)), none⟩,
   ⟨some 17, .move (.tmp 16), none⟩,
   ⟨some 18, .move (.tmp 0), some (17, true)⟩,
   ⟨some 19, .nilCheck (.tmp 18), some (17, true)⟩,
   ⟨some 20, .fieldAddr 7 (.tmp 19), some (17, true)⟩,
   ⟨some 21, .load false 1 (.tmp 20), some (17, true)⟩,
   ⟨some 22, .bin .eql .int (.tmp 21) (.const (.int .i64 0)), some (17, true)⟩,
   ⟨some 23, .move (.tmp 22), some (17, true)⟩,
   ⟨some 28, .move (.tmp 0), some (23, false)⟩,
   ⟨some 29, .nilCheck (.tmp 28), some (23, false)⟩,
   ⟨some 30, .fieldAddr 0 (.tmp 29), some (23, false)⟩,
   ⟨some 31, .load false 1 (.tmp 30), some (23, false)⟩,
   ⟨some 32, .call (.func 17) [(.tmp 31)], some (23, false)⟩,
   ⟨some 24, .move (.tmp 0), some (23, false)⟩,
   ⟨some 25, .nilCheck (.tmp 24), some (23, false)⟩,
   ⟨some 26, .fieldAddr 8 (.tmp 25), some (23, false)⟩,
   ⟨some 27, .load false 1 (.tmp 26), some (23, false)⟩,
   ⟨some 33, .bin .neq .int (.tmp 27) (.tmp 32), some (23, false)⟩,
   ⟨some 34, .pick (.tmp 23) (.const (.bool true)) (.tmp 33), some (17, true)⟩,
   ⟨some 35, .pick (.tmp 17) (.tmp 34) (.const (.bool false)), none⟩]
@[simp] theorem R25_3 (x0 : AV) :
  evK C D (.seq (.regionD O25_3 [(22, 5)]) (.keep [0, 35] [] c)) ⟨[(0, .v x0)], [], H⟩ k =
  (callN C (.func (.func 70) [] []) [x0] H).bind fun r1 =>
  guardK r1.1 true (
  (callN C (.func (.func 28) [] []) [x0] r1.2).bind fun r4 =>
  (nl (unA .not r4.1)).bind fun t5 =>
  guardK t5 true (
  (nilC x0).bind fun t9 =>
  (fldP 7 t9).bind fun t10 =>
  (nl (loadP r4.2 false 1 t10)).bind fun t11 =>
  kB (AV.okB r4.2.n t11) (
  (nl (binA .eql .int t11 (.int .i64 0))).bind fun t12 =>
  guardK t12 false (
  (nilC x0).bind fun t15 =>
  (fldP 0 t15).bind fun t16 =>
  (nl (loadP r4.2 false 1 t16)).bind fun t17 =>
  kB (AV.okB r4.2.n t17) (
  (callN C (.func (.func 17) [] []) [t17] r4.2).bind fun r18 =>
  (nilC x0).bind fun t20 =>
  (fldP 8 t20).bind fun t21 =>
  (nl (loadP r18.2 false 1 t21)).bind fun t22 =>
  kB (AV.okB r18.2.n t22) (
  (nl (binA .neq .int t22 r18.1)).bind fun t23 =>
  kB (chk (loadP r4.2 false 1 t21) t22) (
  evK C D c ⟨[(0, .v x0), (35, .v t23)], [], r18.2⟩ k))))
  (kB (AV.okB r4.2.n undefA) (
  kB (AV.okB r4.2.n undefA) (
  evK C D c ⟨[(0, .v x0), (35, .v (.bool true))], [], r4.2⟩ k)))))
  (kB (AV.okB r4.2.n undefA) (
  kB (AV.okB r4.2.n undefA) (
  kB (AV.okB r4.2.n undefA) (
  evK C D c ⟨[(0, .v x0), (35, .v (.bool false))], [], r4.2⟩ k)))))
  (kB (AV.okB r1.2.n undefA) (
  kB (AV.okB r1.2.n undefA) (
  kB (AV.okB r1.2.n undefA) (
  evK C D c ⟨[(0, .v x0), (35, .v (.bool false))], [], r1.2⟩ k)))) := by kernel_rfl
def O25_4 : List IOper :=
  [⟨some 37, .move (.tmp 0), none⟩,
   ⟨some 38, .nilCheck (.tmp 37), none⟩,
   ⟨some 39, .fieldAddr 0 (.tmp 38), none⟩,
   ⟨some 40, .load false 1 (.tmp 39), none⟩,
   ⟨some 41, .call (.func 20) [(.tmp 40)], none⟩,
   ⟨some 42, .call (.func 71) [(.tmp 41)], none⟩,
   ⟨some 36, .move (.tmp 42), none⟩,
   ⟨some 43, .extract (.tmp 36) 0, none⟩,
   ⟨some 44, .extract (.tmp 36) 1, none⟩,
   ⟨some 3, .move (.tmp 43), none⟩,
   ⟨some 4, .move (.tmp 44), none⟩]
@[simp] theorem R25_4 (x0 x35 : AV) :
  evK C D (.seq (.region O25_4) (.keep [0, 3] [] c)) ⟨[(0, .v x0), (35, .v x35)], [], H⟩ k =
  (nilC x0).bind fun t1 =>
  (fldP 0 t1).bind fun t2 =>
  (nl (loadP H false 1 t2)).bind fun t3 =>
  (callN C (.func (.func 20) [] []) [t3] H).bind fun r4 =>
  (callN C (.func (.func 71) [] []) [r4.1] r4.2).bind fun r5 =>
  (nl (extA 0 r5.1)).bind fun t7 =>
  (nl (extA 1 r5.1)).bind fun t8 =>
  evK C D c ⟨[(0, .v x0), (3, .v t7)], [], r5.2⟩ k := by kernel_rfl
def O25_5 : List IOper :=
  [⟨some 46, .move (.tmp 0), none⟩,
   ⟨some 47, .nilCheck (.tmp 46), none⟩,
   ⟨some 48, .fieldAddr 0 (.tmp 47), none⟩,
   ⟨some 49, .load false 1 (.tmp 48), none⟩,
   ⟨some 50, .move (.tmp 3), none⟩,
   ⟨some 51, .bin .add .none (.tmp 50) (.const (.int .i64 1)), none⟩,
   ⟨some 52, .move (.tmp 0), none⟩,
   ⟨some 53, .nilCheck (.tmp 52), none⟩,
   ⟨some 54, .fieldAddr 1 (.tmp 53), none⟩,
   ⟨some 55, .load false 1 (.tmp 54), none⟩,
   ⟨some 56, .build [(.int .i64 0), (.int .i64 0), (.int .i64 0), (.int .i64 0), (.int .i64 0), (.int .i64 0), (.str []), (.int .i64 0), (.int .i64 0), (.int .i64 0), (.str []), (.str []), (.str []), (.bool false), (.int .i64 0), (.int .i64 0), (.int .i64 0), (.int .i64 0), (.bool false), (.bool false), .nils, (.int .i64 0)] [(0, 1, (.const (.int .i64 1))), (2, 1, (.tmp 51)), (3, 1, (.tmp 55))], none⟩,
   ⟨some 57, .call (.func 10) [(.tmp 49), (.tmp 56)], none⟩,
   ⟨some 45, .move (.tmp 57), none⟩,
   ⟨some 58, .extract (.tmp 45) 0, none⟩,
   ⟨some 59, .extract (.tmp 45) 1, none⟩,
   ⟨some 60, .extract (.tmp 45) 2, none⟩,
   ⟨some 5, .move (.tmp 58), none⟩,
   ⟨some 6, .move (.tmp 59), none⟩,
   ⟨some 7, .move (.tmp 60), none⟩]
@[simp] theorem R25_5 (x0 x3 : AV) :
  evK C D (.seq (.regionD O25_5 []) (.keep [0, 5, 6, 7] [] c)) ⟨[(0, .v x0), (3, .v x3)], [], H⟩ k =
  (nilC x0).bind fun t1 =>
  (fldP 0 t1).bind fun t2 =>
  (nl (loadP H false 1 t2)).bind fun t3 =>
  kB (AV.okB H.n t3) (
  (nl (binA .add .none x3 (.int .i64 1))).bind fun t5 =>
  (nilC x0).bind fun t7 =>
  (fldP 1 t7).bind fun t8 =>
  (nl (loadP H false 1 t8)).bind fun t9 =>
  kB (AV.okB H.n t9) (
  ((fillC [(0, 1, (.int .i64 1)), (2, 1, t5), (3, 1, t9)] [(.int .i64 0), (.int .i64 0), (.int .i64 0), (.int .i64 0), (.int .i64 0), (.int .i64 0), (.str []), (.int .i64 0), (.int .i64 0), (.int .i64 0), (.str []), (.str []), (.str []), (.bool false), (.int .i64 0), (.int .i64 0), (.int .i64 0), (.int .i64 0), (.bool false), (.bool false), .nils, (.int .i64 0)]).map AV.agg).bind fun t10 =>
  (callN C (.func (.func 10) [] []) [t3, t10] H).bind fun r11 =>
  (nl (extA 0 r11.1)).bind fun t13 =>
  (nl (extA 1 r11.1)).bind fun t14 =>
  (nl (extA 2 r11.1)).bind fun t15 =>
  evK C D c ⟨[(0, .v x0), (5, .v t13), (6, .v t14), (7, .v t15)], [], r11.2⟩ k)) := by kernel_rfl
def O25_6 : List IOper :=
  [⟨some 61, .move (.tmp 7), none⟩,
   ⟨some 62, .bin .eql .int (.tmp 61) (.const (.int .i64 0)), none⟩]
@[simp] theorem R25_6 (x0 x5 x6 x7 : AV) :
  evK C D (.seq (.region O25_6) (.keep [0, 5, 6, 62] [] c)) ⟨[(0, .v x0), (5, .v x5), (6, .v x6), (7, .v x7)], [], H⟩ k =
  (nl (binA .eql .int x7 (.int .i64 0))).bind fun t1 =>
  evK C D c ⟨[(0, .v x0), (5, .v x5), (6, .v x6), (62, .v t1)], [], H⟩ k := by kernel_rfl
def O25_7 : List IOper :=
  [⟨some 63, .move (.tmp 0), none⟩,
   ⟨some 64, .move (.tmp 0), none⟩,
   ⟨some 65, .move (.tmp 5), none⟩,
   ⟨some 66, .move (.tmp 6), none⟩,
   ⟨some 67, .nilCheck (.tmp 63), none⟩,
   ⟨some 68, .fieldAddr 7 (.tmp 67), none⟩,
   ⟨none, .store 1 (.tmp 68) (.tmp 65), none⟩,
   ⟨some 69, .nilCheck (.tmp 64), none⟩,
   ⟨some 70, .fieldAddr 8 (.tmp 69), none⟩,
   ⟨none, .store 1 (.tmp 70) (.tmp 66), none⟩]
@[simp] theorem R25_7 (x0 x5 x6 x62 : AV) :
  evK C D (.region O25_7) ⟨[(0, .v x0), (5, .v x5), (6, .v x6), (62, .v x62)], [], H⟩ k =
  (nilC x0).bind fun t4 =>
  (fldP 7 t4).bind fun t5 =>
  (storeP H 1 x5 t5).bind fun H6 =>
  (nilC x0).bind fun t7 =>
  (fldP 8 t7).bind fun t8 =>
  (storeP H6 1 x6 t8).bind fun H9 =>
  k .normal ⟨[(70, .v t8), (69, .v t7), (68, .v t5), (67, .v t4), (66, .v x6), (65, .v x5), (64, .v x0), (63, .v x0), (0, .v x0), (5, .v x5), (6, .v x6), (62, .v x62)], [], H9⟩ := by kernel_rfl
def O25_8 : List IOper :=
  [⟨some 71, .move (.tmp 0), none⟩,
   ⟨some 72, .call (.func 26) [(.tmp 71)], none⟩,
   ⟨some 2, .move (.tmp 72), none⟩]
@[simp] theorem R25_8 (x0 : AV) :
  evK C D (.seq (.region O25_8) (.keep [2] [] c)) ⟨[(0, .v x0)], [], H⟩ k =
  (callN C (.func (.func 26) [] []) [x0] H).bind fun r1 =>
  evK C D c ⟨[(2, .v r1.1)], [], r1.2⟩ k := by kernel_rfl
def F25 : FnIR := ⟨73, 1, [.tmp 2], [],
  .seq (.region O25_0)
  (.keep [0] [] (.seq (.seq (.region O25_1)
   (.keep [0, 9] [] (.cond (.tmp 9)
    (.seq (.region O25_2)
    (.keep [2] [] (.ret)))
    (.skip))))
  (.keep [0] [] (.seq (.seq (.regionD O25_3 [(22, 5)])
   (.keep [0, 35] [] (.cond (.tmp 35)
    (.seq (.region O25_4)
    (.keep [0, 3] [] (.seq (.regionD O25_5 [])
    (.keep [0, 5, 6, 7] [] (.seq (.region O25_6)
    (.keep [0, 5, 6, 62] [] (.cond (.tmp 62)
     (.region O25_7)
     (.skip))))))))
    (.skip))))
  (.keep [0] [] (.seq (.region O25_8)
  (.keep [2] [] (.ret))))))))⟩
/-- (*wampum/server.Server).Turn -/
def O26_0 : List IOper :=
  [⟨some 2, .move (.const (.int .i64 0)), none⟩]
@[simp] theorem R26_0 (x0 : AV) :
  evK C D (.seq (.region O26_0) (.keep [0] [] c)) ⟨[(0, .v x0)], [], H⟩ k =
  evK C D c ⟨[(0, .v x0)], [], H⟩ k := by kernel_rfl
def O26_1 : List IOper :=
  [⟨some 8, .move (.tmp 0), none⟩,
   ⟨some 9, .bin .eql .ptr (.tmp 8) (.const .nilp), none⟩]
@[simp] theorem R26_1 (x0 : AV) :
  evK C D (.seq (.region O26_1) (.keep [0, 9] [] c)) ⟨[(0, .v x0)], [], H⟩ k =
  (nl (binA .eql .ptr x0 .nilp)).bind fun t1 =>
  evK C D c ⟨[(0, .v x0), (9, .v t1)], [], H⟩ k := by kernel_rfl
def O26_2 : List IOper :=
  [⟨some 2, .move (.const (.int .i64 1)), none⟩]
@[simp] theorem R26_2 (x0 x9 : AV) :
  evK C D (.seq (.region O26_2) (.keep [2] [] c)) ⟨[(0, .v x0), (9, .v x9)], [], H⟩ k =
  evK C D c ⟨[(2, .v (.int .i64 1))], [], H⟩ k := by kernel_rfl
def O26_3 : List IOper :=
  [⟨some 10, .move (.tmp 0), none⟩,
   ⟨some 11, .nilCheck (.tmp 10), none⟩,
   ⟨some 12, .fieldAddr 0 (.tmp 11), none⟩,
   ⟨some 13, .load false 1 (.tmp 12), none⟩,
   ⟨some 14, .call (.func 16) [(.tmp 13)], none⟩,
   ⟨some 15, .len .slice (.tmp 14), none⟩,
   ⟨some 16, .move (.const (.int .i64 0)), none⟩]
@[simp] theorem R26_3 (x0 : AV) :
  evK C D (.seq (.region O26_3) (.keep [0, 14, 15, 16] [] c)) ⟨[(0, .v x0)], [], H⟩ k =
  (nilC x0).bind fun t1 =>
  (fldP 0 t1).bind fun t2 =>
  (nl (loadP H false 1 t2)).bind fun t3 =>
  (callN C (.func (.func 16) [] []) [t3] H).bind fun r4 =>
  (lenS r4.1).bind fun t5 =>
  evK C D c ⟨[(0, .v x0), (14, .v r4.1), (15, .v t5), (16, .v (.int .i64 0))], [], r4.2⟩ k := by kernel_rfl
def O26_4 : List IOper :=
  [⟨some 17, .bin .lss .none (.tmp 16) (.tmp 15), none⟩]
@[simp] theorem R26_4 (x0 x14 x15 x16 : AV) :
  evK C D (.seq (.region O26_4) (.keep [0, 14, 15, 16, 17] [] c)) ⟨[(0, .v x0), (14, .v x14), (15, .v x15), (16, .v x16)], [], H⟩ k =
  (nl (binA .lss .none x16 x15)).bind fun t0 =>
  evK C D c ⟨[(0, .v x0), (14, .v x14), (15, .v x15), (16, .v x16), (17, .v t0)], [], H⟩ k := by kernel_rfl
def O26_5 : List IOper :=
  [⟨some 18, .indexAddr none 42 (.tmp 14) (.tmp 16), none⟩,
   ⟨some 19, .load true 42 (.tmp 18), none⟩,
   ⟨some 4, .alloc false 42 [(.int .i64 0), (.int .i64 0), (.int .i64 0), (.int .i64 0), (.int .i64 0), (.int .i64 0), (.int .i64 0), (.int .i64 0), (.str []), (.int .i64 0), (.int .i64 0), (.int .i64 0), (.str []), (.str []), (.str []), (.bool false), (.int .i64 0), (.int .i64 0), (.int .i64 0), (.int .i64 0), (.bool false), (.bool false), .nils, (.int .i64 0), (.int .i64 0), (.int .i64 0), (.int .i64 0), .nils, (.bool false), (.int .i64 0), (.int .i64 0), (.str []), (.int .i64 0), (.int .i64 0), (.int .i64 0), (.int .i64 0), (.int .i64 0), (.int .i64 0), (.int .i64 0), (.int .i64 0), (.int .i64 0), .nils], none⟩,
   ⟨none, .store 42 (.tmp 4) (.tmp 19), none⟩]
@[simp] theorem R26_5 (x0 x14 x15 x16 : AV) :
  evK C D (.seq (.region O26_5) (.keep [0, 4, 14, 15, 16] [] c)) ⟨[(0, .v x0), (14, .v x14), (15, .v x15), (16, .v x16)], [], H⟩ k =
  (nl (idxS 42 x14 x16)).bind fun t0 =>
  (nl (loadP H true 42 t0)).bind fun t1 =>
  (some (AV.ptr H.n 0, H.alloc (.row false 42 [(.int .i64 0), (.int .i64 0), (.int .i64 0), (.int .i64 0), (.int .i64 0), (.int .i64 0), (.int .i64 0), (.int .i64 0), (.str []), (.int .i64 0), (.int .i64 0), (.int .i64 0), (.str []), (.str []), (.str []), (.bool false), (.int .i64 0), (.int .i64 0), (.int .i64 0), (.int .i64 0), (.bool false), (.bool false), .nils, (.int .i64 0), (.int .i64 0), (.int .i64 0), (.int .i64 0), .nils, (.bool false), (.int .i64 0), (.int .i64 0), (.str []), (.int .i64 0), (.int .i64 0), (.int .i64 0), (.int .i64 0), (.int .i64 0), (.int .i64 0), (.int .i64 0), (.int .i64 0), (.int .i64 0), .nils]))).bind fun r2 =>
  (storeP r2.2 42 t1 r2.1).bind fun H3 =>
  evK C D c ⟨[(0, .v x0), (4, .v r2.1), (14, .v x14), (15, .v x15), (16, .v x16)], [], H3⟩ k := by kernel_rfl
def O26_6 : List IOper :=
  [⟨some 20, .move (.tmp 0), none⟩,
   ⟨some 21, .load true 42 (.tmp 4), none⟩,
   ⟨some 22, .call (.func 72) [(.tmp 20), (.tmp 21)], none⟩]
@[simp] theorem R26_6 (x0 x4 x14 x15 x16 : AV) :
  evK C D (.seq (.region O26_6) (.keep [0, 4, 14, 15, 16] [] c)) ⟨[(0, .v x0), (4, .v x4), (14, .v x14), (15, .v x15), (16, .v x16)], [], H⟩ k =
  (nl (loadP H true 42 x4)).bind fun t1 =>
  (callN C (.func (.func 72) [] []) [x0, t1] H).bind fun r2 =>
  evK C D c ⟨[(0, .v x0), (4, .v x4), (14, .v x14), (15, .v x15), (16, .v x16)], [], r2.2⟩ k := by kernel_rfl
def O26_7 : List IOper :=
  [⟨some 23, .move (.tmp 0), none⟩,
   ⟨some 24, .nilCheck (.tmp 23), none⟩,
   ⟨some 25, .fieldAddr 5 (.tmp 24), none⟩,
   ⟨some 26, .load false 1 (.tmp 25), none⟩,
   ⟨some 27, .mkFunc (.func 74) [] [(.tmp 4)], none⟩,
   ⟨some 28, .call (.func 73) [(.tmp 26), (.tmp 27)], none⟩,
   ⟨some 5, .move (.tmp 28), none⟩]
@[simp] theorem R26_7 (x0 x4 x14 x15 x16 : AV) :
  evK C D (.seq (.region O26_7) (.keep [0, 4, 5, 14, 15, 16] [] c)) ⟨[(0, .v x0), (4, .v x4), (14, .v x14), (15, .v x15), (16, .v x16)], [], H⟩ k =
  (nilC x0).bind fun t1 =>
  (fldP 5 t1).bind fun t2 =>
  (nl (loadP H false 1 t2)).bind fun t3 =>
  (funcV (.func 74) [] [x4]).bind fun t4 =>
  (callN C (.func (.func 73) [] []) [t3, t4] H).bind fun r5 =>
  evK C D c ⟨[(0, .v x0), (4, .v x4), (5, .v r5.1), (14, .v x14), (15, .v x15), (16, .v x16)], [], r5.2⟩ k := by kernel_rfl
def O26_8 : List IOper :=
  [⟨some 40, .move (.tmp 5), none⟩,
   ⟨some 41, .bin .lss .none (.tmp 40) (.const (.int .i64 0)), none⟩,
   ⟨some 39, .move (.tmp 41), none⟩]
@[simp] theorem R26_8 (x0 x4 x5 x14 x15 x16 : AV) :
  evK C D (.seq (.region O26_8) (.keep [0, 4, 5, 14, 15, 16, 39] [] c)) ⟨[(0, .v x0), (4, .v x4), (5, .v x5), (14, .v x14), (15, .v x15), (16, .v x16)], [], H⟩ k =
  (nl (binA .lss .none x5 (.int .i64 0))).bind fun t1 =>
  evK C D c ⟨[(0, .v x0), (4, .v x4), (5, .v x5), (14, .v x14), (15, .v x15), (16, .v x16), (39, .v t1)], [], H⟩ k := by kernel_rfl
def O26_9 : List IOper :=
  [⟨some 43, .move (.tmp 0), none⟩,
   ⟨some 44, .nilCheck (.tmp 43), none⟩,
   ⟨some 45, .fieldAddr 5 (.tmp 44), none⟩,
   ⟨some 46, .load false 1 (.tmp 45), none⟩,
   ⟨some 47, .move (.tmp 5), none⟩,
   ⟨some 48, .indexAddr none 1 (.tmp 46) (.tmp 47), none⟩,
   ⟨some 49, .load false 1 (.tmp 48), none⟩,
   ⟨some 50, .nilCheck (.tmp 49), none⟩,
   ⟨some 51, .fieldAddr 27 (.tmp 50), none⟩,
   ⟨some 52, .load false 1 (.tmp 51), none⟩,
   ⟨some 53, .fieldAddr 1 (.tmp 4), none⟩,
   ⟨some 54, .load false 1 (.tmp 53), none⟩,
   ⟨some 55, .bin .eql .int (.tmp 52) (.tmp 54), none⟩,
   ⟨some 42, .move (.tmp 55), none⟩]
@[simp] theorem R26_9 (x0 x4 x5 x14 x15 x16 x39 : AV) :
  evK C D (.seq (.regionD O26_9 []) (.keep [0, 4, 5, 14, 15, 16, 42] [] c)) ⟨[(0, .v x0), (4, .v x4), (5, .v x5), (14, .v x14), (15, .v x15), (16, .v x16), (39, .v x39)], [], H⟩ k =
  (nilC x0).bind fun t1 =>
  (fldP 5 t1).bind fun t2 =>
  (nl (loadP H false 1 t2)).bind fun t3 =>
  kB (AV.okB H.n t3) (
  (nl (idxS 1 t3 x5)).bind fun t5 =>
  (nl (loadP H false 1 t5)).bind fun t6 =>
  kB (AV.okB H.n t6) (
  (nilC t6).bind fun t7 =>
  (fldP 27 t7).bind fun t8 =>
  (nl (loadP H false 1 t8)).bind fun t9 =>
  kB (AV.okB H.n t9) (
  (fldP 1 x4).bind fun t10 =>
  (nl (loadP H false 1 t10)).bind fun t11 =>
  kB (AV.okB H.n t11) (
  (nl (binA .eql .int t9 t11)).bind fun t12 =>
  evK C D c ⟨[(0, .v x0), (4, .v x4), (5, .v x5), (14, .v x14), (15, .v x15), (16, .v x16), (42, .v t12)], [], H⟩ k)))) := by kernel_rfl
def O26_10 : List IOper :=
  [⟨some 56, .move (.tmp 0), none⟩,
   ⟨some 57, .move (.tmp 0), none⟩,
   ⟨some 58, .nilCheck (.tmp 57), none⟩,
   ⟨some 59, .fieldAddr 5 (.tmp 58), none⟩,
   ⟨some 60, .load false 1 (.tmp 59), none⟩,
   ⟨some 61, .move (.tmp 5), none⟩,
   ⟨some 62, .indexAddr none 1 (.tmp 60) (.tmp 61), none⟩,
   ⟨some 63, .load false 1 (.tmp 62), none⟩,
   ⟨some 64, .fieldAddr 0 (.tmp 4), none⟩,
   ⟨some 65, .load false 1 (.tmp 64), none⟩,
   ⟨some 66, .fieldAddr 24 (.tmp 4), none⟩,
   ⟨some 67, .load true 18 (.tmp 66), none⟩,
   ⟨some 68, .call (.func 75) [(.tmp 56), (.tmp 63), (.tmp 65), (.tmp 67)], none⟩]
@[simp] theorem R26_10 (x0 x4 x5 x14 x15 x16 x42 : AV) :
  evK C D (.regionD O26_10 []) ⟨[(0, .v x0), (4, .v x4), (5, .v x5), (14, .v x14), (15, .v x15), (16, .v x16), (42, .v x42)], [], H⟩ k =
  (nilC x0).bind fun t2 =>
  (fldP 5 t2).bind fun t3 =>
  (nl (loadP H false 1 t3)).bind fun t4 =>
  kB (AV.okB H.n t4) (
  (nl (idxS 1 t4 x5)).bind fun t6 =>
  (nl (loadP H false 1 t6)).bind fun t7 =>
  kB (AV.okB H.n t7) (
  (fldP 0 x4).bind fun t8 =>
  (nl (loadP H false 1 t8)).bind fun t9 =>
  kB (AV.okB H.n t9) (
  (fldP 24 x4).bind fun t10 =>
  (nl (loadP H true 18 t10)).bind fun t11 =>
  kB (AV.okB H.n t11) (
  (callN C (.func (.func 75) [] []) [x0, t7, t9, t11] H).bind fun r12 =>
  k .normal ⟨[(68, .v r12.1), (67, .v t11), (66, .v t10), (65, .v t9), (64, .v t8), (63, .v t7), (62, .v t6), (61, .v x5), (60, .v t4), (59, .v t3), (58, .v t2), (57, .v x0), (56, .v x0), (0, .v x0), (4, .v x4), (5, .v x5), (14, .v x14), (15, .v x15), (16, .v x16), (42, .v x42)], [], r12.2⟩)))) := by kernel_rfl
def O26_11 : List IOper :=
  [⟨some 29, .move (.tmp 0), none⟩,
   ⟨some 30, .move (.tmp 0), none⟩,
   ⟨some 31, .nilCheck (.tmp 30), none⟩,
   ⟨some 32, .fieldAddr 5 (.tmp 31), none⟩,
   ⟨some 33, .load false 1 (.tmp 32), none⟩,
   ⟨some 34, .move (.tmp 5), none⟩,
   ⟨some 35, .indexAddr none 1 (.tmp 33) (.tmp 34), none⟩,
   ⟨some 36, .load false 1 (.tmp 35), none⟩,
   ⟨some 37, .build [(.int .i64 0), (.int .i64 0), (.int .i64 0), .nils, (.bool false), (.int .i64 0), (.int .i64 0), (.str []), (.int .i64 0), (.int .i64 0), (.int .i64 0), (.int .i64 0), (.int .i64 0), (.int .i64 0), (.int .i64 0), (.int .i64 0), (.int .i64 0), .nils] [(0, 1, (.const (.int .i64 141)))], none⟩,
   ⟨some 38, .call (.func 75) [(.tmp 29), (.tmp 36), (.const (.int .i64 0)), (.tmp 37)], none⟩]
@[simp] theorem R26_11 (x0 x4 x5 x14 x15 x16 x42 : AV) :
  evK C D (.region O26_11) ⟨[(0, .v x0), (4, .v x4), (5, .v x5), (14, .v x14), (15, .v x15), (16, .v x16), (42, .v x42)], [], H⟩ k =
  (nilC x0).bind fun t2 =>
  (fldP 5 t2).bind fun t3 =>
  (nl (loadP H false 1 t3)).bind fun t4 =>
  (nl (idxS 1 t4 x5)).bind fun t6 =>
  (nl (loadP H false 1 t6)).bind fun t7 =>
  ((fillC [(0, 1, (.int .i64 141))] [(.int .i64 0), (.int .i64 0), (.int .i64 0), .nils, (.bool false), (.int .i64 0), (.int .i64 0), (.str []), (.int .i64 0), (.int .i64 0), (.int .i64 0), (.int .i64 0), (.int .i64 0), (.int .i64 0), (.int .i64 0), (.int .i64 0), (.int .i64 0), .nils]).map AV.agg).bind fun t8 =>
  (callN C (.func (.func 75) [] []) [x0, t7, (.int .i64 0), t8] H).bind fun r9 =>
  k .normal ⟨[(38, .v r9.1), (37, .v t8), (36, .v t7), (35, .v t6), (34, .v x5), (33, .v t4), (32, .v t3), (31, .v t2), (30, .v x0), (29, .v x0), (0, .v x0), (4, .v x4), (5, .v x5), (14, .v x14), (15, .v x15), (16, .v x16), (42, .v x42)], [], r9.2⟩ := by kernel_rfl
def O26_12 : List IOper :=
  [⟨some 69, .bin .add .none (.tmp 16) (.const (.int .i64 1)), none⟩,
   ⟨some 16, .move (.tmp 69), none⟩]
@[simp] theorem R26_12 (x0 x14 x15 x16 : AV) :
  evK C D (.region O26_12) ⟨[(0, .v x0), (14, .v x14), (15, .v x15), (16, .v x16)], [], H⟩ k =
  (nl (binA .add .none x16 (.int .i64 1))).bind fun t0 =>
  k .normal ⟨[(16, .v t0), (69, .v t0), (0, .v x0), (14, .v x14), (15, .v x15), (16, .v x16)], [], H⟩ := by kernel_rfl
def B26_0 : IC :=
  .seq (.region O26_4)
  (.keep [0, 14, 15, 16, 17] [] (.seq (.cond (.tmp 17)
    (.skip)
    (.exit 0))
  (.keep [0, 14, 15, 16] [] (.seq (.block 1 (.seq (.region O26_5)
    (.keep [0, 4, 14, 15, 16] [] (.seq (.region O26_6)
    (.keep [0, 4, 14, 15, 16] [] (.seq (.region O26_7)
    (.keep [0, 4, 5, 14, 15, 16] [] (.block 2 (.seq (.region O26_8)
     (.keep [0, 4, 5, 14, 15, 16, 39] [] (.cond (.tmp 39)
      (.skip)
      (.seq (.regionD O26_9 [])
      (.keep [0, 4, 5, 14, 15, 16, 42] [] (.cond (.tmp 42)
       (.regionD O26_10 [])
       (.region O26_11)))))))))))))))
  (.keep [0, 14, 15, 16] [] (.region O26_12))))))
def L26_0 : IC := .keep [0, 14, 15, 16] [] B26_0
@[simp] theorem LK26_0 (s : SK) (k : AExit → SK → Option R) : evK C D (.loop L26_0) s k = (D (.loop L26_0) (prK [0, 14, 15, 16] [] s).toSt).bind fun r => k r.1 (ofSt r.2) := by kernel_rfl
def O26_13 : List IOper :=
  [⟨some 70, .move (.tmp 0), none⟩,
   ⟨some 71, .call (.func 28) [(.tmp 70)], none⟩]
@[simp] theorem R26_13 (x0 : AV) :
  evK C D (.seq (.region O26_13) (.keep [0, 71] [] c)) ⟨[(0, .v x0)], [], H⟩ k =
  (callN C (.func (.func 28) [] []) [x0] H).bind fun r1 =>
  evK C D c ⟨[(0, .v x0), (71, .v r1.1)], [], r1.2⟩ k := by kernel_rfl
def O26_14 : List IOper :=
  [⟨some 2, .move (.const (.int .i64 0)), none⟩]
@[simp] theorem R26_14 (x0 x71 : AV) :
  evK C D (.seq (.region O26_14) (.keep [2] [] c)) ⟨[(0, .v x0), (71, .v x71)], [], H⟩ k =
  evK C D c ⟨[(2, .v (.int .i64 0))], [], H⟩ k := by kernel_rfl
def O26_15 : List IOper :=
  [⟨some 72, .move (.tmp 0), none⟩,
   ⟨some 73, .nilCheck (.tmp 72), none⟩,
   ⟨some 74, .fieldAddr 5 (.tmp 73), none⟩,
   ⟨some 75, .load false 1 (.tmp 74), none⟩,
   ⟨some 76, .len .slice (.tmp 75), none⟩,
   ⟨some 77, .move (.const (.int .i64 0)), none⟩]
@[simp] theorem R26_15 (x0 : AV) :
  evK C D (.seq (.region O26_15) (.keep [0, 75, 76, 77] [] c)) ⟨[(0, .v x0)], [], H⟩ k =
  (nilC x0).bind fun t1 =>
  (fldP 5 t1).bind fun t2 =>
  (nl (loadP H false 1 t2)).bind fun t3 =>
  (lenS t3).bind fun t4 =>
  evK C D c ⟨[(0, .v x0), (75, .v t3), (76, .v t4), (77, .v (.int .i64 0))], [], H⟩ k := by kernel_rfl
def O26_16 : List IOper :=
  [⟨some 78, .bin .lss .none (.tmp 77) (.tmp 76), none⟩]
@[simp] theorem R26_16 (x0 x75 x76 x77 : AV) :
  evK C D (.seq (.region O26_16) (.keep [0, 75, 76, 77, 78] [] c)) ⟨[(0, .v x0), (75, .v x75), (76, .v x76), (77, .v x77)], [], H⟩ k =
  (nl (binA .lss .none x77 x76)).bind fun t0 =>
  evK C D c ⟨[(0, .v x0), (75, .v x75), (76, .v x76), (77, .v x77), (78, .v t0)], [], H⟩ k := by kernel_rfl
def O26_17 : List IOper :=
  [⟨some 79, .indexAddr none 1 (.tmp 75) (.tmp 77), none⟩,
   ⟨some 80, .load false 1 (.tmp 79), none⟩,
   ⟨some 7, .move (.tmp 80), none⟩]
@[simp] theorem R26_17 (x0 x75 x76 x77 : AV) :
  evK C D (.seq (.region O26_17) (.keep [0, 7, 75, 76, 77] [] c)) ⟨[(0, .v x0), (75, .v x75), (76, .v x76), (77, .v x77)], [], H⟩ k =
  (nl (idxS 1 x75 x77)).bind fun t0 =>
  (nl (loadP H false 1 t0)).bind fun t1 =>
  evK C D c ⟨[(0, .v x0), (7, .v t1), (75, .v x75), (76, .v x76), (77, .v x77)], [], H⟩ k := by kernel_rfl
def O26_18 : List IOper :=
  [⟨some 82, .move (.tmp 0), none⟩,
   ⟨some 83, .nilCheck (.tmp 82), none⟩,
   ⟨some 84, .fieldAddr 9 (.tmp 83), none⟩,
   ⟨some 85, .load false 1 (.tmp 84), none⟩,
   ⟨some 86, .move (.tmp 7), none⟩,
   ⟨some 87, .nilCheck (.tmp 86), none⟩,
   ⟨some 88, .fieldAddr 1 (.tmp 87), none⟩,
   ⟨some 89, .load false 1 (.tmp 88), none⟩,
   ⟨some 90, .move (.tmp 7), none⟩,
   ⟨some 91, .nilCheck (.tmp 90), none⟩,
   ⟨some 92, .fieldAddr 2 (.tmp 91), none⟩,
   ⟨some 93, .load false 1 (.tmp 92), none⟩,
   ⟨some 94, .build [(.int .i64 0), (.int .i64 0), (.int .i64 0), .nils, (.bool false), (.int .i64 0), (.int .i64 0), (.str []), (.int .i64 0), (.int .i64 0), (.int .i64 0), (.int .i64 0), (.int .i64 0), (.int .i64 0), (.int .i64 0), (.int .i64 0), (.int .i64 0), .nils] [(0, 1, (.const (.int .i64 141)))], none⟩,
   ⟨some 95, .build [(.int .i64 0), (.int .i64 0), (.int .i64 0), (.int .i64 0), (.int .i64 0), (.int .i64 0), .nils, (.bool false), (.int .i64 0), (.int .i64 0), (.str []), (.int .i64 0), (.int .i64 0), (.int .i64 0), (.int .i64 0), (.int .i64 0), (.int .i64 0), (.int .i64 0), (.int .i64 0), (.int .i64 0), .nils] [(0, 1, (.tmp 89)), (1, 1, (.tmp 93)), (3, 18, (.tmp 94))], none⟩,
   ⟨some 96, .buildSlice 21 1 [(.int .i64 0), (.int .i64 0), (.int .i64 0), (.int .i64 0), (.int .i64 0), (.int .i64 0), .nils, (.bool false), (.int .i64 0), (.int .i64 0), (.str []), (.int .i64 0), (.int .i64 0), (.int .i64 0), (.int .i64 0), (.int .i64 0), (.int .i64 0), (.int .i64 0), (.int .i64 0), (.int .i64 0), .nils] [(0, 21, (.tmp 95))], none⟩,
   ⟨some 97, .append 21 208 (.tmp 85) (.tmp 96), none⟩,
   ⟨some 81, .move (.tmp 0), none⟩,
   ⟨some 98, .nilCheck (.tmp 81), none⟩,
   ⟨some 99, .fieldAddr 9 (.tmp 98), none⟩,
   ⟨none, .store 1 (.tmp 99) (.tmp 97), none⟩]
@[simp] theorem R26_18 (x0 x7 x75 x76 x77 : AV) :
  evK C D (.regionD O26_18 []) ⟨[(0, .v x0), (7, .v x7), (75, .v x75), (76, .v x76), (77, .v x77)], [], H⟩ k =
  (nilC x0).bind fun t1 =>
  (fldP 9 t1).bind fun t2 =>
  (nl (loadP H false 1 t2)).bind fun t3 =>
  kB (AV.okB H.n t3) (
  (nilC x7).bind fun t5 =>
  (fldP 1 t5).bind fun t6 =>
  (nl (loadP H false 1 t6)).bind fun t7 =>
  kB (AV.okB H.n t7) (
  (nilC x7).bind fun t9 =>
  (fldP 2 t9).bind fun t10 =>
  (nl (loadP H false 1 t10)).bind fun t11 =>
  kB (AV.okB H.n t11) (
  ((fillC [(0, 1, (.int .i64 141))] [(.int .i64 0), (.int .i64 0), (.int .i64 0), .nils, (.bool false), (.int .i64 0), (.int .i64 0), (.str []), (.int .i64 0), (.int .i64 0), (.int .i64 0), (.int .i64 0), (.int .i64 0), (.int .i64 0), (.int .i64 0), (.int .i64 0), (.int .i64 0), .nils]).map AV.agg).bind fun t12 =>
  ((fillC [(0, 1, t7), (1, 1, t11), (3, 18, t12)] [(.int .i64 0), (.int .i64 0), (.int .i64 0), (.int .i64 0), (.int .i64 0), (.int .i64 0), .nils, (.bool false), (.int .i64 0), (.int .i64 0), (.str []), (.int .i64 0), (.int .i64 0), (.int .i64 0), (.int .i64 0), (.int .i64 0), (.int .i64 0), (.int .i64 0), (.int .i64 0), (.int .i64 0), .nils]).map AV.agg).bind fun t13 =>
  ((fillC [(0, 21, t13)] [(.int .i64 0), (.int .i64 0), (.int .i64 0), (.int .i64 0), (.int .i64 0), (.int .i64 0), .nils, (.bool false), (.int .i64 0), (.int .i64 0), (.str []), (.int .i64 0), (.int .i64 0), (.int .i64 0), (.int .i64 0), (.int .i64 0), (.int .i64 0), (.int .i64 0), (.int .i64 0), (.int .i64 0), .nils]).map fun cs => (AV.slice H.n 0 1 1, H.alloc (.row false 21 cs))).bind fun r14 =>
  (nlR (appendA r14.2 21 208 t3 r14.1)).bind fun r15 =>
  (nilC x0).bind fun t17 =>
  (fldP 9 t17).bind fun t18 =>
  (storeP r15.2 1 r15.1 t18).bind fun H19 =>
  k .normal ⟨[(99, .v t18), (98, .v t17), (81, .v x0), (97, .v r15.1), (96, .v r14.1), (95, .v t13), (94, .v t12), (93, .v t11), (92, .v t10), (91, .v t9), (90, .v x7), (89, .v t7), (88, .v t6), (87, .v t5), (86, .v x7), (85, .v t3), (84, .v t2), (83, .v t1), (82, .v x0), (0, .v x0), (7, .v x7), (75, .v x75), (76, .v x76), (77, .v x77)], [], H19⟩))) := by kernel_rfl
def O26_19 : List IOper :=
  [⟨some 100, .bin .add .none (.tmp 77) (.const (.int .i64 1)), none⟩,
   ⟨some 77, .move (.tmp 100), none⟩]
@[simp] theorem R26_19 (x0 x75 x76 x77 : AV) :
  evK C D (.region O26_19) ⟨[(0, .v x0), (75, .v x75), (76, .v x76), (77, .v x77)], [], H⟩ k =
  (nl (binA .add .none x77 (.int .i64 1))).bind fun t0 =>
  k .normal ⟨[(77, .v t0), (100, .v t0), (0, .v x0), (75, .v x75), (76, .v x76), (77, .v x77)], [], H⟩ := by kernel_rfl
def B26_1 : IC :=
  .seq (.region O26_16)
  (.keep [0, 75, 76, 77, 78] [] (.seq (.cond (.tmp 78)
    (.skip)
    (.exit 3))
  (.keep [0, 75, 76, 77] [] (.seq (.block 4 (.seq (.region O26_17)
    (.keep [0, 7, 75, 76, 77] [] (.regionD O26_18 []))))
  (.keep [0, 75, 76, 77] [] (.region O26_19))))))
def L26_1 : IC := .keep [0, 75, 76, 77] [] B26_1
@[simp] theorem LK26_1 (s : SK) (k : AExit → SK → Option R) : evK C D (.loop L26_1) s k = (D (.loop L26_1) (prK [0, 75, 76, 77] [] s).toSt).bind fun r => k r.1 (ofSt r.2) := by kernel_rfl
def O26_20 : List IOper :=
  [⟨some 101, .move (.tmp 0), none⟩,
   ⟨some 102, .move (.tmp 0), none⟩,
   ⟨some 103, .call (.func 64) [], none⟩,
   ⟨some 104, .nilCheck (.tmp 101), none⟩,
   ⟨some 105, .fieldAddr 5 (.tmp 104), none⟩,
   ⟨none, .store 1 (.tmp 105) (.const .nils), none⟩,
   ⟨some 106, .nilCheck (.tmp 102), none⟩,
   ⟨some 107, .fieldAddr 4 (.tmp 106), none⟩,
   ⟨none, .store 1 (.tmp 107) (.tmp 103), none⟩]
@[simp] theorem R26_20 (x0 : AV) :
  evK C D (.seq (.region O26_20) (.keep [] [] c)) ⟨[(0, .v x0)], [], H⟩ k =
  (callN C (.func (.func 64) [] []) [] H).bind fun r2 =>
  (nilC x0).bind fun t3 =>
  (fldP 5 t3).bind fun t4 =>
  (storeP r2.2 1 .nils t4).bind fun H5 =>
  (nilC x0).bind fun t6 =>
  (fldP 4 t6).bind fun t7 =>
  (storeP H5 1 r2.1 t7).bind fun H8 =>
  evK C D c ⟨[], [], H8⟩ k := by kernel_rfl
def O26_21 : List IOper :=
  [⟨some 2, .move (.const (.int .i64 0)), none⟩]
@[simp] theorem R26_21 :
  evK C D (.seq (.region O26_21) (.keep [2] [] c)) ⟨[], [], H⟩ k =
  evK C D c ⟨[(2, .v (.int .i64 0))], [], H⟩ k := by kernel_rfl
def F26 : FnIR := ⟨108, 1, [.tmp 2], [],
  .seq (.region O26_0)
  (.keep [0] [] (.seq (.seq (.region O26_1)
   (.keep [0, 9] [] (.cond (.tmp 9)
    (.seq (.region O26_2)
    (.keep [2] [] (.ret)))
    (.skip))))
  (.keep [0] [] (.seq (.seq (.region O26_3)
   (.keep [0, 14, 15, 16] [] (.block 0 (.loop L26_0))))
  (.keep [0] [] (.seq (.seq (.region O26_13)
   (.keep [0, 71] [] (.cond (.tmp 71)
    (.seq (.region O26_14)
    (.keep [2] [] (.ret)))
    (.skip))))
  (.keep [0] [] (.seq (.seq (.region O26_15)
   (.keep [0, 75, 76, 77] [] (.block 3 (.loop L26_1))))
  (.keep [0] [] (.seq (.region O26_20)
  (.keep [] [] (.seq (.region O26_21)
  (.keep [2] [] (.ret))))))))))))))⟩
/-- (*wampum/server.Server).Answers -/
def O27_0 : List IOper :=
  [⟨some 2, .move (.const .nils), none⟩]
@[simp] theorem R27_0 (x0 : AV) :
  evK C D (.seq (.region O27_0) (.keep [0] [] c)) ⟨[(0, .v x0)], [], H⟩ k =
  evK C D c ⟨[(0, .v x0)], [], H⟩ k := by kernel_rfl
def O27_1 : List IOper :=
  [⟨some 4, .move (.tmp 0), none⟩,
   ⟨some 5, .bin .eql .ptr (.tmp 4) (.const .nilp), none⟩]
@[simp] theorem R27_1 (x0 : AV) :
  evK C D (.seq (.region O27_1) (.keep [0, 5] [] c)) ⟨[(0, .v x0)], [], H⟩ k =
  (nl (binA .eql .ptr x0 .nilp)).bind fun t1 =>
  evK C D c ⟨[(0, .v x0), (5, .v t1)], [], H⟩ k := by kernel_rfl
def O27_2 : List IOper :=
  [⟨some 2, .move (.const .nils), none⟩]
@[simp] theorem R27_2 (x0 x5 : AV) :
  evK C D (.seq (.region O27_2) (.keep [2] [] c)) ⟨[(0, .v x0), (5, .v x5)], [], H⟩ k =
  evK C D c ⟨[(2, .v .nils)], [], H⟩ k := by kernel_rfl
def O27_3 : List IOper :=
  [⟨some 6, .move (.tmp 0), none⟩,
   ⟨some 7, .nilCheck (.tmp 6), none⟩,
   ⟨some 8, .fieldAddr 9 (.tmp 7), none⟩,
   ⟨some 9, .load false 1 (.tmp 8), none⟩,
   ⟨some 3, .move (.tmp 9), none⟩]
@[simp] theorem R27_3 (x0 : AV) :
  evK C D (.seq (.region O27_3) (.keep [0, 3] [] c)) ⟨[(0, .v x0)], [], H⟩ k =
  (nilC x0).bind fun t1 =>
  (fldP 9 t1).bind fun t2 =>
  (nl (loadP H false 1 t2)).bind fun t3 =>
  evK C D c ⟨[(0, .v x0), (3, .v t3)], [], H⟩ k := by kernel_rfl
def O27_4 : List IOper :=
  [⟨some 10, .move (.tmp 0), none⟩,
   ⟨some 11, .nilCheck (.tmp 10), none⟩,
   ⟨some 12, .fieldAddr 9 (.tmp 11), none⟩,
   ⟨none, .store 1 (.tmp 12) (.const .nils), none⟩]
@[simp] theorem R27_4 (x0 x3 : AV) :
  evK C D (.seq (.region O27_4) (.keep [3] [] c)) ⟨[(0, .v x0), (3, .v x3)], [], H⟩ k =
  (nilC x0).bind fun t1 =>
  (fldP 9 t1).bind fun t2 =>
  (storeP H 1 .nils t2).bind fun H3 =>
  evK C D c ⟨[(3, .v x3)], [], H3⟩ k := by kernel_rfl
def O27_5 : List IOper :=
  [⟨some 13, .move (.tmp 3), none⟩,
   ⟨some 2, .move (.tmp 13), none⟩]
@[simp] theorem R27_5 (x3 : AV) :
  evK C D (.seq (.region O27_5) (.keep [2] [] c)) ⟨[(3, .v x3)], [], H⟩ k =
  evK C D c ⟨[(2, .v x3)], [], H⟩ k := by kernel_rfl
def F27 : FnIR := ⟨14, 1, [.tmp 2], [],
  .seq (.region O27_0)
  (.keep [0] [] (.seq (.seq (.region O27_1)
   (.keep [0, 5] [] (.cond (.tmp 5)
    (.seq (.region O27_2)
    (.keep [2] [] (.ret)))
    (.skip))))
  (.keep [0] [] (.seq (.region O27_3)
  (.keep [0, 3] [] (.seq (.region O27_4)
  (.keep [3] [] (.seq (.region O27_5)
  (.keep [2] [] (.ret))))))))))⟩
/-- (*wampum/server.Server).Holds -/
def O28_0 : List IOper :=
  [⟨some 2, .move (.const (.bool false)), none⟩]
@[simp] theorem R28_0 (x0 : AV) :
  evK C D (.seq (.region O28_0) (.keep [0] [] c)) ⟨[(0, .v x0)], [], H⟩ k =
  evK C D c ⟨[(0, .v x0)], [], H⟩ k := by kernel_rfl
def O28_1 : List IOper :=
  [⟨some 5, .move (.tmp 0), none⟩,
   ⟨some 6, .bin .eql .ptr (.tmp 5) (.const .nilp), none⟩,
   ⟨some 7, .move (.tmp 6), none⟩,
   ⟨some 8, .move (.tmp 0), some (7, false)⟩,
   ⟨some 9, .call (.func 70) [(.tmp 8)], some (7, false)⟩,
   ⟨some 10, .un .not (.tmp 9), some (7, false)⟩,
   ⟨some 11, .pick (.tmp 7) (.const (.bool true)) (.tmp 10), none⟩]
@[simp] theorem R28_1 (x0 : AV) :
  evK C D (.seq (.region O28_1) (.keep [0, 11] [] c)) ⟨[(0, .v x0)], [], H⟩ k =
  (nl (binA .eql .ptr x0 .nilp)).bind fun t1 =>
  guardK t1 false (
  (callN C (.func (.func 70) [] []) [x0] H).bind fun r4 =>
  (nl (unA .not r4.1)).bind fun t5 =>
  evK C D c ⟨[(0, .v x0), (11, .v t5)], [], r4.2⟩ k)
  (evK C D c ⟨[(0, .v x0), (11, .v (.bool true))], [], H⟩ k) := by kernel_rfl
def O28_2 : List IOper :=
  [⟨some 2, .move (.const (.bool false)), none⟩]
@[simp] theorem R28_2 (x0 x11 : AV) :
  evK C D (.seq (.region O28_2) (.keep [2] [] c)) ⟨[(0, .v x0), (11, .v x11)], [], H⟩ k =
  evK C D c ⟨[(2, .v (.bool false))], [], H⟩ k := by kernel_rfl
def O28_3 : List IOper :=
  [⟨some 13, .move (.tmp 0), none⟩,
   ⟨some 14, .nilCheck (.tmp 13), none⟩,
   ⟨some 15, .fieldAddr 0 (.tmp 14), none⟩,
   ⟨some 16, .load false 1 (.tmp 15), none⟩,
   ⟨some 17, .call (.func 20) [(.tmp 16)], none⟩,
   ⟨some 18, .call (.func 71) [(.tmp 17)], none⟩,
   ⟨some 12, .move (.tmp 18), none⟩,
   ⟨some 19, .extract (.tmp 12) 0, none⟩,
   ⟨some 20, .extract (.tmp 12) 1, none⟩,
   ⟨some 3, .move (.tmp 19), none⟩,
   ⟨some 4, .move (.tmp 20), none⟩]
@[simp] theorem R28_3 (x0 : AV) :
  evK C D (.seq (.region O28_3) (.keep [0, 3, 4] [] c)) ⟨[(0, .v x0)], [], H⟩ k =
  (nilC x0).bind fun t1 =>
  (fldP 0 t1).bind fun t2 =>
  (nl (loadP H false 1 t2)).bind fun t3 =>
  (callN C (.func (.func 20) [] []) [t3] H).bind fun r4 =>
  (callN C (.func (.func 71) [] []) [r4.1] r4.2).bind fun r5 =>
  (nl (extA 0 r5.1)).bind fun t7 =>
  (nl (extA 1 r5.1)).bind fun t8 =>
  evK C D c ⟨[(0, .v x0), (3, .v t7), (4, .v t8)], [], r5.2⟩ k := by kernel_rfl
def O28_4 : List IOper :=
  [⟨some 21, .move (.tmp 3), none⟩,
   ⟨some 22, .move (.tmp 0), none⟩,
   ⟨some 23, .nilCheck (.tmp 22), none⟩,
   ⟨some 24, .fieldAddr 2 (.tmp 23), none⟩,
   ⟨some 25, .load false 1 (.tmp 24), none⟩,
   ⟨some 26, .bin .eql .int (.tmp 21) (.tmp 25), none⟩,
   ⟨some 27, .move (.tmp 26), none⟩,
   ⟨some 28, .move (.tmp 4), some (27, true)⟩,
   ⟨some 29, .move (.tmp 0), some (27, true)⟩,
   ⟨some 30, .nilCheck (.tmp 29), some (27, true)⟩,
   ⟨some 31, .fieldAddr 1 (.tmp 30), some (27, true)⟩,
   ⟨some 32, .load false 1 (.tmp 31), some (27, true)⟩,
   ⟨some 33, .bin .eql .int (.tmp 28) (.tmp 32), some (27, true)⟩,
   ⟨some 34, .pick (.tmp 27) (.tmp 33) (.const (.bool false)), none⟩,
   ⟨some 2, .move (.tmp 34), none⟩]
@[simp] theorem R28_4 (x0 x3 x4 : AV) :
  evK C D (.seq (.region O28_4) (.keep [2] [] c)) ⟨[(0, .v x0), (3, .v x3), (4, .v x4)], [], H⟩ k =
  (nilC x0).bind fun t2 =>
  (fldP 2 t2).bind fun t3 =>
  (nl (loadP H false 1 t3)).bind fun t4 =>
  (nl (binA .eql .int x3 t4)).bind fun t5 =>
  guardK t5 true (
  (nilC x0).bind fun t9 =>
  (fldP 1 t9).bind fun t10 =>
  (nl (loadP H false 1 t10)).bind fun t11 =>
  (nl (binA .eql .int x4 t11)).bind fun t12 =>
  evK C D c ⟨[(2, .v t12)], [], H⟩ k)
  (evK C D c ⟨[(2, .v (.bool false))], [], H⟩ k) := by kernel_rfl
def F28 : FnIR := ⟨35, 1, [.tmp 2], [],
  .seq (.region O28_0)
  (.keep [0] [] (.seq (.seq (.region O28_1)
   (.keep [0, 11] [] (.cond (.tmp 11)
    (.seq (.region O28_2)
    (.keep [2] [] (.ret)))
    (.skip))))
  (.keep [0] [] (.seq (.region O28_3)
  (.keep [0, 3, 4] [] (.seq (.region O28_4)
  (.keep [2] [] (.ret))))))))⟩
/-- (*wampum/server.Server).Waiting -/
def O29_0 : List IOper :=
  [⟨some 2, .move (.const (.int .i64 0)), none⟩]
@[simp] theorem R29_0 (x0 : AV) :
  evK C D (.seq (.region O29_0) (.keep [0] [] c)) ⟨[(0, .v x0)], [], H⟩ k =
  evK C D c ⟨[(0, .v x0)], [], H⟩ k := by kernel_rfl
def O29_1 : List IOper :=
  [⟨some 3, .move (.tmp 0), none⟩,
   ⟨some 4, .bin .eql .ptr (.tmp 3) (.const .nilp), none⟩]
@[simp] theorem R29_1 (x0 : AV) :
  evK C D (.seq (.region O29_1) (.keep [0, 4] [] c)) ⟨[(0, .v x0)], [], H⟩ k =
  (nl (binA .eql .ptr x0 .nilp)).bind fun t1 =>
  evK C D c ⟨[(0, .v x0), (4, .v t1)], [], H⟩ k := by kernel_rfl
def O29_2 : List IOper :=
  [⟨some 2, .move (.const (.int .i64 0)), none⟩]
@[simp] theorem R29_2 (x0 x4 : AV) :
  evK C D (.seq (.region O29_2) (.keep [2] [] c)) ⟨[(0, .v x0), (4, .v x4)], [], H⟩ k =
  evK C D c ⟨[(2, .v (.int .i64 0))], [], H⟩ k := by kernel_rfl
def O29_3 : List IOper :=
  [⟨some 5, .move (.tmp 0), none⟩,
   ⟨some 6, .nilCheck (.tmp 5), none⟩,
   ⟨some 7, .fieldAddr 5 (.tmp 6), none⟩,
   ⟨some 8, .load false 1 (.tmp 7), none⟩,
   ⟨some 9, .len .slice (.tmp 8), none⟩,
   ⟨some 2, .move (.tmp 9), none⟩]
@[simp] theorem R29_3 (x0 : AV) :
  evK C D (.seq (.region O29_3) (.keep [2] [] c)) ⟨[(0, .v x0)], [], H⟩ k =
  (nilC x0).bind fun t1 =>
  (fldP 5 t1).bind fun t2 =>
  (nl (loadP H false 1 t2)).bind fun t3 =>
  (lenS t3).bind fun t4 =>
  evK C D c ⟨[(2, .v t4)], [], H⟩ k := by kernel_rfl
def F29 : FnIR := ⟨10, 1, [.tmp 2], [],
  .seq (.region O29_0)
  (.keep [0] [] (.seq (.seq (.region O29_1)
   (.keep [0, 4] [] (.cond (.tmp 4)
    (.seq (.region O29_2)
    (.keep [2] [] (.ret)))
    (.skip))))
  (.keep [0] [] (.seq (.region O29_3)
  (.keep [2] [] (.ret))))))⟩
end Go.Proofs.YtpdmmpajjdaebaaGreat
