/- Functions of the program in our form (S22, a). No condition. -/
import Derived.Test.YtldiggjdbdfdgaaGreatAmZ
import Derived.Test.YtldiggjdbdfdgaaGreatRows
set_option linter.unusedVariables false
set_option linter.unusedSimpArgs false
namespace Go.Proofs.YtldiggjdbdfdgaaGreat
open Go.Wam
variable {R : Type} (C : CallF) (D : IC → St → Option (AExit × St)) (c : IC) (H : AHeap) (k : AExit → SK → Option R)
/-- wampum/wampumlaw22.TxnNil -/
def O6_0 : List IOper :=
  [⟨some 2, .box true 4 (.tmp 0), none⟩,
   ⟨some 4, .move (.const (.bool false)), none⟩]
@[simp] theorem R6_0 (x0 x1 : AV) :
  evK C D (.seq (.region O6_0) (.keep [1, 2] [2] c)) ⟨[(0, .v x0), (1, .v x1)], [], H⟩ k =
  (boxC x0).bind fun m0 =>
  evK C D c ⟨[(1, .v x1), (2, .l 2 0)], [(2, m0)], H⟩ k := by kernel_rfl
def O6_1 : List IOper :=
  [⟨some 12, .fieldAddr 1 (.tmp 2), none⟩,
   ⟨some 13, .fieldAddr 0 (.tmp 12), none⟩,
   ⟨some 14, .load false 1 (.tmp 13), none⟩,
   ⟨some 15, .len .str (.tmp 14), none⟩,
   ⟨some 16, .bin .gtr .none (.tmp 15) (.const (.int .i64 60)), none⟩,
   ⟨some 17, .move (.tmp 16), none⟩,
   ⟨some 18, .fieldAddr 1 (.tmp 2), some (17, false)⟩,
   ⟨some 19, .fieldAddr 1 (.tmp 18), some (17, false)⟩,
   ⟨some 20, .load false 1 (.tmp 19), some (17, false)⟩,
   ⟨some 21, .len .str (.tmp 20), some (17, false)⟩,
   ⟨some 22, .bin .gtr .none (.tmp 21) (.const (.int .i64 60)), some (17, false)⟩,
   ⟨some 23, .pick (.tmp 17) (.const (.bool true)) (.tmp 22), none⟩,
   ⟨some 24, .move (.tmp 23), none⟩,
   ⟨some 25, .fieldAddr 3 (.tmp 2), some (24, false)⟩,
   ⟨some 26, .load false 1 (.tmp 25), some (24, false)⟩,
   ⟨some 27, .len .str (.tmp 26), some (24, false)⟩,
   ⟨some 28, .bin .gtr .none (.tmp 27) (.const (.int .i64 60)), some (24, false)⟩,
   ⟨some 29, .pick (.tmp 24) (.const (.bool true)) (.tmp 28), none⟩]
@[simp] theorem R6_1 (x1 : AV) (l2 : List AV) :
  evK C D (.seq (.region O6_1) (.keep [1, 2, 29] [2] c)) ⟨[(1, .v x1), (2, .l 2 0)], [(2, l2)], H⟩ k =
  (nl (rd false 1 1 l2)).bind fun t2 =>
  (lenStr t2).bind fun t3 =>
  (nl (binA .gtr .none t3 (.int .i64 60))).bind fun t4 =>
  guardK t4 false (
  (nl (rd false 1 2 l2)).bind fun t8 =>
  (lenStr t8).bind fun t9 =>
  (nl (binA .gtr .none t9 (.int .i64 60))).bind fun t10 =>
  guardK t10 false (
  (nl (rd false 1 3 l2)).bind fun t14 =>
  (lenStr t14).bind fun t15 =>
  (nl (binA .gtr .none t15 (.int .i64 60))).bind fun t16 =>
  evK C D c ⟨[(1, .v x1), (2, .l 2 0), (29, .v t16)], [(2, l2)], H⟩ k)
  (evK C D c ⟨[(1, .v x1), (2, .l 2 0), (29, .v (.bool true))], [(2, l2)], H⟩ k))
  (evK C D c ⟨[(1, .v x1), (2, .l 2 0), (29, .v (.bool true))], [(2, l2)], H⟩ k) := by kernel_rfl
def O6_2 : List IOper :=
  [⟨some 30, .call (.func 10) [], none⟩,
   ⟨some 4, .move (.tmp 30), none⟩]
@[simp] theorem R6_2 (x1 x29 : AV) (l2 : List AV) :
  evK C D (.seq (.region O6_2) (.keep [4] [] c)) ⟨[(1, .v x1), (2, .l 2 0), (29, .v x29)], [(2, l2)], H⟩ k =
  (callN C (.func (.func 10) [] []) [] H).bind fun r0 =>
  evK C D c ⟨[(4, .v r0.1)], [], r0.2⟩ k := by kernel_rfl
def O6_3 : List IOper :=
  [⟨some 5, .move (.const .nilp), none⟩]
@[simp] theorem R6_3 (x1 : AV) (l2 : List AV) :
  evK C D (.seq (.region O6_3) (.keep [1, 2, 5] [2] c)) ⟨[(1, .v x1), (2, .l 2 0)], [(2, l2)], H⟩ k =
  evK C D c ⟨[(1, .v x1), (2, .l 2 0), (5, .v .nilp)], [(2, l2)], H⟩ k := by kernel_rfl
def O6_4 : List IOper :=
  [⟨some 32, .build [(.int .i64 0), (.int .i64 0)] [], none⟩,
   ⟨some 33, .call (.func 22) [(.const .nilp), (.const (.int .i64 1)), (.tmp 32)], none⟩,
   ⟨some 31, .move (.tmp 33), none⟩,
   ⟨some 34, .extract (.tmp 31) 0, none⟩,
   ⟨some 35, .extract (.tmp 31) 1, none⟩,
   ⟨some 6, .move (.tmp 34), none⟩,
   ⟨some 7, .move (.tmp 35), none⟩]
@[simp] theorem R6_4 (x1 x5 : AV) (l2 : List AV) :
  evK C D (.seq (.region O6_4) (.keep [1, 2, 5, 6, 7] [2] c)) ⟨[(1, .v x1), (2, .l 2 0), (5, .v x5)], [(2, l2)], H⟩ k =
  ((fillC [] [(.int .i64 0), (.int .i64 0)]).map AV.agg).bind fun t0 =>
  (callN C (.func (.func 22) [] []) [.nilp, (.int .i64 1), t0] H).bind fun r1 =>
  (nl (extA 0 r1.1)).bind fun t3 =>
  (nl (extA 1 r1.1)).bind fun t4 =>
  evK C D c ⟨[(1, .v x1), (2, .l 2 0), (5, .v x5), (6, .v t3), (7, .v t4)], [(2, l2)], r1.2⟩ k := by kernel_rfl
def O6_5 : List IOper :=
  [⟨some 37, .move (.tmp 5), none⟩,
   ⟨some 38, .call (.func 23) [(.tmp 37)], none⟩,
   ⟨some 36, .move (.tmp 38), none⟩,
   ⟨some 39, .extract (.tmp 36) 0, none⟩,
   ⟨some 40, .extract (.tmp 36) 1, none⟩,
   ⟨some 8, .alloc true 4 [(.int .i64 0), (.int .i64 0), (.int .i64 0), .nils], none⟩,
   ⟨none, .store 4 (.tmp 8) (.tmp 39), none⟩,
   ⟨some 9, .move (.tmp 40), none⟩]
@[simp] theorem R6_5 (x1 x5 x6 x7 : AV) (l2 : List AV) :
  evK C D (.seq (.region O6_5) (.keep [1, 2, 5, 6, 7, 9] [2] c)) ⟨[(1, .v x1), (2, .l 2 0), (5, .v x5), (6, .v x6), (7, .v x7)], [(2, l2)], H⟩ k =
  (callN C (.func (.func 23) [] []) [x5] H).bind fun r1 =>
  (nl (extA 0 r1.1)).bind fun t3 =>
  (nl (extA 1 r1.1)).bind fun t4 =>
  (stL 4 0 t3 [(.int .i64 0), (.int .i64 0), (.int .i64 0), .nils]).bind fun m6 =>
  evK C D c ⟨[(1, .v x1), (2, .l 2 0), (5, .v x5), (6, .v x6), (7, .v x7), (9, .v t4)], [(2, l2)], r1.2⟩ k := by kernel_rfl
def O6_6 : List IOper :=
  [⟨some 42, .move (.tmp 5), none⟩,
   ⟨some 43, .call (.func 24) [(.tmp 42)], none⟩,
   ⟨some 41, .move (.tmp 43), none⟩,
   ⟨some 44, .extract (.tmp 41) 0, none⟩,
   ⟨some 45, .extract (.tmp 41) 1, none⟩,
   ⟨some 11, .alloc true 2 [(.int .i64 0), (.int .i64 0)], none⟩,
   ⟨some 10, .move (.tmp 44), none⟩,
   ⟨none, .store 2 (.tmp 11) (.tmp 45), none⟩]
@[simp] theorem R6_6 (x1 x5 x6 x7 x9 : AV) (l2 : List AV) :
  evK C D (.seq (.region O6_6) (.keep [1, 2, 5, 6, 7, 9, 10, 11] [2, 11] c)) ⟨[(1, .v x1), (2, .l 2 0), (5, .v x5), (6, .v x6), (7, .v x7), (9, .v x9)], [(2, l2)], H⟩ k =
  (callN C (.func (.func 24) [] []) [x5] H).bind fun r1 =>
  (nl (extA 0 r1.1)).bind fun t3 =>
  (nl (extA 1 r1.1)).bind fun t4 =>
  (stL 2 0 t4 [(.int .i64 0), (.int .i64 0)]).bind fun m7 =>
  evK C D c ⟨[(1, .v x1), (2, .l 2 0), (5, .v x5), (6, .v x6), (7, .v x7), (9, .v x9), (10, .v t3), (11, .l 11 0)], [(2, l2), (11, m7)], r1.2⟩ k := by kernel_rfl
def O6_7 : List IOper :=
  [⟨some 46, .call (.func 10) [], none⟩,
   ⟨some 47, .move (.tmp 46), none⟩,
   ⟨some 48, .move (.tmp 6), some (47, true)⟩,
   ⟨some 49, .bin .eql .ptr (.tmp 48) (.const .nilp), some (47, true)⟩,
   ⟨some 50, .pick (.tmp 47) (.tmp 49) (.const (.bool false)), none⟩,
   ⟨some 51, .move (.tmp 50), none⟩,
   ⟨some 52, .move (.tmp 7), some (51, true)⟩,
   ⟨some 53, .bin .eql .int (.tmp 52) (.const (.int .i64 1)), some (51, true)⟩,
   ⟨some 54, .pick (.tmp 51) (.tmp 53) (.const (.bool false)), none⟩,
   ⟨some 55, .move (.tmp 54), none⟩,
   ⟨some 56, .move (.tmp 5), some (55, true)⟩,
   ⟨some 57, .load true 4 (.tmp 2), some (55, true)⟩,
   ⟨some 58, .call (.func 25) [(.tmp 56), (.tmp 57)], some (55, true)⟩,
   ⟨some 59, .bin .eql .int (.tmp 58) (.const (.int .i64 1)), some (55, true)⟩,
   ⟨some 60, .pick (.tmp 55) (.tmp 59) (.const (.bool false)), none⟩,
   ⟨some 61, .move (.tmp 60), none⟩,
   ⟨some 62, .move (.tmp 5), some (61, true)⟩,
   ⟨some 63, .call (.func 26) [(.tmp 62)], some (61, true)⟩,
   ⟨some 64, .len .slice (.tmp 63), some (61, true)⟩,
   ⟨some 65, .bin .eql .int (.tmp 64) (.const (.int .i64 0)), some (61, true)⟩,
   ⟨some 66, .pick (.tmp 61) (.tmp 65) (.const (.bool false)), none⟩,
   ⟨some 67, .move (.tmp 66), none⟩,
   ⟨some 68, .move (.tmp 5), some (67, true)⟩,
   ⟨some 69, .move (.tmp 1), some (67, true)⟩,
   ⟨some 70, .build [(.int .i64 0), (.int .i64 0), (.int .i64 0), .nils, (.bool false), (.int .i64 0), (.int .i64 0), (.str []), (.int .i64 0), (.int .i64 0), (.int .i64 0), (.int .i64 0), (.int .i64 0), (.int .i64 0), (.int .i64 0), (.int .i64 0), (.int .i64 0), .nils] [], some (67, true)⟩,
   ⟨some 71, .call (.func 27) [(.tmp 68), (.tmp 69), (.tmp 70)], some (67, true)⟩,
   ⟨some 72, .bin .eql .int (.tmp 71) (.const (.int .i64 1)), some (67, true)⟩,
   ⟨some 73, .pick (.tmp 67) (.tmp 72) (.const (.bool false)), none⟩,
   ⟨some 74, .move (.tmp 73), none⟩,
   ⟨some 75, .move (.tmp 5), some (74, true)⟩,
   ⟨some 76, .build [(.int .i64 0), (.int .i64 0)] [], some (74, true)⟩,
   ⟨some 77, .call (.func 28) [(.tmp 75), (.tmp 76)], some (74, true)⟩,
   ⟨some 78, .bin .eql .int (.tmp 77) (.const (.int .i64 1)), some (74, true)⟩,
   ⟨some 79, .pick (.tmp 74) (.tmp 78) (.const (.bool false)), none⟩,
   ⟨some 80, .move (.tmp 79), none⟩,
   ⟨some 81, .move (.tmp 9), some (80, true)⟩,
   ⟨some 82, .un .not (.tmp 81), some (80, true)⟩,
   ⟨some 83, .pick (.tmp 80) (.tmp 82) (.const (.bool false)), none⟩,
   ⟨some 84, .move (.tmp 83), none⟩,
   ⟨some 85, .move (.tmp 10), some (84, true)⟩,
   ⟨some 86, .bin .eql .int (.tmp 85) (.const (.int .i64 2)), some (84, true)⟩,
   ⟨some 87, .pick (.tmp 84) (.tmp 86) (.const (.bool false)), none⟩,
   ⟨some 88, .move (.tmp 87), none⟩,
   ⟨some 89, .load true 2 (.tmp 11), some (88, true)⟩,
   ⟨some 90, .build [(.int .i64 0), (.int .i64 0)] [], some (88, true)⟩,
   ⟨some 91, .bin .eql (.struct [(0, false, 1, .int), (1, false, 1, .int)]) (.tmp 89) (.tmp 90), some (88, true)⟩,
   ⟨some 92, .pick (.tmp 88) (.tmp 91) (.const (.bool false)), none⟩,
   ⟨some 93, .move (.tmp 92), none⟩,
   ⟨some 94, .move (.tmp 5), some (93, true)⟩,
   ⟨some 95, .call (.func 19) [(.tmp 94)], some (93, true)⟩,
   ⟨some 96, .pick (.tmp 93) (.tmp 95) (.const (.bool false)), none⟩,
   ⟨some 4, .move (.tmp 96), none⟩]
@[simp] theorem R6_7 (x1 x5 x6 x7 x9 x10 : AV) (l2 l11 : List AV) :
  evK C D (.seq (.region O6_7) (.keep [4] [] c)) ⟨[(1, .v x1), (2, .l 2 0), (5, .v x5), (6, .v x6), (7, .v x7), (9, .v x9), (10, .v x10), (11, .l 11 0)], [(2, l2), (11, l11)], H⟩ k =
  (callN C (.func (.func 10) [] []) [] H).bind fun r0 =>
  guardK r0.1 true (
  (nl (binA .eql .ptr x6 .nilp)).bind fun t3 =>
  guardK t3 true (
  (nl (binA .eql .int x7 (.int .i64 1))).bind fun t7 =>
  guardK t7 true (
  (nl (rd true 4 0 l2)).bind fun t11 =>
  (callN C (.func (.func 25) [] []) [x5, t11] r0.2).bind fun r12 =>
  (nl (binA .eql .int r12.1 (.int .i64 1))).bind fun t13 =>
  guardK t13 true (
  (callN C (.func (.func 26) [] []) [x5] r12.2).bind fun r17 =>
  (lenS r17.1).bind fun t18 =>
  (nl (binA .eql .int t18 (.int .i64 0))).bind fun t19 =>
  guardK t19 true (
  ((fillC [] [(.int .i64 0), (.int .i64 0), (.int .i64 0), .nils, (.bool false), (.int .i64 0), (.int .i64 0), (.str []), (.int .i64 0), (.int .i64 0), (.int .i64 0), (.int .i64 0), (.int .i64 0), (.int .i64 0), (.int .i64 0), (.int .i64 0), (.int .i64 0), .nils]).map AV.agg).bind fun t24 =>
  (callN C (.func (.func 27) [] []) [x5, x1, t24] r17.2).bind fun r25 =>
  (nl (binA .eql .int r25.1 (.int .i64 1))).bind fun t26 =>
  guardK t26 true (
  ((fillC [] [(.int .i64 0), (.int .i64 0)]).map AV.agg).bind fun t30 =>
  (callN C (.func (.func 28) [] []) [x5, t30] r25.2).bind fun r31 =>
  (nl (binA .eql .int r31.1 (.int .i64 1))).bind fun t32 =>
  guardK t32 true (
  (nl (unA .not x9)).bind fun t36 =>
  guardK t36 true (
  (nl (binA .eql .int x10 (.int .i64 2))).bind fun t40 =>
  guardK t40 true (
  (nl (rd true 2 0 l11)).bind fun t43 =>
  ((fillC [] [(.int .i64 0), (.int .i64 0)]).map AV.agg).bind fun t44 =>
  (nl (binA .eql (.struct [(0, false, 1, .int), (1, false, 1, .int)]) t43 t44)).bind fun t45 =>
  guardK t45 true (
  (callN C (.func (.func 19) [] []) [x5] r31.2).bind fun r49 =>
  evK C D c ⟨[(4, .v r49.1)], [], r49.2⟩ k)
  (evK C D c ⟨[(4, .v (.bool false))], [], r31.2⟩ k))
  (evK C D c ⟨[(4, .v (.bool false))], [], r31.2⟩ k))
  (evK C D c ⟨[(4, .v (.bool false))], [], r31.2⟩ k))
  (evK C D c ⟨[(4, .v (.bool false))], [], r31.2⟩ k))
  (evK C D c ⟨[(4, .v (.bool false))], [], r25.2⟩ k))
  (evK C D c ⟨[(4, .v (.bool false))], [], r17.2⟩ k))
  (evK C D c ⟨[(4, .v (.bool false))], [], r12.2⟩ k))
  (evK C D c ⟨[(4, .v (.bool false))], [], r0.2⟩ k))
  (evK C D c ⟨[(4, .v (.bool false))], [], r0.2⟩ k))
  (evK C D c ⟨[(4, .v (.bool false))], [], r0.2⟩ k) := by kernel_rfl
def F6 : FnIR := ⟨97, 2, [.tmp 4], [2, 8, 11],
  .seq (.region O6_0)
  (.keep [1, 2] [2] (.seq (.seq (.region O6_1)
   (.keep [1, 2, 29] [2] (.cond (.tmp 29)
    (.seq (.region O6_2)
    (.keep [4] [] (.ret)))
    (.skip))))
  (.keep [1, 2] [2] (.seq (.region O6_3)
  (.keep [1, 2, 5] [2] (.seq (.region O6_4)
  (.keep [1, 2, 5, 6, 7] [2] (.seq (.region O6_5)
  (.keep [1, 2, 5, 6, 7, 9] [2] (.seq (.region O6_6)
  (.keep [1, 2, 5, 6, 7, 9, 10, 11] [2, 11] (.seq (.region O6_7)
  (.keep [4] [] (.ret))))))))))))))⟩
/-- (*wampum/txn.Txn).Idle -/
def O19_0 : List IOper :=
  [⟨some 2, .move (.const (.bool false)), none⟩]
@[simp] theorem R19_0 (x0 : AV) :
  evK C D (.seq (.region O19_0) (.keep [0] [] c)) ⟨[(0, .v x0)], [], H⟩ k =
  evK C D c ⟨[(0, .v x0)], [], H⟩ k := by kernel_rfl
def O19_1 : List IOper :=
  [⟨some 3, .move (.tmp 0), none⟩,
   ⟨some 4, .bin .eql .ptr (.tmp 3) (.const .nilp), none⟩,
   ⟨some 5, .move (.tmp 4), none⟩,
   ⟨some 6, .move (.tmp 0), some (5, false)⟩,
   ⟨some 7, .nilCheck (.tmp 6), some (5, false)⟩,
   ⟨some 8, .fieldAddr 28 (.tmp 7), some (5, false)⟩,
   ⟨some 9, .load false 1 (.tmp 8), some (5, false)⟩,
   ⟨some 10, .len .slice (.tmp 9), some (5, false)⟩,
   ⟨some 11, .bin .eql .int (.tmp 10) (.const (.int .i64 0)), some (5, false)⟩,
   ⟨some 12, .pick (.tmp 5) (.const (.bool true)) (.tmp 11), none⟩,
   ⟨some 2, .move (.tmp 12), none⟩]
@[simp] theorem R19_1 (x0 : AV) :
  evK C D (.seq (.region O19_1) (.keep [2] [] c)) ⟨[(0, .v x0)], [], H⟩ k =
  (nl (binA .eql .ptr x0 .nilp)).bind fun t1 =>
  guardK t1 false (
  (nilC x0).bind fun t4 =>
  (fldP 28 t4).bind fun t5 =>
  (nl (loadP H false 1 t5)).bind fun t6 =>
  (lenS t6).bind fun t7 =>
  (nl (binA .eql .int t7 (.int .i64 0))).bind fun t8 =>
  evK C D c ⟨[(2, .v t8)], [], H⟩ k)
  (evK C D c ⟨[(2, .v (.bool true))], [], H⟩ k) := by kernel_rfl
def F19 : FnIR := ⟨13, 1, [.tmp 2], [],
  .seq (.region O19_0)
  (.keep [0] [] (.seq (.region O19_1)
  (.keep [2] [] (.ret))))⟩
/-- wampum/txn.New -/
def O22_0 : List IOper :=
  [⟨some 5, .box true 2 (.tmp 2), none⟩,
   ⟨some 6, .move (.const .nilp), none⟩,
   ⟨some 7, .move (.const (.int .i64 0)), none⟩]
@[simp] theorem R22_0 (x0 x1 x2 : AV) :
  evK C D (.seq (.region O22_0) (.keep [0, 1, 5] [5] c)) ⟨[(0, .v x0), (1, .v x1), (2, .v x2)], [], H⟩ k =
  (boxC x2).bind fun m0 =>
  evK C D c ⟨[(0, .v x0), (1, .v x1), (5, .l 5 0)], [(5, m0)], H⟩ k := by kernel_rfl
def O22_1 : List IOper :=
  [⟨some 8, .move (.tmp 0), none⟩,
   ⟨some 9, .bin .eql .ptr (.tmp 8) (.const .nilp), none⟩,
   ⟨some 10, .move (.tmp 9), none⟩,
   ⟨some 11, .move (.tmp 1), some (10, false)⟩,
   ⟨some 12, .bin .lss .none (.tmp 11) (.const (.int .i64 1)), some (10, false)⟩,
   ⟨some 13, .pick (.tmp 10) (.const (.bool true)) (.tmp 12), none⟩,
   ⟨some 14, .move (.tmp 13), none⟩,
   ⟨some 15, .move (.tmp 1), some (14, false)⟩,
   ⟨some 16, .bin .gtr .none (.tmp 15) (.const (.int .i64 1099511627776)), some (14, false)⟩,
   ⟨some 17, .pick (.tmp 14) (.const (.bool true)) (.tmp 16), none⟩,
   ⟨some 18, .move (.tmp 17), none⟩,
   ⟨some 19, .load true 2 (.tmp 5), some (18, false)⟩,
   ⟨some 20, .call (.func 41) [(.tmp 19)], some (18, false)⟩,
   ⟨some 21, .un .not (.tmp 20), some (18, false)⟩,
   ⟨some 22, .pick (.tmp 18) (.const (.bool true)) (.tmp 21), none⟩]
@[simp] theorem R22_1 (x0 x1 : AV) (l5 : List AV) :
  evK C D (.seq (.region O22_1) (.keep [0, 1, 5, 22] [5] c)) ⟨[(0, .v x0), (1, .v x1), (5, .l 5 0)], [(5, l5)], H⟩ k =
  (nl (binA .eql .ptr x0 .nilp)).bind fun t1 =>
  guardK t1 false (
  (nl (binA .lss .none x1 (.int .i64 1))).bind fun t4 =>
  guardK t4 false (
  (nl (binA .gtr .none x1 (.int .i64 1099511627776))).bind fun t8 =>
  guardK t8 false (
  (nl (rd true 2 0 l5)).bind fun t11 =>
  (callN C (.func (.func 41) [] []) [t11] H).bind fun r12 =>
  (nl (unA .not r12.1)).bind fun t13 =>
  evK C D c ⟨[(0, .v x0), (1, .v x1), (5, .l 5 0), (22, .v t13)], [(5, l5)], r12.2⟩ k)
  (evK C D c ⟨[(0, .v x0), (1, .v x1), (5, .l 5 0), (22, .v (.bool true))], [(5, l5)], H⟩ k))
  (evK C D c ⟨[(0, .v x0), (1, .v x1), (5, .l 5 0), (22, .v (.bool true))], [(5, l5)], H⟩ k))
  (evK C D c ⟨[(0, .v x0), (1, .v x1), (5, .l 5 0), (22, .v (.bool true))], [(5, l5)], H⟩ k) := by kernel_rfl
def O22_2 : List IOper :=
  [⟨some 6, .move (.const .nilp), none⟩,
   ⟨some 7, .move (.const (.int .i64 1)), none⟩]
@[simp] theorem R22_2 (x0 x1 x22 : AV) (l5 : List AV) :
  evK C D (.seq (.region O22_2) (.keep [6, 7] [] c)) ⟨[(0, .v x0), (1, .v x1), (5, .l 5 0), (22, .v x22)], [(5, l5)], H⟩ k =
  evK C D c ⟨[(6, .v .nilp), (7, .v (.int .i64 1))], [], H⟩ k := by kernel_rfl
def O22_3 : List IOper :=
  [⟨some 28, .load true 2 (.tmp 5), none⟩,
   ⟨some 29, .call (.func 42) [(.tmp 28), (.const (.int .i64 10))], none⟩,
   ⟨some 23, .move (.tmp 0), none⟩,
   ⟨some 24, .move (.tmp 1), none⟩,
   ⟨some 25, .load true 2 (.tmp 5), none⟩,
   ⟨some 26, .build [(.int .i64 0), (.int .i64 0), (.str []), (.int .i64 0), (.int .i64 0)] [(0, 1, (.tmp 24)), (3, 2, (.tmp 25))], none⟩,
   ⟨some 27, .load true 2 (.tmp 5), none⟩,
   ⟨some 30, .load true 2 (.tmp 5), none⟩,
   ⟨some 31, .mkMap, none⟩,
   ⟨some 32, .build [.nilp, (.int .i64 0), (.int .i64 0), (.str []), (.int .i64 0), (.int .i64 0), (.int .i64 0), (.int .i64 0), (.int .i64 0), (.int .i64 0), (.int .i64 0), (.int .i64 0), .nils, .nilm, (.int .i64 0), (.int .i64 0), (.int .i64 0), (.int .i64 0), (.int .i64 0), (.str []), (.str []), (.str []), (.bool false), (.bool false), (.bool false), (.bool false), (.int .i64 0), .nilp, .nils, (.int .i64 0), (.int .i64 0), .nilm, (.int .i64 0), .nilFunc] [(0, 1, (.tmp 23)), (1, 5, (.tmp 26)), (6, 2, (.tmp 27)), (8, 2, (.tmp 29)), (10, 2, (.tmp 30)), (13, 1, (.tmp 31))], none⟩,
   ⟨some 33, .box false 34 (.tmp 32), none⟩,
   ⟨some 6, .move (.tmp 33), none⟩,
   ⟨some 7, .move (.const (.int .i64 0)), none⟩]
@[simp] theorem R22_3 (x0 x1 : AV) (l5 : List AV) :
  evK C D (.seq (.regionD O22_3 [(4, 0), (6, 0), (7, 0)]) (.keep [6, 7] [] c)) ⟨[(0, .v x0), (1, .v x1), (5, .l 5 0)], [(5, l5)], H⟩ k =
  (nl (rd true 2 0 l5)).bind fun t0 =>
  kB (AV.okB H.n t0) (
  (callN C (.func (.func 42) [] []) [t0, (.int .i64 10)] H).bind fun r1 =>
  (nl (rd true 2 0 l5)).bind fun t4 =>
  kB (AV.okB r1.2.n t4) (
  ((fillC [(0, 1, x1), (3, 2, t4)] [(.int .i64 0), (.int .i64 0), (.str []), (.int .i64 0), (.int .i64 0)]).map AV.agg).bind fun t5 =>
  (nl (rd true 2 0 l5)).bind fun t6 =>
  kB (AV.okB r1.2.n t6) (
  (nl (rd true 2 0 l5)).bind fun t7 =>
  kB (AV.okB r1.2.n t7) (
  (some (AV.map r1.2.n, r1.2.alloc (.map [] 0))).bind fun r8 =>
  ((fillC [(0, 1, x0), (1, 5, t5), (6, 2, t6), (8, 2, r1.1), (10, 2, t7), (13, 1, r8.1)] [.nilp, (.int .i64 0), (.int .i64 0), (.str []), (.int .i64 0), (.int .i64 0), (.int .i64 0), (.int .i64 0), (.int .i64 0), (.int .i64 0), (.int .i64 0), (.int .i64 0), .nils, .nilm, (.int .i64 0), (.int .i64 0), (.int .i64 0), (.int .i64 0), (.int .i64 0), (.str []), (.str []), (.str []), (.bool false), (.bool false), (.bool false), (.bool false), (.int .i64 0), .nilp, .nils, (.int .i64 0), (.int .i64 0), .nilm, (.int .i64 0), .nilFunc]).map AV.agg).bind fun t9 =>
  ((boxC t9).map fun cs => (AV.ptr r8.2.n 0, r8.2.alloc (.row false 34 cs))).bind fun r10 =>
  kB (chk (rd true 2 0 l5) t4) (
  kB (chk (rd true 2 0 l5) t6) (
  kB (chk (rd true 2 0 l5) t7) (
  evK C D c ⟨[(6, .v r10.1), (7, .v (.int .i64 0))], [], r10.2⟩ k))))))) := by kernel_rfl
def F22 : FnIR := ⟨34, 3, [.tmp 6, .tmp 7], [5],
  .seq (.region O22_0)
  (.keep [0, 1, 5] [5] (.seq (.seq (.region O22_1)
   (.keep [0, 1, 5, 22] [5] (.cond (.tmp 22)
    (.seq (.region O22_2)
    (.keep [6, 7] [] (.ret)))
    (.skip))))
  (.keep [0, 1, 5] [5] (.seq (.regionD O22_3 [(4, 0), (6, 0), (7, 0)])
  (.keep [6, 7] [] (.ret))))))⟩
/-- (*wampum/txn.Txn).Answer -/
def O23_0 : List IOper :=
  [⟨some 2, .alloc true 4 [(.int .i64 0), (.int .i64 0), (.int .i64 0), .nils], none⟩,
   ⟨some 3, .move (.const (.bool false)), none⟩]
@[simp] theorem R23_0 (x0 : AV) :
  evK C D (.seq (.region O23_0) (.keep [0, 2] [2] c)) ⟨[(0, .v x0)], [], H⟩ k =
  evK C D c ⟨[(0, .v x0), (2, .l 2 0)], [(2, [(.int .i64 0), (.int .i64 0), (.int .i64 0), .nils])], H⟩ k := by kernel_rfl
def O23_1 : List IOper :=
  [⟨some 5, .move (.tmp 0), none⟩,
   ⟨some 6, .bin .eql .ptr (.tmp 5) (.const .nilp), none⟩,
   ⟨some 7, .move (.tmp 6), none⟩,
   ⟨some 8, .move (.tmp 0), some (7, false)⟩,
   ⟨some 9, .nilCheck (.tmp 8), some (7, false)⟩,
   ⟨some 10, .fieldAddr 27 (.tmp 9), some (7, false)⟩,
   ⟨some 11, .load false 1 (.tmp 10), some (7, false)⟩,
   ⟨some 12, .bin .eql .ptr (.tmp 11) (.const .nilp), some (7, false)⟩,
   ⟨some 13, .pick (.tmp 7) (.const (.bool true)) (.tmp 12), none⟩]
@[simp] theorem R23_1 (x0 : AV) (l2 : List AV) :
  evK C D (.seq (.region O23_1) (.keep [0, 2, 13] [2] c)) ⟨[(0, .v x0), (2, .l 2 0)], [(2, l2)], H⟩ k =
  (nl (binA .eql .ptr x0 .nilp)).bind fun t1 =>
  guardK t1 false (
  (nilC x0).bind fun t4 =>
  (fldP 27 t4).bind fun t5 =>
  (nl (loadP H false 1 t5)).bind fun t6 =>
  (nl (binA .eql .ptr t6 .nilp)).bind fun t7 =>
  evK C D c ⟨[(0, .v x0), (2, .l 2 0), (13, .v t7)], [(2, l2)], H⟩ k)
  (evK C D c ⟨[(0, .v x0), (2, .l 2 0), (13, .v (.bool true))], [(2, l2)], H⟩ k) := by kernel_rfl
def O23_2 : List IOper :=
  [⟨some 14, .build [(.int .i64 0), (.int .i64 0), (.int .i64 0), .nils] [], none⟩,
   ⟨none, .store 4 (.tmp 2) (.tmp 14), none⟩,
   ⟨some 3, .move (.const (.bool false)), none⟩]
@[simp] theorem R23_2 (x0 x13 : AV) (l2 : List AV) :
  evK C D (.seq (.region O23_2) (.keep [2, 3] [2] c)) ⟨[(0, .v x0), (2, .l 2 0), (13, .v x13)], [(2, l2)], H⟩ k =
  ((fillC [] [(.int .i64 0), (.int .i64 0), (.int .i64 0), .nils]).map AV.agg).bind fun t0 =>
  (stL 4 0 t0 l2).bind fun m1 =>
  evK C D c ⟨[(2, .l 2 0), (3, .v (.bool false))], [(2, m1)], H⟩ k := by kernel_rfl
def O23_3 : List IOper :=
  [⟨some 15, .move (.tmp 0), none⟩,
   ⟨some 16, .nilCheck (.tmp 15), none⟩,
   ⟨some 17, .fieldAddr 27 (.tmp 16), none⟩,
   ⟨some 18, .load false 1 (.tmp 17), none⟩,
   ⟨some 19, .nilCheck (.tmp 18), none⟩,
   ⟨some 20, .load true 4 (.tmp 19), none⟩,
   ⟨some 4, .alloc true 4 [(.int .i64 0), (.int .i64 0), (.int .i64 0), .nils], none⟩,
   ⟨none, .store 4 (.tmp 4) (.tmp 20), none⟩]
@[simp] theorem R23_3 (x0 : AV) (l2 : List AV) :
  evK C D (.seq (.region O23_3) (.keep [0, 2, 4] [2, 4] c)) ⟨[(0, .v x0), (2, .l 2 0)], [(2, l2)], H⟩ k =
  (nilC x0).bind fun t1 =>
  (fldP 27 t1).bind fun t2 =>
  (nl (loadP H false 1 t2)).bind fun t3 =>
  (nilC t3).bind fun t4 =>
  (nl (loadP H true 4 t4)).bind fun t5 =>
  (stL 4 0 t5 [(.int .i64 0), (.int .i64 0), (.int .i64 0), .nils]).bind fun m7 =>
  evK C D c ⟨[(0, .v x0), (2, .l 2 0), (4, .l 4 0)], [(2, l2), (4, m7)], H⟩ k := by kernel_rfl
def O23_4 : List IOper :=
  [⟨some 21, .move (.tmp 0), none⟩,
   ⟨some 22, .nilCheck (.tmp 21), none⟩,
   ⟨some 23, .fieldAddr 27 (.tmp 22), none⟩,
   ⟨none, .store 1 (.tmp 23) (.const .nilp), none⟩]
@[simp] theorem R23_4 (x0 : AV) (l2 l4 : List AV) :
  evK C D (.seq (.region O23_4) (.keep [2, 4] [2, 4] c)) ⟨[(0, .v x0), (2, .l 2 0), (4, .l 4 0)], [(2, l2), (4, l4)], H⟩ k =
  (nilC x0).bind fun t1 =>
  (fldP 27 t1).bind fun t2 =>
  (storeP H 1 .nilp t2).bind fun H3 =>
  evK C D c ⟨[(2, .l 2 0), (4, .l 4 0)], [(2, l2), (4, l4)], H3⟩ k := by kernel_rfl
def O23_5 : List IOper :=
  [⟨some 24, .load true 4 (.tmp 4), none⟩,
   ⟨none, .store 4 (.tmp 2) (.tmp 24), none⟩,
   ⟨some 3, .move (.const (.bool true)), none⟩]
@[simp] theorem R23_5 (l2 l4 : List AV) :
  evK C D (.seq (.region O23_5) (.keep [2, 3] [2] c)) ⟨[(2, .l 2 0), (4, .l 4 0)], [(2, l2), (4, l4)], H⟩ k =
  (nl (rd true 4 0 l4)).bind fun t0 =>
  (stL 4 0 t0 l2).bind fun m1 =>
  evK C D c ⟨[(2, .l 2 0), (3, .v (.bool true))], [(2, m1)], H⟩ k := by kernel_rfl
def F23 : FnIR := ⟨25, 1, [.cell 2 true 4, .tmp 3], [2, 4],
  .seq (.region O23_0)
  (.keep [0, 2] [2] (.seq (.seq (.region O23_1)
   (.keep [0, 2, 13] [2] (.cond (.tmp 13)
    (.seq (.region O23_2)
    (.keep [2, 3] [2] (.ret)))
    (.skip))))
  (.keep [0, 2] [2] (.seq (.region O23_3)
  (.keep [0, 2, 4] [2, 4] (.seq (.region O23_4)
  (.keep [2, 4] [2, 4] (.seq (.region O23_5)
  (.keep [2, 3] [2] (.ret))))))))))⟩
/-- (*wampum/txn.Txn).Status -/
def O24_0 : List IOper :=
  [⟨some 2, .move (.const (.int .i64 0)), none⟩,
   ⟨some 3, .alloc true 2 [(.int .i64 0), (.int .i64 0)], none⟩]
@[simp] theorem R24_0 (x0 : AV) :
  evK C D (.seq (.region O24_0) (.keep [0, 3] [3] c)) ⟨[(0, .v x0)], [], H⟩ k =
  evK C D c ⟨[(0, .v x0), (3, .l 3 0)], [(3, [(.int .i64 0), (.int .i64 0)])], H⟩ k := by kernel_rfl
def O24_1 : List IOper :=
  [⟨some 4, .move (.tmp 0), none⟩,
   ⟨some 5, .bin .eql .ptr (.tmp 4) (.const .nilp), none⟩]
@[simp] theorem R24_1 (x0 : AV) (l3 : List AV) :
  evK C D (.seq (.region O24_1) (.keep [0, 3, 5] [3] c)) ⟨[(0, .v x0), (3, .l 3 0)], [(3, l3)], H⟩ k =
  (nl (binA .eql .ptr x0 .nilp)).bind fun t1 =>
  evK C D c ⟨[(0, .v x0), (3, .l 3 0), (5, .v t1)], [(3, l3)], H⟩ k := by kernel_rfl
def O24_2 : List IOper :=
  [⟨some 6, .build [(.int .i64 0), (.int .i64 0)] [], none⟩,
   ⟨some 2, .move (.const (.int .i64 2)), none⟩,
   ⟨none, .store 2 (.tmp 3) (.tmp 6), none⟩]
@[simp] theorem R24_2 (x0 x5 : AV) (l3 : List AV) :
  evK C D (.seq (.region O24_2) (.keep [2, 3] [3] c)) ⟨[(0, .v x0), (3, .l 3 0), (5, .v x5)], [(3, l3)], H⟩ k =
  ((fillC [] [(.int .i64 0), (.int .i64 0)]).map AV.agg).bind fun t0 =>
  (stL 2 0 t0 l3).bind fun m2 =>
  evK C D c ⟨[(2, .v (.int .i64 2)), (3, .l 3 0)], [(3, m2)], H⟩ k := by kernel_rfl
def O24_3 : List IOper :=
  [⟨some 7, .move (.tmp 0), none⟩,
   ⟨some 8, .nilCheck (.tmp 7), none⟩,
   ⟨some 9, .fieldAddr 15 (.tmp 8), none⟩,
   ⟨some 10, .load false 1 (.tmp 9), none⟩,
   ⟨some 11, .move (.tmp 0), none⟩,
   ⟨some 12, .nilCheck (.tmp 11), none⟩,
   ⟨some 13, .fieldAddr 16 (.tmp 12), none⟩,
   ⟨some 14, .load true 2 (.tmp 13), none⟩,
   ⟨some 2, .move (.tmp 10), none⟩,
   ⟨none, .store 2 (.tmp 3) (.tmp 14), none⟩]
@[simp] theorem R24_3 (x0 : AV) (l3 : List AV) :
  evK C D (.seq (.regionD O24_3 []) (.keep [2, 3] [3] c)) ⟨[(0, .v x0), (3, .l 3 0)], [(3, l3)], H⟩ k =
  (nilC x0).bind fun t1 =>
  (fldP 15 t1).bind fun t2 =>
  (nl (loadP H false 1 t2)).bind fun t3 =>
  kB (AV.okB H.n t3) (
  (nilC x0).bind fun t5 =>
  (fldP 16 t5).bind fun t6 =>
  (nl (loadP H true 2 t6)).bind fun t7 =>
  kB (AV.okB H.n t7) (
  (stL 2 0 t7 l3).bind fun m9 =>
  evK C D c ⟨[(2, .v t3), (3, .l 3 0)], [(3, m9)], H⟩ k)) := by kernel_rfl
def F24 : FnIR := ⟨15, 1, [.tmp 2, .cell 3 true 2], [3],
  .seq (.region O24_0)
  (.keep [0, 3] [3] (.seq (.seq (.region O24_1)
   (.keep [0, 3, 5] [3] (.cond (.tmp 5)
    (.seq (.region O24_2)
    (.keep [2, 3] [3] (.ret)))
    (.skip))))
  (.keep [0, 3] [3] (.seq (.regionD O24_3 [])
  (.keep [2, 3] [3] (.ret))))))⟩
/-- (*wampum/txn.Txn).Do -/
def O25_0 : List IOper :=
  [⟨some 3, .box true 4 (.tmp 1), none⟩,
   ⟨some 4, .move (.const (.int .i64 0)), none⟩]
@[simp] theorem R25_0 (x0 x1 : AV) :
  evK C D (.seq (.region O25_0) (.keep [0, 3] [3] c)) ⟨[(0, .v x0), (1, .v x1)], [], H⟩ k =
  (boxC x1).bind fun m0 =>
  evK C D c ⟨[(0, .v x0), (3, .l 3 0)], [(3, m0)], H⟩ k := by kernel_rfl
def O25_1 : List IOper :=
  [⟨some 6, .move (.tmp 0), none⟩,
   ⟨some 7, .bin .eql .ptr (.tmp 6) (.const .nilp), none⟩,
   ⟨some 8, .move (.tmp 7), none⟩,
   ⟨some 9, .move (.tmp 0), some (8, false)⟩,
   ⟨some 10, .load true 4 (.tmp 3), some (8, false)⟩,
   ⟨some 11, .call (.func 43) [(.tmp 9), (.tmp 10)], some (8, false)⟩,
   ⟨some 12, .un .not (.tmp 11), some (8, false)⟩,
   ⟨some 13, .pick (.tmp 8) (.const (.bool true)) (.tmp 12), none⟩,
   ⟨some 5, .move (.tmp 13), none⟩]
@[simp] theorem R25_1 (x0 : AV) (l3 : List AV) :
  evK C D (.seq (.region O25_1) (.keep [0, 3, 5] [3] c)) ⟨[(0, .v x0), (3, .l 3 0)], [(3, l3)], H⟩ k =
  (nl (binA .eql .ptr x0 .nilp)).bind fun t1 =>
  guardK t1 false (
  (nl (rd true 4 0 l3)).bind fun t4 =>
  (callN C (.func (.func 43) [] []) [x0, t4] H).bind fun r5 =>
  (nl (unA .not r5.1)).bind fun t6 =>
  evK C D c ⟨[(0, .v x0), (3, .l 3 0), (5, .v t6)], [(3, l3)], r5.2⟩ k)
  (evK C D c ⟨[(0, .v x0), (3, .l 3 0), (5, .v (.bool true))], [(3, l3)], H⟩ k) := by kernel_rfl
def O25_2 : List IOper :=
  [⟨some 4, .move (.const (.int .i64 1)), none⟩]
@[simp] theorem R25_2 (x0 x5 : AV) (l3 : List AV) :
  evK C D (.seq (.region O25_2) (.keep [4] [] c)) ⟨[(0, .v x0), (3, .l 3 0), (5, .v x5)], [(3, l3)], H⟩ k =
  evK C D c ⟨[(4, .v (.int .i64 1))], [], H⟩ k := by kernel_rfl
def O25_3 : List IOper :=
  [⟨some 15, .move (.tmp 0), none⟩,
   ⟨some 16, .nilCheck (.tmp 15), none⟩,
   ⟨some 17, .fieldAddr 22 (.tmp 16), none⟩,
   ⟨some 18, .load false 1 (.tmp 17), none⟩,
   ⟨some 19, .move (.tmp 18), none⟩,
   ⟨some 20, .move (.tmp 0), some (19, false)⟩,
   ⟨some 21, .nilCheck (.tmp 20), some (19, false)⟩,
   ⟨some 22, .fieldAddr 15 (.tmp 21), some (19, false)⟩,
   ⟨some 23, .load false 1 (.tmp 22), some (19, false)⟩,
   ⟨some 24, .bin .neq .int (.tmp 23) (.const (.int .i64 0)), some (19, false)⟩,
   ⟨some 25, .pick (.tmp 19) (.const (.bool true)) (.tmp 24), none⟩,
   ⟨some 26, .move (.tmp 25), none⟩,
   ⟨some 27, .move (.tmp 0), some (26, false)⟩,
   ⟨some 28, .nilCheck (.tmp 27), some (26, false)⟩,
   ⟨some 29, .fieldAddr 25 (.tmp 28), some (26, false)⟩,
   ⟨some 30, .load false 1 (.tmp 29), some (26, false)⟩,
   ⟨some 31, .pick (.tmp 26) (.const (.bool true)) (.tmp 30), none⟩,
   ⟨some 14, .move (.tmp 31), none⟩]
@[simp] theorem R25_3 (x0 x5 : AV) (l3 : List AV) :
  evK C D (.seq (.region O25_3) (.keep [0, 3, 14] [3] c)) ⟨[(0, .v x0), (3, .l 3 0), (5, .v x5)], [(3, l3)], H⟩ k =
  (nilC x0).bind fun t1 =>
  (fldP 22 t1).bind fun t2 =>
  (nl (loadP H false 1 t2)).bind fun t3 =>
  guardK t3 false (
  (nilC x0).bind fun t6 =>
  (fldP 15 t6).bind fun t7 =>
  (nl (loadP H false 1 t7)).bind fun t8 =>
  (nl (binA .neq .int t8 (.int .i64 0))).bind fun t9 =>
  guardK t9 false (
  (nilC x0).bind fun t13 =>
  (fldP 25 t13).bind fun t14 =>
  (nl (loadP H false 1 t14)).bind fun t15 =>
  evK C D c ⟨[(0, .v x0), (3, .l 3 0), (14, .v t15)], [(3, l3)], H⟩ k)
  (evK C D c ⟨[(0, .v x0), (3, .l 3 0), (14, .v (.bool true))], [(3, l3)], H⟩ k))
  (evK C D c ⟨[(0, .v x0), (3, .l 3 0), (14, .v (.bool true))], [(3, l3)], H⟩ k) := by kernel_rfl
def O25_4 : List IOper :=
  [⟨some 4, .move (.const (.int .i64 223)), none⟩]
@[simp] theorem R25_4 (x0 x14 : AV) (l3 : List AV) :
  evK C D (.seq (.region O25_4) (.keep [4] [] c)) ⟨[(0, .v x0), (3, .l 3 0), (14, .v x14)], [(3, l3)], H⟩ k =
  evK C D c ⟨[(4, .v (.int .i64 223))], [], H⟩ k := by kernel_rfl
def O25_5 : List IOper :=
  [⟨some 32, .move (.tmp 0), none⟩,
   ⟨some 33, .move (.tmp 0), none⟩,
   ⟨some 34, .move (.tmp 0), none⟩,
   ⟨some 35, .move (.tmp 0), none⟩,
   ⟨some 36, .load true 4 (.tmp 3), none⟩,
   ⟨some 37, .nilCheck (.tmp 32), none⟩,
   ⟨some 38, .fieldAddr 18 (.tmp 37), none⟩,
   ⟨none, .store 4 (.tmp 38) (.tmp 36), none⟩,
   ⟨some 39, .nilCheck (.tmp 33), none⟩,
   ⟨some 40, .fieldAddr 22 (.tmp 39), none⟩,
   ⟨none, .store 1 (.tmp 40) (.const (.bool true)), none⟩,
   ⟨some 41, .nilCheck (.tmp 34), none⟩,
   ⟨some 42, .fieldAddr 23 (.tmp 41), none⟩,
   ⟨none, .store 1 (.tmp 42) (.const (.bool false)), none⟩,
   ⟨some 43, .nilCheck (.tmp 35), none⟩,
   ⟨some 44, .fieldAddr 26 (.tmp 43), none⟩,
   ⟨none, .store 1 (.tmp 44) (.const (.int .i64 0)), none⟩]
@[simp] theorem R25_5 (x0 : AV) (l3 : List AV) :
  evK C D (.seq (.region O25_5) (.keep [0] [] c)) ⟨[(0, .v x0), (3, .l 3 0)], [(3, l3)], H⟩ k =
  (nl (rd true 4 0 l3)).bind fun t4 =>
  (nilC x0).bind fun t5 =>
  (fldP 18 t5).bind fun t6 =>
  (storeP H 4 t4 t6).bind fun H7 =>
  (nilC x0).bind fun t8 =>
  (fldP 22 t8).bind fun t9 =>
  (storeP H7 1 (.bool true) t9).bind fun H10 =>
  (nilC x0).bind fun t11 =>
  (fldP 23 t11).bind fun t12 =>
  (storeP H10 1 (.bool false) t12).bind fun H13 =>
  (nilC x0).bind fun t14 =>
  (fldP 26 t14).bind fun t15 =>
  (storeP H13 1 (.int .i64 0) t15).bind fun H16 =>
  evK C D c ⟨[(0, .v x0)], [], H16⟩ k := by kernel_rfl
def O25_6 : List IOper :=
  [⟨some 45, .move (.tmp 0), none⟩,
   ⟨some 46, .call (.func 44) [(.tmp 45)], none⟩]
@[simp] theorem R25_6 (x0 : AV) :
  evK C D (.seq (.region O25_6) (.keep [] [] c)) ⟨[(0, .v x0)], [], H⟩ k =
  (callN C (.func (.func 44) [] []) [x0] H).bind fun r1 =>
  evK C D c ⟨[], [], r1.2⟩ k := by kernel_rfl
def O25_7 : List IOper :=
  [⟨some 4, .move (.const (.int .i64 0)), none⟩]
@[simp] theorem R25_7 :
  evK C D (.seq (.region O25_7) (.keep [4] [] c)) ⟨[], [], H⟩ k =
  evK C D c ⟨[(4, .v (.int .i64 0))], [], H⟩ k := by kernel_rfl
def F25 : FnIR := ⟨47, 2, [.tmp 4], [3],
  .seq (.region O25_0)
  (.keep [0, 3] [3] (.seq (.block 0 (.seq (.region O25_1)
    (.keep [0, 3, 5] [3] (.cond (.tmp 5)
     (.seq (.region O25_2)
     (.keep [4] [] (.ret)))
     (.seq (.region O25_3)
     (.keep [0, 3, 14] [3] (.cond (.tmp 14)
      (.seq (.region O25_4)
      (.keep [4] [] (.ret)))
      (.skip))))))))
  (.keep [0, 3] [3] (.seq (.region O25_5)
  (.keep [0] [] (.seq (.region O25_6)
  (.keep [] [] (.seq (.region O25_7)
  (.keep [4] [] (.ret))))))))))⟩
/-- (*wampum/txn.Txn).Wants -/
def O26_0 : List IOper :=
  [⟨some 2, .move (.const .nils), none⟩]
@[simp] theorem R26_0 (x0 : AV) :
  evK C D (.seq (.region O26_0) (.keep [0] [] c)) ⟨[(0, .v x0)], [], H⟩ k =
  evK C D c ⟨[(0, .v x0)], [], H⟩ k := by kernel_rfl
def O26_1 : List IOper :=
  [⟨some 6, .move (.tmp 0), none⟩,
   ⟨some 7, .bin .eql .ptr (.tmp 6) (.const .nilp), none⟩]
@[simp] theorem R26_1 (x0 : AV) :
  evK C D (.seq (.region O26_1) (.keep [0, 7] [] c)) ⟨[(0, .v x0)], [], H⟩ k =
  (nl (binA .eql .ptr x0 .nilp)).bind fun t1 =>
  evK C D c ⟨[(0, .v x0), (7, .v t1)], [], H⟩ k := by kernel_rfl
def O26_2 : List IOper :=
  [⟨some 2, .move (.const .nils), none⟩]
@[simp] theorem R26_2 (x0 x7 : AV) :
  evK C D (.seq (.region O26_2) (.keep [2] [] c)) ⟨[(0, .v x0), (7, .v x7)], [], H⟩ k =
  evK C D c ⟨[(2, .v .nils)], [], H⟩ k := by kernel_rfl
def O26_3 : List IOper :=
  [⟨some 3, .move (.const .nils), none⟩]
@[simp] theorem R26_3 (x0 : AV) :
  evK C D (.seq (.region O26_3) (.keep [0, 3] [] c)) ⟨[(0, .v x0)], [], H⟩ k =
  evK C D c ⟨[(0, .v x0), (3, .v .nils)], [], H⟩ k := by kernel_rfl
def O26_4 : List IOper :=
  [⟨some 8, .move (.tmp 0), none⟩,
   ⟨some 9, .nilCheck (.tmp 8), none⟩,
   ⟨some 10, .fieldAddr 28 (.tmp 9), none⟩,
   ⟨some 11, .load false 1 (.tmp 10), none⟩,
   ⟨some 12, .len .slice (.tmp 11), none⟩,
   ⟨some 13, .move (.const (.int .i64 0)), none⟩]
@[simp] theorem R26_4 (x0 x3 : AV) :
  evK C D (.seq (.region O26_4) (.keep [3, 11, 12, 13] [] c)) ⟨[(0, .v x0), (3, .v x3)], [], H⟩ k =
  (nilC x0).bind fun t1 =>
  (fldP 28 t1).bind fun t2 =>
  (nl (loadP H false 1 t2)).bind fun t3 =>
  (lenS t3).bind fun t4 =>
  evK C D c ⟨[(3, .v x3), (11, .v t3), (12, .v t4), (13, .v (.int .i64 0))], [], H⟩ k := by kernel_rfl
def O26_5 : List IOper :=
  [⟨some 14, .bin .lss .none (.tmp 13) (.tmp 12), none⟩]
@[simp] theorem R26_5 (x3 x11 x12 x13 : AV) :
  evK C D (.seq (.region O26_5) (.keep [3, 11, 12, 13, 14] [] c)) ⟨[(3, .v x3), (11, .v x11), (12, .v x12), (13, .v x13)], [], H⟩ k =
  (nl (binA .lss .none x13 x12)).bind fun t0 =>
  evK C D c ⟨[(3, .v x3), (11, .v x11), (12, .v x12), (13, .v x13), (14, .v t0)], [], H⟩ k := by kernel_rfl
def O26_6 : List IOper :=
  [⟨some 15, .indexAddr none 1 (.tmp 11) (.tmp 13), none⟩,
   ⟨some 16, .load false 1 (.tmp 15), none⟩,
   ⟨some 5, .move (.tmp 16), none⟩]
@[simp] theorem R26_6 (x3 x11 x12 x13 : AV) :
  evK C D (.seq (.region O26_6) (.keep [3, 5, 11, 12, 13] [] c)) ⟨[(3, .v x3), (11, .v x11), (12, .v x12), (13, .v x13)], [], H⟩ k =
  (nl (idxS 1 x11 x13)).bind fun t0 =>
  (nl (loadP H false 1 t0)).bind fun t1 =>
  evK C D c ⟨[(3, .v x3), (5, .v t1), (11, .v x11), (12, .v x12), (13, .v x13)], [], H⟩ k := by kernel_rfl
def O26_7 : List IOper :=
  [⟨some 17, .move (.tmp 5), none⟩,
   ⟨some 18, .nilCheck (.tmp 17), none⟩,
   ⟨some 19, .fieldAddr 46 (.tmp 18), none⟩,
   ⟨some 20, .load false 1 (.tmp 19), none⟩,
   ⟨some 21, .un .not (.tmp 20), none⟩]
@[simp] theorem R26_7 (x3 x5 x11 x12 x13 : AV) :
  evK C D (.seq (.region O26_7) (.keep [3, 5, 11, 12, 13, 21] [] c)) ⟨[(3, .v x3), (5, .v x5), (11, .v x11), (12, .v x12), (13, .v x13)], [], H⟩ k =
  (nilC x5).bind fun t1 =>
  (fldP 46 t1).bind fun t2 =>
  (nl (loadP H false 1 t2)).bind fun t3 =>
  (nl (unA .not t3)).bind fun t4 =>
  evK C D c ⟨[(3, .v x3), (5, .v x5), (11, .v x11), (12, .v x12), (13, .v x13), (21, .v t4)], [], H⟩ k := by kernel_rfl
def O26_8 : List IOper :=
  [⟨some 22, .move (.tmp 3), none⟩,
   ⟨some 23, .move (.tmp 5), none⟩,
   ⟨some 24, .nilCheck (.tmp 23), none⟩,
   ⟨some 25, .fieldAddr 0 (.tmp 24), none⟩,
   ⟨some 26, .load false 1 (.tmp 25), none⟩,
   ⟨some 27, .move (.tmp 5), none⟩,
   ⟨some 28, .nilCheck (.tmp 27), none⟩,
   ⟨some 29, .fieldAddr 23 (.tmp 28), none⟩,
   ⟨some 30, .load true 22 (.tmp 29), none⟩,
   ⟨some 31, .build [(.int .i64 0), (.int .i64 0), (.int .i64 0), (.int .i64 0), (.int .i64 0), (.int .i64 0), (.int .i64 0), (.str []), (.int .i64 0), (.int .i64 0), (.int .i64 0), (.str []), (.str []), (.str []), (.bool false), (.int .i64 0), (.int .i64 0), (.int .i64 0), (.int .i64 0), (.bool false), (.bool false), .nils, (.int .i64 0)] [(0, 1, (.tmp 26)), (1, 22, (.tmp 30))], none⟩,
   ⟨some 32, .buildSlice 23 1 [(.int .i64 0), (.int .i64 0), (.int .i64 0), (.int .i64 0), (.int .i64 0), (.int .i64 0), (.int .i64 0), (.str []), (.int .i64 0), (.int .i64 0), (.int .i64 0), (.str []), (.str []), (.str []), (.bool false), (.int .i64 0), (.int .i64 0), (.int .i64 0), (.int .i64 0), (.bool false), (.bool false), .nils, (.int .i64 0)] [(0, 23, (.tmp 31))], none⟩,
   ⟨some 33, .append 23 224 (.tmp 22) (.tmp 32), none⟩,
   ⟨some 3, .move (.tmp 33), none⟩]
@[simp] theorem R26_8 (x3 x5 x11 x12 x13 x21 : AV) :
  evK C D (.regionD O26_8 []) ⟨[(3, .v x3), (5, .v x5), (11, .v x11), (12, .v x12), (13, .v x13), (21, .v x21)], [], H⟩ k =
  (nilC x5).bind fun t2 =>
  (fldP 0 t2).bind fun t3 =>
  (nl (loadP H false 1 t3)).bind fun t4 =>
  kB (AV.okB H.n t4) (
  (nilC x5).bind fun t6 =>
  (fldP 23 t6).bind fun t7 =>
  (nl (loadP H true 22 t7)).bind fun t8 =>
  kB (AV.okB H.n t8) (
  ((fillC [(0, 1, t4), (1, 22, t8)] [(.int .i64 0), (.int .i64 0), (.int .i64 0), (.int .i64 0), (.int .i64 0), (.int .i64 0), (.int .i64 0), (.str []), (.int .i64 0), (.int .i64 0), (.int .i64 0), (.str []), (.str []), (.str []), (.bool false), (.int .i64 0), (.int .i64 0), (.int .i64 0), (.int .i64 0), (.bool false), (.bool false), .nils, (.int .i64 0)]).map AV.agg).bind fun t9 =>
  ((fillC [(0, 23, t9)] [(.int .i64 0), (.int .i64 0), (.int .i64 0), (.int .i64 0), (.int .i64 0), (.int .i64 0), (.int .i64 0), (.str []), (.int .i64 0), (.int .i64 0), (.int .i64 0), (.str []), (.str []), (.str []), (.bool false), (.int .i64 0), (.int .i64 0), (.int .i64 0), (.int .i64 0), (.bool false), (.bool false), .nils, (.int .i64 0)]).map fun cs => (AV.slice H.n 0 1 1, H.alloc (.row false 23 cs))).bind fun r10 =>
  (nlR (appendA r10.2 23 224 x3 r10.1)).bind fun r11 =>
  k .normal ⟨[(3, .v r11.1), (33, .v r11.1), (32, .v r10.1), (31, .v t9), (30, .v t8), (29, .v t7), (28, .v t6), (27, .v x5), (26, .v t4), (25, .v t3), (24, .v t2), (23, .v x5), (22, .v x3), (3, .v x3), (5, .v x5), (11, .v x11), (12, .v x12), (13, .v x13), (21, .v x21)], [], r11.2⟩)) := by kernel_rfl
def O26_9 : List IOper :=
  [⟨some 34, .bin .add .none (.tmp 13) (.const (.int .i64 1)), none⟩,
   ⟨some 13, .move (.tmp 34), none⟩]
@[simp] theorem R26_9 (x3 x11 x12 x13 : AV) :
  evK C D (.region O26_9) ⟨[(3, .v x3), (11, .v x11), (12, .v x12), (13, .v x13)], [], H⟩ k =
  (nl (binA .add .none x13 (.int .i64 1))).bind fun t0 =>
  k .normal ⟨[(13, .v t0), (34, .v t0), (3, .v x3), (11, .v x11), (12, .v x12), (13, .v x13)], [], H⟩ := by kernel_rfl
def B26_0 : IC :=
  .seq (.region O26_5)
  (.keep [3, 11, 12, 13, 14] [] (.seq (.cond (.tmp 14)
    (.skip)
    (.exit 0))
  (.keep [3, 11, 12, 13] [] (.seq (.block 1 (.seq (.region O26_6)
    (.keep [3, 5, 11, 12, 13] [] (.seq (.region O26_7)
    (.keep [3, 5, 11, 12, 13, 21] [] (.cond (.tmp 21)
     (.regionD O26_8 [])
     (.skip)))))))
  (.keep [3, 11, 12, 13] [] (.region O26_9))))))
def L26_0 : IC := .keep [3, 11, 12, 13] [] B26_0
@[simp] theorem LK26_0 (s : SK) (k : AExit → SK → Option R) : evK C D (.loop L26_0) s k = (D (.loop L26_0) (prK [3, 11, 12, 13] [] s).toSt).bind fun r => k r.1 (ofSt r.2) := by kernel_rfl
def O26_10 : List IOper :=
  [⟨some 35, .move (.tmp 3), none⟩,
   ⟨some 36, .call (.func 45) [(.tmp 35), (.func 46)], none⟩]
@[simp] theorem R26_10 (x3 : AV) :
  evK C D (.seq (.region O26_10) (.keep [3] [] c)) ⟨[(3, .v x3)], [], H⟩ k =
  (callN C (.func (.func 45) [] []) [x3, (.func (.func 46) [] [])] H).bind fun r1 =>
  evK C D c ⟨[(3, .v x3)], [], r1.2⟩ k := by kernel_rfl
def O26_11 : List IOper :=
  [⟨some 37, .move (.tmp 3), none⟩,
   ⟨some 2, .move (.tmp 37), none⟩]
@[simp] theorem R26_11 (x3 : AV) :
  evK C D (.seq (.region O26_11) (.keep [2] [] c)) ⟨[(3, .v x3)], [], H⟩ k =
  evK C D c ⟨[(2, .v x3)], [], H⟩ k := by kernel_rfl
def F26 : FnIR := ⟨38, 1, [.tmp 2], [],
  .seq (.region O26_0)
  (.keep [0] [] (.seq (.seq (.region O26_1)
   (.keep [0, 7] [] (.cond (.tmp 7)
    (.seq (.region O26_2)
    (.keep [2] [] (.ret)))
    (.skip))))
  (.keep [0] [] (.seq (.region O26_3)
  (.keep [0, 3] [] (.seq (.seq (.region O26_4)
   (.keep [3, 11, 12, 13] [] (.block 0 (.loop L26_0))))
  (.keep [3] [] (.seq (.region O26_10)
  (.keep [3] [] (.seq (.region O26_11)
  (.keep [2] [] (.ret))))))))))))⟩
/-- (*wampum/txn.Txn).Hear -/
def O27_0 : List IOper :=
  [⟨some 4, .box false 1 (.tmp 1), none⟩,
   ⟨some 5, .box true 18 (.tmp 2), none⟩,
   ⟨some 6, .move (.const (.int .i64 0)), none⟩]
@[simp] theorem R27_0 (x0 x1 x2 : AV) :
  evK C D (.seq (.region O27_0) (.keep [0, 4, 5] [5] c)) ⟨[(0, .v x0), (1, .v x1), (2, .v x2)], [], H⟩ k =
  ((boxC x1).map fun cs => (AV.ptr H.n 0, H.alloc (.row false 1 cs))).bind fun r0 =>
  (boxC x2).bind fun m1 =>
  evK C D c ⟨[(0, .v x0), (4, .v r0.1), (5, .l 5 0)], [(5, m1)], r0.2⟩ k := by kernel_rfl
def O27_1 : List IOper :=
  [⟨some 9, .move (.tmp 0), none⟩,
   ⟨some 10, .bin .eql .ptr (.tmp 9) (.const .nilp), none⟩]
@[simp] theorem R27_1 (x0 x4 : AV) (l5 : List AV) :
  evK C D (.seq (.region O27_1) (.keep [0, 4, 5, 10] [5] c)) ⟨[(0, .v x0), (4, .v x4), (5, .l 5 0)], [(5, l5)], H⟩ k =
  (nl (binA .eql .ptr x0 .nilp)).bind fun t1 =>
  evK C D c ⟨[(0, .v x0), (4, .v x4), (5, .l 5 0), (10, .v t1)], [(5, l5)], H⟩ k := by kernel_rfl
def O27_2 : List IOper :=
  [⟨some 6, .move (.const (.int .i64 1)), none⟩]
@[simp] theorem R27_2 (x0 x4 x10 : AV) (l5 : List AV) :
  evK C D (.seq (.region O27_2) (.keep [6] [] c)) ⟨[(0, .v x0), (4, .v x4), (5, .l 5 0), (10, .v x10)], [(5, l5)], H⟩ k =
  evK C D c ⟨[(6, .v (.int .i64 1))], [], H⟩ k := by kernel_rfl
def O27_3 : List IOper :=
  [⟨some 11, .move (.tmp 0), none⟩,
   ⟨some 12, .nilCheck (.tmp 11), none⟩,
   ⟨some 13, .fieldAddr 28 (.tmp 12), none⟩,
   ⟨some 14, .load false 1 (.tmp 13), none⟩,
   ⟨some 15, .mkFunc (.func 48) [] [(.tmp 4)], none⟩,
   ⟨some 16, .call (.func 47) [(.tmp 14), (.tmp 15)], none⟩,
   ⟨some 7, .move (.tmp 16), none⟩]
@[simp] theorem R27_3 (x0 x4 : AV) (l5 : List AV) :
  evK C D (.seq (.region O27_3) (.keep [0, 5, 7] [5] c)) ⟨[(0, .v x0), (4, .v x4), (5, .l 5 0)], [(5, l5)], H⟩ k =
  (nilC x0).bind fun t1 =>
  (fldP 28 t1).bind fun t2 =>
  (nl (loadP H false 1 t2)).bind fun t3 =>
  (funcV (.func 48) [] [x4]).bind fun t4 =>
  (callN C (.func (.func 47) [] []) [t3, t4] H).bind fun r5 =>
  evK C D c ⟨[(0, .v x0), (5, .l 5 0), (7, .v r5.1)], [(5, l5)], r5.2⟩ k := by kernel_rfl
def O27_4 : List IOper :=
  [⟨some 17, .move (.tmp 7), none⟩,
   ⟨some 18, .bin .lss .none (.tmp 17) (.const (.int .i64 0)), none⟩]
@[simp] theorem R27_4 (x0 x7 : AV) (l5 : List AV) :
  evK C D (.seq (.region O27_4) (.keep [0, 5, 7, 18] [5] c)) ⟨[(0, .v x0), (5, .l 5 0), (7, .v x7)], [(5, l5)], H⟩ k =
  (nl (binA .lss .none x7 (.int .i64 0))).bind fun t1 =>
  evK C D c ⟨[(0, .v x0), (5, .l 5 0), (7, .v x7), (18, .v t1)], [(5, l5)], H⟩ k := by kernel_rfl
def O27_5 : List IOper :=
  [⟨some 6, .move (.const (.int .i64 222)), none⟩]
@[simp] theorem R27_5 (x0 x7 x18 : AV) (l5 : List AV) :
  evK C D (.seq (.region O27_5) (.keep [6] [] c)) ⟨[(0, .v x0), (5, .l 5 0), (7, .v x7), (18, .v x18)], [(5, l5)], H⟩ k =
  evK C D c ⟨[(6, .v (.int .i64 222))], [], H⟩ k := by kernel_rfl
def O27_6 : List IOper :=
  [⟨some 19, .move (.tmp 0), none⟩,
   ⟨some 20, .nilCheck (.tmp 19), none⟩,
   ⟨some 21, .fieldAddr 28 (.tmp 20), none⟩,
   ⟨some 22, .load false 1 (.tmp 21), none⟩,
   ⟨some 23, .move (.tmp 7), none⟩,
   ⟨some 24, .indexAddr none 1 (.tmp 22) (.tmp 23), none⟩,
   ⟨some 25, .load false 1 (.tmp 24), none⟩,
   ⟨some 8, .move (.tmp 25), none⟩]
@[simp] theorem R27_6 (x0 x7 : AV) (l5 : List AV) :
  evK C D (.seq (.region O27_6) (.keep [0, 5, 8] [5] c)) ⟨[(0, .v x0), (5, .l 5 0), (7, .v x7)], [(5, l5)], H⟩ k =
  (nilC x0).bind fun t1 =>
  (fldP 28 t1).bind fun t2 =>
  (nl (loadP H false 1 t2)).bind fun t3 =>
  (nl (idxS 1 t3 x7)).bind fun t5 =>
  (nl (loadP H false 1 t5)).bind fun t6 =>
  evK C D c ⟨[(0, .v x0), (5, .l 5 0), (8, .v t6)], [(5, l5)], H⟩ k := by kernel_rfl
def O27_7 : List IOper :=
  [⟨some 26, .fieldAddr 0 (.tmp 5), none⟩,
   ⟨some 27, .load false 1 (.tmp 26), none⟩,
   ⟨some 28, .bin .eql .int (.tmp 27) (.const (.int .i64 141)), none⟩]
@[simp] theorem R27_7 (x0 x8 : AV) (l5 : List AV) :
  evK C D (.seq (.region O27_7) (.keep [0, 5, 8, 28] [5] c)) ⟨[(0, .v x0), (5, .l 5 0), (8, .v x8)], [(5, l5)], H⟩ k =
  (nl (rd false 1 0 l5)).bind fun t1 =>
  (nl (binA .eql .int t1 (.int .i64 141))).bind fun t2 =>
  evK C D c ⟨[(0, .v x0), (5, .l 5 0), (8, .v x8), (28, .v t2)], [(5, l5)], H⟩ k := by kernel_rfl
def O27_8 : List IOper :=
  [⟨some 29, .move (.tmp 0), none⟩,
   ⟨some 30, .move (.tmp 8), none⟩,
   ⟨some 31, .move (.tmp 8), none⟩,
   ⟨some 32, .nilCheck (.tmp 31), none⟩,
   ⟨some 33, .fieldAddr 23 (.tmp 32), none⟩,
   ⟨some 34, .load true 22 (.tmp 33), none⟩,
   ⟨some 35, .move (.tmp 8), none⟩,
   ⟨some 36, .nilCheck (.tmp 35), none⟩,
   ⟨some 37, .fieldAddr 47 (.tmp 36), none⟩,
   ⟨some 38, .load false 1 (.tmp 37), none⟩,
   ⟨some 39, .call (.func 49) [(.tmp 29), (.tmp 30), (.tmp 34), (.tmp 38)], none⟩]
@[simp] theorem R27_8 (x0 x8 x28 : AV) (l5 : List AV) :
  evK C D (.seq (.regionD O27_8 []) (.keep [] [] c)) ⟨[(0, .v x0), (5, .l 5 0), (8, .v x8), (28, .v x28)], [(5, l5)], H⟩ k =
  (nilC x8).bind fun t3 =>
  (fldP 23 t3).bind fun t4 =>
  (nl (loadP H true 22 t4)).bind fun t5 =>
  kB (AV.okB H.n t5) (
  (nilC x8).bind fun t7 =>
  (fldP 47 t7).bind fun t8 =>
  (nl (loadP H false 1 t8)).bind fun t9 =>
  kB (AV.okB H.n t9) (
  (callN C (.func (.func 49) [] []) [x0, x8, t5, t9] H).bind fun r10 =>
  evK C D c ⟨[], [], r10.2⟩ k)) := by kernel_rfl
def O27_9 : List IOper :=
  [⟨some 6, .move (.const (.int .i64 0)), none⟩]
@[simp] theorem R27_9 :
  evK C D (.seq (.region O27_9) (.keep [6] [] c)) ⟨[], [], H⟩ k =
  evK C D c ⟨[(6, .v (.int .i64 0))], [], H⟩ k := by kernel_rfl
def O27_10 : List IOper :=
  [⟨some 40, .move (.tmp 8), none⟩,
   ⟨some 41, .nilCheck (.tmp 40), none⟩,
   ⟨some 42, .fieldAddr 47 (.tmp 41), none⟩,
   ⟨some 43, .load false 1 (.tmp 42), none⟩,
   ⟨some 44, .move (.tmp 8), none⟩,
   ⟨some 45, .load true 18 (.tmp 5), none⟩,
   ⟨some 46, .call (.tmp 43) [(.tmp 44), (.tmp 45)], none⟩]
@[simp] theorem R27_10 (x8 : AV) (l5 : List AV) :
  evK C D (.seq (.regionD O27_10 []) (.keep [] [] c)) ⟨[(5, .l 5 0), (8, .v x8)], [(5, l5)], H⟩ k =
  (nilC x8).bind fun t1 =>
  (fldP 47 t1).bind fun t2 =>
  (nl (loadP H false 1 t2)).bind fun t3 =>
  kB (AV.okB H.n t3) (
  (nl (rd true 18 0 l5)).bind fun t5 =>
  kB (AV.okB H.n t5) (
  (callN C t3 [x8, t5] H).bind fun r6 =>
  evK C D c ⟨[], [], r6.2⟩ k)) := by kernel_rfl
def O27_11 : List IOper :=
  [⟨some 6, .move (.const (.int .i64 0)), none⟩]
@[simp] theorem R27_11 :
  evK C D (.seq (.region O27_11) (.keep [6] [] c)) ⟨[], [], H⟩ k =
  evK C D c ⟨[(6, .v (.int .i64 0))], [], H⟩ k := by kernel_rfl
def F27 : FnIR := ⟨47, 3, [.tmp 6], [5],
  .seq (.region O27_0)
  (.keep [0, 4, 5] [5] (.seq (.seq (.region O27_1)
   (.keep [0, 4, 5, 10] [5] (.cond (.tmp 10)
    (.seq (.region O27_2)
    (.keep [6] [] (.ret)))
    (.skip))))
  (.keep [0, 4, 5] [5] (.seq (.region O27_3)
  (.keep [0, 5, 7] [5] (.seq (.seq (.region O27_4)
   (.keep [0, 5, 7, 18] [5] (.cond (.tmp 18)
    (.seq (.region O27_5)
    (.keep [6] [] (.ret)))
    (.skip))))
  (.keep [0, 5, 7] [5] (.seq (.region O27_6)
  (.keep [0, 5, 8] [5] (.seq (.seq (.region O27_7)
   (.keep [0, 5, 8, 28] [5] (.cond (.tmp 28)
    (.seq (.regionD O27_8 [])
    (.keep [] [] (.seq (.region O27_9)
    (.keep [6] [] (.ret)))))
    (.skip))))
  (.keep [5, 8] [5] (.seq (.regionD O27_10 [])
  (.keep [] [] (.seq (.region O27_11)
  (.keep [6] [] (.ret))))))))))))))))⟩
/-- (*wampum/txn.Txn).Tick -/
def O28_0 : List IOper :=
  [⟨some 3, .box true 2 (.tmp 1), none⟩,
   ⟨some 4, .move (.const (.int .i64 0)), none⟩]
@[simp] theorem R28_0 (x0 x1 : AV) :
  evK C D (.seq (.region O28_0) (.keep [0, 3] [3] c)) ⟨[(0, .v x0), (1, .v x1)], [], H⟩ k =
  (boxC x1).bind fun m0 =>
  evK C D c ⟨[(0, .v x0), (3, .l 3 0)], [(3, m0)], H⟩ k := by kernel_rfl
def O28_1 : List IOper :=
  [⟨some 8, .move (.tmp 0), none⟩,
   ⟨some 9, .bin .eql .ptr (.tmp 8) (.const .nilp), none⟩,
   ⟨some 10, .move (.tmp 9), none⟩,
   ⟨some 11, .load true 2 (.tmp 3), some (10, false)⟩,
   ⟨some 12, .call (.func 41) [(.tmp 11)], some (10, false)⟩,
   ⟨some 13, .un .not (.tmp 12), some (10, false)⟩,
   ⟨some 14, .pick (.tmp 10) (.const (.bool true)) (.tmp 13), none⟩]
@[simp] theorem R28_1 (x0 : AV) (l3 : List AV) :
  evK C D (.seq (.region O28_1) (.keep [0, 3, 14] [3] c)) ⟨[(0, .v x0), (3, .l 3 0)], [(3, l3)], H⟩ k =
  (nl (binA .eql .ptr x0 .nilp)).bind fun t1 =>
  guardK t1 false (
  (nl (rd true 2 0 l3)).bind fun t3 =>
  (callN C (.func (.func 41) [] []) [t3] H).bind fun r4 =>
  (nl (unA .not r4.1)).bind fun t5 =>
  evK C D c ⟨[(0, .v x0), (3, .l 3 0), (14, .v t5)], [(3, l3)], r4.2⟩ k)
  (evK C D c ⟨[(0, .v x0), (3, .l 3 0), (14, .v (.bool true))], [(3, l3)], H⟩ k) := by kernel_rfl
def O28_2 : List IOper :=
  [⟨some 4, .move (.const (.int .i64 1)), none⟩]
@[simp] theorem R28_2 (x0 x14 : AV) (l3 : List AV) :
  evK C D (.seq (.region O28_2) (.keep [4] [] c)) ⟨[(0, .v x0), (3, .l 3 0), (14, .v x14)], [(3, l3)], H⟩ k =
  evK C D c ⟨[(4, .v (.int .i64 1))], [], H⟩ k := by kernel_rfl
def O28_3 : List IOper :=
  [⟨some 16, .move (.tmp 0), none⟩,
   ⟨some 17, .nilCheck (.tmp 16), none⟩,
   ⟨some 18, .fieldAddr 10 (.tmp 17), none⟩,
   ⟨some 19, .load true 2 (.tmp 18), none⟩,
   ⟨some 20, .load true 2 (.tmp 3), none⟩,
   ⟨some 21, .call (.func 50) [(.tmp 19), (.tmp 20)], none⟩,
   ⟨some 15, .move (.tmp 0), none⟩,
   ⟨some 22, .nilCheck (.tmp 15), none⟩,
   ⟨some 23, .fieldAddr 10 (.tmp 22), none⟩,
   ⟨none, .store 2 (.tmp 23) (.tmp 21), none⟩]
@[simp] theorem R28_3 (x0 : AV) (l3 : List AV) :
  evK C D (.seq (.regionD O28_3 []) (.keep [0] [] c)) ⟨[(0, .v x0), (3, .l 3 0)], [(3, l3)], H⟩ k =
  (nilC x0).bind fun t1 =>
  (fldP 10 t1).bind fun t2 =>
  (nl (loadP H true 2 t2)).bind fun t3 =>
  kB (AV.okB H.n t3) (
  (nl (rd true 2 0 l3)).bind fun t4 =>
  kB (AV.okB H.n t4) (
  (callN C (.func (.func 50) [] []) [t3, t4] H).bind fun r5 =>
  (nilC x0).bind fun t7 =>
  (fldP 10 t7).bind fun t8 =>
  (storeP r5.2 2 r5.1 t8).bind fun H9 =>
  evK C D c ⟨[(0, .v x0)], [], H9⟩ k)) := by kernel_rfl
def O28_4 : List IOper :=
  [⟨some 24, .move (.tmp 0), none⟩,
   ⟨some 25, .nilCheck (.tmp 24), none⟩,
   ⟨some 26, .fieldAddr 28 (.tmp 25), none⟩,
   ⟨some 27, .load false 1 (.tmp 26), none⟩,
   ⟨some 28, .call (.func 51) [(.tmp 27)], none⟩,
   ⟨some 29, .len .slice (.tmp 28), none⟩,
   ⟨some 30, .move (.const (.int .i64 0)), none⟩]
@[simp] theorem R28_4 (x0 : AV) :
  evK C D (.seq (.region O28_4) (.keep [0, 28, 29, 30] [] c)) ⟨[(0, .v x0)], [], H⟩ k =
  (nilC x0).bind fun t1 =>
  (fldP 28 t1).bind fun t2 =>
  (nl (loadP H false 1 t2)).bind fun t3 =>
  (callN C (.func (.func 51) [] []) [t3] H).bind fun r4 =>
  (lenS r4.1).bind fun t5 =>
  evK C D c ⟨[(0, .v x0), (28, .v r4.1), (29, .v t5), (30, .v (.int .i64 0))], [], r4.2⟩ k := by kernel_rfl
def O28_5 : List IOper :=
  [⟨some 31, .bin .lss .none (.tmp 30) (.tmp 29), none⟩]
@[simp] theorem R28_5 (x0 x28 x29 x30 : AV) :
  evK C D (.seq (.region O28_5) (.keep [0, 28, 29, 30, 31] [] c)) ⟨[(0, .v x0), (28, .v x28), (29, .v x29), (30, .v x30)], [], H⟩ k =
  (nl (binA .lss .none x30 x29)).bind fun t0 =>
  evK C D c ⟨[(0, .v x0), (28, .v x28), (29, .v x29), (30, .v x30), (31, .v t0)], [], H⟩ k := by kernel_rfl
def O28_6 : List IOper :=
  [⟨some 32, .indexAddr none 1 (.tmp 28) (.tmp 30), none⟩,
   ⟨some 33, .load false 1 (.tmp 32), none⟩,
   ⟨some 6, .move (.tmp 33), none⟩]
@[simp] theorem R28_6 (x0 x28 x29 x30 : AV) :
  evK C D (.seq (.region O28_6) (.keep [0, 6, 28, 29, 30] [] c)) ⟨[(0, .v x0), (28, .v x28), (29, .v x29), (30, .v x30)], [], H⟩ k =
  (nl (idxS 1 x28 x30)).bind fun t0 =>
  (nl (loadP H false 1 t0)).bind fun t1 =>
  evK C D c ⟨[(0, .v x0), (6, .v t1), (28, .v x28), (29, .v x29), (30, .v x30)], [], H⟩ k := by kernel_rfl
def O28_7 : List IOper :=
  [⟨some 34, .move (.tmp 6), none⟩,
   ⟨some 35, .nilCheck (.tmp 34), none⟩,
   ⟨some 36, .fieldAddr 45 (.tmp 35), none⟩,
   ⟨some 37, .load false 1 (.tmp 36), none⟩,
   ⟨some 38, .bin .sub .none (.tmp 37) (.const (.int .i64 1)), none⟩,
   ⟨some 39, .nilCheck (.tmp 34), none⟩,
   ⟨some 40, .fieldAddr 45 (.tmp 39), none⟩,
   ⟨none, .store 1 (.tmp 40) (.tmp 38), none⟩]
@[simp] theorem R28_7 (x0 x6 x28 x29 x30 : AV) :
  evK C D (.seq (.region O28_7) (.keep [0, 6, 28, 29, 30] [] c)) ⟨[(0, .v x0), (6, .v x6), (28, .v x28), (29, .v x29), (30, .v x30)], [], H⟩ k =
  (nilC x6).bind fun t1 =>
  (fldP 45 t1).bind fun t2 =>
  (nl (loadP H false 1 t2)).bind fun t3 =>
  (nl (binA .sub .none t3 (.int .i64 1))).bind fun t4 =>
  (nilC x6).bind fun t5 =>
  (fldP 45 t5).bind fun t6 =>
  (storeP H 1 t4 t6).bind fun H7 =>
  evK C D c ⟨[(0, .v x0), (6, .v x6), (28, .v x28), (29, .v x29), (30, .v x30)], [], H7⟩ k := by kernel_rfl
def O28_8 : List IOper :=
  [⟨some 41, .move (.tmp 6), none⟩,
   ⟨some 42, .nilCheck (.tmp 41), none⟩,
   ⟨some 43, .fieldAddr 46 (.tmp 42), none⟩,
   ⟨some 44, .load false 1 (.tmp 43), none⟩,
   ⟨some 45, .move (.tmp 44), none⟩,
   ⟨some 46, .move (.tmp 6), some (45, true)⟩,
   ⟨some 47, .nilCheck (.tmp 46), some (45, true)⟩,
   ⟨some 48, .fieldAddr 45 (.tmp 47), some (45, true)⟩,
   ⟨some 49, .load false 1 (.tmp 48), some (45, true)⟩,
   ⟨some 50, .bin .leq .none (.tmp 49) (.const (.int .i64 0)), some (45, true)⟩,
   ⟨some 51, .pick (.tmp 45) (.tmp 50) (.const (.bool false)), none⟩]
@[simp] theorem R28_8 (x0 x6 x28 x29 x30 : AV) :
  evK C D (.seq (.region O28_8) (.keep [0, 6, 28, 29, 30, 51] [] c)) ⟨[(0, .v x0), (6, .v x6), (28, .v x28), (29, .v x29), (30, .v x30)], [], H⟩ k =
  (nilC x6).bind fun t1 =>
  (fldP 46 t1).bind fun t2 =>
  (nl (loadP H false 1 t2)).bind fun t3 =>
  guardK t3 true (
  (nilC x6).bind fun t6 =>
  (fldP 45 t6).bind fun t7 =>
  (nl (loadP H false 1 t7)).bind fun t8 =>
  (nl (binA .leq .none t8 (.int .i64 0))).bind fun t9 =>
  evK C D c ⟨[(0, .v x0), (6, .v x6), (28, .v x28), (29, .v x29), (30, .v x30), (51, .v t9)], [], H⟩ k)
  (evK C D c ⟨[(0, .v x0), (6, .v x6), (28, .v x28), (29, .v x29), (30, .v x30), (51, .v (.bool false))], [], H⟩ k) := by kernel_rfl
def O28_9 : List IOper :=
  [⟨some 52, .move (.tmp 0), none⟩,
   ⟨some 53, .move (.tmp 6), none⟩,
   ⟨some 54, .move (.tmp 6), none⟩,
   ⟨some 55, .nilCheck (.tmp 54), none⟩,
   ⟨some 56, .fieldAddr 1 (.tmp 55), none⟩,
   ⟨some 57, .load true 22 (.tmp 56), none⟩,
   ⟨some 58, .move (.tmp 0), none⟩,
   ⟨some 59, .mkFunc (.func 52) [(.tmp 58)] [], none⟩,
   ⟨some 60, .call (.func 49) [(.tmp 52), (.tmp 53), (.tmp 57), (.tmp 59)], none⟩]
@[simp] theorem R28_9 (x0 x6 x28 x29 x30 x51 : AV) :
  evK C D (.region O28_9) ⟨[(0, .v x0), (6, .v x6), (28, .v x28), (29, .v x29), (30, .v x30), (51, .v x51)], [], H⟩ k =
  (nilC x6).bind fun t3 =>
  (fldP 1 t3).bind fun t4 =>
  (nl (loadP H true 22 t4)).bind fun t5 =>
  (funcV (.func 52) [x0] []).bind fun t7 =>
  (callN C (.func (.func 49) [] []) [x0, x6, t5, t7] H).bind fun r8 =>
  k .normal ⟨[(60, .v r8.1), (59, .v t7), (58, .v x0), (57, .v t5), (56, .v t4), (55, .v t3), (54, .v x6), (53, .v x6), (52, .v x0), (0, .v x0), (6, .v x6), (28, .v x28), (29, .v x29), (30, .v x30), (51, .v x51)], [], r8.2⟩ := by kernel_rfl
def O28_10 : List IOper :=
  [⟨some 61, .bin .add .none (.tmp 30) (.const (.int .i64 1)), none⟩,
   ⟨some 30, .move (.tmp 61), none⟩]
@[simp] theorem R28_10 (x0 x28 x29 x30 : AV) :
  evK C D (.region O28_10) ⟨[(0, .v x0), (28, .v x28), (29, .v x29), (30, .v x30)], [], H⟩ k =
  (nl (binA .add .none x30 (.int .i64 1))).bind fun t0 =>
  k .normal ⟨[(30, .v t0), (61, .v t0), (0, .v x0), (28, .v x28), (29, .v x29), (30, .v x30)], [], H⟩ := by kernel_rfl
def B28_0 : IC :=
  .seq (.region O28_5)
  (.keep [0, 28, 29, 30, 31] [] (.seq (.cond (.tmp 31)
    (.skip)
    (.exit 0))
  (.keep [0, 28, 29, 30] [] (.seq (.block 1 (.seq (.region O28_6)
    (.keep [0, 6, 28, 29, 30] [] (.seq (.region O28_7)
    (.keep [0, 6, 28, 29, 30] [] (.seq (.region O28_8)
    (.keep [0, 6, 28, 29, 30, 51] [] (.cond (.tmp 51)
     (.region O28_9)
     (.skip)))))))))
  (.keep [0, 28, 29, 30] [] (.region O28_10))))))
def L28_0 : IC := .keep [0, 28, 29, 30] [] B28_0
@[simp] theorem LK28_0 (s : SK) (k : AExit → SK → Option R) : evK C D (.loop L28_0) s k = (D (.loop L28_0) (prK [0, 28, 29, 30] [] s).toSt).bind fun r => k r.1 (ofSt r.2) := by kernel_rfl
def O28_11 : List IOper :=
  [⟨some 62, .move (.tmp 0), none⟩,
   ⟨some 63, .nilCheck (.tmp 62), none⟩,
   ⟨some 64, .fieldAddr 30 (.tmp 63), none⟩,
   ⟨some 65, .load false 1 (.tmp 64), none⟩,
   ⟨some 66, .bin .add .none (.tmp 65) (.const (.int .i64 1)), none⟩,
   ⟨some 67, .nilCheck (.tmp 62), none⟩,
   ⟨some 68, .fieldAddr 30 (.tmp 67), none⟩,
   ⟨none, .store 1 (.tmp 68) (.tmp 66), none⟩]
@[simp] theorem R28_11 (x0 : AV) :
  evK C D (.seq (.region O28_11) (.keep [0] [] c)) ⟨[(0, .v x0)], [], H⟩ k =
  (nilC x0).bind fun t1 =>
  (fldP 30 t1).bind fun t2 =>
  (nl (loadP H false 1 t2)).bind fun t3 =>
  (nl (binA .add .none t3 (.int .i64 1))).bind fun t4 =>
  (nilC x0).bind fun t5 =>
  (fldP 30 t5).bind fun t6 =>
  (storeP H 1 t4 t6).bind fun H7 =>
  evK C D c ⟨[(0, .v x0)], [], H7⟩ k := by kernel_rfl
def O28_12 : List IOper :=
  [⟨some 69, .move (.tmp 0), none⟩,
   ⟨some 70, .nilCheck (.tmp 69), none⟩,
   ⟨some 71, .fieldAddr 28 (.tmp 70), none⟩,
   ⟨some 72, .load false 1 (.tmp 71), none⟩,
   ⟨some 73, .call (.func 53) [(.tmp 72), (.func 54)], none⟩,
   ⟨some 7, .move (.tmp 73), none⟩]
@[simp] theorem R28_12 (x0 : AV) :
  evK C D (.seq (.region O28_12) (.keep [0, 7] [] c)) ⟨[(0, .v x0)], [], H⟩ k =
  (nilC x0).bind fun t1 =>
  (fldP 28 t1).bind fun t2 =>
  (nl (loadP H false 1 t2)).bind fun t3 =>
  (callN C (.func (.func 53) [] []) [t3, (.func (.func 54) [] [])] H).bind fun r4 =>
  evK C D c ⟨[(0, .v x0), (7, .v r4.1)], [], r4.2⟩ k := by kernel_rfl
def O28_13 : List IOper :=
  [⟨some 74, .move (.tmp 0), none⟩,
   ⟨some 75, .nilCheck (.tmp 74), none⟩,
   ⟨some 76, .fieldAddr 30 (.tmp 75), none⟩,
   ⟨some 77, .load false 1 (.tmp 76), none⟩,
   ⟨some 78, .bin .rem .none (.tmp 77) (.const (.int .i64 10)), none⟩,
   ⟨some 79, .bin .eql .int (.tmp 78) (.const (.int .i64 0)), none⟩,
   ⟨some 80, .move (.tmp 79), none⟩,
   ⟨some 81, .move (.tmp 0), some (80, true)⟩,
   ⟨some 82, .nilCheck (.tmp 81), some (80, true)⟩,
   ⟨some 83, .fieldAddr 1 (.tmp 82), some (80, true)⟩,
   ⟨some 84, .fieldAddr 2 (.tmp 83), some (80, true)⟩,
   ⟨some 85, .load false 1 (.tmp 84), some (80, true)⟩,
   ⟨some 86, .bin .neq .str (.tmp 85) (.const (.str [])), some (80, true)⟩,
   ⟨some 87, .pick (.tmp 80) (.tmp 86) (.const (.bool false)), none⟩,
   ⟨some 88, .move (.tmp 87), none⟩,
   ⟨some 89, .move (.tmp 0), some (88, true)⟩,
   ⟨some 90, .nilCheck (.tmp 89), some (88, true)⟩,
   ⟨some 91, .fieldAddr 15 (.tmp 90), some (88, true)⟩,
   ⟨some 92, .load false 1 (.tmp 91), some (88, true)⟩,
   ⟨some 93, .bin .eql .int (.tmp 92) (.const (.int .i64 0)), some (88, true)⟩,
   ⟨some 94, .pick (.tmp 88) (.tmp 93) (.const (.bool false)), none⟩,
   ⟨some 95, .move (.tmp 94), none⟩,
   ⟨some 96, .move (.tmp 0), some (95, true)⟩,
   ⟨some 97, .nilCheck (.tmp 96), some (95, true)⟩,
   ⟨some 98, .fieldAddr 25 (.tmp 97), some (95, true)⟩,
   ⟨some 99, .load false 1 (.tmp 98), some (95, true)⟩,
   ⟨some 100, .un .not (.tmp 99), some (95, true)⟩,
   ⟨some 101, .pick (.tmp 95) (.tmp 100) (.const (.bool false)), none⟩,
   ⟨some 102, .move (.tmp 101), none⟩,
   ⟨some 103, .move (.tmp 7), some (102, true)⟩,
   ⟨some 104, .un .not (.tmp 103), some (102, true)⟩,
   ⟨some 105, .pick (.tmp 102) (.tmp 104) (.const (.bool false)), none⟩]
@[simp] theorem R28_13 (x0 x7 : AV) :
  evK C D (.seq (.region O28_13) (.keep [0, 105] [] c)) ⟨[(0, .v x0), (7, .v x7)], [], H⟩ k =
  (nilC x0).bind fun t1 =>
  (fldP 30 t1).bind fun t2 =>
  (nl (loadP H false 1 t2)).bind fun t3 =>
  (nl (binA .rem .none t3 (.int .i64 10))).bind fun t4 =>
  (nl (binA .eql .int t4 (.int .i64 0))).bind fun t5 =>
  guardK t5 true (
  (nilC x0).bind fun t8 =>
  (fldP 1 t8).bind fun t9 =>
  (fldP 2 t9).bind fun t10 =>
  (nl (loadP H false 1 t10)).bind fun t11 =>
  (nl (binA .neq .str t11 (.str []))).bind fun t12 =>
  guardK t12 true (
  (nilC x0).bind fun t16 =>
  (fldP 15 t16).bind fun t17 =>
  (nl (loadP H false 1 t17)).bind fun t18 =>
  (nl (binA .eql .int t18 (.int .i64 0))).bind fun t19 =>
  guardK t19 true (
  (nilC x0).bind fun t23 =>
  (fldP 25 t23).bind fun t24 =>
  (nl (loadP H false 1 t24)).bind fun t25 =>
  (nl (unA .not t25)).bind fun t26 =>
  guardK t26 true (
  (nl (unA .not x7)).bind fun t30 =>
  evK C D c ⟨[(0, .v x0), (105, .v t30)], [], H⟩ k)
  (evK C D c ⟨[(0, .v x0), (105, .v (.bool false))], [], H⟩ k))
  (evK C D c ⟨[(0, .v x0), (105, .v (.bool false))], [], H⟩ k))
  (evK C D c ⟨[(0, .v x0), (105, .v (.bool false))], [], H⟩ k))
  (evK C D c ⟨[(0, .v x0), (105, .v (.bool false))], [], H⟩ k) := by kernel_rfl
def O28_14 : List IOper :=
  [⟨some 106, .move (.tmp 0), none⟩,
   ⟨some 107, .call (.func 55) [(.tmp 106)], none⟩]
@[simp] theorem R28_14 (x0 x105 : AV) :
  evK C D (.region O28_14) ⟨[(0, .v x0), (105, .v x105)], [], H⟩ k =
  (callN C (.func (.func 55) [] []) [x0] H).bind fun r1 =>
  k .normal ⟨[(107, .v r1.1), (106, .v x0), (0, .v x0), (105, .v x105)], [], r1.2⟩ := by kernel_rfl
def O28_15 : List IOper :=
  [⟨some 4, .move (.const (.int .i64 0)), none⟩]
@[simp] theorem R28_15 :
  evK C D (.seq (.region O28_15) (.keep [4] [] c)) ⟨[], [], H⟩ k =
  evK C D c ⟨[(4, .v (.int .i64 0))], [], H⟩ k := by kernel_rfl
def F28 : FnIR := ⟨108, 2, [.tmp 4], [3],
  .seq (.region O28_0)
  (.keep [0, 3] [3] (.seq (.seq (.region O28_1)
   (.keep [0, 3, 14] [3] (.cond (.tmp 14)
    (.seq (.region O28_2)
    (.keep [4] [] (.ret)))
    (.skip))))
  (.keep [0, 3] [3] (.seq (.regionD O28_3 [])
  (.keep [0] [] (.seq (.seq (.region O28_4)
   (.keep [0, 28, 29, 30] [] (.block 0 (.loop L28_0))))
  (.keep [0] [] (.seq (.region O28_11)
  (.keep [0] [] (.seq (.region O28_12)
  (.keep [0, 7] [] (.seq (.seq (.region O28_13)
   (.keep [0, 105] [] (.cond (.tmp 105)
    (.region O28_14)
    (.skip))))
  (.keep [] [] (.seq (.region O28_15)
  (.keep [4] [] (.ret))))))))))))))))⟩
end Go.Proofs.YtldiggjdbdfdgaaGreat
