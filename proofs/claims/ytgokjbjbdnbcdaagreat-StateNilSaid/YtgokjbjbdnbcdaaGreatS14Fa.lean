/- Functions of the program in our form (S14, a). No condition. -/
import Derived.Test.YtgokjbjbdnbcdaaGreatAmZ
import Derived.Test.YtgokjbjbdnbcdaaGreatRows
set_option linter.unusedVariables false
set_option linter.unusedSimpArgs false
namespace Go.Proofs.YtgokjbjbdnbcdaaGreat
open Go.Wam
variable {R : Type} (C : CallF) (D : IC → St → Option (AExit × St)) (c : IC) (H : AHeap) (k : AExit → SK → Option R)
/-- wampum/wampumlaw14.StateNil -/
def O9_0 : List IOper :=
  [⟨some 1, .box true 22 (.tmp 0), none⟩,
   ⟨some 2, .move (.const (.bool false)), none⟩]
@[simp] theorem R9_0 (x0 : AV) :
  evK C D (.seq (.region O9_0) (.keep [1] [1] c)) ⟨[(0, .v x0)], [], H⟩ k =
  (boxC x0).bind fun m0 =>
  evK C D c ⟨[(1, .l 1 0)], [(1, m0)], H⟩ k := by kernel_rfl
def O9_1 : List IOper :=
  [⟨some 7, .load true 22 (.tmp 1), none⟩,
   ⟨some 8, .call (.func 18) [(.tmp 7)], none⟩,
   ⟨some 3, .move (.tmp 8), none⟩]
@[simp] theorem R9_1 (l1 : List AV) :
  evK C D (.seq (.region O9_1) (.keep [1, 3] [1] c)) ⟨[(1, .l 1 0)], [(1, l1)], H⟩ k =
  (nl (rd true 22 0 l1)).bind fun t0 =>
  (callN C (.func (.func 18) [] []) [t0] H).bind fun r1 =>
  evK C D c ⟨[(1, .l 1 0), (3, .v r1.1)], [(1, l1)], r1.2⟩ k := by kernel_rfl
def O9_2 : List IOper :=
  [⟨some 9, .move (.tmp 3), none⟩,
   ⟨some 10, .un .not (.tmp 9), none⟩]
@[simp] theorem R9_2 (x3 : AV) (l1 : List AV) :
  evK C D (.seq (.region O9_2) (.keep [1, 10] [1] c)) ⟨[(1, .l 1 0), (3, .v x3)], [(1, l1)], H⟩ k =
  (nl (unA .not x3)).bind fun t1 =>
  evK C D c ⟨[(1, .l 1 0), (10, .v t1)], [(1, l1)], H⟩ k := by kernel_rfl
def O9_3 : List IOper :=
  [⟨some 11, .call (.func 21) [], none⟩,
   ⟨some 2, .move (.tmp 11), none⟩]
@[simp] theorem R9_3 (x10 : AV) (l1 : List AV) :
  evK C D (.seq (.region O9_3) (.keep [2] [] c)) ⟨[(1, .l 1 0), (10, .v x10)], [(1, l1)], H⟩ k =
  (callN C (.func (.func 21) [] []) [] H).bind fun r0 =>
  evK C D c ⟨[(2, .v r0.1)], [], r0.2⟩ k := by kernel_rfl
def O9_4 : List IOper :=
  [⟨some 4, .move (.const .nilp), none⟩]
@[simp] theorem R9_4 (l1 : List AV) :
  evK C D (.seq (.region O9_4) (.keep [1, 4] [1] c)) ⟨[(1, .l 1 0)], [(1, l1)], H⟩ k =
  evK C D c ⟨[(1, .l 1 0), (4, .v .nilp)], [(1, l1)], H⟩ k := by kernel_rfl
def O9_5 : List IOper :=
  [⟨some 13, .move (.tmp 4), none⟩,
   ⟨some 14, .call (.func 20) [(.tmp 13)], none⟩,
   ⟨some 12, .move (.tmp 14), none⟩,
   ⟨some 15, .extract (.tmp 12) 0, none⟩,
   ⟨some 16, .extract (.tmp 12) 1, none⟩,
   ⟨some 5, .move (.tmp 15), none⟩,
   ⟨some 6, .move (.tmp 16), none⟩]
@[simp] theorem R9_5 (x4 : AV) (l1 : List AV) :
  evK C D (.seq (.region O9_5) (.keep [1, 4, 5, 6] [1] c)) ⟨[(1, .l 1 0), (4, .v x4)], [(1, l1)], H⟩ k =
  (callN C (.func (.func 20) [] []) [x4] H).bind fun r1 =>
  (nl (extA 0 r1.1)).bind fun t3 =>
  (nl (extA 1 r1.1)).bind fun t4 =>
  evK C D c ⟨[(1, .l 1 0), (4, .v x4), (5, .v t3), (6, .v t4)], [(1, l1)], r1.2⟩ k := by kernel_rfl
def O9_6 : List IOper :=
  [⟨some 17, .call (.func 21) [], none⟩,
   ⟨some 18, .move (.tmp 17), none⟩,
   ⟨some 19, .move (.tmp 4), some (18, true)⟩,
   ⟨some 20, .load true 22 (.tmp 1), some (18, true)⟩,
   ⟨some 21, .call (.func 19) [(.tmp 19), (.tmp 20)], some (18, true)⟩,
   ⟨some 22, .field false 1 0 (.tmp 21), some (18, true)⟩,
   ⟨some 23, .bin .eql .int (.tmp 22) (.const (.int .i64 1)), some (18, true)⟩,
   ⟨some 24, .pick (.tmp 18) (.tmp 23) (.const (.bool false)), none⟩,
   ⟨some 25, .move (.tmp 24), none⟩,
   ⟨some 26, .move (.tmp 5), some (25, true)⟩,
   ⟨some 27, .bin .eql .int (.tmp 26) (.const (.int .i64 0)), some (25, true)⟩,
   ⟨some 28, .pick (.tmp 25) (.tmp 27) (.const (.bool false)), none⟩,
   ⟨some 29, .move (.tmp 28), none⟩,
   ⟨some 30, .move (.tmp 6), some (29, true)⟩,
   ⟨some 31, .bin .eql .int (.tmp 30) (.const (.int .i64 0)), some (29, true)⟩,
   ⟨some 32, .pick (.tmp 29) (.tmp 31) (.const (.bool false)), none⟩,
   ⟨some 33, .move (.tmp 32), none⟩,
   ⟨some 34, .move (.tmp 4), some (33, true)⟩,
   ⟨some 35, .call (.func 22) [(.tmp 34)], some (33, true)⟩,
   ⟨some 36, .build [(.int .i64 0), (.int .i64 0)] [], some (33, true)⟩,
   ⟨some 37, .bin .eql (.struct [(0, false, 1, .int), (1, false, 1, .int)]) (.tmp 35) (.tmp 36), some (33, true)⟩,
   ⟨some 38, .pick (.tmp 33) (.tmp 37) (.const (.bool false)), none⟩,
   ⟨some 39, .move (.tmp 38), none⟩,
   ⟨some 40, .move (.tmp 4), some (39, true)⟩,
   ⟨some 41, .call (.func 35) [(.tmp 40)], some (39, true)⟩,
   ⟨some 42, .build [(.str []), (.str [])] [], some (39, true)⟩,
   ⟨some 43, .bin .eql (.struct [(0, false, 1, .str), (1, false, 1, .str)]) (.tmp 41) (.tmp 42), some (39, true)⟩,
   ⟨some 44, .pick (.tmp 39) (.tmp 43) (.const (.bool false)), none⟩,
   ⟨some 45, .move (.tmp 44), none⟩,
   ⟨some 46, .move (.tmp 4), some (45, true)⟩,
   ⟨some 47, .fieldAddr 4 (.tmp 1), some (45, true)⟩,
   ⟨some 48, .fieldAddr 0 (.tmp 47), some (45, true)⟩,
   ⟨some 49, .load false 1 (.tmp 48), some (45, true)⟩,
   ⟨some 50, .call (.func 36) [(.tmp 46), (.tmp 49)], some (45, true)⟩,
   ⟨some 51, .field false 1 2 (.tmp 50), some (45, true)⟩,
   ⟨some 52, .bin .eql .int (.tmp 51) (.const (.int .i64 0)), some (45, true)⟩,
   ⟨some 53, .pick (.tmp 45) (.tmp 52) (.const (.bool false)), none⟩,
   ⟨some 54, .move (.tmp 53), none⟩,
   ⟨some 55, .move (.tmp 4), some (54, true)⟩,
   ⟨some 56, .call (.func 24) [(.tmp 55), (.const (.int .i64 1))], some (54, true)⟩,
   ⟨some 57, .un .not (.tmp 56), some (54, true)⟩,
   ⟨some 58, .pick (.tmp 54) (.tmp 57) (.const (.bool false)), none⟩,
   ⟨some 59, .move (.tmp 58), none⟩,
   ⟨some 60, .move (.tmp 4), some (59, true)⟩,
   ⟨some 61, .call (.func 25) [(.tmp 60)], some (59, true)⟩,
   ⟨some 62, .bin .eql .ptr (.tmp 61) (.const .nilp), some (59, true)⟩,
   ⟨some 63, .pick (.tmp 59) (.tmp 62) (.const (.bool false)), none⟩,
   ⟨some 64, .move (.tmp 63), none⟩,
   ⟨some 65, .move (.tmp 4), some (64, true)⟩,
   ⟨some 66, .call (.func 29) [(.tmp 65)], some (64, true)⟩,
   ⟨some 67, .len .slice (.tmp 66), some (64, true)⟩,
   ⟨some 68, .bin .eql .int (.tmp 67) (.const (.int .i64 0)), some (64, true)⟩,
   ⟨some 69, .pick (.tmp 64) (.tmp 68) (.const (.bool false)), none⟩,
   ⟨some 2, .move (.tmp 69), none⟩]
@[simp] theorem R9_6 (x4 x5 x6 : AV) (l1 : List AV) :
  evK C D (.seq (.region O9_6) (.keep [2] [] c)) ⟨[(1, .l 1 0), (4, .v x4), (5, .v x5), (6, .v x6)], [(1, l1)], H⟩ k =
  (callN C (.func (.func 21) [] []) [] H).bind fun r0 =>
  guardK r0.1 true (
  (nl (rd true 22 0 l1)).bind fun t3 =>
  (callN C (.func (.func 19) [] []) [x4, t3] r0.2).bind fun r4 =>
  (nl (fldV false 1 0 r4.1)).bind fun t5 =>
  (nl (binA .eql .int t5 (.int .i64 1))).bind fun t6 =>
  guardK t6 true (
  (nl (binA .eql .int x5 (.int .i64 0))).bind fun t10 =>
  guardK t10 true (
  (nl (binA .eql .int x6 (.int .i64 0))).bind fun t14 =>
  guardK t14 true (
  (callN C (.func (.func 22) [] []) [x4] r4.2).bind fun r18 =>
  ((fillC [] [(.int .i64 0), (.int .i64 0)]).map AV.agg).bind fun t19 =>
  (nl (binA .eql (.struct [(0, false, 1, .int), (1, false, 1, .int)]) r18.1 t19)).bind fun t20 =>
  guardK t20 true (
  (callN C (.func (.func 35) [] []) [x4] r18.2).bind fun r24 =>
  ((fillC [] [(.str []), (.str [])]).map AV.agg).bind fun t25 =>
  (nl (binA .eql (.struct [(0, false, 1, .str), (1, false, 1, .str)]) r24.1 t25)).bind fun t26 =>
  guardK t26 true (
  (nl (rd false 1 4 l1)).bind fun t32 =>
  (callN C (.func (.func 36) [] []) [x4, t32] r24.2).bind fun r33 =>
  (nl (fldV false 1 2 r33.1)).bind fun t34 =>
  (nl (binA .eql .int t34 (.int .i64 0))).bind fun t35 =>
  guardK t35 true (
  (callN C (.func (.func 24) [] []) [x4, (.int .i64 1)] r33.2).bind fun r39 =>
  (nl (unA .not r39.1)).bind fun t40 =>
  guardK t40 true (
  (callN C (.func (.func 25) [] []) [x4] r39.2).bind fun r44 =>
  (nl (binA .eql .ptr r44.1 .nilp)).bind fun t45 =>
  guardK t45 true (
  (callN C (.func (.func 29) [] []) [x4] r44.2).bind fun r49 =>
  (lenS r49.1).bind fun t50 =>
  (nl (binA .eql .int t50 (.int .i64 0))).bind fun t51 =>
  evK C D c ⟨[(2, .v t51)], [], r49.2⟩ k)
  (evK C D c ⟨[(2, .v (.bool false))], [], r44.2⟩ k))
  (evK C D c ⟨[(2, .v (.bool false))], [], r39.2⟩ k))
  (evK C D c ⟨[(2, .v (.bool false))], [], r33.2⟩ k))
  (evK C D c ⟨[(2, .v (.bool false))], [], r24.2⟩ k))
  (evK C D c ⟨[(2, .v (.bool false))], [], r18.2⟩ k))
  (evK C D c ⟨[(2, .v (.bool false))], [], r4.2⟩ k))
  (evK C D c ⟨[(2, .v (.bool false))], [], r4.2⟩ k))
  (evK C D c ⟨[(2, .v (.bool false))], [], r4.2⟩ k))
  (evK C D c ⟨[(2, .v (.bool false))], [], r0.2⟩ k) := by kernel_rfl
def F9 : FnIR := ⟨70, 1, [.tmp 2], [1],
  .seq (.region O9_0)
  (.keep [1] [1] (.seq (.region O9_1)
  (.keep [1, 3] [1] (.seq (.seq (.region O9_2)
   (.keep [1, 10] [1] (.cond (.tmp 10)
    (.seq (.region O9_3)
    (.keep [2] [] (.ret)))
    (.skip))))
  (.keep [1] [1] (.seq (.region O9_4)
  (.keep [1, 4] [1] (.seq (.region O9_5)
  (.keep [1, 4, 5, 6] [1] (.seq (.region O9_6)
  (.keep [2] [] (.ret))))))))))))⟩
/-- wampum/wampumlaw13.Fits -/
def O18_0 : List IOper :=
  [⟨some 1, .box true 22 (.tmp 0), none⟩,
   ⟨some 2, .move (.const (.bool false)), none⟩]
@[simp] theorem R18_0 (x0 : AV) :
  evK C D (.seq (.region O18_0) (.keep [1] [1] c)) ⟨[(0, .v x0)], [], H⟩ k =
  (boxC x0).bind fun m0 =>
  evK C D c ⟨[(1, .l 1 0)], [(1, m0)], H⟩ k := by kernel_rfl
def O18_1 : List IOper :=
  [⟨some 3, .move (.const (.int .i64 0)), none⟩]
@[simp] theorem R18_1 (l1 : List AV) :
  evK C D (.seq (.region O18_1) (.keep [1, 3] [1] c)) ⟨[(1, .l 1 0)], [(1, l1)], H⟩ k =
  evK C D c ⟨[(1, .l 1 0), (3, .v (.int .i64 0))], [(1, l1)], H⟩ k := by kernel_rfl
def O18_2 : List IOper :=
  [⟨some 4, .move (.tmp 3), none⟩,
   ⟨some 5, .fieldAddr 20 (.tmp 1), none⟩,
   ⟨some 6, .load false 1 (.tmp 5), none⟩,
   ⟨some 7, .len .slice (.tmp 6), none⟩,
   ⟨some 8, .bin .lss .none (.tmp 4) (.tmp 7), none⟩]
@[simp] theorem R18_2 (x3 : AV) (l1 : List AV) :
  evK C D (.seq (.region O18_2) (.keep [1, 3, 8] [1] c)) ⟨[(1, .l 1 0), (3, .v x3)], [(1, l1)], H⟩ k =
  (nl (rd false 1 20 l1)).bind fun t2 =>
  (lenS t2).bind fun t3 =>
  (nl (binA .lss .none x3 t3)).bind fun t4 =>
  evK C D c ⟨[(1, .l 1 0), (3, .v x3), (8, .v t4)], [(1, l1)], H⟩ k := by kernel_rfl
def O18_3 : List IOper :=
  [⟨some 11, .move (.tmp 3), none⟩,
   ⟨some 12, .bin .eql .int (.tmp 11) (.const (.int .i64 20)), none⟩,
   ⟨some 13, .move (.tmp 12), none⟩,
   ⟨some 14, .fieldAddr 20 (.tmp 1), some (13, false)⟩,
   ⟨some 15, .load false 1 (.tmp 14), some (13, false)⟩,
   ⟨some 16, .move (.tmp 3), some (13, false)⟩,
   ⟨some 17, .indexAddr none 2 (.tmp 15) (.tmp 16), some (13, false)⟩,
   ⟨some 18, .fieldAddr 0 (.tmp 17), some (13, false)⟩,
   ⟨some 19, .load false 1 (.tmp 18), some (13, false)⟩,
   ⟨some 20, .len .str (.tmp 19), some (13, false)⟩,
   ⟨some 21, .bin .gtr .none (.tmp 20) (.const (.int .i64 400)), some (13, false)⟩,
   ⟨some 22, .pick (.tmp 13) (.const (.bool true)) (.tmp 21), none⟩]
@[simp] theorem R18_3 (x3 : AV) (l1 : List AV) :
  evK C D (.seq (.region O18_3) (.keep [1, 3, 22] [1] c)) ⟨[(1, .l 1 0), (3, .v x3)], [(1, l1)], H⟩ k =
  (nl (binA .eql .int x3 (.int .i64 20))).bind fun t1 =>
  guardK t1 false (
  (nl (rd false 1 20 l1)).bind fun t4 =>
  (nl (idxS 2 t4 x3)).bind fun t6 =>
  (fldP 0 t6).bind fun t7 =>
  (nl (loadP H false 1 t7)).bind fun t8 =>
  (lenStr t8).bind fun t9 =>
  (nl (binA .gtr .none t9 (.int .i64 400))).bind fun t10 =>
  evK C D c ⟨[(1, .l 1 0), (3, .v x3), (22, .v t10)], [(1, l1)], H⟩ k)
  (evK C D c ⟨[(1, .l 1 0), (3, .v x3), (22, .v (.bool true))], [(1, l1)], H⟩ k) := by kernel_rfl
def O18_4 : List IOper :=
  [⟨some 2, .move (.const (.bool false)), none⟩]
@[simp] theorem R18_4 (x3 x22 : AV) (l1 : List AV) :
  evK C D (.seq (.region O18_4) (.keep [2] [] c)) ⟨[(1, .l 1 0), (3, .v x3), (22, .v x22)], [(1, l1)], H⟩ k =
  evK C D c ⟨[(2, .v (.bool false))], [], H⟩ k := by kernel_rfl
def O18_5 : List IOper :=
  [⟨some 9, .move (.tmp 3), none⟩,
   ⟨some 10, .bin .add .none (.tmp 9) (.const (.int .i64 1)), none⟩,
   ⟨some 3, .move (.tmp 10), none⟩]
@[simp] theorem R18_5 (x3 : AV) (l1 : List AV) :
  evK C D (.region O18_5) ⟨[(1, .l 1 0), (3, .v x3)], [(1, l1)], H⟩ k =
  (nl (binA .add .none x3 (.int .i64 1))).bind fun t1 =>
  k .normal ⟨[(3, .v t1), (10, .v t1), (9, .v x3), (1, .l 1 0), (3, .v x3)], [(1, l1)], H⟩ := by kernel_rfl
def B18_0 : IC :=
  .seq (.seq (.region O18_2)
   (.keep [1, 3, 8] [1] (.cond (.tmp 8)
    (.skip)
    (.exit 0))))
  (.keep [1, 3] [1] (.seq (.block 1 (.seq (.region O18_3)
    (.keep [1, 3, 22] [1] (.cond (.tmp 22)
     (.seq (.region O18_4)
     (.keep [2] [] (.ret)))
     (.skip)))))
  (.keep [1, 3] [1] (.region O18_5))))
def L18_0 : IC := .keep [1, 3] [1] B18_0
@[simp] theorem LK18_0 (s : SK) (k : AExit → SK → Option R) : evK C D (.loop L18_0) s k = (D (.loop L18_0) (prK [1, 3] [1] s).toSt).bind fun r => k r.1 (ofSt r.2) := by kernel_rfl
def O18_6 : List IOper :=
  [⟨some 23, .fieldAddr 4 (.tmp 1), none⟩,
   ⟨some 24, .fieldAddr 2 (.tmp 23), none⟩,
   ⟨some 25, .load false 1 (.tmp 24), none⟩,
   ⟨some 26, .len .str (.tmp 25), none⟩,
   ⟨some 27, .bin .leq .none (.tmp 26) (.const (.int .i64 400)), none⟩,
   ⟨some 28, .move (.tmp 27), none⟩,
   ⟨some 29, .fieldAddr 10 (.tmp 1), some (28, true)⟩,
   ⟨some 30, .fieldAddr 0 (.tmp 29), some (28, true)⟩,
   ⟨some 31, .load false 1 (.tmp 30), some (28, true)⟩,
   ⟨some 32, .len .str (.tmp 31), some (28, true)⟩,
   ⟨some 33, .bin .leq .none (.tmp 32) (.const (.int .i64 400)), some (28, true)⟩,
   ⟨some 34, .pick (.tmp 28) (.tmp 33) (.const (.bool false)), none⟩,
   ⟨some 35, .move (.tmp 34), none⟩,
   ⟨some 36, .fieldAddr 10 (.tmp 1), some (35, true)⟩,
   ⟨some 37, .fieldAddr 1 (.tmp 36), some (35, true)⟩,
   ⟨some 38, .load false 1 (.tmp 37), some (35, true)⟩,
   ⟨some 39, .len .str (.tmp 38), some (35, true)⟩,
   ⟨some 40, .bin .leq .none (.tmp 39) (.const (.int .i64 400)), some (35, true)⟩,
   ⟨some 41, .pick (.tmp 35) (.tmp 40) (.const (.bool false)), none⟩,
   ⟨some 42, .move (.tmp 41), none⟩,
   ⟨some 43, .fieldAddr 12 (.tmp 1), some (42, true)⟩,
   ⟨some 44, .load false 1 (.tmp 43), some (42, true)⟩,
   ⟨some 45, .len .str (.tmp 44), some (42, true)⟩,
   ⟨some 46, .bin .leq .none (.tmp 45) (.const (.int .i64 400)), some (42, true)⟩,
   ⟨some 47, .pick (.tmp 42) (.tmp 46) (.const (.bool false)), none⟩,
   ⟨some 2, .move (.tmp 47), none⟩]
@[simp] theorem R18_6 (l1 : List AV) :
  evK C D (.seq (.region O18_6) (.keep [2] [] c)) ⟨[(1, .l 1 0)], [(1, l1)], H⟩ k =
  (nl (rd false 1 6 l1)).bind fun t2 =>
  (lenStr t2).bind fun t3 =>
  (nl (binA .leq .none t3 (.int .i64 400))).bind fun t4 =>
  guardK t4 true (
  (nl (rd false 1 10 l1)).bind fun t8 =>
  (lenStr t8).bind fun t9 =>
  (nl (binA .leq .none t9 (.int .i64 400))).bind fun t10 =>
  guardK t10 true (
  (nl (rd false 1 11 l1)).bind fun t15 =>
  (lenStr t15).bind fun t16 =>
  (nl (binA .leq .none t16 (.int .i64 400))).bind fun t17 =>
  guardK t17 true (
  (nl (rd false 1 12 l1)).bind fun t21 =>
  (lenStr t21).bind fun t22 =>
  (nl (binA .leq .none t22 (.int .i64 400))).bind fun t23 =>
  evK C D c ⟨[(2, .v t23)], [], H⟩ k)
  (evK C D c ⟨[(2, .v (.bool false))], [], H⟩ k))
  (evK C D c ⟨[(2, .v (.bool false))], [], H⟩ k))
  (evK C D c ⟨[(2, .v (.bool false))], [], H⟩ k) := by kernel_rfl
def F18 : FnIR := ⟨48, 1, [.tmp 2], [1],
  .seq (.region O18_0)
  (.keep [1] [1] (.seq (.seq (.region O18_1)
   (.keep [1, 3] [1] (.block 0 (.loop L18_0))))
  (.keep [1] [1] (.seq (.region O18_6)
  (.keep [2] [] (.ret))))))⟩
/-- (*wampum/state.State).Apply -/
def O19_0 : List IOper :=
  [⟨some 3, .box true 22 (.tmp 1), none⟩,
   ⟨some 4, .alloc true 18 [(.int .i64 0), (.int .i64 0), (.int .i64 0), .nils, (.bool false), (.int .i64 0), (.int .i64 0), (.str []), (.int .i64 0), (.int .i64 0), (.int .i64 0), (.int .i64 0), (.int .i64 0), (.int .i64 0), (.int .i64 0), (.int .i64 0), (.int .i64 0), .nils], none⟩]
@[simp] theorem R19_0 (x0 x1 : AV) :
  evK C D (.seq (.region O19_0) (.keep [0, 3, 4] [3, 4] c)) ⟨[(0, .v x0), (1, .v x1)], [], H⟩ k =
  (boxC x1).bind fun m0 =>
  evK C D c ⟨[(0, .v x0), (3, .l 3 0), (4, .l 4 0)], [(3, m0), (4, [(.int .i64 0), (.int .i64 0), (.int .i64 0), .nils, (.bool false), (.int .i64 0), (.int .i64 0), (.str []), (.int .i64 0), (.int .i64 0), (.int .i64 0), (.int .i64 0), (.int .i64 0), (.int .i64 0), (.int .i64 0), (.int .i64 0), (.int .i64 0), .nils])], H⟩ k := by kernel_rfl
def O19_1 : List IOper :=
  [⟨some 6, .move (.tmp 0), none⟩,
   ⟨some 7, .bin .eql .ptr (.tmp 6) (.const .nilp), none⟩,
   ⟨some 5, .move (.tmp 7), none⟩]
@[simp] theorem R19_1 (x0 : AV) (l3 l4 : List AV) :
  evK C D (.seq (.region O19_1) (.keep [0, 3, 4, 5] [3, 4] c)) ⟨[(0, .v x0), (3, .l 3 0), (4, .l 4 0)], [(3, l3), (4, l4)], H⟩ k =
  (nl (binA .eql .ptr x0 .nilp)).bind fun t1 =>
  evK C D c ⟨[(0, .v x0), (3, .l 3 0), (4, .l 4 0), (5, .v t1)], [(3, l3), (4, l4)], H⟩ k := by kernel_rfl
def O19_2 : List IOper :=
  [⟨some 8, .build [(.int .i64 0), (.int .i64 0), (.int .i64 0), .nils, (.bool false), (.int .i64 0), (.int .i64 0), (.str []), (.int .i64 0), (.int .i64 0), (.int .i64 0), (.int .i64 0), (.int .i64 0), (.int .i64 0), (.int .i64 0), (.int .i64 0), (.int .i64 0), .nils] [(0, 1, (.const (.int .i64 1)))], none⟩,
   ⟨none, .store 18 (.tmp 4) (.tmp 8), none⟩]
@[simp] theorem R19_2 (x0 x5 : AV) (l3 l4 : List AV) :
  evK C D (.seq (.region O19_2) (.keep [4] [4] c)) ⟨[(0, .v x0), (3, .l 3 0), (4, .l 4 0), (5, .v x5)], [(3, l3), (4, l4)], H⟩ k =
  ((fillC [(0, 1, (.int .i64 1))] [(.int .i64 0), (.int .i64 0), (.int .i64 0), .nils, (.bool false), (.int .i64 0), (.int .i64 0), (.str []), (.int .i64 0), (.int .i64 0), (.int .i64 0), (.int .i64 0), (.int .i64 0), (.int .i64 0), (.int .i64 0), (.int .i64 0), (.int .i64 0), .nils]).map AV.agg).bind fun t0 =>
  (stL 18 0 t0 l4).bind fun m1 =>
  evK C D c ⟨[(4, .l 4 0)], [(4, m1)], H⟩ k := by kernel_rfl
def O19_3 : List IOper :=
  [⟨some 10, .load true 22 (.tmp 3), none⟩,
   ⟨some 11, .call (.func 66) [(.tmp 10)], none⟩,
   ⟨some 12, .un .not (.tmp 11), none⟩,
   ⟨some 9, .move (.tmp 12), none⟩]
@[simp] theorem R19_3 (x0 x5 : AV) (l3 l4 : List AV) :
  evK C D (.seq (.region O19_3) (.keep [0, 3, 4, 9] [3, 4] c)) ⟨[(0, .v x0), (3, .l 3 0), (4, .l 4 0), (5, .v x5)], [(3, l3), (4, l4)], H⟩ k =
  (nl (rd true 22 0 l3)).bind fun t0 =>
  (callN C (.func (.func 66) [] []) [t0] H).bind fun r1 =>
  (nl (unA .not r1.1)).bind fun t2 =>
  evK C D c ⟨[(0, .v x0), (3, .l 3 0), (4, .l 4 0), (9, .v t2)], [(3, l3), (4, l4)], r1.2⟩ k := by kernel_rfl
def O19_4 : List IOper :=
  [⟨some 13, .build [(.int .i64 0), (.int .i64 0), (.int .i64 0), .nils, (.bool false), (.int .i64 0), (.int .i64 0), (.str []), (.int .i64 0), (.int .i64 0), (.int .i64 0), (.int .i64 0), (.int .i64 0), (.int .i64 0), (.int .i64 0), (.int .i64 0), (.int .i64 0), .nils] [(0, 1, (.const (.int .i64 131)))], none⟩,
   ⟨none, .store 18 (.tmp 4) (.tmp 13), none⟩]
@[simp] theorem R19_4 (x0 x9 : AV) (l3 l4 : List AV) :
  evK C D (.seq (.region O19_4) (.keep [4] [4] c)) ⟨[(0, .v x0), (3, .l 3 0), (4, .l 4 0), (9, .v x9)], [(3, l3), (4, l4)], H⟩ k =
  ((fillC [(0, 1, (.int .i64 131))] [(.int .i64 0), (.int .i64 0), (.int .i64 0), .nils, (.bool false), (.int .i64 0), (.int .i64 0), (.str []), (.int .i64 0), (.int .i64 0), (.int .i64 0), (.int .i64 0), (.int .i64 0), (.int .i64 0), (.int .i64 0), (.int .i64 0), (.int .i64 0), .nils]).map AV.agg).bind fun t0 =>
  (stL 18 0 t0 l4).bind fun m1 =>
  evK C D c ⟨[(4, .l 4 0)], [(4, m1)], H⟩ k := by kernel_rfl
def O19_5 : List IOper :=
  [⟨some 15, .fieldAddr 0 (.tmp 3), none⟩,
   ⟨some 16, .load false 1 (.tmp 15), none⟩,
   ⟨some 17, .bin .eql .int (.tmp 16) (.const (.int .i64 0)), none⟩,
   ⟨some 14, .move (.tmp 17), none⟩]
@[simp] theorem R19_5 (x0 x9 : AV) (l3 l4 : List AV) :
  evK C D (.seq (.region O19_5) (.keep [0, 3, 4, 14] [3, 4] c)) ⟨[(0, .v x0), (3, .l 3 0), (4, .l 4 0), (9, .v x9)], [(3, l3), (4, l4)], H⟩ k =
  (nl (rd false 1 0 l3)).bind fun t1 =>
  (nl (binA .eql .int t1 (.int .i64 0))).bind fun t2 =>
  evK C D c ⟨[(0, .v x0), (3, .l 3 0), (4, .l 4 0), (14, .v t2)], [(3, l3), (4, l4)], H⟩ k := by kernel_rfl
def O19_6 : List IOper :=
  [⟨some 18, .build [(.int .i64 0), (.int .i64 0), (.int .i64 0), .nils, (.bool false), (.int .i64 0), (.int .i64 0), (.str []), (.int .i64 0), (.int .i64 0), (.int .i64 0), (.int .i64 0), (.int .i64 0), (.int .i64 0), (.int .i64 0), (.int .i64 0), (.int .i64 0), .nils] [], none⟩,
   ⟨none, .store 18 (.tmp 4) (.tmp 18), none⟩]
@[simp] theorem R19_6 (x0 x14 : AV) (l3 l4 : List AV) :
  evK C D (.seq (.region O19_6) (.keep [4] [4] c)) ⟨[(0, .v x0), (3, .l 3 0), (4, .l 4 0), (14, .v x14)], [(3, l3), (4, l4)], H⟩ k =
  ((fillC [] [(.int .i64 0), (.int .i64 0), (.int .i64 0), .nils, (.bool false), (.int .i64 0), (.int .i64 0), (.str []), (.int .i64 0), (.int .i64 0), (.int .i64 0), (.int .i64 0), (.int .i64 0), (.int .i64 0), (.int .i64 0), (.int .i64 0), (.int .i64 0), .nils]).map AV.agg).bind fun t0 =>
  (stL 18 0 t0 l4).bind fun m1 =>
  evK C D c ⟨[(4, .l 4 0)], [(4, m1)], H⟩ k := by kernel_rfl
def O19_7 : List IOper :=
  [⟨some 20, .fieldAddr 0 (.tmp 3), none⟩,
   ⟨some 21, .load false 1 (.tmp 20), none⟩,
   ⟨some 22, .bin .eql .int (.tmp 21) (.const (.int .i64 1)), none⟩,
   ⟨some 23, .move (.tmp 22), none⟩,
   ⟨some 24, .fieldAddr 2 (.tmp 3), some (23, true)⟩,
   ⟨some 25, .load false 1 (.tmp 24), some (23, true)⟩,
   ⟨some 26, .move (.tmp 0), some (23, true)⟩,
   ⟨some 27, .nilCheck (.tmp 26), some (23, true)⟩,
   ⟨some 28, .fieldAddr 2 (.tmp 27), some (23, true)⟩,
   ⟨some 29, .load false 1 (.tmp 28), some (23, true)⟩,
   ⟨some 30, .bin .add .none (.tmp 29) (.const (.int .i64 1)), some (23, true)⟩,
   ⟨some 31, .bin .eql .int (.tmp 25) (.tmp 30), some (23, true)⟩,
   ⟨some 32, .pick (.tmp 23) (.tmp 31) (.const (.bool false)), none⟩,
   ⟨some 19, .move (.tmp 32), none⟩]
@[simp] theorem R19_7 (x0 x14 : AV) (l3 l4 : List AV) :
  evK C D (.seq (.regionD O19_7 []) (.keep [0, 3, 4, 19] [3, 4] c)) ⟨[(0, .v x0), (3, .l 3 0), (4, .l 4 0), (14, .v x14)], [(3, l3), (4, l4)], H⟩ k =
  (nl (rd false 1 0 l3)).bind fun t1 =>
  kB (AV.okB H.n t1) (
  (nl (binA .eql .int t1 (.int .i64 1))).bind fun t2 =>
  guardK t2 true (
  (nl (rd false 1 2 l3)).bind fun t5 =>
  kB (AV.okB H.n t5) (
  (nilC x0).bind fun t7 =>
  (fldP 2 t7).bind fun t8 =>
  (nl (loadP H false 1 t8)).bind fun t9 =>
  kB (AV.okB H.n t9) (
  (nl (binA .add .none t9 (.int .i64 1))).bind fun t10 =>
  (nl (binA .eql .int t5 t10)).bind fun t11 =>
  evK C D c ⟨[(0, .v x0), (3, .l 3 0), (4, .l 4 0), (19, .v t11)], [(3, l3), (4, l4)], H⟩ k)))
  (kB (AV.okB H.n undefA) (
  kB (AV.okB H.n undefA) (
  evK C D c ⟨[(0, .v x0), (3, .l 3 0), (4, .l 4 0), (19, .v (.bool false))], [(3, l3), (4, l4)], H⟩ k)))) := by kernel_rfl
def O19_8 : List IOper :=
  [⟨some 33, .move (.tmp 0), none⟩,
   ⟨some 35, .fieldAddr 2 (.tmp 3), none⟩,
   ⟨some 36, .load false 1 (.tmp 35), none⟩,
   ⟨some 39, .nilCheck (.tmp 33), none⟩,
   ⟨some 40, .fieldAddr 2 (.tmp 39), none⟩,
   ⟨none, .store 1 (.tmp 40) (.tmp 36), none⟩,
   ⟨some 34, .move (.tmp 0), none⟩,
   ⟨some 37, .fieldAddr 3 (.tmp 3), none⟩,
   ⟨some 38, .load false 1 (.tmp 37), none⟩,
   ⟨some 41, .nilCheck (.tmp 34), none⟩,
   ⟨some 42, .fieldAddr 3 (.tmp 41), none⟩,
   ⟨none, .store 1 (.tmp 42) (.tmp 38), none⟩]
@[simp] theorem R19_8 (x0 x19 : AV) (l3 l4 : List AV) :
  evK C D (.seq (.regionD O19_8 [(8, 0)]) (.keep [4] [4] c)) ⟨[(0, .v x0), (3, .l 3 0), (4, .l 4 0), (19, .v x19)], [(3, l3), (4, l4)], H⟩ k =
  (nl (rd false 1 2 l3)).bind fun t2 =>
  kB (AV.okB H.n t2) (
  (nilC x0).bind fun t3 =>
  (fldP 2 t3).bind fun t4 =>
  (storeP H 1 t2 t4).bind fun H5 =>
  (nl (rd false 1 3 l3)).bind fun t8 =>
  kB (AV.okB H5.n t8) (
  (nilC x0).bind fun t9 =>
  (fldP 3 t9).bind fun t10 =>
  (storeP H5 1 t8 t10).bind fun H11 =>
  kB (chk (rd false 1 3 l3) t8) (
  evK C D c ⟨[(4, .l 4 0)], [(4, l4)], H11⟩ k))) := by kernel_rfl
def O19_9 : List IOper :=
  [⟨some 43, .build [(.int .i64 0), (.int .i64 0), (.int .i64 0), .nils, (.bool false), (.int .i64 0), (.int .i64 0), (.str []), (.int .i64 0), (.int .i64 0), (.int .i64 0), (.int .i64 0), (.int .i64 0), (.int .i64 0), (.int .i64 0), (.int .i64 0), (.int .i64 0), .nils] [], none⟩,
   ⟨none, .store 18 (.tmp 4) (.tmp 43), none⟩]
@[simp] theorem R19_9 (l4 : List AV) :
  evK C D (.seq (.region O19_9) (.keep [4] [4] c)) ⟨[(4, .l 4 0)], [(4, l4)], H⟩ k =
  ((fillC [] [(.int .i64 0), (.int .i64 0), (.int .i64 0), .nils, (.bool false), (.int .i64 0), (.int .i64 0), (.str []), (.int .i64 0), (.int .i64 0), (.int .i64 0), (.int .i64 0), (.int .i64 0), (.int .i64 0), (.int .i64 0), (.int .i64 0), (.int .i64 0), .nils]).map AV.agg).bind fun t0 =>
  (stL 18 0 t0 l4).bind fun m1 =>
  evK C D c ⟨[(4, .l 4 0)], [(4, m1)], H⟩ k := by kernel_rfl
def O19_10 : List IOper :=
  [⟨some 45, .fieldAddr 0 (.tmp 3), none⟩,
   ⟨some 46, .load false 1 (.tmp 45), none⟩,
   ⟨some 47, .bin .eql .int (.tmp 46) (.const (.int .i64 1)), none⟩,
   ⟨some 48, .move (.tmp 47), none⟩,
   ⟨some 49, .fieldAddr 2 (.tmp 3), some (48, false)⟩,
   ⟨some 50, .load false 1 (.tmp 49), some (48, false)⟩,
   ⟨some 51, .move (.tmp 0), some (48, false)⟩,
   ⟨some 52, .nilCheck (.tmp 51), some (48, false)⟩,
   ⟨some 53, .fieldAddr 2 (.tmp 52), some (48, false)⟩,
   ⟨some 54, .load false 1 (.tmp 53), some (48, false)⟩,
   ⟨some 55, .bin .neq .int (.tmp 50) (.tmp 54), some (48, false)⟩,
   ⟨some 56, .pick (.tmp 48) (.const (.bool true)) (.tmp 55), none⟩,
   ⟨some 44, .move (.tmp 56), none⟩]
@[simp] theorem R19_10 (x0 x19 : AV) (l3 l4 : List AV) :
  evK C D (.seq (.regionD O19_10 []) (.keep [0, 3, 4, 44] [3, 4] c)) ⟨[(0, .v x0), (3, .l 3 0), (4, .l 4 0), (19, .v x19)], [(3, l3), (4, l4)], H⟩ k =
  (nl (rd false 1 0 l3)).bind fun t1 =>
  kB (AV.okB H.n t1) (
  (nl (binA .eql .int t1 (.int .i64 1))).bind fun t2 =>
  guardK t2 false (
  (nl (rd false 1 2 l3)).bind fun t5 =>
  kB (AV.okB H.n t5) (
  (nilC x0).bind fun t7 =>
  (fldP 2 t7).bind fun t8 =>
  (nl (loadP H false 1 t8)).bind fun t9 =>
  kB (AV.okB H.n t9) (
  (nl (binA .neq .int t5 t9)).bind fun t10 =>
  evK C D c ⟨[(0, .v x0), (3, .l 3 0), (4, .l 4 0), (44, .v t10)], [(3, l3), (4, l4)], H⟩ k)))
  (kB (AV.okB H.n undefA) (
  kB (AV.okB H.n undefA) (
  evK C D c ⟨[(0, .v x0), (3, .l 3 0), (4, .l 4 0), (44, .v (.bool true))], [(3, l3), (4, l4)], H⟩ k)))) := by kernel_rfl
def O19_11 : List IOper :=
  [⟨some 57, .build [(.int .i64 0), (.int .i64 0), (.int .i64 0), .nils, (.bool false), (.int .i64 0), (.int .i64 0), (.str []), (.int .i64 0), (.int .i64 0), (.int .i64 0), (.int .i64 0), (.int .i64 0), (.int .i64 0), (.int .i64 0), (.int .i64 0), (.int .i64 0), .nils] [(0, 1, (.const (.int .i64 141)))], none⟩,
   ⟨none, .store 18 (.tmp 4) (.tmp 57), none⟩]
@[simp] theorem R19_11 (x0 x44 : AV) (l3 l4 : List AV) :
  evK C D (.seq (.region O19_11) (.keep [4] [4] c)) ⟨[(0, .v x0), (3, .l 3 0), (4, .l 4 0), (44, .v x44)], [(3, l3), (4, l4)], H⟩ k =
  ((fillC [(0, 1, (.int .i64 141))] [(.int .i64 0), (.int .i64 0), (.int .i64 0), .nils, (.bool false), (.int .i64 0), (.int .i64 0), (.str []), (.int .i64 0), (.int .i64 0), (.int .i64 0), (.int .i64 0), (.int .i64 0), (.int .i64 0), (.int .i64 0), (.int .i64 0), (.int .i64 0), .nils]).map AV.agg).bind fun t0 =>
  (stL 18 0 t0 l4).bind fun m1 =>
  evK C D c ⟨[(4, .l 4 0)], [(4, m1)], H⟩ k := by kernel_rfl
def O19_12 : List IOper :=
  [⟨some 59, .move (.tmp 0), none⟩,
   ⟨some 60, .load true 22 (.tmp 3), none⟩,
   ⟨some 61, .call (.func 67) [(.tmp 59), (.tmp 60)], none⟩,
   ⟨some 62, .un .not (.tmp 61), none⟩,
   ⟨some 58, .move (.tmp 62), none⟩]
@[simp] theorem R19_12 (x0 x44 : AV) (l3 l4 : List AV) :
  evK C D (.seq (.region O19_12) (.keep [0, 3, 4, 58] [3, 4] c)) ⟨[(0, .v x0), (3, .l 3 0), (4, .l 4 0), (44, .v x44)], [(3, l3), (4, l4)], H⟩ k =
  (nl (rd true 22 0 l3)).bind fun t1 =>
  (callN C (.func (.func 67) [] []) [x0, t1] H).bind fun r2 =>
  (nl (unA .not r2.1)).bind fun t3 =>
  evK C D c ⟨[(0, .v x0), (3, .l 3 0), (4, .l 4 0), (58, .v t3)], [(3, l3), (4, l4)], r2.2⟩ k := by kernel_rfl
def O19_13 : List IOper :=
  [⟨some 63, .build [(.int .i64 0), (.int .i64 0), (.int .i64 0), .nils, (.bool false), (.int .i64 0), (.int .i64 0), (.str []), (.int .i64 0), (.int .i64 0), (.int .i64 0), (.int .i64 0), (.int .i64 0), (.int .i64 0), (.int .i64 0), (.int .i64 0), (.int .i64 0), .nils] [(0, 1, (.const (.int .i64 142)))], none⟩,
   ⟨none, .store 18 (.tmp 4) (.tmp 63), none⟩]
@[simp] theorem R19_13 (x0 x58 : AV) (l3 l4 : List AV) :
  evK C D (.seq (.region O19_13) (.keep [4] [4] c)) ⟨[(0, .v x0), (3, .l 3 0), (4, .l 4 0), (58, .v x58)], [(3, l3), (4, l4)], H⟩ k =
  ((fillC [(0, 1, (.int .i64 142))] [(.int .i64 0), (.int .i64 0), (.int .i64 0), .nils, (.bool false), (.int .i64 0), (.int .i64 0), (.str []), (.int .i64 0), (.int .i64 0), (.int .i64 0), (.int .i64 0), (.int .i64 0), (.int .i64 0), (.int .i64 0), (.int .i64 0), (.int .i64 0), .nils]).map AV.agg).bind fun t0 =>
  (stL 18 0 t0 l4).bind fun m1 =>
  evK C D c ⟨[(4, .l 4 0)], [(4, m1)], H⟩ k := by kernel_rfl
def O19_14 : List IOper :=
  [⟨some 64, .call (.func 68) [], none⟩,
   ⟨some 65, .fieldAddr 0 (.tmp 3), none⟩,
   ⟨some 66, .load false 1 (.tmp 65), none⟩,
   ⟨some 67, .lookup (.int .i64) false .nilFunc (.tmp 64) (.tmp 66), none⟩,
   ⟨some 68, .move (.tmp 0), none⟩,
   ⟨some 69, .load true 22 (.tmp 3), none⟩,
   ⟨some 70, .call (.tmp 67) [(.tmp 68), (.tmp 69)], none⟩,
   ⟨none, .store 18 (.tmp 4) (.tmp 70), none⟩]
@[simp] theorem R19_14 (x0 : AV) (l3 l4 : List AV) :
  evK C D (.seq (.regionD O19_14 [(2, 0), (5, 0)]) (.keep [4] [4] c)) ⟨[(0, .v x0), (3, .l 3 0), (4, .l 4 0)], [(3, l3), (4, l4)], H⟩ k =
  (callN C (.func (.func 68) [] []) [] H).bind fun r0 =>
  (nl (rd false 1 0 l3)).bind fun t2 =>
  kB (AV.okB r0.2.n t2) (
  (nl (lookupA r0.2 (.int .i64) false .nilFunc r0.1 t2)).bind fun t3 =>
  kB (AV.okB r0.2.n t3) (
  (nl (rd true 22 0 l3)).bind fun t5 =>
  kB (AV.okB r0.2.n t5) (
  (callN C t3 [x0, t5] r0.2).bind fun r6 =>
  (stL 18 0 r6.1 l4).bind fun m7 =>
  kB (chk (rd false 1 0 l3) t2) (
  kB (chk (rd true 22 0 l3) t5) (
  evK C D c ⟨[(4, .l 4 0)], [(4, m7)], r6.2⟩ k))))) := by kernel_rfl
def F19 : FnIR := ⟨71, 2, [.cell 4 true 18], [3, 4],
  .seq (.region O19_0)
  (.keep [0, 3, 4] [3, 4] (.seq (.block 0 (.seq (.region O19_1)
    (.keep [0, 3, 4, 5] [3, 4] (.cond (.tmp 5)
     (.seq (.region O19_2)
     (.keep [4] [4] (.ret)))
     (.seq (.region O19_3)
     (.keep [0, 3, 4, 9] [3, 4] (.cond (.tmp 9)
      (.seq (.region O19_4)
      (.keep [4] [4] (.ret)))
      (.seq (.region O19_5)
      (.keep [0, 3, 4, 14] [3, 4] (.cond (.tmp 14)
       (.seq (.region O19_6)
       (.keep [4] [4] (.ret)))
       (.seq (.regionD O19_7 [])
       (.keep [0, 3, 4, 19] [3, 4] (.cond (.tmp 19)
        (.seq (.regionD O19_8 [(8, 0)])
        (.keep [4] [4] (.seq (.region O19_9)
        (.keep [4] [4] (.ret)))))
        (.seq (.regionD O19_10 [])
        (.keep [0, 3, 4, 44] [3, 4] (.cond (.tmp 44)
         (.seq (.region O19_11)
         (.keep [4] [4] (.ret)))
         (.seq (.region O19_12)
         (.keep [0, 3, 4, 58] [3, 4] (.cond (.tmp 58)
          (.seq (.region O19_13)
          (.keep [4] [4] (.ret)))
          (.skip))))))))))))))))))))
  (.keep [0, 3, 4] [3, 4] (.seq (.regionD O19_14 [(2, 0), (5, 0)])
  (.keep [4] [4] (.ret))))))⟩
/-- (*wampum/state.State).Lease -/
def O20_0 : List IOper :=
  [⟨some 2, .move (.const (.int .i64 0)), none⟩,
   ⟨some 3, .move (.const (.int .i64 0)), none⟩]
@[simp] theorem R20_0 (x0 : AV) :
  evK C D (.seq (.region O20_0) (.keep [0] [] c)) ⟨[(0, .v x0)], [], H⟩ k =
  evK C D c ⟨[(0, .v x0)], [], H⟩ k := by kernel_rfl
def O20_1 : List IOper :=
  [⟨some 4, .move (.tmp 0), none⟩,
   ⟨some 5, .bin .eql .ptr (.tmp 4) (.const .nilp), none⟩]
@[simp] theorem R20_1 (x0 : AV) :
  evK C D (.seq (.region O20_1) (.keep [0, 5] [] c)) ⟨[(0, .v x0)], [], H⟩ k =
  (nl (binA .eql .ptr x0 .nilp)).bind fun t1 =>
  evK C D c ⟨[(0, .v x0), (5, .v t1)], [], H⟩ k := by kernel_rfl
def O20_2 : List IOper :=
  [⟨some 2, .move (.const (.int .i64 0)), none⟩,
   ⟨some 3, .move (.const (.int .i64 0)), none⟩]
@[simp] theorem R20_2 (x0 x5 : AV) :
  evK C D (.seq (.region O20_2) (.keep [2, 3] [] c)) ⟨[(0, .v x0), (5, .v x5)], [], H⟩ k =
  evK C D c ⟨[(2, .v (.int .i64 0)), (3, .v (.int .i64 0))], [], H⟩ k := by kernel_rfl
def O20_3 : List IOper :=
  [⟨some 6, .move (.tmp 0), none⟩,
   ⟨some 7, .nilCheck (.tmp 6), none⟩,
   ⟨some 8, .fieldAddr 2 (.tmp 7), none⟩,
   ⟨some 9, .load false 1 (.tmp 8), none⟩,
   ⟨some 10, .move (.tmp 0), none⟩,
   ⟨some 11, .nilCheck (.tmp 10), none⟩,
   ⟨some 12, .fieldAddr 3 (.tmp 11), none⟩,
   ⟨some 13, .load false 1 (.tmp 12), none⟩,
   ⟨some 2, .move (.tmp 9), none⟩,
   ⟨some 3, .move (.tmp 13), none⟩]
@[simp] theorem R20_3 (x0 : AV) :
  evK C D (.seq (.regionD O20_3 []) (.keep [2, 3] [] c)) ⟨[(0, .v x0)], [], H⟩ k =
  (nilC x0).bind fun t1 =>
  (fldP 2 t1).bind fun t2 =>
  (nl (loadP H false 1 t2)).bind fun t3 =>
  kB (AV.okB H.n t3) (
  (nilC x0).bind fun t5 =>
  (fldP 3 t5).bind fun t6 =>
  (nl (loadP H false 1 t6)).bind fun t7 =>
  kB (AV.okB H.n t7) (
  evK C D c ⟨[(2, .v t3), (3, .v t7)], [], H⟩ k)) := by kernel_rfl
def F20 : FnIR := ⟨14, 1, [.tmp 2, .tmp 3], [],
  .seq (.region O20_0)
  (.keep [0] [] (.seq (.seq (.region O20_1)
   (.keep [0, 5] [] (.cond (.tmp 5)
    (.seq (.region O20_2)
    (.keep [2, 3] [] (.ret)))
    (.skip))))
  (.keep [0] [] (.seq (.regionD O20_3 [])
  (.keep [2, 3] [] (.ret))))))⟩
/-- (*wampum/state.State).Low -/
def O22_0 : List IOper :=
  [⟨some 2, .alloc true 2 [(.int .i64 0), (.int .i64 0)], none⟩]
@[simp] theorem R22_0 (x0 : AV) :
  evK C D (.seq (.region O22_0) (.keep [0, 2] [2] c)) ⟨[(0, .v x0)], [], H⟩ k =
  evK C D c ⟨[(0, .v x0), (2, .l 2 0)], [(2, [(.int .i64 0), (.int .i64 0)])], H⟩ k := by kernel_rfl
def O22_1 : List IOper :=
  [⟨some 3, .move (.tmp 0), none⟩,
   ⟨some 4, .bin .eql .ptr (.tmp 3) (.const .nilp), none⟩]
@[simp] theorem R22_1 (x0 : AV) (l2 : List AV) :
  evK C D (.seq (.region O22_1) (.keep [0, 2, 4] [2] c)) ⟨[(0, .v x0), (2, .l 2 0)], [(2, l2)], H⟩ k =
  (nl (binA .eql .ptr x0 .nilp)).bind fun t1 =>
  evK C D c ⟨[(0, .v x0), (2, .l 2 0), (4, .v t1)], [(2, l2)], H⟩ k := by kernel_rfl
def O22_2 : List IOper :=
  [⟨some 5, .build [(.int .i64 0), (.int .i64 0)] [], none⟩,
   ⟨none, .store 2 (.tmp 2) (.tmp 5), none⟩]
@[simp] theorem R22_2 (x0 x4 : AV) (l2 : List AV) :
  evK C D (.seq (.region O22_2) (.keep [2] [2] c)) ⟨[(0, .v x0), (2, .l 2 0), (4, .v x4)], [(2, l2)], H⟩ k =
  ((fillC [] [(.int .i64 0), (.int .i64 0)]).map AV.agg).bind fun t0 =>
  (stL 2 0 t0 l2).bind fun m1 =>
  evK C D c ⟨[(2, .l 2 0)], [(2, m1)], H⟩ k := by kernel_rfl
def O22_3 : List IOper :=
  [⟨some 6, .move (.tmp 0), none⟩,
   ⟨some 7, .nilCheck (.tmp 6), none⟩,
   ⟨some 8, .fieldAddr 4 (.tmp 7), none⟩,
   ⟨some 9, .load true 2 (.tmp 8), none⟩,
   ⟨none, .store 2 (.tmp 2) (.tmp 9), none⟩]
@[simp] theorem R22_3 (x0 : AV) (l2 : List AV) :
  evK C D (.seq (.region O22_3) (.keep [2] [2] c)) ⟨[(0, .v x0), (2, .l 2 0)], [(2, l2)], H⟩ k =
  (nilC x0).bind fun t1 =>
  (fldP 4 t1).bind fun t2 =>
  (nl (loadP H true 2 t2)).bind fun t3 =>
  (stL 2 0 t3 l2).bind fun m4 =>
  evK C D c ⟨[(2, .l 2 0)], [(2, m4)], H⟩ k := by kernel_rfl
def F22 : FnIR := ⟨10, 1, [.cell 2 true 2], [2],
  .seq (.region O22_0)
  (.keep [0, 2] [2] (.seq (.seq (.region O22_1)
   (.keep [0, 2, 4] [2] (.cond (.tmp 4)
    (.seq (.region O22_2)
    (.keep [2] [2] (.ret)))
    (.skip))))
  (.keep [0, 2] [2] (.seq (.region O22_3)
  (.keep [2] [2] (.ret))))))⟩
/-- (*wampum/state.State).Over -/
def O24_0 : List IOper :=
  [⟨some 4, .move (.const (.bool false)), none⟩]
@[simp] theorem R24_0 (x0 x1 : AV) :
  evK C D (.seq (.region O24_0) (.keep [0, 1] [] c)) ⟨[(0, .v x0), (1, .v x1)], [], H⟩ k =
  evK C D c ⟨[(0, .v x0), (1, .v x1)], [], H⟩ k := by kernel_rfl
def O24_1 : List IOper :=
  [⟨some 7, .move (.tmp 0), none⟩,
   ⟨some 8, .bin .eql .ptr (.tmp 7) (.const .nilp), none⟩]
@[simp] theorem R24_1 (x0 x1 : AV) :
  evK C D (.seq (.region O24_1) (.keep [0, 1, 8] [] c)) ⟨[(0, .v x0), (1, .v x1)], [], H⟩ k =
  (nl (binA .eql .ptr x0 .nilp)).bind fun t1 =>
  evK C D c ⟨[(0, .v x0), (1, .v x1), (8, .v t1)], [], H⟩ k := by kernel_rfl
def O24_2 : List IOper :=
  [⟨some 4, .move (.const (.bool false)), none⟩]
@[simp] theorem R24_2 (x0 x1 x8 : AV) :
  evK C D (.seq (.region O24_2) (.keep [4] [] c)) ⟨[(0, .v x0), (1, .v x1), (8, .v x8)], [], H⟩ k =
  evK C D c ⟨[(4, .v (.bool false))], [], H⟩ k := by kernel_rfl
def O24_3 : List IOper :=
  [⟨some 10, .move (.tmp 0), none⟩,
   ⟨some 11, .nilCheck (.tmp 10), none⟩,
   ⟨some 12, .fieldAddr 8 (.tmp 11), none⟩,
   ⟨some 13, .load false 1 (.tmp 12), none⟩,
   ⟨some 14, .move (.tmp 1), none⟩,
   ⟨some 15, .lookup (.int .i64) true (.agg []) (.tmp 13) (.tmp 14), none⟩,
   ⟨some 9, .move (.tmp 15), none⟩,
   ⟨some 16, .extract (.tmp 9) 0, none⟩,
   ⟨some 17, .extract (.tmp 9) 1, none⟩,
   ⟨some 5, .alloc true 0 [], none⟩,
   ⟨none, .store 0 (.tmp 5) (.tmp 16), none⟩,
   ⟨some 6, .move (.tmp 17), none⟩]
@[simp] theorem R24_3 (x0 x1 : AV) :
  evK C D (.seq (.region O24_3) (.keep [6] [] c)) ⟨[(0, .v x0), (1, .v x1)], [], H⟩ k =
  (nilC x0).bind fun t1 =>
  (fldP 8 t1).bind fun t2 =>
  (nl (loadP H false 1 t2)).bind fun t3 =>
  (nl (lookupA H (.int .i64) true (.agg []) t3 x1)).bind fun t5 =>
  (nl (extA 0 t5)).bind fun t7 =>
  (nl (extA 1 t5)).bind fun t8 =>
  (stL 0 0 t7 []).bind fun m10 =>
  evK C D c ⟨[(6, .v t8)], [], H⟩ k := by kernel_rfl
def O24_4 : List IOper :=
  [⟨some 18, .move (.tmp 6), none⟩,
   ⟨some 4, .move (.tmp 18), none⟩]
@[simp] theorem R24_4 (x6 : AV) :
  evK C D (.seq (.region O24_4) (.keep [4] [] c)) ⟨[(6, .v x6)], [], H⟩ k =
  evK C D c ⟨[(4, .v x6)], [], H⟩ k := by kernel_rfl
def F24 : FnIR := ⟨19, 2, [.tmp 4], [5],
  .seq (.region O24_0)
  (.keep [0, 1] [] (.seq (.seq (.region O24_1)
   (.keep [0, 1, 8] [] (.cond (.tmp 8)
    (.seq (.region O24_2)
    (.keep [4] [] (.ret)))
    (.skip))))
  (.keep [0, 1] [] (.seq (.region O24_3)
  (.keep [6] [] (.seq (.region O24_4)
  (.keep [4] [] (.ret))))))))⟩
/-- (*wampum/state.State).Store -/
def O25_0 : List IOper :=
  [⟨some 2, .move (.const .nilp), none⟩]
@[simp] theorem R25_0 (x0 : AV) :
  evK C D (.seq (.region O25_0) (.keep [0] [] c)) ⟨[(0, .v x0)], [], H⟩ k =
  evK C D c ⟨[(0, .v x0)], [], H⟩ k := by kernel_rfl
def O25_1 : List IOper :=
  [⟨some 3, .move (.tmp 0), none⟩,
   ⟨some 4, .bin .eql .ptr (.tmp 3) (.const .nilp), none⟩]
@[simp] theorem R25_1 (x0 : AV) :
  evK C D (.seq (.region O25_1) (.keep [0, 4] [] c)) ⟨[(0, .v x0)], [], H⟩ k =
  (nl (binA .eql .ptr x0 .nilp)).bind fun t1 =>
  evK C D c ⟨[(0, .v x0), (4, .v t1)], [], H⟩ k := by kernel_rfl
def O25_2 : List IOper :=
  [⟨some 2, .move (.const .nilp), none⟩]
@[simp] theorem R25_2 (x0 x4 : AV) :
  evK C D (.seq (.region O25_2) (.keep [2] [] c)) ⟨[(0, .v x0), (4, .v x4)], [], H⟩ k =
  evK C D c ⟨[(2, .v .nilp)], [], H⟩ k := by kernel_rfl
def O25_3 : List IOper :=
  [⟨some 5, .move (.tmp 0), none⟩,
   ⟨some 6, .nilCheck (.tmp 5), none⟩,
   ⟨some 7, .fieldAddr 6 (.tmp 6), none⟩,
   ⟨some 8, .load false 1 (.tmp 7), none⟩,
   ⟨some 9, .call (.func 69) [(.tmp 8)], none⟩,
   ⟨some 2, .move (.tmp 9), none⟩]
@[simp] theorem R25_3 (x0 : AV) :
  evK C D (.seq (.region O25_3) (.keep [2] [] c)) ⟨[(0, .v x0)], [], H⟩ k =
  (nilC x0).bind fun t1 =>
  (fldP 6 t1).bind fun t2 =>
  (nl (loadP H false 1 t2)).bind fun t3 =>
  (callN C (.func (.func 69) [] []) [t3] H).bind fun r4 =>
  evK C D c ⟨[(2, .v r4.1)], [], r4.2⟩ k := by kernel_rfl
def F25 : FnIR := ⟨10, 1, [.tmp 2], [],
  .seq (.region O25_0)
  (.keep [0] [] (.seq (.seq (.region O25_1)
   (.keep [0, 4] [] (.cond (.tmp 4)
    (.seq (.region O25_2)
    (.keep [2] [] (.ret)))
    (.skip))))
  (.keep [0] [] (.seq (.region O25_3)
  (.keep [2] [] (.ret))))))⟩
/-- (*wampum/state.State).Bytes -/
def O29_0 : List IOper :=
  [⟨some 2, .move (.const .nils), none⟩]
@[simp] theorem R29_0 (x0 : AV) :
  evK C D (.seq (.region O29_0) (.keep [0] [] c)) ⟨[(0, .v x0)], [], H⟩ k =
  evK C D c ⟨[(0, .v x0)], [], H⟩ k := by kernel_rfl
def O29_1 : List IOper :=
  [⟨some 8, .move (.tmp 0), none⟩,
   ⟨some 9, .bin .eql .ptr (.tmp 8) (.const .nilp), none⟩]
@[simp] theorem R29_1 (x0 : AV) :
  evK C D (.seq (.region O29_1) (.keep [0, 9] [] c)) ⟨[(0, .v x0)], [], H⟩ k =
  (nl (binA .eql .ptr x0 .nilp)).bind fun t1 =>
  evK C D c ⟨[(0, .v x0), (9, .v t1)], [], H⟩ k := by kernel_rfl
def O29_2 : List IOper :=
  [⟨some 2, .move (.const .nils), none⟩]
@[simp] theorem R29_2 (x0 x9 : AV) :
  evK C D (.seq (.region O29_2) (.keep [2] [] c)) ⟨[(0, .v x0), (9, .v x9)], [], H⟩ k =
  evK C D c ⟨[(2, .v .nils)], [], H⟩ k := by kernel_rfl
def O29_3 : List IOper :=
  [⟨some 10, .move (.tmp 0), none⟩,
   ⟨some 11, .nilCheck (.tmp 10), none⟩,
   ⟨some 12, .fieldAddr 0 (.tmp 11), none⟩,
   ⟨some 13, .fieldAddr 0 (.tmp 12), none⟩,
   ⟨some 14, .load false 1 (.tmp 13), none⟩,
   ⟨some 15, .call (.func 61) [(.const .nils), (.tmp 14)], none⟩,
   ⟨some 16, .move (.tmp 0), none⟩,
   ⟨some 17, .nilCheck (.tmp 16), none⟩,
   ⟨some 18, .fieldAddr 0 (.tmp 17), none⟩,
   ⟨some 19, .fieldAddr 1 (.tmp 18), none⟩,
   ⟨some 20, .load false 1 (.tmp 19), none⟩,
   ⟨some 21, .call (.func 61) [(.tmp 15), (.tmp 20)], none⟩,
   ⟨some 22, .move (.tmp 0), none⟩,
   ⟨some 23, .nilCheck (.tmp 22), none⟩,
   ⟨some 24, .fieldAddr 2 (.tmp 23), none⟩,
   ⟨some 25, .load false 1 (.tmp 24), none⟩,
   ⟨some 26, .call (.func 58) [(.tmp 21), (.tmp 25)], none⟩,
   ⟨some 27, .move (.tmp 0), none⟩,
   ⟨some 28, .nilCheck (.tmp 27), none⟩,
   ⟨some 29, .fieldAddr 3 (.tmp 28), none⟩,
   ⟨some 30, .load false 1 (.tmp 29), none⟩,
   ⟨some 31, .call (.func 58) [(.tmp 26), (.tmp 30)], none⟩,
   ⟨some 3, .move (.tmp 31), none⟩]
@[simp] theorem R29_3 (x0 : AV) :
  evK C D (.seq (.regionD O29_3 [(10, 0), (15, 0), (15, 6), (20, 0), (20, 6), (20, 12)]) (.keep [0, 3] [] c)) ⟨[(0, .v x0)], [], H⟩ k =
  (nilC x0).bind fun t1 =>
  (fldP 0 t1).bind fun t2 =>
  (fldP 0 t2).bind fun t3 =>
  (nl (loadP H false 1 t3)).bind fun t4 =>
  kB (AV.okB H.n t4) (
  (callN C (.func (.func 61) [] []) [.nils, t4] H).bind fun r5 =>
  (nilC x0).bind fun t7 =>
  (fldP 0 t7).bind fun t8 =>
  (fldP 1 t8).bind fun t9 =>
  (nl (loadP r5.2 false 1 t9)).bind fun t10 =>
  kB (AV.okB r5.2.n t10) (
  (callN C (.func (.func 61) [] []) [r5.1, t10] r5.2).bind fun r11 =>
  (nilC x0).bind fun t13 =>
  (fldP 2 t13).bind fun t14 =>
  (nl (loadP r11.2 false 1 t14)).bind fun t15 =>
  kB (AV.okB r11.2.n t15) (
  (callN C (.func (.func 58) [] []) [r11.1, t15] r11.2).bind fun r16 =>
  (nilC x0).bind fun t18 =>
  (fldP 3 t18).bind fun t19 =>
  (nl (loadP r16.2 false 1 t19)).bind fun t20 =>
  kB (AV.okB r16.2.n t20) (
  (callN C (.func (.func 58) [] []) [r16.1, t20] r16.2).bind fun r21 =>
  kB (chk (loadP H false 1 t9) t10) (
  kB (chk (loadP H false 1 t14) t15) (
  kB (chk (loadP r5.2 false 1 t14) t15) (
  kB (chk (loadP H false 1 t19) t20) (
  kB (chk (loadP r5.2 false 1 t19) t20) (
  kB (chk (loadP r11.2 false 1 t19) t20) (
  evK C D c ⟨[(0, .v x0), (3, .v r21.1)], [], r21.2⟩ k)))))))))) := by kernel_rfl
def O29_4 : List IOper :=
  [⟨some 32, .move (.tmp 3), none⟩,
   ⟨some 33, .move (.tmp 0), none⟩,
   ⟨some 34, .nilCheck (.tmp 33), none⟩,
   ⟨some 35, .fieldAddr 4 (.tmp 34), none⟩,
   ⟨some 36, .load true 2 (.tmp 35), none⟩,
   ⟨some 37, .call (.func 63) [(.tmp 32), (.tmp 36)], none⟩,
   ⟨some 38, .move (.tmp 0), none⟩,
   ⟨some 39, .nilCheck (.tmp 38), none⟩,
   ⟨some 40, .fieldAddr 6 (.tmp 39), none⟩,
   ⟨some 41, .load false 1 (.tmp 40), none⟩,
   ⟨some 42, .call (.func 15) [(.tmp 41)], none⟩,
   ⟨some 43, .conv .ofBytes (.tmp 42), none⟩,
   ⟨some 44, .call (.func 61) [(.tmp 37), (.tmp 43)], none⟩,
   ⟨some 3, .move (.tmp 44), none⟩]
@[simp] theorem R29_4 (x0 x3 : AV) :
  evK C D (.seq (.regionD O29_4 [(9, 0)]) (.keep [0, 3] [] c)) ⟨[(0, .v x0), (3, .v x3)], [], H⟩ k =
  (nilC x0).bind fun t2 =>
  (fldP 4 t2).bind fun t3 =>
  (nl (loadP H true 2 t3)).bind fun t4 =>
  kB (AV.okB H.n t4) (
  (callN C (.func (.func 63) [] []) [x3, t4] H).bind fun r5 =>
  (nilC x0).bind fun t7 =>
  (fldP 6 t7).bind fun t8 =>
  (nl (loadP r5.2 false 1 t8)).bind fun t9 =>
  kB (AV.okB r5.2.n t9) (
  (callN C (.func (.func 15) [] []) [t9] r5.2).bind fun r10 =>
  ((bytesA r10.2 r10.1).map AV.str).bind fun t11 =>
  kB (AV.okB r10.2.n t11) (
  (callN C (.func (.func 61) [] []) [r5.1, t11] r10.2).bind fun r12 =>
  kB (chk (loadP H false 1 t8) t9) (
  evK C D c ⟨[(0, .v x0), (3, .v r12.1)], [], r12.2⟩ k)))) := by kernel_rfl
def O29_5 : List IOper :=
  [⟨some 45, .move (.tmp 3), none⟩,
   ⟨some 46, .move (.tmp 0), none⟩,
   ⟨some 47, .nilCheck (.tmp 46), none⟩,
   ⟨some 48, .fieldAddr 7 (.tmp 47), none⟩,
   ⟨some 49, .load false 1 (.tmp 48), none⟩,
   ⟨some 50, .len .map (.tmp 49), none⟩,
   ⟨some 51, .call (.func 58) [(.tmp 45), (.tmp 50)], none⟩,
   ⟨some 3, .move (.tmp 51), none⟩]
@[simp] theorem R29_5 (x0 x3 : AV) :
  evK C D (.seq (.region O29_5) (.keep [0, 3] [] c)) ⟨[(0, .v x0), (3, .v x3)], [], H⟩ k =
  (nilC x0).bind fun t2 =>
  (fldP 7 t2).bind fun t3 =>
  (nl (loadP H false 1 t3)).bind fun t4 =>
  (lenMap H t4).bind fun t5 =>
  (callN C (.func (.func 58) [] []) [x3, t5] H).bind fun r6 =>
  evK C D c ⟨[(0, .v x0), (3, .v r6.1)], [], r6.2⟩ k := by kernel_rfl
def O29_6 : List IOper :=
  [⟨some 52, .move (.tmp 0), none⟩,
   ⟨some 53, .nilCheck (.tmp 52), none⟩,
   ⟨some 54, .fieldAddr 7 (.tmp 53), none⟩,
   ⟨some 55, .load false 1 (.tmp 54), none⟩,
   ⟨some 56, .call (.func 75) [(.tmp 55)], none⟩,
   ⟨some 57, .call (.func 74) [(.tmp 56)], none⟩,
   ⟨some 58, .len .slice (.tmp 57), none⟩,
   ⟨some 59, .move (.const (.int .i64 0)), none⟩]
@[simp] theorem R29_6 (x0 x3 : AV) :
  evK C D (.seq (.region O29_6) (.keep [0, 3, 57, 58, 59] [] c)) ⟨[(0, .v x0), (3, .v x3)], [], H⟩ k =
  (nilC x0).bind fun t1 =>
  (fldP 7 t1).bind fun t2 =>
  (nl (loadP H false 1 t2)).bind fun t3 =>
  (callN C (.func (.func 75) [] []) [t3] H).bind fun r4 =>
  (callN C (.func (.func 74) [] []) [r4.1] r4.2).bind fun r5 =>
  (lenS r5.1).bind fun t6 =>
  evK C D c ⟨[(0, .v x0), (3, .v x3), (57, .v r5.1), (58, .v t6), (59, .v (.int .i64 0))], [], r5.2⟩ k := by kernel_rfl
def O29_7 : List IOper :=
  [⟨some 60, .bin .lss .none (.tmp 59) (.tmp 58), none⟩]
@[simp] theorem R29_7 (x0 x3 x57 x58 x59 : AV) :
  evK C D (.seq (.region O29_7) (.keep [0, 3, 57, 58, 59, 60] [] c)) ⟨[(0, .v x0), (3, .v x3), (57, .v x57), (58, .v x58), (59, .v x59)], [], H⟩ k =
  (nl (binA .lss .none x59 x58)).bind fun t0 =>
  evK C D c ⟨[(0, .v x0), (3, .v x3), (57, .v x57), (58, .v x58), (59, .v x59), (60, .v t0)], [], H⟩ k := by kernel_rfl
def O29_8 : List IOper :=
  [⟨some 61, .indexAddr none 1 (.tmp 57) (.tmp 59), none⟩,
   ⟨some 62, .load false 1 (.tmp 61), none⟩,
   ⟨some 5, .move (.tmp 62), none⟩]
@[simp] theorem R29_8 (x0 x3 x57 x58 x59 : AV) :
  evK C D (.seq (.region O29_8) (.keep [0, 3, 5, 57, 58, 59] [] c)) ⟨[(0, .v x0), (3, .v x3), (57, .v x57), (58, .v x58), (59, .v x59)], [], H⟩ k =
  (nl (idxS 1 x57 x59)).bind fun t0 =>
  (nl (loadP H false 1 t0)).bind fun t1 =>
  evK C D c ⟨[(0, .v x0), (3, .v x3), (5, .v t1), (57, .v x57), (58, .v x58), (59, .v x59)], [], H⟩ k := by kernel_rfl
def O29_9 : List IOper :=
  [⟨some 63, .move (.tmp 3), none⟩,
   ⟨some 64, .move (.tmp 0), none⟩,
   ⟨some 65, .nilCheck (.tmp 64), none⟩,
   ⟨some 66, .fieldAddr 7 (.tmp 65), none⟩,
   ⟨some 67, .load false 1 (.tmp 66), none⟩,
   ⟨some 68, .move (.tmp 5), none⟩,
   ⟨some 69, .lookup (.int .i64) false (.agg [(.int .i64 0), (.int .i64 0), (.int .i64 0), (.int .i64 0), (.int .i64 0), (.int .i64 0), (.int .i64 0), .nils]) (.tmp 67) (.tmp 68), none⟩,
   ⟨some 70, .call (.func 76) [(.tmp 63), (.tmp 69)], none⟩,
   ⟨some 3, .move (.tmp 70), none⟩]
@[simp] theorem R29_9 (x0 x3 x5 x57 x58 x59 : AV) :
  evK C D (.region O29_9) ⟨[(0, .v x0), (3, .v x3), (5, .v x5), (57, .v x57), (58, .v x58), (59, .v x59)], [], H⟩ k =
  (nilC x0).bind fun t2 =>
  (fldP 7 t2).bind fun t3 =>
  (nl (loadP H false 1 t3)).bind fun t4 =>
  (nl (lookupA H (.int .i64) false (.agg [(.int .i64 0), (.int .i64 0), (.int .i64 0), (.int .i64 0), (.int .i64 0), (.int .i64 0), (.int .i64 0), .nils]) t4 x5)).bind fun t6 =>
  (callN C (.func (.func 76) [] []) [x3, t6] H).bind fun r7 =>
  k .normal ⟨[(3, .v r7.1), (70, .v r7.1), (69, .v t6), (68, .v x5), (67, .v t4), (66, .v t3), (65, .v t2), (64, .v x0), (63, .v x3), (0, .v x0), (3, .v x3), (5, .v x5), (57, .v x57), (58, .v x58), (59, .v x59)], [], r7.2⟩ := by kernel_rfl
def O29_10 : List IOper :=
  [⟨some 71, .bin .add .none (.tmp 59) (.const (.int .i64 1)), none⟩,
   ⟨some 59, .move (.tmp 71), none⟩]
@[simp] theorem R29_10 (x0 x3 x57 x58 x59 : AV) :
  evK C D (.region O29_10) ⟨[(0, .v x0), (3, .v x3), (57, .v x57), (58, .v x58), (59, .v x59)], [], H⟩ k =
  (nl (binA .add .none x59 (.int .i64 1))).bind fun t0 =>
  k .normal ⟨[(59, .v t0), (71, .v t0), (0, .v x0), (3, .v x3), (57, .v x57), (58, .v x58), (59, .v x59)], [], H⟩ := by kernel_rfl
def B29_0 : IC :=
  .seq (.region O29_7)
  (.keep [0, 3, 57, 58, 59, 60] [] (.seq (.cond (.tmp 60)
    (.skip)
    (.exit 0))
  (.keep [0, 3, 57, 58, 59] [] (.seq (.block 1 (.seq (.region O29_8)
    (.keep [0, 3, 5, 57, 58, 59] [] (.region O29_9))))
  (.keep [0, 3, 57, 58, 59] [] (.region O29_10))))))
def L29_0 : IC := .keep [0, 3, 57, 58, 59] [] B29_0
@[simp] theorem LK29_0 (s : SK) (k : AExit → SK → Option R) : evK C D (.loop L29_0) s k = (D (.loop L29_0) (prK [0, 3, 57, 58, 59] [] s).toSt).bind fun r => k r.1 (ofSt r.2) := by kernel_rfl
def O29_11 : List IOper :=
  [⟨some 72, .move (.tmp 3), none⟩,
   ⟨some 73, .move (.tmp 0), none⟩,
   ⟨some 74, .nilCheck (.tmp 73), none⟩,
   ⟨some 75, .fieldAddr 8 (.tmp 74), none⟩,
   ⟨some 76, .load false 1 (.tmp 75), none⟩,
   ⟨some 77, .len .map (.tmp 76), none⟩,
   ⟨some 78, .call (.func 58) [(.tmp 72), (.tmp 77)], none⟩,
   ⟨some 3, .move (.tmp 78), none⟩]
@[simp] theorem R29_11 (x0 x3 : AV) :
  evK C D (.seq (.region O29_11) (.keep [0, 3] [] c)) ⟨[(0, .v x0), (3, .v x3)], [], H⟩ k =
  (nilC x0).bind fun t2 =>
  (fldP 8 t2).bind fun t3 =>
  (nl (loadP H false 1 t3)).bind fun t4 =>
  (lenMap H t4).bind fun t5 =>
  (callN C (.func (.func 58) [] []) [x3, t5] H).bind fun r6 =>
  evK C D c ⟨[(0, .v x0), (3, .v r6.1)], [], r6.2⟩ k := by kernel_rfl
def O29_12 : List IOper :=
  [⟨some 79, .move (.tmp 0), none⟩,
   ⟨some 80, .nilCheck (.tmp 79), none⟩,
   ⟨some 81, .fieldAddr 8 (.tmp 80), none⟩,
   ⟨some 82, .load false 1 (.tmp 81), none⟩,
   ⟨some 83, .call (.func 77) [(.tmp 82)], none⟩,
   ⟨some 84, .call (.func 74) [(.tmp 83)], none⟩,
   ⟨some 85, .len .slice (.tmp 84), none⟩,
   ⟨some 86, .move (.const (.int .i64 0)), none⟩]
@[simp] theorem R29_12 (x0 x3 : AV) :
  evK C D (.seq (.region O29_12) (.keep [3, 84, 85, 86] [] c)) ⟨[(0, .v x0), (3, .v x3)], [], H⟩ k =
  (nilC x0).bind fun t1 =>
  (fldP 8 t1).bind fun t2 =>
  (nl (loadP H false 1 t2)).bind fun t3 =>
  (callN C (.func (.func 77) [] []) [t3] H).bind fun r4 =>
  (callN C (.func (.func 74) [] []) [r4.1] r4.2).bind fun r5 =>
  (lenS r5.1).bind fun t6 =>
  evK C D c ⟨[(3, .v x3), (84, .v r5.1), (85, .v t6), (86, .v (.int .i64 0))], [], r5.2⟩ k := by kernel_rfl
def O29_13 : List IOper :=
  [⟨some 87, .bin .lss .none (.tmp 86) (.tmp 85), none⟩]
@[simp] theorem R29_13 (x3 x84 x85 x86 : AV) :
  evK C D (.seq (.region O29_13) (.keep [3, 84, 85, 86, 87] [] c)) ⟨[(3, .v x3), (84, .v x84), (85, .v x85), (86, .v x86)], [], H⟩ k =
  (nl (binA .lss .none x86 x85)).bind fun t0 =>
  evK C D c ⟨[(3, .v x3), (84, .v x84), (85, .v x85), (86, .v x86), (87, .v t0)], [], H⟩ k := by kernel_rfl
def O29_14 : List IOper :=
  [⟨some 88, .indexAddr none 1 (.tmp 84) (.tmp 86), none⟩,
   ⟨some 89, .load false 1 (.tmp 88), none⟩,
   ⟨some 7, .move (.tmp 89), none⟩]
@[simp] theorem R29_14 (x3 x84 x85 x86 : AV) :
  evK C D (.seq (.region O29_14) (.keep [3, 7, 84, 85, 86] [] c)) ⟨[(3, .v x3), (84, .v x84), (85, .v x85), (86, .v x86)], [], H⟩ k =
  (nl (idxS 1 x84 x86)).bind fun t0 =>
  (nl (loadP H false 1 t0)).bind fun t1 =>
  evK C D c ⟨[(3, .v x3), (7, .v t1), (84, .v x84), (85, .v x85), (86, .v x86)], [], H⟩ k := by kernel_rfl
def O29_15 : List IOper :=
  [⟨some 90, .move (.tmp 3), none⟩,
   ⟨some 91, .move (.tmp 7), none⟩,
   ⟨some 92, .call (.func 58) [(.tmp 90), (.tmp 91)], none⟩,
   ⟨some 3, .move (.tmp 92), none⟩]
@[simp] theorem R29_15 (x3 x7 x84 x85 x86 : AV) :
  evK C D (.region O29_15) ⟨[(3, .v x3), (7, .v x7), (84, .v x84), (85, .v x85), (86, .v x86)], [], H⟩ k =
  (callN C (.func (.func 58) [] []) [x3, x7] H).bind fun r2 =>
  k .normal ⟨[(3, .v r2.1), (92, .v r2.1), (91, .v x7), (90, .v x3), (3, .v x3), (7, .v x7), (84, .v x84), (85, .v x85), (86, .v x86)], [], r2.2⟩ := by kernel_rfl
def O29_16 : List IOper :=
  [⟨some 93, .bin .add .none (.tmp 86) (.const (.int .i64 1)), none⟩,
   ⟨some 86, .move (.tmp 93), none⟩]
@[simp] theorem R29_16 (x3 x84 x85 x86 : AV) :
  evK C D (.region O29_16) ⟨[(3, .v x3), (84, .v x84), (85, .v x85), (86, .v x86)], [], H⟩ k =
  (nl (binA .add .none x86 (.int .i64 1))).bind fun t0 =>
  k .normal ⟨[(86, .v t0), (93, .v t0), (3, .v x3), (84, .v x84), (85, .v x85), (86, .v x86)], [], H⟩ := by kernel_rfl
def B29_1 : IC :=
  .seq (.region O29_13)
  (.keep [3, 84, 85, 86, 87] [] (.seq (.cond (.tmp 87)
    (.skip)
    (.exit 2))
  (.keep [3, 84, 85, 86] [] (.seq (.block 3 (.seq (.region O29_14)
    (.keep [3, 7, 84, 85, 86] [] (.region O29_15))))
  (.keep [3, 84, 85, 86] [] (.region O29_16))))))
def L29_1 : IC := .keep [3, 84, 85, 86] [] B29_1
@[simp] theorem LK29_1 (s : SK) (k : AExit → SK → Option R) : evK C D (.loop L29_1) s k = (D (.loop L29_1) (prK [3, 84, 85, 86] [] s).toSt).bind fun r => k r.1 (ofSt r.2) := by kernel_rfl
def O29_17 : List IOper :=
  [⟨some 94, .move (.tmp 3), none⟩,
   ⟨some 2, .move (.tmp 94), none⟩]
@[simp] theorem R29_17 (x3 : AV) :
  evK C D (.seq (.region O29_17) (.keep [2] [] c)) ⟨[(3, .v x3)], [], H⟩ k =
  evK C D c ⟨[(2, .v x3)], [], H⟩ k := by kernel_rfl
def F29 : FnIR := ⟨95, 1, [.tmp 2], [],
  .seq (.region O29_0)
  (.keep [0] [] (.seq (.seq (.region O29_1)
   (.keep [0, 9] [] (.cond (.tmp 9)
    (.seq (.region O29_2)
    (.keep [2] [] (.ret)))
    (.skip))))
  (.keep [0] [] (.seq (.regionD O29_3 [(10, 0), (15, 0), (15, 6), (20, 0), (20, 6), (20, 12)])
  (.keep [0, 3] [] (.seq (.regionD O29_4 [(9, 0)])
  (.keep [0, 3] [] (.seq (.region O29_5)
  (.keep [0, 3] [] (.seq (.seq (.region O29_6)
   (.keep [0, 3, 57, 58, 59] [] (.block 0 (.loop L29_0))))
  (.keep [0, 3] [] (.seq (.region O29_11)
  (.keep [0, 3] [] (.seq (.seq (.region O29_12)
   (.keep [3, 84, 85, 86] [] (.block 2 (.loop L29_1))))
  (.keep [3] [] (.seq (.region O29_17)
  (.keep [2] [] (.ret))))))))))))))))))⟩
/-- (*wampum/state.State).Span -/
def O35_0 : List IOper :=
  [⟨some 2, .alloc true 2 [(.str []), (.str [])], none⟩]
@[simp] theorem R35_0 (x0 : AV) :
  evK C D (.seq (.region O35_0) (.keep [0, 2] [2] c)) ⟨[(0, .v x0)], [], H⟩ k =
  evK C D c ⟨[(0, .v x0), (2, .l 2 0)], [(2, [(.str []), (.str [])])], H⟩ k := by kernel_rfl
def O35_1 : List IOper :=
  [⟨some 3, .move (.tmp 0), none⟩,
   ⟨some 4, .bin .eql .ptr (.tmp 3) (.const .nilp), none⟩]
@[simp] theorem R35_1 (x0 : AV) (l2 : List AV) :
  evK C D (.seq (.region O35_1) (.keep [0, 2, 4] [2] c)) ⟨[(0, .v x0), (2, .l 2 0)], [(2, l2)], H⟩ k =
  (nl (binA .eql .ptr x0 .nilp)).bind fun t1 =>
  evK C D c ⟨[(0, .v x0), (2, .l 2 0), (4, .v t1)], [(2, l2)], H⟩ k := by kernel_rfl
def O35_2 : List IOper :=
  [⟨some 5, .build [(.str []), (.str [])] [], none⟩,
   ⟨none, .store 2 (.tmp 2) (.tmp 5), none⟩]
@[simp] theorem R35_2 (x0 x4 : AV) (l2 : List AV) :
  evK C D (.seq (.region O35_2) (.keep [2] [2] c)) ⟨[(0, .v x0), (2, .l 2 0), (4, .v x4)], [(2, l2)], H⟩ k =
  ((fillC [] [(.str []), (.str [])]).map AV.agg).bind fun t0 =>
  (stL 2 0 t0 l2).bind fun m1 =>
  evK C D c ⟨[(2, .l 2 0)], [(2, m1)], H⟩ k := by kernel_rfl
def O35_3 : List IOper :=
  [⟨some 6, .move (.tmp 0), none⟩,
   ⟨some 7, .nilCheck (.tmp 6), none⟩,
   ⟨some 8, .fieldAddr 0 (.tmp 7), none⟩,
   ⟨some 9, .load true 2 (.tmp 8), none⟩,
   ⟨none, .store 2 (.tmp 2) (.tmp 9), none⟩]
@[simp] theorem R35_3 (x0 : AV) (l2 : List AV) :
  evK C D (.seq (.region O35_3) (.keep [2] [2] c)) ⟨[(0, .v x0), (2, .l 2 0)], [(2, l2)], H⟩ k =
  (nilC x0).bind fun t1 =>
  (fldP 0 t1).bind fun t2 =>
  (nl (loadP H true 2 t2)).bind fun t3 =>
  (stL 2 0 t3 l2).bind fun m4 =>
  evK C D c ⟨[(2, .l 2 0)], [(2, m4)], H⟩ k := by kernel_rfl
def F35 : FnIR := ⟨10, 1, [.cell 2 true 2], [2],
  .seq (.region O35_0)
  (.keep [0, 2] [2] (.seq (.seq (.region O35_1)
   (.keep [0, 2, 4] [2] (.cond (.tmp 4)
    (.seq (.region O35_2)
    (.keep [2] [2] (.ret)))
    (.skip))))
  (.keep [0, 2] [2] (.seq (.region O35_3)
  (.keep [2] [2] (.ret))))))⟩
/-- (*wampum/state.State).Record -/
def O36_0 : List IOper :=
  [⟨some 4, .alloc true 8 [(.int .i64 0), (.int .i64 0), (.int .i64 0), (.int .i64 0), (.int .i64 0), (.int .i64 0), (.int .i64 0), .nils], none⟩]
@[simp] theorem R36_0 (x0 x1 : AV) :
  evK C D (.seq (.region O36_0) (.keep [0, 1, 4] [4] c)) ⟨[(0, .v x0), (1, .v x1)], [], H⟩ k =
  evK C D c ⟨[(0, .v x0), (1, .v x1), (4, .l 4 0)], [(4, [(.int .i64 0), (.int .i64 0), (.int .i64 0), (.int .i64 0), (.int .i64 0), (.int .i64 0), (.int .i64 0), .nils])], H⟩ k := by kernel_rfl
def O36_1 : List IOper :=
  [⟨some 7, .move (.tmp 0), none⟩,
   ⟨some 8, .bin .eql .ptr (.tmp 7) (.const .nilp), none⟩]
@[simp] theorem R36_1 (x0 x1 : AV) (l4 : List AV) :
  evK C D (.seq (.region O36_1) (.keep [0, 1, 4, 8] [4] c)) ⟨[(0, .v x0), (1, .v x1), (4, .l 4 0)], [(4, l4)], H⟩ k =
  (nl (binA .eql .ptr x0 .nilp)).bind fun t1 =>
  evK C D c ⟨[(0, .v x0), (1, .v x1), (4, .l 4 0), (8, .v t1)], [(4, l4)], H⟩ k := by kernel_rfl
def O36_2 : List IOper :=
  [⟨some 9, .build [(.int .i64 0), (.int .i64 0), (.int .i64 0), (.int .i64 0), (.int .i64 0), (.int .i64 0), (.int .i64 0), .nils] [], none⟩,
   ⟨none, .store 8 (.tmp 4) (.tmp 9), none⟩]
@[simp] theorem R36_2 (x0 x1 x8 : AV) (l4 : List AV) :
  evK C D (.seq (.region O36_2) (.keep [4] [4] c)) ⟨[(0, .v x0), (1, .v x1), (4, .l 4 0), (8, .v x8)], [(4, l4)], H⟩ k =
  ((fillC [] [(.int .i64 0), (.int .i64 0), (.int .i64 0), (.int .i64 0), (.int .i64 0), (.int .i64 0), (.int .i64 0), .nils]).map AV.agg).bind fun t0 =>
  (stL 8 0 t0 l4).bind fun m1 =>
  evK C D c ⟨[(4, .l 4 0)], [(4, m1)], H⟩ k := by kernel_rfl
def O36_3 : List IOper :=
  [⟨some 11, .move (.tmp 0), none⟩,
   ⟨some 12, .nilCheck (.tmp 11), none⟩,
   ⟨some 13, .fieldAddr 7 (.tmp 12), none⟩,
   ⟨some 14, .load false 1 (.tmp 13), none⟩,
   ⟨some 15, .move (.tmp 1), none⟩,
   ⟨some 16, .lookup (.int .i64) true (.agg [(.int .i64 0), (.int .i64 0), (.int .i64 0), (.int .i64 0), (.int .i64 0), (.int .i64 0), (.int .i64 0), .nils]) (.tmp 14) (.tmp 15), none⟩,
   ⟨some 10, .move (.tmp 16), none⟩,
   ⟨some 17, .extract (.tmp 10) 0, none⟩,
   ⟨some 18, .extract (.tmp 10) 1, none⟩,
   ⟨some 5, .alloc true 8 [(.int .i64 0), (.int .i64 0), (.int .i64 0), (.int .i64 0), (.int .i64 0), (.int .i64 0), (.int .i64 0), .nils], none⟩,
   ⟨none, .store 8 (.tmp 5) (.tmp 17), none⟩,
   ⟨some 6, .move (.tmp 18), none⟩]
@[simp] theorem R36_3 (x0 x1 : AV) (l4 : List AV) :
  evK C D (.seq (.region O36_3) (.keep [1, 4, 5, 6] [4, 5] c)) ⟨[(0, .v x0), (1, .v x1), (4, .l 4 0)], [(4, l4)], H⟩ k =
  (nilC x0).bind fun t1 =>
  (fldP 7 t1).bind fun t2 =>
  (nl (loadP H false 1 t2)).bind fun t3 =>
  (nl (lookupA H (.int .i64) true (.agg [(.int .i64 0), (.int .i64 0), (.int .i64 0), (.int .i64 0), (.int .i64 0), (.int .i64 0), (.int .i64 0), .nils]) t3 x1)).bind fun t5 =>
  (nl (extA 0 t5)).bind fun t7 =>
  (nl (extA 1 t5)).bind fun t8 =>
  (stL 8 0 t7 [(.int .i64 0), (.int .i64 0), (.int .i64 0), (.int .i64 0), (.int .i64 0), (.int .i64 0), (.int .i64 0), .nils]).bind fun m10 =>
  evK C D c ⟨[(1, .v x1), (4, .l 4 0), (5, .l 5 0), (6, .v t8)], [(4, l4), (5, m10)], H⟩ k := by kernel_rfl
def O36_4 : List IOper :=
  [⟨some 19, .move (.tmp 6), none⟩,
   ⟨some 20, .un .not (.tmp 19), none⟩]
@[simp] theorem R36_4 (x1 x6 : AV) (l4 l5 : List AV) :
  evK C D (.seq (.region O36_4) (.keep [1, 4, 5, 20] [4, 5] c)) ⟨[(1, .v x1), (4, .l 4 0), (5, .l 5 0), (6, .v x6)], [(4, l4), (5, l5)], H⟩ k =
  (nl (unA .not x6)).bind fun t1 =>
  evK C D c ⟨[(1, .v x1), (4, .l 4 0), (5, .l 5 0), (20, .v t1)], [(4, l4), (5, l5)], H⟩ k := by kernel_rfl
def O36_5 : List IOper :=
  [⟨some 21, .move (.tmp 1), none⟩,
   ⟨some 22, .build [(.int .i64 0), (.int .i64 0), (.int .i64 0), (.int .i64 0), (.int .i64 0), (.int .i64 0), (.int .i64 0), .nils] [(0, 1, (.tmp 21))], none⟩,
   ⟨none, .store 8 (.tmp 4) (.tmp 22), none⟩]
@[simp] theorem R36_5 (x1 x20 : AV) (l4 l5 : List AV) :
  evK C D (.seq (.region O36_5) (.keep [4] [4] c)) ⟨[(1, .v x1), (4, .l 4 0), (5, .l 5 0), (20, .v x20)], [(4, l4), (5, l5)], H⟩ k =
  ((fillC [(0, 1, x1)] [(.int .i64 0), (.int .i64 0), (.int .i64 0), (.int .i64 0), (.int .i64 0), (.int .i64 0), (.int .i64 0), .nils]).map AV.agg).bind fun t1 =>
  (stL 8 0 t1 l4).bind fun m2 =>
  evK C D c ⟨[(4, .l 4 0)], [(4, m2)], H⟩ k := by kernel_rfl
def O36_6 : List IOper :=
  [⟨some 23, .fieldAddr 7 (.tmp 5), none⟩,
   ⟨some 24, .load false 1 (.tmp 23), none⟩,
   ⟨some 25, .call (.func 91) [(.tmp 24)], none⟩,
   ⟨some 26, .fieldAddr 7 (.tmp 5), none⟩,
   ⟨none, .store 1 (.tmp 26) (.tmp 25), none⟩]
@[simp] theorem R36_6 (l4 l5 : List AV) :
  evK C D (.seq (.region O36_6) (.keep [4, 5] [4, 5] c)) ⟨[(4, .l 4 0), (5, .l 5 0)], [(4, l4), (5, l5)], H⟩ k =
  (nl (rd false 1 7 l5)).bind fun t1 =>
  (callN C (.func (.func 91) [] []) [t1] H).bind fun r2 =>
  (stL 1 7 r2.1 l5).bind fun m4 =>
  evK C D c ⟨[(4, .l 4 0), (5, .l 5 0)], [(4, l4), (5, m4)], r2.2⟩ k := by kernel_rfl
def O36_7 : List IOper :=
  [⟨some 27, .load true 8 (.tmp 5), none⟩,
   ⟨none, .store 8 (.tmp 4) (.tmp 27), none⟩]
@[simp] theorem R36_7 (l4 l5 : List AV) :
  evK C D (.seq (.region O36_7) (.keep [4] [4] c)) ⟨[(4, .l 4 0), (5, .l 5 0)], [(4, l4), (5, l5)], H⟩ k =
  (nl (rd true 8 0 l5)).bind fun t0 =>
  (stL 8 0 t0 l4).bind fun m1 =>
  evK C D c ⟨[(4, .l 4 0)], [(4, m1)], H⟩ k := by kernel_rfl
def F36 : FnIR := ⟨28, 2, [.cell 4 true 8], [4, 5],
  .seq (.region O36_0)
  (.keep [0, 1, 4] [4] (.seq (.seq (.region O36_1)
   (.keep [0, 1, 4, 8] [4] (.cond (.tmp 8)
    (.seq (.region O36_2)
    (.keep [4] [4] (.ret)))
    (.skip))))
  (.keep [0, 1, 4] [4] (.seq (.region O36_3)
  (.keep [1, 4, 5, 6] [4, 5] (.seq (.seq (.region O36_4)
   (.keep [1, 4, 5, 20] [4, 5] (.cond (.tmp 20)
    (.seq (.region O36_5)
    (.keep [4] [4] (.ret)))
    (.skip))))
  (.keep [4, 5] [4, 5] (.seq (.region O36_6)
  (.keep [4, 5] [4, 5] (.seq (.region O36_7)
  (.keep [4] [4] (.ret))))))))))))⟩
end Go.Proofs.YtgokjbjbdnbcdaaGreat
