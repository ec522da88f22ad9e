/- Functions of the program in our form (S23, a). No condition. -/
import Derived.Test.YtpdmmpajjdaebaaGreatAmZ
import Derived.Test.YtpdmmpajjdaebaaGreatRows
set_option linter.unusedVariables false
set_option linter.unusedSimpArgs false
namespace Go.Proofs.YtpdmmpajjdaebaaGreat
open Go.Wam
variable {R : Type} (C : CallF) (D : IC → St → Option (AExit × St)) (c : IC) (H : AHeap) (k : AExit → SK → Option R)
/-- wampum/wampumlaw23.NodeNil -/
def O5_0 : List IOper :=
  [⟨some 1, .box true 53 (.tmp 0), none⟩,
   ⟨some 2, .move (.const (.bool false)), none⟩]
@[simp] theorem R5_0 (x0 : AV) :
  evK C D (.seq (.region O5_0) (.keep [1] [1] c)) ⟨[(0, .v x0)], [], H⟩ k =
  (boxC x0).bind fun m0 =>
  evK C D c ⟨[(1, .l 1 0)], [(1, m0)], H⟩ k := by kernel_rfl
def O5_1 : List IOper :=
  [⟨some 14, .load true 53 (.tmp 1), none⟩,
   ⟨some 15, .call (.func 30) [(.tmp 14)], none⟩,
   ⟨some 3, .move (.tmp 15), none⟩]
@[simp] theorem R5_1 (l1 : List AV) :
  evK C D (.seq (.region O5_1) (.keep [1, 3] [1] c)) ⟨[(1, .l 1 0)], [(1, l1)], H⟩ k =
  (nl (rd true 53 0 l1)).bind fun t0 =>
  (callN C (.func (.func 30) [] []) [t0] H).bind fun r1 =>
  evK C D c ⟨[(1, .l 1 0), (3, .v r1.1)], [(1, l1)], r1.2⟩ k := by kernel_rfl
def O5_2 : List IOper :=
  [⟨some 16, .move (.tmp 3), none⟩,
   ⟨some 17, .un .not (.tmp 16), none⟩]
@[simp] theorem R5_2 (x3 : AV) (l1 : List AV) :
  evK C D (.seq (.region O5_2) (.keep [1, 17] [1] c)) ⟨[(1, .l 1 0), (3, .v x3)], [(1, l1)], H⟩ k =
  (nl (unA .not x3)).bind fun t1 =>
  evK C D c ⟨[(1, .l 1 0), (17, .v t1)], [(1, l1)], H⟩ k := by kernel_rfl
def O5_3 : List IOper :=
  [⟨some 18, .call (.func 31) [], none⟩,
   ⟨some 2, .move (.tmp 18), none⟩]
@[simp] theorem R5_3 (x17 : AV) (l1 : List AV) :
  evK C D (.seq (.region O5_3) (.keep [2] [] c)) ⟨[(1, .l 1 0), (17, .v x17)], [(1, l1)], H⟩ k =
  (callN C (.func (.func 31) [] []) [] H).bind fun r0 =>
  evK C D c ⟨[(2, .v r0.1)], [], r0.2⟩ k := by kernel_rfl
def O5_4 : List IOper :=
  [⟨some 4, .move (.const .nilp), none⟩]
@[simp] theorem R5_4 (l1 : List AV) :
  evK C D (.seq (.region O5_4) (.keep [1, 4] [1] c)) ⟨[(1, .l 1 0)], [(1, l1)], H⟩ k =
  evK C D c ⟨[(1, .l 1 0), (4, .v .nilp)], [(1, l1)], H⟩ k := by kernel_rfl
def O5_5 : List IOper :=
  [⟨some 20, .move (.tmp 4), none⟩,
   ⟨some 21, .call (.func 32) [(.tmp 20)], none⟩,
   ⟨some 19, .move (.tmp 21), none⟩,
   ⟨some 22, .extract (.tmp 19) 0, none⟩,
   ⟨some 23, .extract (.tmp 19) 1, none⟩,
   ⟨some 5, .move (.tmp 22), none⟩,
   ⟨some 6, .move (.tmp 23), none⟩]
@[simp] theorem R5_5 (x4 : AV) (l1 : List AV) :
  evK C D (.seq (.region O5_5) (.keep [1, 4, 5, 6] [1] c)) ⟨[(1, .l 1 0), (4, .v x4)], [(1, l1)], H⟩ k =
  (callN C (.func (.func 32) [] []) [x4] H).bind fun r1 =>
  (nl (extA 0 r1.1)).bind fun t3 =>
  (nl (extA 1 r1.1)).bind fun t4 =>
  evK C D c ⟨[(1, .l 1 0), (4, .v x4), (5, .v t3), (6, .v t4)], [(1, l1)], r1.2⟩ k := by kernel_rfl
def O5_6 : List IOper :=
  [⟨some 25, .move (.tmp 4), none⟩,
   ⟨some 26, .call (.func 33) [(.tmp 25), (.const (.int .i64 1))], none⟩,
   ⟨some 24, .move (.tmp 26), none⟩,
   ⟨some 27, .extract (.tmp 24) 0, none⟩,
   ⟨some 28, .extract (.tmp 24) 1, none⟩,
   ⟨some 7, .alloc true 4 [(.int .i64 0), (.int .i64 0), (.int .i64 0), .nils], none⟩,
   ⟨none, .store 4 (.tmp 7) (.tmp 27), none⟩,
   ⟨some 8, .move (.tmp 28), none⟩]
@[simp] theorem R5_6 (x4 x5 x6 : AV) (l1 : List AV) :
  evK C D (.seq (.region O5_6) (.keep [1, 4, 5, 6, 8] [1] c)) ⟨[(1, .l 1 0), (4, .v x4), (5, .v x5), (6, .v x6)], [(1, l1)], H⟩ k =
  (callN C (.func (.func 33) [] []) [x4, (.int .i64 1)] H).bind fun r1 =>
  (nl (extA 0 r1.1)).bind fun t3 =>
  (nl (extA 1 r1.1)).bind fun t4 =>
  (stL 4 0 t3 [(.int .i64 0), (.int .i64 0), (.int .i64 0), .nils]).bind fun m6 =>
  evK C D c ⟨[(1, .l 1 0), (4, .v x4), (5, .v x5), (6, .v x6), (8, .v t4)], [(1, l1)], r1.2⟩ k := by kernel_rfl
def O5_7 : List IOper :=
  [⟨some 30, .move (.tmp 4), none⟩,
   ⟨some 31, .call (.func 34) [(.tmp 30), (.const (.int .i64 1))], none⟩,
   ⟨some 29, .move (.tmp 31), none⟩,
   ⟨some 32, .extract (.tmp 29) 0, none⟩,
   ⟨some 33, .extract (.tmp 29) 1, none⟩,
   ⟨some 34, .extract (.tmp 29) 2, none⟩,
   ⟨some 10, .alloc true 2 [(.int .i64 0), (.int .i64 0)], none⟩,
   ⟨some 9, .move (.tmp 32), none⟩,
   ⟨none, .store 2 (.tmp 10) (.tmp 33), none⟩,
   ⟨some 11, .move (.tmp 34), none⟩]
@[simp] theorem R5_7 (x4 x5 x6 x8 : AV) (l1 : List AV) :
  evK C D (.seq (.region O5_7) (.keep [1, 4, 5, 6, 8, 11] [1] c)) ⟨[(1, .l 1 0), (4, .v x4), (5, .v x5), (6, .v x6), (8, .v x8)], [(1, l1)], H⟩ k =
  (callN C (.func (.func 34) [] []) [x4, (.int .i64 1)] H).bind fun r1 =>
  (nl (extA 0 r1.1)).bind fun t3 =>
  (nl (extA 1 r1.1)).bind fun t4 =>
  (nl (extA 2 r1.1)).bind fun t5 =>
  (stL 2 0 t4 [(.int .i64 0), (.int .i64 0)]).bind fun m8 =>
  evK C D c ⟨[(1, .l 1 0), (4, .v x4), (5, .v x5), (6, .v x6), (8, .v x8), (11, .v t5)], [(1, l1)], r1.2⟩ k := by kernel_rfl
def O5_8 : List IOper :=
  [⟨some 36, .call (.func 35) [(.const (.int .i64 0)), (.const .nilp), (.const .nils)], none⟩,
   ⟨some 35, .move (.tmp 36), none⟩,
   ⟨some 37, .extract (.tmp 35) 0, none⟩,
   ⟨some 38, .extract (.tmp 35) 1, none⟩,
   ⟨some 12, .move (.tmp 37), none⟩,
   ⟨some 13, .move (.tmp 38), none⟩]
@[simp] theorem R5_8 (x4 x5 x6 x8 x11 : AV) (l1 : List AV) :
  evK C D (.seq (.region O5_8) (.keep [1, 4, 5, 6, 8, 11, 12, 13] [1] c)) ⟨[(1, .l 1 0), (4, .v x4), (5, .v x5), (6, .v x6), (8, .v x8), (11, .v x11)], [(1, l1)], H⟩ k =
  (callN C (.func (.func 35) [] []) [(.int .i64 0), .nilp, .nils] H).bind fun r0 =>
  (nl (extA 0 r0.1)).bind fun t2 =>
  (nl (extA 1 r0.1)).bind fun t3 =>
  evK C D c ⟨[(1, .l 1 0), (4, .v x4), (5, .v x5), (6, .v x6), (8, .v x8), (11, .v x11), (12, .v t2), (13, .v t3)], [(1, l1)], r0.2⟩ k := by kernel_rfl
def O5_9 : List IOper :=
  [⟨some 39, .call (.func 31) [], none⟩,
   ⟨some 40, .move (.tmp 39), none⟩,
   ⟨some 41, .move (.tmp 12), some (40, true)⟩,
   ⟨some 42, .bin .eql .ptr (.tmp 41) (.const .nilp), some (40, true)⟩,
   ⟨some 43, .pick (.tmp 40) (.tmp 42) (.const (.bool false)), none⟩,
   ⟨some 44, .move (.tmp 43), none⟩,
   ⟨some 45, .move (.tmp 13), some (44, true)⟩,
   ⟨some 46, .bin .eql .int (.tmp 45) (.const (.int .i64 1)), some (44, true)⟩,
   ⟨some 47, .pick (.tmp 44) (.tmp 46) (.const (.bool false)), none⟩,
   ⟨some 48, .move (.tmp 47), none⟩,
   ⟨some 49, .move (.tmp 4), some (48, true)⟩,
   ⟨some 50, .load true 53 (.tmp 1), some (48, true)⟩,
   ⟨some 51, .call (.func 36) [(.tmp 49), (.tmp 50)], some (48, true)⟩,
   ⟨some 52, .bin .eql .int (.tmp 51) (.const (.int .i64 1)), some (48, true)⟩,
   ⟨some 53, .pick (.tmp 48) (.tmp 52) (.const (.bool false)), none⟩,
   ⟨some 54, .move (.tmp 53), none⟩,
   ⟨some 55, .move (.tmp 4), some (54, true)⟩,
   ⟨some 56, .call (.func 37) [(.tmp 55)], some (54, true)⟩,
   ⟨some 57, .bin .eql .int (.tmp 56) (.const (.int .i64 1)), some (54, true)⟩,
   ⟨some 58, .pick (.tmp 54) (.tmp 57) (.const (.bool false)), none⟩,
   ⟨some 59, .move (.tmp 58), none⟩,
   ⟨some 60, .move (.tmp 4), some (59, true)⟩,
   ⟨some 61, .call (.func 38) [(.tmp 60), (.const (.int .i64 1))], some (59, true)⟩,
   ⟨some 62, .bin .eql .int (.tmp 61) (.const (.int .i64 1)), some (59, true)⟩,
   ⟨some 63, .pick (.tmp 59) (.tmp 62) (.const (.bool false)), none⟩,
   ⟨some 64, .move (.tmp 63), none⟩,
   ⟨some 65, .move (.tmp 4), some (64, true)⟩,
   ⟨some 66, .call (.func 39) [(.tmp 65), (.const (.int .i64 0))], some (64, true)⟩,
   ⟨some 67, .bin .eql .int (.tmp 66) (.const (.int .i64 1)), some (64, true)⟩,
   ⟨some 68, .pick (.tmp 64) (.tmp 67) (.const (.bool false)), none⟩,
   ⟨some 69, .move (.tmp 68), none⟩,
   ⟨some 70, .move (.tmp 5), some (69, true)⟩,
   ⟨some 71, .bin .eql .int (.tmp 70) (.const (.int .i64 0)), some (69, true)⟩,
   ⟨some 72, .pick (.tmp 69) (.tmp 71) (.const (.bool false)), none⟩,
   ⟨some 73, .move (.tmp 72), none⟩,
   ⟨some 74, .move (.tmp 6), some (73, true)⟩,
   ⟨some 75, .bin .eql .int (.tmp 74) (.const (.int .i64 1)), some (73, true)⟩,
   ⟨some 76, .pick (.tmp 73) (.tmp 75) (.const (.bool false)), none⟩,
   ⟨some 77, .move (.tmp 76), none⟩,
   ⟨some 78, .move (.tmp 4), some (77, true)⟩,
   ⟨some 79, .build [(.int .i64 0), (.str []), (.str []), (.str [])] [], some (77, true)⟩,
   ⟨some 80, .call (.func 40) [(.tmp 78), (.const (.int .i64 1)), (.tmp 79)], some (77, true)⟩,
   ⟨some 81, .bin .eql .int (.tmp 80) (.const (.int .i64 1)), some (77, true)⟩,
   ⟨some 82, .pick (.tmp 77) (.tmp 81) (.const (.bool false)), none⟩,
   ⟨some 83, .move (.tmp 82), none⟩,
   ⟨some 84, .move (.tmp 8), some (83, true)⟩,
   ⟨some 85, .un .not (.tmp 84), some (83, true)⟩,
   ⟨some 86, .pick (.tmp 83) (.tmp 85) (.const (.bool false)), none⟩,
   ⟨some 87, .move (.tmp 86), none⟩,
   ⟨some 88, .move (.tmp 11), some (87, true)⟩,
   ⟨some 89, .un .not (.tmp 88), some (87, true)⟩,
   ⟨some 90, .pick (.tmp 87) (.tmp 89) (.const (.bool false)), none⟩,
   ⟨some 91, .move (.tmp 90), none⟩,
   ⟨some 92, .move (.tmp 4), some (91, true)⟩,
   ⟨some 93, .call (.func 41) [(.tmp 92)], some (91, true)⟩,
   ⟨some 94, .len .slice (.tmp 93), some (91, true)⟩,
   ⟨some 95, .bin .eql .int (.tmp 94) (.const (.int .i64 0)), some (91, true)⟩,
   ⟨some 96, .pick (.tmp 91) (.tmp 95) (.const (.bool false)), none⟩,
   ⟨some 97, .move (.tmp 96), none⟩,
   ⟨some 98, .move (.tmp 4), some (97, true)⟩,
   ⟨some 99, .call (.func 42) [(.tmp 98), (.const (.int .i64 0))], some (97, true)⟩,
   ⟨some 100, .un .not (.tmp 99), some (97, true)⟩,
   ⟨some 101, .pick (.tmp 97) (.tmp 100) (.const (.bool false)), none⟩,
   ⟨some 102, .move (.tmp 101), none⟩,
   ⟨some 103, .move (.tmp 4), some (102, true)⟩,
   ⟨some 104, .call (.func 43) [(.tmp 103), (.const (.int .i64 0))], some (102, true)⟩,
   ⟨some 105, .bin .eql .ptr (.tmp 104) (.const .nilp), some (102, true)⟩,
   ⟨some 106, .pick (.tmp 102) (.tmp 105) (.const (.bool false)), none⟩,
   ⟨some 107, .move (.tmp 106), none⟩,
   ⟨some 108, .move (.tmp 4), some (107, true)⟩,
   ⟨some 109, .call (.func 44) [(.tmp 108)], some (107, true)⟩,
   ⟨some 110, .un .not (.tmp 109), some (107, true)⟩,
   ⟨some 111, .pick (.tmp 107) (.tmp 110) (.const (.bool false)), none⟩,
   ⟨some 2, .move (.tmp 111), none⟩]
@[simp] theorem R5_9 (x4 x5 x6 x8 x11 x12 x13 : AV) (l1 : List AV) :
  evK C D (.seq (.region O5_9) (.keep [2] [] c)) ⟨[(1, .l 1 0), (4, .v x4), (5, .v x5), (6, .v x6), (8, .v x8), (11, .v x11), (12, .v x12), (13, .v x13)], [(1, l1)], H⟩ k =
  (callN C (.func (.func 31) [] []) [] H).bind fun r0 =>
  guardK r0.1 true (
  (nl (binA .eql .ptr x12 .nilp)).bind fun t3 =>
  guardK t3 true (
  (nl (binA .eql .int x13 (.int .i64 1))).bind fun t7 =>
  guardK t7 true (
  (nl (rd true 53 0 l1)).bind fun t11 =>
  (callN C (.func (.func 36) [] []) [x4, t11] r0.2).bind fun r12 =>
  (nl (binA .eql .int r12.1 (.int .i64 1))).bind fun t13 =>
  guardK t13 true (
  (callN C (.func (.func 37) [] []) [x4] r12.2).bind fun r17 =>
  (nl (binA .eql .int r17.1 (.int .i64 1))).bind fun t18 =>
  guardK t18 true (
  (callN C (.func (.func 38) [] []) [x4, (.int .i64 1)] r17.2).bind fun r22 =>
  (nl (binA .eql .int r22.1 (.int .i64 1))).bind fun t23 =>
  guardK t23 true (
  (callN C (.func (.func 39) [] []) [x4, (.int .i64 0)] r22.2).bind fun r27 =>
  (nl (binA .eql .int r27.1 (.int .i64 1))).bind fun t28 =>
  guardK t28 true (
  (nl (binA .eql .int x5 (.int .i64 0))).bind fun t32 =>
  guardK t32 true (
  (nl (binA .eql .int x6 (.int .i64 1))).bind fun t36 =>
  guardK t36 true (
  ((fillC [] [(.int .i64 0), (.str []), (.str []), (.str [])]).map AV.agg).bind fun t40 =>
  (callN C (.func (.func 40) [] []) [x4, (.int .i64 1), t40] r27.2).bind fun r41 =>
  (nl (binA .eql .int r41.1 (.int .i64 1))).bind fun t42 =>
  guardK t42 true (
  (nl (unA .not x8)).bind fun t46 =>
  guardK t46 true (
  (nl (unA .not x11)).bind fun t50 =>
  guardK t50 true (
  (callN C (.func (.func 41) [] []) [x4] r41.2).bind fun r54 =>
  (lenS r54.1).bind fun t55 =>
  (nl (binA .eql .int t55 (.int .i64 0))).bind fun t56 =>
  guardK t56 true (
  (callN C (.func (.func 42) [] []) [x4, (.int .i64 0)] r54.2).bind fun r60 =>
  (nl (unA .not r60.1)).bind fun t61 =>
  guardK t61 true (
  (callN C (.func (.func 43) [] []) [x4, (.int .i64 0)] r60.2).bind fun r65 =>
  (nl (binA .eql .ptr r65.1 .nilp)).bind fun t66 =>
  guardK t66 true (
  (callN C (.func (.func 44) [] []) [x4] r65.2).bind fun r70 =>
  (nl (unA .not r70.1)).bind fun t71 =>
  evK C D c ⟨[(2, .v t71)], [], r70.2⟩ k)
  (evK C D c ⟨[(2, .v (.bool false))], [], r65.2⟩ k))
  (evK C D c ⟨[(2, .v (.bool false))], [], r60.2⟩ k))
  (evK C D c ⟨[(2, .v (.bool false))], [], r54.2⟩ k))
  (evK C D c ⟨[(2, .v (.bool false))], [], r41.2⟩ k))
  (evK C D c ⟨[(2, .v (.bool false))], [], r41.2⟩ k))
  (evK C D c ⟨[(2, .v (.bool false))], [], r41.2⟩ k))
  (evK C D c ⟨[(2, .v (.bool false))], [], r27.2⟩ k))
  (evK C D c ⟨[(2, .v (.bool false))], [], r27.2⟩ k))
  (evK C D c ⟨[(2, .v (.bool false))], [], r27.2⟩ k))
  (evK C D c ⟨[(2, .v (.bool false))], [], r22.2⟩ k))
  (evK C D c ⟨[(2, .v (.bool false))], [], r17.2⟩ k))
  (evK C D c ⟨[(2, .v (.bool false))], [], r12.2⟩ k))
  (evK C D c ⟨[(2, .v (.bool false))], [], r0.2⟩ k))
  (evK C D c ⟨[(2, .v (.bool false))], [], r0.2⟩ k))
  (evK C D c ⟨[(2, .v (.bool false))], [], r0.2⟩ k) := by kernel_rfl
def F5 : FnIR := ⟨112, 1, [.tmp 2], [1, 7, 10],
  .seq (.region O5_0)
  (.keep [1] [1] (.seq (.region O5_1)
  (.keep [1, 3] [1] (.seq (.seq (.region O5_2)
   (.keep [1, 17] [1] (.cond (.tmp 17)
    (.seq (.region O5_3)
    (.keep [2] [] (.ret)))
    (.skip))))
  (.keep [1] [1] (.seq (.region O5_4)
  (.keep [1, 4] [1] (.seq (.region O5_5)
  (.keep [1, 4, 5, 6] [1] (.seq (.region O5_6)
  (.keep [1, 4, 5, 6, 8] [1] (.seq (.region O5_7)
  (.keep [1, 4, 5, 6, 8, 11] [1] (.seq (.region O5_8)
  (.keep [1, 4, 5, 6, 8, 11, 12, 13] [1] (.seq (.region O5_9)
  (.keep [2] [] (.ret))))))))))))))))))⟩
/-- wampum/wampumlaw13.Fits -/
def O21_0 : List IOper :=
  [⟨some 1, .box true 22 (.tmp 0), none⟩,
   ⟨some 2, .move (.const (.bool false)), none⟩]
@[simp] theorem R21_0 (x0 : AV) :
  evK C D (.seq (.region O21_0) (.keep [1] [1] c)) ⟨[(0, .v x0)], [], H⟩ k =
  (boxC x0).bind fun m0 =>
  evK C D c ⟨[(1, .l 1 0)], [(1, m0)], H⟩ k := by kernel_rfl
def O21_1 : List IOper :=
  [⟨some 3, .move (.const (.int .i64 0)), none⟩]
@[simp] theorem R21_1 (l1 : List AV) :
  evK C D (.seq (.region O21_1) (.keep [1, 3] [1] c)) ⟨[(1, .l 1 0)], [(1, l1)], H⟩ k =
  evK C D c ⟨[(1, .l 1 0), (3, .v (.int .i64 0))], [(1, l1)], H⟩ k := by kernel_rfl
def O21_2 : List IOper :=
  [⟨some 4, .move (.tmp 3), none⟩,
   ⟨some 5, .fieldAddr 20 (.tmp 1), none⟩,
   ⟨some 6, .load false 1 (.tmp 5), none⟩,
   ⟨some 7, .len .slice (.tmp 6), none⟩,
   ⟨some 8, .bin .lss .none (.tmp 4) (.tmp 7), none⟩]
@[simp] theorem R21_2 (x3 : AV) (l1 : List AV) :
  evK C D (.seq (.region O21_2) (.keep [1, 3, 8] [1] c)) ⟨[(1, .l 1 0), (3, .v x3)], [(1, l1)], H⟩ k =
  (nl (rd false 1 20 l1)).bind fun t2 =>
  (lenS t2).bind fun t3 =>
  (nl (binA .lss .none x3 t3)).bind fun t4 =>
  evK C D c ⟨[(1, .l 1 0), (3, .v x3), (8, .v t4)], [(1, l1)], H⟩ k := by kernel_rfl
def O21_3 : List IOper :=
  [⟨some 11, .move (.tmp 3), none⟩,
   ⟨some 12, .bin .eql .int (.tmp 11) (.const (.int .i64 20)), none⟩,
   ⟨some 13, .move (.tmp 12), none⟩,
   ⟨some 14, .fieldAddr 20 (.tmp 1), some (13, false)⟩,
   ⟨some 15, .load false 1 (.tmp 14), some (13, false)⟩,
   ⟨some 16, .move (.tmp 3), some (13, false)⟩,
   ⟨some 17, .indexAddr none 2 (.tmp 15) (.tmp 16), some (13, false)⟩,
   ⟨some 18, .fieldAddr 0 (.tmp 17), some (13, false)⟩,
   ⟨some 19, .load false 1 (.tmp 18), some (13, false)⟩,
   ⟨some 20, .len .str (.tmp 19), some (13, false)⟩,
   ⟨some 21, .bin .gtr .none (.tmp 20) (.const (.int .i64 400)), some (13, false)⟩,
   ⟨some 22, .pick (.tmp 13) (.const (.bool true)) (.tmp 21), none⟩]
@[simp] theorem R21_3 (x3 : AV) (l1 : List AV) :
  evK C D (.seq (.region O21_3) (.keep [1, 3, 22] [1] c)) ⟨[(1, .l 1 0), (3, .v x3)], [(1, l1)], H⟩ k =
  (nl (binA .eql .int x3 (.int .i64 20))).bind fun t1 =>
  guardK t1 false (
  (nl (rd false 1 20 l1)).bind fun t4 =>
  (nl (idxS 2 t4 x3)).bind fun t6 =>
  (fldP 0 t6).bind fun t7 =>
  (nl (loadP H false 1 t7)).bind fun t8 =>
  (lenStr t8).bind fun t9 =>
  (nl (binA .gtr .none t9 (.int .i64 400))).bind fun t10 =>
  evK C D c ⟨[(1, .l 1 0), (3, .v x3), (22, .v t10)], [(1, l1)], H⟩ k)
  (evK C D c ⟨[(1, .l 1 0), (3, .v x3), (22, .v (.bool true))], [(1, l1)], H⟩ k) := by kernel_rfl
def O21_4 : List IOper :=
  [⟨some 2, .move (.const (.bool false)), none⟩]
@[simp] theorem R21_4 (x3 x22 : AV) (l1 : List AV) :
  evK C D (.seq (.region O21_4) (.keep [2] [] c)) ⟨[(1, .l 1 0), (3, .v x3), (22, .v x22)], [(1, l1)], H⟩ k =
  evK C D c ⟨[(2, .v (.bool false))], [], H⟩ k := by kernel_rfl
def O21_5 : List IOper :=
  [⟨some 9, .move (.tmp 3), none⟩,
   ⟨some 10, .bin .add .none (.tmp 9) (.const (.int .i64 1)), none⟩,
   ⟨some 3, .move (.tmp 10), none⟩]
@[simp] theorem R21_5 (x3 : AV) (l1 : List AV) :
  evK C D (.region O21_5) ⟨[(1, .l 1 0), (3, .v x3)], [(1, l1)], H⟩ k =
  (nl (binA .add .none x3 (.int .i64 1))).bind fun t1 =>
  k .normal ⟨[(3, .v t1), (10, .v t1), (9, .v x3), (1, .l 1 0), (3, .v x3)], [(1, l1)], H⟩ := by kernel_rfl
def B21_0 : IC :=
  .seq (.seq (.region O21_2)
   (.keep [1, 3, 8] [1] (.cond (.tmp 8)
    (.skip)
    (.exit 0))))
  (.keep [1, 3] [1] (.seq (.block 1 (.seq (.region O21_3)
    (.keep [1, 3, 22] [1] (.cond (.tmp 22)
     (.seq (.region O21_4)
     (.keep [2] [] (.ret)))
     (.skip)))))
  (.keep [1, 3] [1] (.region O21_5))))
def L21_0 : IC := .keep [1, 3] [1] B21_0
@[simp] theorem LK21_0 (s : SK) (k : AExit → SK → Option R) : evK C D (.loop L21_0) s k = (D (.loop L21_0) (prK [1, 3] [1] s).toSt).bind fun r => k r.1 (ofSt r.2) := by kernel_rfl
def O21_6 : List IOper :=
  [⟨some 23, .fieldAddr 4 (.tmp 1), none⟩,
   ⟨some 24, .fieldAddr 2 (.tmp 23), none⟩,
   ⟨some 25, .load false 1 (.tmp 24), none⟩,
   ⟨some 26, .len .str (.tmp 25), none⟩,
   ⟨some 27, .bin .leq .none (.tmp 26) (.const (.int .i64 400)), none⟩,
   ⟨some 28, .move (.tmp 27), none⟩,
   ⟨some 29, .fieldAddr 10 (.tmp 1), some (28, true)⟩,
   ⟨some 30, .fieldAddr 0 (.tmp 29), some (28, true)⟩,
   ⟨some 31, .load false 1 (.tmp 30), some (28, true)⟩,
   ⟨some 32, .len .str (.tmp 31), some (28, true)⟩,
   ⟨some 33, .bin .leq .none (.tmp 32) (.const (.int .i64 400)), some (28, true)⟩,
   ⟨some 34, .pick (.tmp 28) (.tmp 33) (.const (.bool false)), none⟩,
   ⟨some 35, .move (.tmp 34), none⟩,
   ⟨some 36, .fieldAddr 10 (.tmp 1), some (35, true)⟩,
   ⟨some 37, .fieldAddr 1 (.tmp 36), some (35, true)⟩,
   ⟨some 38, .load false 1 (.tmp 37), some (35, true)⟩,
   ⟨some 39, .len .str (.tmp 38), some (35, true)⟩,
   ⟨some 40, .bin .leq .none (.tmp 39) (.const (.int .i64 400)), some (35, true)⟩,
   ⟨some 41, .pick (.tmp 35) (.tmp 40) (.const (.bool false)), none⟩,
   ⟨some 42, .move (.tmp 41), none⟩,
   ⟨some 43, .fieldAddr 12 (.tmp 1), some (42, true)⟩,
   ⟨some 44, .load false 1 (.tmp 43), some (42, true)⟩,
   ⟨some 45, .len .str (.tmp 44), some (42, true)⟩,
   ⟨some 46, .bin .leq .none (.tmp 45) (.const (.int .i64 400)), some (42, true)⟩,
   ⟨some 47, .pick (.tmp 42) (.tmp 46) (.const (.bool false)), none⟩,
   ⟨some 2, .move (.tmp 47), none⟩]
@[simp] theorem R21_6 (l1 : List AV) :
  evK C D (.seq (.region O21_6) (.keep [2] [] c)) ⟨[(1, .l 1 0)], [(1, l1)], H⟩ k =
  (nl (rd false 1 6 l1)).bind fun t2 =>
  (lenStr t2).bind fun t3 =>
  (nl (binA .leq .none t3 (.int .i64 400))).bind fun t4 =>
  guardK t4 true (
  (nl (rd false 1 10 l1)).bind fun t8 =>
  (lenStr t8).bind fun t9 =>
  (nl (binA .leq .none t9 (.int .i64 400))).bind fun t10 =>
  guardK t10 true (
  (nl (rd false 1 11 l1)).bind fun t15 =>
  (lenStr t15).bind fun t16 =>
  (nl (binA .leq .none t16 (.int .i64 400))).bind fun t17 =>
  guardK t17 true (
  (nl (rd false 1 12 l1)).bind fun t21 =>
  (lenStr t21).bind fun t22 =>
  (nl (binA .leq .none t22 (.int .i64 400))).bind fun t23 =>
  evK C D c ⟨[(2, .v t23)], [], H⟩ k)
  (evK C D c ⟨[(2, .v (.bool false))], [], H⟩ k))
  (evK C D c ⟨[(2, .v (.bool false))], [], H⟩ k))
  (evK C D c ⟨[(2, .v (.bool false))], [], H⟩ k) := by kernel_rfl
def F21 : FnIR := ⟨48, 1, [.tmp 2], [1],
  .seq (.region O21_0)
  (.keep [1] [1] (.seq (.seq (.region O21_1)
   (.keep [1, 3] [1] (.block 0 (.loop L21_0))))
  (.keep [1] [1] (.seq (.region O21_6)
  (.keep [2] [] (.ret))))))⟩
/-- wampum/wampumlaw18.Fits -/
def O30_0 : List IOper :=
  [⟨some 1, .box true 53 (.tmp 0), none⟩,
   ⟨some 2, .move (.const (.bool false)), none⟩]
@[simp] theorem R30_0 (x0 : AV) :
  evK C D (.seq (.region O30_0) (.keep [1] [1] c)) ⟨[(0, .v x0)], [], H⟩ k =
  (boxC x0).bind fun m0 =>
  evK C D c ⟨[(1, .l 1 0)], [(1, m0)], H⟩ k := by kernel_rfl
def O30_1 : List IOper :=
  [⟨some 8, .fieldAddr 10 (.tmp 1), none⟩,
   ⟨some 9, .load false 1 (.tmp 8), none⟩,
   ⟨some 10, .len .slice (.tmp 9), none⟩,
   ⟨some 3, .move (.tmp 10), none⟩]
@[simp] theorem R30_1 (l1 : List AV) :
  evK C D (.seq (.region O30_1) (.keep [1, 3] [1] c)) ⟨[(1, .l 1 0)], [(1, l1)], H⟩ k =
  (nl (rd false 1 10 l1)).bind fun t1 =>
  (lenS t1).bind fun t2 =>
  evK C D c ⟨[(1, .l 1 0), (3, .v t2)], [(1, l1)], H⟩ k := by kernel_rfl
def O30_2 : List IOper :=
  [⟨some 4, .move (.const (.int .i64 0)), none⟩]
@[simp] theorem R30_2 (x3 : AV) (l1 : List AV) :
  evK C D (.seq (.region O30_2) (.keep [1, 3, 4] [1] c)) ⟨[(1, .l 1 0), (3, .v x3)], [(1, l1)], H⟩ k =
  evK C D c ⟨[(1, .l 1 0), (3, .v x3), (4, .v (.int .i64 0))], [(1, l1)], H⟩ k := by kernel_rfl
def O30_3 : List IOper :=
  [⟨some 11, .move (.tmp 4), none⟩,
   ⟨some 12, .fieldAddr 9 (.tmp 1), none⟩,
   ⟨some 13, .load false 1 (.tmp 12), none⟩,
   ⟨some 14, .len .slice (.tmp 13), none⟩,
   ⟨some 15, .bin .lss .none (.tmp 11) (.tmp 14), none⟩]
@[simp] theorem R30_3 (x3 x4 : AV) (l1 : List AV) :
  evK C D (.seq (.region O30_3) (.keep [1, 3, 4, 15] [1] c)) ⟨[(1, .l 1 0), (3, .v x3), (4, .v x4)], [(1, l1)], H⟩ k =
  (nl (rd false 1 9 l1)).bind fun t2 =>
  (lenS t2).bind fun t3 =>
  (nl (binA .lss .none x4 t3)).bind fun t4 =>
  evK C D c ⟨[(1, .l 1 0), (3, .v x3), (4, .v x4), (15, .v t4)], [(1, l1)], H⟩ k := by kernel_rfl
def O30_4 : List IOper :=
  [⟨some 18, .move (.tmp 3), none⟩,
   ⟨some 19, .fieldAddr 9 (.tmp 1), none⟩,
   ⟨some 20, .load false 1 (.tmp 19), none⟩,
   ⟨some 21, .move (.tmp 4), none⟩,
   ⟨some 22, .indexAddr none 2 (.tmp 20) (.tmp 21), none⟩,
   ⟨some 23, .fieldAddr 1 (.tmp 22), none⟩,
   ⟨some 24, .load false 1 (.tmp 23), none⟩,
   ⟨some 25, .len .slice (.tmp 24), none⟩,
   ⟨some 26, .bin .add .none (.tmp 18) (.tmp 25), none⟩,
   ⟨some 3, .move (.tmp 26), none⟩]
@[simp] theorem R30_4 (x3 x4 : AV) (l1 : List AV) :
  evK C D (.seq (.region O30_4) (.keep [1, 3, 4] [1] c)) ⟨[(1, .l 1 0), (3, .v x3), (4, .v x4)], [(1, l1)], H⟩ k =
  (nl (rd false 1 9 l1)).bind fun t2 =>
  (nl (idxS 2 t2 x4)).bind fun t4 =>
  (fldP 1 t4).bind fun t5 =>
  (nl (loadP H false 1 t5)).bind fun t6 =>
  (lenS t6).bind fun t7 =>
  (nl (binA .add .none x3 t7)).bind fun t8 =>
  evK C D c ⟨[(1, .l 1 0), (3, .v t8), (4, .v x4)], [(1, l1)], H⟩ k := by kernel_rfl
def O30_5 : List IOper :=
  [⟨some 27, .move (.tmp 4), none⟩,
   ⟨some 28, .bin .eql .int (.tmp 27) (.const (.int .i64 60)), none⟩,
   ⟨some 29, .move (.tmp 28), none⟩,
   ⟨some 30, .move (.tmp 3), some (29, false)⟩,
   ⟨some 31, .bin .gtr .none (.tmp 30) (.const (.int .i64 600)), some (29, false)⟩,
   ⟨some 32, .pick (.tmp 29) (.const (.bool true)) (.tmp 31), none⟩]
@[simp] theorem R30_5 (x3 x4 : AV) (l1 : List AV) :
  evK C D (.seq (.region O30_5) (.keep [1, 3, 4, 32] [1] c)) ⟨[(1, .l 1 0), (3, .v x3), (4, .v x4)], [(1, l1)], H⟩ k =
  (nl (binA .eql .int x4 (.int .i64 60))).bind fun t1 =>
  guardK t1 false (
  (nl (binA .gtr .none x3 (.int .i64 600))).bind fun t4 =>
  evK C D c ⟨[(1, .l 1 0), (3, .v x3), (4, .v x4), (32, .v t4)], [(1, l1)], H⟩ k)
  (evK C D c ⟨[(1, .l 1 0), (3, .v x3), (4, .v x4), (32, .v (.bool true))], [(1, l1)], H⟩ k) := by kernel_rfl
def O30_6 : List IOper :=
  [⟨some 2, .move (.const (.bool false)), none⟩]
@[simp] theorem R30_6 (x3 x4 x32 : AV) (l1 : List AV) :
  evK C D (.seq (.region O30_6) (.keep [2] [] c)) ⟨[(1, .l 1 0), (3, .v x3), (4, .v x4), (32, .v x32)], [(1, l1)], H⟩ k =
  evK C D c ⟨[(2, .v (.bool false))], [], H⟩ k := by kernel_rfl
def O30_7 : List IOper :=
  [⟨some 16, .move (.tmp 4), none⟩,
   ⟨some 17, .bin .add .none (.tmp 16) (.const (.int .i64 1)), none⟩,
   ⟨some 4, .move (.tmp 17), none⟩]
@[simp] theorem R30_7 (x3 x4 : AV) (l1 : List AV) :
  evK C D (.region O30_7) ⟨[(1, .l 1 0), (3, .v x3), (4, .v x4)], [(1, l1)], H⟩ k =
  (nl (binA .add .none x4 (.int .i64 1))).bind fun t1 =>
  k .normal ⟨[(4, .v t1), (17, .v t1), (16, .v x4), (1, .l 1 0), (3, .v x3), (4, .v x4)], [(1, l1)], H⟩ := by kernel_rfl
def B30_0 : IC :=
  .seq (.seq (.region O30_3)
   (.keep [1, 3, 4, 15] [1] (.cond (.tmp 15)
    (.skip)
    (.exit 0))))
  (.keep [1, 3, 4] [1] (.seq (.block 1 (.seq (.region O30_4)
    (.keep [1, 3, 4] [1] (.seq (.region O30_5)
    (.keep [1, 3, 4, 32] [1] (.cond (.tmp 32)
     (.seq (.region O30_6)
     (.keep [2] [] (.ret)))
     (.skip)))))))
  (.keep [1, 3, 4] [1] (.region O30_7))))
def L30_0 : IC := .keep [1, 3, 4] [1] B30_0
@[simp] theorem LK30_0 (s : SK) (k : AExit → SK → Option R) : evK C D (.loop L30_0) s k = (D (.loop L30_0) (prK [1, 3, 4] [1] s).toSt).bind fun r => k r.1 (ofSt r.2) := by kernel_rfl
def O30_8 : List IOper :=
  [⟨some 5, .move (.const (.int .i64 0)), none⟩]
@[simp] theorem R30_8 (x3 : AV) (l1 : List AV) :
  evK C D (.seq (.region O30_8) (.keep [1, 3, 5] [1] c)) ⟨[(1, .l 1 0), (3, .v x3)], [(1, l1)], H⟩ k =
  evK C D c ⟨[(1, .l 1 0), (3, .v x3), (5, .v (.int .i64 0))], [(1, l1)], H⟩ k := by kernel_rfl
def O30_9 : List IOper :=
  [⟨some 33, .move (.tmp 5), none⟩,
   ⟨some 34, .fieldAddr 35 (.tmp 1), none⟩,
   ⟨some 35, .fieldAddr 3 (.tmp 34), none⟩,
   ⟨some 36, .load false 1 (.tmp 35), none⟩,
   ⟨some 37, .len .slice (.tmp 36), none⟩,
   ⟨some 38, .bin .lss .none (.tmp 33) (.tmp 37), none⟩]
@[simp] theorem R30_9 (x3 x5 : AV) (l1 : List AV) :
  evK C D (.seq (.region O30_9) (.keep [1, 3, 5, 38] [1] c)) ⟨[(1, .l 1 0), (3, .v x3), (5, .v x5)], [(1, l1)], H⟩ k =
  (nl (rd false 1 38 l1)).bind fun t3 =>
  (lenS t3).bind fun t4 =>
  (nl (binA .lss .none x5 t4)).bind fun t5 =>
  evK C D c ⟨[(1, .l 1 0), (3, .v x3), (5, .v x5), (38, .v t5)], [(1, l1)], H⟩ k := by kernel_rfl
def O30_10 : List IOper :=
  [⟨some 41, .move (.tmp 5), none⟩,
   ⟨some 42, .bin .eql .int (.tmp 41) (.const (.int .i64 60)), none⟩,
   ⟨some 43, .move (.tmp 42), none⟩,
   ⟨some 44, .fieldAddr 35 (.tmp 1), some (43, false)⟩,
   ⟨some 45, .fieldAddr 3 (.tmp 44), some (43, false)⟩,
   ⟨some 46, .load false 1 (.tmp 45), some (43, false)⟩,
   ⟨some 47, .move (.tmp 5), some (43, false)⟩,
   ⟨some 48, .indexAddr none 2 (.tmp 46) (.tmp 47), some (43, false)⟩,
   ⟨some 49, .fieldAddr 0 (.tmp 48), some (43, false)⟩,
   ⟨some 50, .load false 1 (.tmp 49), some (43, false)⟩,
   ⟨some 51, .len .str (.tmp 50), some (43, false)⟩,
   ⟨some 52, .bin .gtr .none (.tmp 51) (.const (.int .i64 600)), some (43, false)⟩,
   ⟨some 53, .pick (.tmp 43) (.const (.bool true)) (.tmp 52), none⟩,
   ⟨some 54, .move (.tmp 53), none⟩,
   ⟨some 55, .fieldAddr 35 (.tmp 1), some (54, false)⟩,
   ⟨some 56, .fieldAddr 3 (.tmp 55), some (54, false)⟩,
   ⟨some 57, .load false 1 (.tmp 56), some (54, false)⟩,
   ⟨some 58, .move (.tmp 5), some (54, false)⟩,
   ⟨some 59, .indexAddr none 2 (.tmp 57) (.tmp 58), some (54, false)⟩,
   ⟨some 60, .fieldAddr 1 (.tmp 59), some (54, false)⟩,
   ⟨some 61, .load false 1 (.tmp 60), some (54, false)⟩,
   ⟨some 62, .len .str (.tmp 61), some (54, false)⟩,
   ⟨some 63, .bin .gtr .none (.tmp 62) (.const (.int .i64 600)), some (54, false)⟩,
   ⟨some 64, .pick (.tmp 54) (.const (.bool true)) (.tmp 63), none⟩]
@[simp] theorem R30_10 (x3 x5 : AV) (l1 : List AV) :
  evK C D (.seq (.region O30_10) (.keep [1, 3, 5, 64] [1] c)) ⟨[(1, .l 1 0), (3, .v x3), (5, .v x5)], [(1, l1)], H⟩ k =
  (nl (binA .eql .int x5 (.int .i64 60))).bind fun t1 =>
  guardK t1 false (
  (nl (rd false 1 38 l1)).bind fun t5 =>
  (nl (idxS 2 t5 x5)).bind fun t7 =>
  (fldP 0 t7).bind fun t8 =>
  (nl (loadP H false 1 t8)).bind fun t9 =>
  (lenStr t9).bind fun t10 =>
  (nl (binA .gtr .none t10 (.int .i64 600))).bind fun t11 =>
  guardK t11 false (
  (nl (rd false 1 38 l1)).bind fun t16 =>
  (nl (idxS 2 t16 x5)).bind fun t18 =>
  (fldP 1 t18).bind fun t19 =>
  (nl (loadP H false 1 t19)).bind fun t20 =>
  (lenStr t20).bind fun t21 =>
  (nl (binA .gtr .none t21 (.int .i64 600))).bind fun t22 =>
  evK C D c ⟨[(1, .l 1 0), (3, .v x3), (5, .v x5), (64, .v t22)], [(1, l1)], H⟩ k)
  (evK C D c ⟨[(1, .l 1 0), (3, .v x3), (5, .v x5), (64, .v (.bool true))], [(1, l1)], H⟩ k))
  (evK C D c ⟨[(1, .l 1 0), (3, .v x3), (5, .v x5), (64, .v (.bool true))], [(1, l1)], H⟩ k) := by kernel_rfl
def O30_11 : List IOper :=
  [⟨some 2, .move (.const (.bool false)), none⟩]
@[simp] theorem R30_11 (x3 x5 x64 : AV) (l1 : List AV) :
  evK C D (.seq (.region O30_11) (.keep [2] [] c)) ⟨[(1, .l 1 0), (3, .v x3), (5, .v x5), (64, .v x64)], [(1, l1)], H⟩ k =
  evK C D c ⟨[(2, .v (.bool false))], [], H⟩ k := by kernel_rfl
def O30_12 : List IOper :=
  [⟨some 39, .move (.tmp 5), none⟩,
   ⟨some 40, .bin .add .none (.tmp 39) (.const (.int .i64 1)), none⟩,
   ⟨some 5, .move (.tmp 40), none⟩]
@[simp] theorem R30_12 (x3 x5 : AV) (l1 : List AV) :
  evK C D (.region O30_12) ⟨[(1, .l 1 0), (3, .v x3), (5, .v x5)], [(1, l1)], H⟩ k =
  (nl (binA .add .none x5 (.int .i64 1))).bind fun t1 =>
  k .normal ⟨[(5, .v t1), (40, .v t1), (39, .v x5), (1, .l 1 0), (3, .v x3), (5, .v x5)], [(1, l1)], H⟩ := by kernel_rfl
def B30_1 : IC :=
  .seq (.seq (.region O30_9)
   (.keep [1, 3, 5, 38] [1] (.cond (.tmp 38)
    (.skip)
    (.exit 2))))
  (.keep [1, 3, 5] [1] (.seq (.block 3 (.seq (.region O30_10)
    (.keep [1, 3, 5, 64] [1] (.cond (.tmp 64)
     (.seq (.region O30_11)
     (.keep [2] [] (.ret)))
     (.skip)))))
  (.keep [1, 3, 5] [1] (.region O30_12))))
def L30_1 : IC := .keep [1, 3, 5] [1] B30_1
@[simp] theorem LK30_1 (s : SK) (k : AExit → SK → Option R) : evK C D (.loop L30_1) s k = (D (.loop L30_1) (prK [1, 3, 5] [1] s).toSt).bind fun r => k r.1 (ofSt r.2) := by kernel_rfl
def O30_13 : List IOper :=
  [⟨some 6, .move (.const (.int .i64 0)), none⟩]
@[simp] theorem R30_13 (x3 : AV) (l1 : List AV) :
  evK C D (.seq (.region O30_13) (.keep [1, 3, 6] [1] c)) ⟨[(1, .l 1 0), (3, .v x3)], [(1, l1)], H⟩ k =
  evK C D c ⟨[(1, .l 1 0), (3, .v x3), (6, .v (.int .i64 0))], [(1, l1)], H⟩ k := by kernel_rfl
def O30_14 : List IOper :=
  [⟨some 65, .move (.tmp 6), none⟩,
   ⟨some 66, .fieldAddr 35 (.tmp 1), none⟩,
   ⟨some 67, .fieldAddr 10 (.tmp 66), none⟩,
   ⟨some 68, .fieldAddr 7 (.tmp 67), none⟩,
   ⟨some 69, .load false 1 (.tmp 68), none⟩,
   ⟨some 70, .len .slice (.tmp 69), none⟩,
   ⟨some 71, .bin .lss .none (.tmp 65) (.tmp 70), none⟩]
@[simp] theorem R30_14 (x3 x6 : AV) (l1 : List AV) :
  evK C D (.seq (.region O30_14) (.keep [1, 3, 6, 71] [1] c)) ⟨[(1, .l 1 0), (3, .v x3), (6, .v x6)], [(1, l1)], H⟩ k =
  (nl (rd false 1 52 l1)).bind fun t4 =>
  (lenS t4).bind fun t5 =>
  (nl (binA .lss .none x6 t5)).bind fun t6 =>
  evK C D c ⟨[(1, .l 1 0), (3, .v x3), (6, .v x6), (71, .v t6)], [(1, l1)], H⟩ k := by kernel_rfl
def O30_15 : List IOper :=
  [⟨some 74, .move (.tmp 6), none⟩,
   ⟨some 75, .bin .eql .int (.tmp 74) (.const (.int .i64 60)), none⟩,
   ⟨some 76, .move (.tmp 75), none⟩,
   ⟨some 77, .fieldAddr 35 (.tmp 1), some (76, false)⟩,
   ⟨some 78, .fieldAddr 10 (.tmp 77), some (76, false)⟩,
   ⟨some 79, .fieldAddr 7 (.tmp 78), some (76, false)⟩,
   ⟨some 80, .load false 1 (.tmp 79), some (76, false)⟩,
   ⟨some 81, .move (.tmp 6), some (76, false)⟩,
   ⟨some 82, .indexAddr none 2 (.tmp 80) (.tmp 81), some (76, false)⟩,
   ⟨some 83, .fieldAddr 0 (.tmp 82), some (76, false)⟩,
   ⟨some 84, .load false 1 (.tmp 83), some (76, false)⟩,
   ⟨some 85, .len .str (.tmp 84), some (76, false)⟩,
   ⟨some 86, .bin .gtr .none (.tmp 85) (.const (.int .i64 600)), some (76, false)⟩,
   ⟨some 87, .pick (.tmp 76) (.const (.bool true)) (.tmp 86), none⟩]
@[simp] theorem R30_15 (x3 x6 : AV) (l1 : List AV) :
  evK C D (.seq (.region O30_15) (.keep [1, 3, 6, 87] [1] c)) ⟨[(1, .l 1 0), (3, .v x3), (6, .v x6)], [(1, l1)], H⟩ k =
  (nl (binA .eql .int x6 (.int .i64 60))).bind fun t1 =>
  guardK t1 false (
  (nl (rd false 1 52 l1)).bind fun t6 =>
  (nl (idxS 2 t6 x6)).bind fun t8 =>
  (fldP 0 t8).bind fun t9 =>
  (nl (loadP H false 1 t9)).bind fun t10 =>
  (lenStr t10).bind fun t11 =>
  (nl (binA .gtr .none t11 (.int .i64 600))).bind fun t12 =>
  evK C D c ⟨[(1, .l 1 0), (3, .v x3), (6, .v x6), (87, .v t12)], [(1, l1)], H⟩ k)
  (evK C D c ⟨[(1, .l 1 0), (3, .v x3), (6, .v x6), (87, .v (.bool true))], [(1, l1)], H⟩ k) := by kernel_rfl
def O30_16 : List IOper :=
  [⟨some 2, .move (.const (.bool false)), none⟩]
@[simp] theorem R30_16 (x3 x6 x87 : AV) (l1 : List AV) :
  evK C D (.seq (.region O30_16) (.keep [2] [] c)) ⟨[(1, .l 1 0), (3, .v x3), (6, .v x6), (87, .v x87)], [(1, l1)], H⟩ k =
  evK C D c ⟨[(2, .v (.bool false))], [], H⟩ k := by kernel_rfl
def O30_17 : List IOper :=
  [⟨some 72, .move (.tmp 6), none⟩,
   ⟨some 73, .bin .add .none (.tmp 72) (.const (.int .i64 1)), none⟩,
   ⟨some 6, .move (.tmp 73), none⟩]
@[simp] theorem R30_17 (x3 x6 : AV) (l1 : List AV) :
  evK C D (.region O30_17) ⟨[(1, .l 1 0), (3, .v x3), (6, .v x6)], [(1, l1)], H⟩ k =
  (nl (binA .add .none x6 (.int .i64 1))).bind fun t1 =>
  k .normal ⟨[(6, .v t1), (73, .v t1), (72, .v x6), (1, .l 1 0), (3, .v x3), (6, .v x6)], [(1, l1)], H⟩ := by kernel_rfl
def B30_2 : IC :=
  .seq (.seq (.region O30_14)
   (.keep [1, 3, 6, 71] [1] (.cond (.tmp 71)
    (.skip)
    (.exit 4))))
  (.keep [1, 3, 6] [1] (.seq (.block 5 (.seq (.region O30_15)
    (.keep [1, 3, 6, 87] [1] (.cond (.tmp 87)
     (.seq (.region O30_16)
     (.keep [2] [] (.ret)))
     (.skip)))))
  (.keep [1, 3, 6] [1] (.region O30_17))))
def L30_2 : IC := .keep [1, 3, 6] [1] B30_2
@[simp] theorem LK30_2 (s : SK) (k : AExit → SK → Option R) : evK C D (.loop L30_2) s k = (D (.loop L30_2) (prK [1, 3, 6] [1] s).toSt).bind fun r => k r.1 (ofSt r.2) := by kernel_rfl
def O30_18 : List IOper :=
  [⟨some 88, .fieldAddr 13 (.tmp 1), none⟩,
   ⟨some 89, .load true 22 (.tmp 88), none⟩,
   ⟨some 90, .call (.func 21) [(.tmp 89)], none⟩,
   ⟨some 7, .move (.tmp 90), none⟩]
@[simp] theorem R30_18 (x3 : AV) (l1 : List AV) :
  evK C D (.seq (.region O30_18) (.keep [1, 3, 7] [1] c)) ⟨[(1, .l 1 0), (3, .v x3)], [(1, l1)], H⟩ k =
  (nl (rd true 22 13 l1)).bind fun t1 =>
  (callN C (.func (.func 21) [] []) [t1] H).bind fun r2 =>
  evK C D c ⟨[(1, .l 1 0), (3, .v x3), (7, .v r2.1)], [(1, l1)], r2.2⟩ k := by kernel_rfl
def O30_19 : List IOper :=
  [⟨some 91, .move (.tmp 7), none⟩,
   ⟨some 92, .move (.tmp 91), none⟩,
   ⟨some 93, .move (.tmp 3), some (92, true)⟩,
   ⟨some 94, .bin .leq .none (.tmp 93) (.const (.int .i64 600)), some (92, true)⟩,
   ⟨some 95, .pick (.tmp 92) (.tmp 94) (.const (.bool false)), none⟩,
   ⟨some 96, .move (.tmp 95), none⟩,
   ⟨some 97, .fieldAddr 35 (.tmp 1), some (96, true)⟩,
   ⟨some 98, .fieldAddr 5 (.tmp 97), some (96, true)⟩,
   ⟨some 99, .fieldAddr 2 (.tmp 98), some (96, true)⟩,
   ⟨some 100, .load false 1 (.tmp 99), some (96, true)⟩,
   ⟨some 101, .len .str (.tmp 100), some (96, true)⟩,
   ⟨some 102, .bin .leq .none (.tmp 101) (.const (.int .i64 600)), some (96, true)⟩,
   ⟨some 103, .pick (.tmp 96) (.tmp 102) (.const (.bool false)), none⟩,
   ⟨some 2, .move (.tmp 103), none⟩]
@[simp] theorem R30_19 (x3 x7 : AV) (l1 : List AV) :
  evK C D (.seq (.region O30_19) (.keep [2] [] c)) ⟨[(1, .l 1 0), (3, .v x3), (7, .v x7)], [(1, l1)], H⟩ k =
  guardK x7 true (
  (nl (binA .leq .none x3 (.int .i64 600))).bind fun t3 =>
  guardK t3 true (
  (nl (rd false 1 42 l1)).bind fun t9 =>
  (lenStr t9).bind fun t10 =>
  (nl (binA .leq .none t10 (.int .i64 600))).bind fun t11 =>
  evK C D c ⟨[(2, .v t11)], [], H⟩ k)
  (evK C D c ⟨[(2, .v (.bool false))], [], H⟩ k))
  (evK C D c ⟨[(2, .v (.bool false))], [], H⟩ k) := by kernel_rfl
def F30 : FnIR := ⟨104, 1, [.tmp 2], [1],
  .seq (.region O30_0)
  (.keep [1] [1] (.seq (.region O30_1)
  (.keep [1, 3] [1] (.seq (.seq (.region O30_2)
   (.keep [1, 3, 4] [1] (.block 0 (.loop L30_0))))
  (.keep [1, 3] [1] (.seq (.seq (.region O30_8)
   (.keep [1, 3, 5] [1] (.block 2 (.loop L30_1))))
  (.keep [1, 3] [1] (.seq (.seq (.region O30_13)
   (.keep [1, 3, 6] [1] (.block 4 (.loop L30_2))))
  (.keep [1, 3] [1] (.seq (.region O30_18)
  (.keep [1, 3, 7] [1] (.seq (.region O30_19)
  (.keep [2] [] (.ret))))))))))))))⟩
/-- (*wampum/node.Node).Begin -/
def O32_0 : List IOper :=
  [⟨some 2, .move (.const (.int .i64 0)), none⟩,
   ⟨some 3, .move (.const (.int .i64 0)), none⟩]
@[simp] theorem R32_0 (x0 : AV) :
  evK C D (.seq (.region O32_0) (.keep [0] [] c)) ⟨[(0, .v x0)], [], H⟩ k =
  evK C D c ⟨[(0, .v x0)], [], H⟩ k := by kernel_rfl
def O32_1 : List IOper :=
  [⟨some 8, .move (.tmp 0), none⟩,
   ⟨some 9, .bin .eql .ptr (.tmp 8) (.const .nilp), none⟩]
@[simp] theorem R32_1 (x0 : AV) :
  evK C D (.seq (.region O32_1) (.keep [0, 9] [] c)) ⟨[(0, .v x0)], [], H⟩ k =
  (nl (binA .eql .ptr x0 .nilp)).bind fun t1 =>
  evK C D c ⟨[(0, .v x0), (9, .v t1)], [], H⟩ k := by kernel_rfl
def O32_2 : List IOper :=
  [⟨some 2, .move (.const (.int .i64 0)), none⟩,
   ⟨some 3, .move (.const (.int .i64 1)), none⟩]
@[simp] theorem R32_2 (x0 x9 : AV) :
  evK C D (.seq (.region O32_2) (.keep [2, 3] [] c)) ⟨[(0, .v x0), (9, .v x9)], [], H⟩ k =
  evK C D c ⟨[(2, .v (.int .i64 0)), (3, .v (.int .i64 1))], [], H⟩ k := by kernel_rfl
def O32_3 : List IOper :=
  [⟨some 10, .move (.tmp 0), none⟩,
   ⟨some 11, .nilCheck (.tmp 10), none⟩,
   ⟨some 12, .fieldAddr 5 (.tmp 11), none⟩,
   ⟨some 13, .load false 1 (.tmp 12), none⟩,
   ⟨some 14, .len .map (.tmp 13), none⟩,
   ⟨some 15, .bin .geq .none (.tmp 14) (.const (.int .i64 50)), none⟩]
@[simp] theorem R32_3 (x0 : AV) :
  evK C D (.seq (.region O32_3) (.keep [0, 15] [] c)) ⟨[(0, .v x0)], [], H⟩ k =
  (nilC x0).bind fun t1 =>
  (fldP 5 t1).bind fun t2 =>
  (nl (loadP H false 1 t2)).bind fun t3 =>
  (lenMap H t3).bind fun t4 =>
  (nl (binA .geq .none t4 (.int .i64 50))).bind fun t5 =>
  evK C D c ⟨[(0, .v x0), (15, .v t5)], [], H⟩ k := by kernel_rfl
def O32_4 : List IOper :=
  [⟨some 16, .move (.tmp 0), none⟩,
   ⟨some 17, .call (.func 79) [(.tmp 16)], none⟩]
@[simp] theorem R32_4 (x0 x15 : AV) :
  evK C D (.region O32_4) ⟨[(0, .v x0), (15, .v x15)], [], H⟩ k =
  (callN C (.func (.func 79) [] []) [x0] H).bind fun r1 =>
  k .normal ⟨[(17, .v r1.1), (16, .v x0), (0, .v x0), (15, .v x15)], [], r1.2⟩ := by kernel_rfl
def O32_5 : List IOper :=
  [⟨some 18, .move (.tmp 0), none⟩,
   ⟨some 19, .nilCheck (.tmp 18), none⟩,
   ⟨some 20, .fieldAddr 5 (.tmp 19), none⟩,
   ⟨some 21, .load false 1 (.tmp 20), none⟩,
   ⟨some 22, .len .map (.tmp 21), none⟩,
   ⟨some 23, .bin .geq .none (.tmp 22) (.const (.int .i64 50)), none⟩]
@[simp] theorem R32_5 (x0 : AV) :
  evK C D (.seq (.region O32_5) (.keep [0, 23] [] c)) ⟨[(0, .v x0)], [], H⟩ k =
  (nilC x0).bind fun t1 =>
  (fldP 5 t1).bind fun t2 =>
  (nl (loadP H false 1 t2)).bind fun t3 =>
  (lenMap H t3).bind fun t4 =>
  (nl (binA .geq .none t4 (.int .i64 50))).bind fun t5 =>
  evK C D c ⟨[(0, .v x0), (23, .v t5)], [], H⟩ k := by kernel_rfl
def O32_6 : List IOper :=
  [⟨some 2, .move (.const (.int .i64 0)), none⟩,
   ⟨some 3, .move (.const (.int .i64 224)), none⟩]
@[simp] theorem R32_6 (x0 x23 : AV) :
  evK C D (.seq (.region O32_6) (.keep [2, 3] [] c)) ⟨[(0, .v x0), (23, .v x23)], [], H⟩ k =
  evK C D c ⟨[(2, .v (.int .i64 0)), (3, .v (.int .i64 224))], [], H⟩ k := by kernel_rfl
def O32_7 : List IOper :=
  [⟨some 25, .move (.tmp 0), none⟩,
   ⟨some 26, .nilCheck (.tmp 25), none⟩,
   ⟨some 27, .fieldAddr 2 (.tmp 26), none⟩,
   ⟨some 28, .load false 1 (.tmp 27), none⟩,
   ⟨some 29, .call (.func 80) [(.tmp 28)], none⟩,
   ⟨some 24, .move (.tmp 29), none⟩,
   ⟨some 30, .extract (.tmp 24) 0, none⟩,
   ⟨some 31, .extract (.tmp 24) 1, none⟩,
   ⟨some 4, .alloc true 2 [(.int .i64 0), (.int .i64 0)], none⟩,
   ⟨none, .store 2 (.tmp 4) (.tmp 30), none⟩,
   ⟨some 5, .move (.tmp 31), none⟩]
@[simp] theorem R32_7 (x0 : AV) :
  evK C D (.seq (.region O32_7) (.keep [0, 4, 5] [4] c)) ⟨[(0, .v x0)], [], H⟩ k =
  (nilC x0).bind fun t1 =>
  (fldP 2 t1).bind fun t2 =>
  (nl (loadP H false 1 t2)).bind fun t3 =>
  (callN C (.func (.func 80) [] []) [t3] H).bind fun r4 =>
  (nl (extA 0 r4.1)).bind fun t6 =>
  (nl (extA 1 r4.1)).bind fun t7 =>
  (stL 2 0 t6 [(.int .i64 0), (.int .i64 0)]).bind fun m9 =>
  evK C D c ⟨[(0, .v x0), (4, .l 4 0), (5, .v t7)], [(4, m9)], r4.2⟩ k := by kernel_rfl
def O32_8 : List IOper :=
  [⟨some 32, .move (.tmp 5), none⟩,
   ⟨some 33, .bin .neq .int (.tmp 32) (.const (.int .i64 0)), none⟩]
@[simp] theorem R32_8 (x0 x5 : AV) (l4 : List AV) :
  evK C D (.seq (.region O32_8) (.keep [0, 4, 5, 33] [4] c)) ⟨[(0, .v x0), (4, .l 4 0), (5, .v x5)], [(4, l4)], H⟩ k =
  (nl (binA .neq .int x5 (.int .i64 0))).bind fun t1 =>
  evK C D c ⟨[(0, .v x0), (4, .l 4 0), (5, .v x5), (33, .v t1)], [(4, l4)], H⟩ k := by kernel_rfl
def O32_9 : List IOper :=
  [⟨some 34, .move (.tmp 5), none⟩,
   ⟨some 2, .move (.const (.int .i64 0)), none⟩,
   ⟨some 3, .move (.tmp 34), none⟩]
@[simp] theorem R32_9 (x0 x5 x33 : AV) (l4 : List AV) :
  evK C D (.seq (.region O32_9) (.keep [2, 3] [] c)) ⟨[(0, .v x0), (4, .l 4 0), (5, .v x5), (33, .v x33)], [(4, l4)], H⟩ k =
  evK C D c ⟨[(2, .v (.int .i64 0)), (3, .v x5)], [], H⟩ k := by kernel_rfl
def O32_10 : List IOper :=
  [⟨some 40, .move (.tmp 0), none⟩,
   ⟨some 41, .nilCheck (.tmp 40), none⟩,
   ⟨some 42, .fieldAddr 8 (.tmp 41), none⟩,
   ⟨some 43, .call (.func 81) [(.tmp 42)], none⟩,
   ⟨some 45, .move (.tmp 0), none⟩,
   ⟨some 46, .nilCheck (.tmp 45), none⟩,
   ⟨some 47, .fieldAddr 3 (.tmp 46), none⟩,
   ⟨some 48, .load false 1 (.tmp 47), none⟩,
   ⟨some 49, .indexAddr none 1 (.tmp 48) (.const (.int .i64 0)), none⟩,
   ⟨some 50, .load false 1 (.tmp 49), none⟩,
   ⟨some 51, .call (.func 19) [(.tmp 50)], none⟩,
   ⟨some 35, .move (.tmp 0), none⟩,
   ⟨some 36, .nilCheck (.tmp 35), none⟩,
   ⟨some 37, .fieldAddr 0 (.tmp 36), none⟩,
   ⟨some 38, .load false 1 (.tmp 37), none⟩,
   ⟨some 39, .bin .add .none (.const (.int .i64 1)) (.tmp 38), none⟩,
   ⟨some 44, .bin .rem .none (.tmp 43) (.const (.int .i64 1024)), none⟩,
   ⟨some 52, .bin .mul .none (.const (.int .i64 1024)) (.tmp 51), none⟩,
   ⟨some 53, .bin .add .none (.tmp 44) (.tmp 52), none⟩,
   ⟨some 54, .bin .mul .none (.const (.int .i64 3)) (.tmp 53), none⟩,
   ⟨some 55, .bin .add .none (.tmp 39) (.tmp 54), none⟩,
   ⟨some 6, .move (.tmp 55), none⟩]
@[simp] theorem R32_10 (x0 : AV) (l4 : List AV) :
  evK C D (.seq (.regionD O32_10 [(7, 0), (9, 0), (14, 0), (14, 4)]) (.keep [0, 4, 6] [4] c)) ⟨[(0, .v x0), (4, .l 4 0)], [(4, l4)], H⟩ k =
  (nilC x0).bind fun t1 =>
  (fldP 8 t1).bind fun t2 =>
  (callN C (.func (.func 81) [] []) [t2] H).bind fun r3 =>
  (nilC x0).bind fun t5 =>
  (fldP 3 t5).bind fun t6 =>
  (nl (loadP r3.2 false 1 t6)).bind fun t7 =>
  kB (AV.okB r3.2.n t7) (
  (nl (idxS 1 t7 (.int .i64 0))).bind fun t8 =>
  (nl (loadP r3.2 false 1 t8)).bind fun t9 =>
  kB (AV.okB r3.2.n t9) (
  (callN C (.func (.func 19) [] []) [t9] r3.2).bind fun r10 =>
  (nilC x0).bind fun t12 =>
  (fldP 0 t12).bind fun t13 =>
  (nl (loadP r10.2 false 1 t13)).bind fun t14 =>
  kB (AV.okB r10.2.n t14) (
  (nl (binA .add .none (.int .i64 1) t14)).bind fun t15 =>
  (nl (binA .rem .none r3.1 (.int .i64 1024))).bind fun t16 =>
  (nl (binA .mul .none (.int .i64 1024) r10.1)).bind fun t17 =>
  (nl (binA .add .none t16 t17)).bind fun t18 =>
  (nl (binA .mul .none (.int .i64 3) t18)).bind fun t19 =>
  (nl (binA .add .none t15 t19)).bind fun t20 =>
  kB (chk (loadP H false 1 t6) t7) (
  kB (chk (loadP H false 1 t8) t9) (
  kB (chk (loadP H false 1 t13) t14) (
  kB (chk (loadP r3.2 false 1 t13) t14) (
  evK C D c ⟨[(0, .v x0), (4, .l 4 0), (6, .v t20)], [(4, l4)], r10.2⟩ k))))))) := by kernel_rfl
def O32_11 : List IOper :=
  [⟨some 57, .move (.tmp 0), none⟩,
   ⟨some 58, .nilCheck (.tmp 57), none⟩,
   ⟨some 59, .fieldAddr 1 (.tmp 58), none⟩,
   ⟨some 60, .load false 1 (.tmp 59), none⟩,
   ⟨some 61, .move (.tmp 6), none⟩,
   ⟨some 62, .load true 2 (.tmp 4), none⟩,
   ⟨some 63, .call (.func 82) [(.tmp 60), (.tmp 61), (.tmp 62)], none⟩,
   ⟨some 56, .move (.tmp 63), none⟩,
   ⟨some 64, .extract (.tmp 56) 0, none⟩,
   ⟨some 65, .extract (.tmp 56) 1, none⟩,
   ⟨some 7, .move (.tmp 64), none⟩,
   ⟨some 5, .move (.tmp 65), none⟩]
@[simp] theorem R32_11 (x0 x6 : AV) (l4 : List AV) :
  evK C D (.seq (.regionD O32_11 []) (.keep [0, 5, 6, 7] [] c)) ⟨[(0, .v x0), (4, .l 4 0), (6, .v x6)], [(4, l4)], H⟩ k =
  (nilC x0).bind fun t1 =>
  (fldP 1 t1).bind fun t2 =>
  (nl (loadP H false 1 t2)).bind fun t3 =>
  kB (AV.okB H.n t3) (
  (nl (rd true 2 0 l4)).bind fun t5 =>
  kB (AV.okB H.n t5) (
  (callN C (.func (.func 82) [] []) [t3, x6, t5] H).bind fun r6 =>
  (nl (extA 0 r6.1)).bind fun t8 =>
  (nl (extA 1 r6.1)).bind fun t9 =>
  evK C D c ⟨[(0, .v x0), (5, .v t9), (6, .v x6), (7, .v t8)], [], r6.2⟩ k)) := by kernel_rfl
def O32_12 : List IOper :=
  [⟨some 66, .move (.tmp 5), none⟩,
   ⟨some 67, .bin .neq .int (.tmp 66) (.const (.int .i64 0)), none⟩]
@[simp] theorem R32_12 (x0 x5 x6 x7 : AV) :
  evK C D (.seq (.region O32_12) (.keep [0, 5, 6, 7, 67] [] c)) ⟨[(0, .v x0), (5, .v x5), (6, .v x6), (7, .v x7)], [], H⟩ k =
  (nl (binA .neq .int x5 (.int .i64 0))).bind fun t1 =>
  evK C D c ⟨[(0, .v x0), (5, .v x5), (6, .v x6), (7, .v x7), (67, .v t1)], [], H⟩ k := by kernel_rfl
def O32_13 : List IOper :=
  [⟨some 68, .move (.tmp 5), none⟩,
   ⟨some 2, .move (.const (.int .i64 0)), none⟩,
   ⟨some 3, .move (.tmp 68), none⟩]
@[simp] theorem R32_13 (x0 x5 x6 x7 x67 : AV) :
  evK C D (.seq (.region O32_13) (.keep [2, 3] [] c)) ⟨[(0, .v x0), (5, .v x5), (6, .v x6), (7, .v x7), (67, .v x67)], [], H⟩ k =
  evK C D c ⟨[(2, .v (.int .i64 0)), (3, .v x5)], [], H⟩ k := by kernel_rfl
def O32_14 : List IOper :=
  [⟨some 69, .move (.tmp 0), none⟩,
   ⟨some 70, .nilCheck (.tmp 69), none⟩,
   ⟨some 71, .fieldAddr 8 (.tmp 70), none⟩,
   ⟨some 72, .call (.func 83) [(.tmp 71), (.const (.int .i64 1))], none⟩]
@[simp] theorem R32_14 (x0 x6 x7 : AV) :
  evK C D (.seq (.region O32_14) (.keep [0, 6, 7] [] c)) ⟨[(0, .v x0), (6, .v x6), (7, .v x7)], [], H⟩ k =
  (nilC x0).bind fun t1 =>
  (fldP 8 t1).bind fun t2 =>
  (callN C (.func (.func 83) [] []) [t2, (.int .i64 1)] H).bind fun r3 =>
  evK C D c ⟨[(0, .v x0), (6, .v x6), (7, .v x7)], [], r3.2⟩ k := by kernel_rfl
def O32_15 : List IOper :=
  [⟨some 73, .move (.tmp 0), none⟩,
   ⟨some 74, .nilCheck (.tmp 73), none⟩,
   ⟨some 75, .fieldAddr 5 (.tmp 74), none⟩,
   ⟨some 76, .load false 1 (.tmp 75), none⟩,
   ⟨some 77, .move (.tmp 6), none⟩,
   ⟨some 78, .move (.tmp 7), none⟩,
   ⟨none, .mapUpdate (.int .i64) (.tmp 76) (.tmp 77) (.tmp 78), none⟩]
@[simp] theorem R32_15 (x0 x6 x7 : AV) :
  evK C D (.seq (.region O32_15) (.keep [6] [] c)) ⟨[(0, .v x0), (6, .v x6), (7, .v x7)], [], H⟩ k =
  (nilC x0).bind fun t1 =>
  (fldP 5 t1).bind fun t2 =>
  (nl (loadP H false 1 t2)).bind fun t3 =>
  ((updA H (.int .i64) t3 x6 x7).map fun H => (undefA, H)).bind fun r6 =>
  evK C D c ⟨[(6, .v x6)], [], r6.2⟩ k := by kernel_rfl
def O32_16 : List IOper :=
  [⟨some 79, .move (.tmp 6), none⟩,
   ⟨some 2, .move (.tmp 79), none⟩,
   ⟨some 3, .move (.const (.int .i64 0)), none⟩]
@[simp] theorem R32_16 (x6 : AV) :
  evK C D (.seq (.region O32_16) (.keep [2, 3] [] c)) ⟨[(6, .v x6)], [], H⟩ k =
  evK C D c ⟨[(2, .v x6), (3, .v (.int .i64 0))], [], H⟩ k := by kernel_rfl
def F32 : FnIR := ⟨80, 1, [.tmp 2, .tmp 3], [4],
  .seq (.region O32_0)
  (.keep [0] [] (.seq (.seq (.region O32_1)
   (.keep [0, 9] [] (.cond (.tmp 9)
    (.seq (.region O32_2)
    (.keep [2, 3] [] (.ret)))
    (.skip))))
  (.keep [0] [] (.seq (.seq (.region O32_3)
   (.keep [0, 15] [] (.cond (.tmp 15)
    (.region O32_4)
    (.skip))))
  (.keep [0] [] (.seq (.seq (.region O32_5)
   (.keep [0, 23] [] (.cond (.tmp 23)
    (.seq (.region O32_6)
    (.keep [2, 3] [] (.ret)))
    (.skip))))
  (.keep [0] [] (.seq (.region O32_7)
  (.keep [0, 4, 5] [4] (.seq (.seq (.region O32_8)
   (.keep [0, 4, 5, 33] [4] (.cond (.tmp 33)
    (.seq (.region O32_9)
    (.keep [2, 3] [] (.ret)))
    (.skip))))
  (.keep [0, 4] [4] (.seq (.regionD O32_10 [(7, 0), (9, 0), (14, 0), (14, 4)])
  (.keep [0, 4, 6] [4] (.seq (.regionD O32_11 [])
  (.keep [0, 5, 6, 7] [] (.seq (.seq (.region O32_12)
   (.keep [0, 5, 6, 7, 67] [] (.cond (.tmp 67)
    (.seq (.region O32_13)
    (.keep [2, 3] [] (.ret)))
    (.skip))))
  (.keep [0, 6, 7] [] (.seq (.region O32_14)
  (.keep [0, 6, 7] [] (.seq (.region O32_15)
  (.keep [6] [] (.seq (.region O32_16)
  (.keep [2, 3] [] (.ret))))))))))))))))))))))))⟩
/-- (*wampum/node.Node).Answer -/
def O33_0 : List IOper :=
  [⟨some 4, .alloc true 4 [(.int .i64 0), (.int .i64 0), (.int .i64 0), .nils], none⟩,
   ⟨some 5, .move (.const (.bool false)), none⟩]
@[simp] theorem R33_0 (x0 x1 : AV) :
  evK C D (.seq (.region O33_0) (.keep [0, 1, 4] [4] c)) ⟨[(0, .v x0), (1, .v x1)], [], H⟩ k =
  evK C D c ⟨[(0, .v x0), (1, .v x1), (4, .l 4 0)], [(4, [(.int .i64 0), (.int .i64 0), (.int .i64 0), .nils])], H⟩ k := by kernel_rfl
def O33_1 : List IOper :=
  [⟨some 6, .move (.tmp 0), none⟩,
   ⟨some 7, .bin .eql .ptr (.tmp 6) (.const .nilp), none⟩]
@[simp] theorem R33_1 (x0 x1 : AV) (l4 : List AV) :
  evK C D (.seq (.region O33_1) (.keep [0, 1, 4, 7] [4] c)) ⟨[(0, .v x0), (1, .v x1), (4, .l 4 0)], [(4, l4)], H⟩ k =
  (nl (binA .eql .ptr x0 .nilp)).bind fun t1 =>
  evK C D c ⟨[(0, .v x0), (1, .v x1), (4, .l 4 0), (7, .v t1)], [(4, l4)], H⟩ k := by kernel_rfl
def O33_2 : List IOper :=
  [⟨some 8, .build [(.int .i64 0), (.int .i64 0), (.int .i64 0), .nils] [], none⟩,
   ⟨none, .store 4 (.tmp 4) (.tmp 8), none⟩,
   ⟨some 5, .move (.const (.bool false)), none⟩]
@[simp] theorem R33_2 (x0 x1 x7 : AV) (l4 : List AV) :
  evK C D (.seq (.region O33_2) (.keep [4, 5] [4] c)) ⟨[(0, .v x0), (1, .v x1), (4, .l 4 0), (7, .v x7)], [(4, l4)], H⟩ k =
  ((fillC [] [(.int .i64 0), (.int .i64 0), (.int .i64 0), .nils]).map AV.agg).bind fun t0 =>
  (stL 4 0 t0 l4).bind fun m1 =>
  evK C D c ⟨[(4, .l 4 0), (5, .v (.bool false))], [(4, m1)], H⟩ k := by kernel_rfl
def O33_3 : List IOper :=
  [⟨some 9, .move (.tmp 0), none⟩,
   ⟨some 10, .nilCheck (.tmp 9), none⟩,
   ⟨some 11, .fieldAddr 5 (.tmp 10), none⟩,
   ⟨some 12, .load false 1 (.tmp 11), none⟩,
   ⟨some 13, .move (.tmp 1), none⟩,
   ⟨some 14, .lookup (.int .i64) false .nilp (.tmp 12) (.tmp 13), none⟩,
   ⟨some 15, .call (.func 84) [(.tmp 14)], none⟩,
   ⟨some 16, .extract (.tmp 15) 0, none⟩,
   ⟨some 17, .extract (.tmp 15) 1, none⟩,
   ⟨none, .store 4 (.tmp 4) (.tmp 16), none⟩,
   ⟨some 5, .move (.tmp 17), none⟩]
@[simp] theorem R33_3 (x0 x1 : AV) (l4 : List AV) :
  evK C D (.seq (.region O33_3) (.keep [4, 5] [4] c)) ⟨[(0, .v x0), (1, .v x1), (4, .l 4 0)], [(4, l4)], H⟩ k =
  (nilC x0).bind fun t1 =>
  (fldP 5 t1).bind fun t2 =>
  (nl (loadP H false 1 t2)).bind fun t3 =>
  (nl (lookupA H (.int .i64) false .nilp t3 x1)).bind fun t5 =>
  (callN C (.func (.func 84) [] []) [t5] H).bind fun r6 =>
  (nl (extA 0 r6.1)).bind fun t7 =>
  (nl (extA 1 r6.1)).bind fun t8 =>
  (stL 4 0 t7 l4).bind fun m9 =>
  evK C D c ⟨[(4, .l 4 0), (5, .v t8)], [(4, m9)], r6.2⟩ k := by kernel_rfl
def F33 : FnIR := ⟨18, 2, [.cell 4 true 4, .tmp 5], [4],
  .seq (.region O33_0)
  (.keep [0, 1, 4] [4] (.seq (.seq (.region O33_1)
   (.keep [0, 1, 4, 7] [4] (.cond (.tmp 7)
    (.seq (.region O33_2)
    (.keep [4, 5] [4] (.ret)))
    (.skip))))
  (.keep [0, 1, 4] [4] (.seq (.region O33_3)
  (.keep [4, 5] [4] (.ret))))))⟩
/-- (*wampum/node.Node).Txn -/
def O34_0 : List IOper :=
  [⟨some 4, .move (.const (.int .i64 0)), none⟩,
   ⟨some 5, .alloc true 2 [(.int .i64 0), (.int .i64 0)], none⟩,
   ⟨some 6, .move (.const (.bool false)), none⟩]
@[simp] theorem R34_0 (x0 x1 : AV) :
  evK C D (.seq (.region O34_0) (.keep [0, 1, 5] [5] c)) ⟨[(0, .v x0), (1, .v x1)], [], H⟩ k =
  evK C D c ⟨[(0, .v x0), (1, .v x1), (5, .l 5 0)], [(5, [(.int .i64 0), (.int .i64 0)])], H⟩ k := by kernel_rfl
def O34_1 : List IOper :=
  [⟨some 9, .move (.tmp 0), none⟩,
   ⟨some 10, .bin .eql .ptr (.tmp 9) (.const .nilp), none⟩,
   ⟨some 11, .move (.tmp 10), none⟩,
   ⟨some 12, .move (.tmp 0), some (11, false)⟩,
   ⟨some 13, .nilCheck (.tmp 12), some (11, false)⟩,
   ⟨some 14, .fieldAddr 5 (.tmp 13), some (11, false)⟩,
   ⟨some 15, .load false 1 (.tmp 14), some (11, false)⟩,
   ⟨some 16, .move (.tmp 1), some (11, false)⟩,
   ⟨some 17, .lookup (.int .i64) false .nilp (.tmp 15) (.tmp 16), some (11, false)⟩,
   ⟨some 18, .bin .eql .ptr (.tmp 17) (.const .nilp), some (11, false)⟩,
   ⟨some 19, .pick (.tmp 11) (.const (.bool true)) (.tmp 18), none⟩]
@[simp] theorem R34_1 (x0 x1 : AV) (l5 : List AV) :
  evK C D (.seq (.region O34_1) (.keep [0, 1, 5, 19] [5] c)) ⟨[(0, .v x0), (1, .v x1), (5, .l 5 0)], [(5, l5)], H⟩ k =
  (nl (binA .eql .ptr x0 .nilp)).bind fun t1 =>
  guardK t1 false (
  (nilC x0).bind fun t4 =>
  (fldP 5 t4).bind fun t5 =>
  (nl (loadP H false 1 t5)).bind fun t6 =>
  (nl (lookupA H (.int .i64) false .nilp t6 x1)).bind fun t8 =>
  (nl (binA .eql .ptr t8 .nilp)).bind fun t9 =>
  evK C D c ⟨[(0, .v x0), (1, .v x1), (5, .l 5 0), (19, .v t9)], [(5, l5)], H⟩ k)
  (evK C D c ⟨[(0, .v x0), (1, .v x1), (5, .l 5 0), (19, .v (.bool true))], [(5, l5)], H⟩ k) := by kernel_rfl
def O34_2 : List IOper :=
  [⟨some 20, .build [(.int .i64 0), (.int .i64 0)] [], none⟩,
   ⟨some 4, .move (.const (.int .i64 0)), none⟩,
   ⟨none, .store 2 (.tmp 5) (.tmp 20), none⟩,
   ⟨some 6, .move (.const (.bool false)), none⟩]
@[simp] theorem R34_2 (x0 x1 x19 : AV) (l5 : List AV) :
  evK C D (.seq (.region O34_2) (.keep [4, 5, 6] [5] c)) ⟨[(0, .v x0), (1, .v x1), (5, .l 5 0), (19, .v x19)], [(5, l5)], H⟩ k =
  ((fillC [] [(.int .i64 0), (.int .i64 0)]).map AV.agg).bind fun t0 =>
  (stL 2 0 t0 l5).bind fun m2 =>
  evK C D c ⟨[(4, .v (.int .i64 0)), (5, .l 5 0), (6, .v (.bool false))], [(5, m2)], H⟩ k := by kernel_rfl
def O34_3 : List IOper :=
  [⟨some 22, .move (.tmp 0), none⟩,
   ⟨some 23, .nilCheck (.tmp 22), none⟩,
   ⟨some 24, .fieldAddr 5 (.tmp 23), none⟩,
   ⟨some 25, .load false 1 (.tmp 24), none⟩,
   ⟨some 26, .move (.tmp 1), none⟩,
   ⟨some 27, .lookup (.int .i64) false .nilp (.tmp 25) (.tmp 26), none⟩,
   ⟨some 28, .call (.func 85) [(.tmp 27)], none⟩,
   ⟨some 21, .move (.tmp 28), none⟩,
   ⟨some 29, .extract (.tmp 21) 0, none⟩,
   ⟨some 30, .extract (.tmp 21) 1, none⟩,
   ⟨some 8, .alloc true 2 [(.int .i64 0), (.int .i64 0)], none⟩,
   ⟨some 7, .move (.tmp 29), none⟩,
   ⟨none, .store 2 (.tmp 8) (.tmp 30), none⟩]
@[simp] theorem R34_3 (x0 x1 : AV) (l5 : List AV) :
  evK C D (.seq (.region O34_3) (.keep [5, 7, 8] [5, 8] c)) ⟨[(0, .v x0), (1, .v x1), (5, .l 5 0)], [(5, l5)], H⟩ k =
  (nilC x0).bind fun t1 =>
  (fldP 5 t1).bind fun t2 =>
  (nl (loadP H false 1 t2)).bind fun t3 =>
  (nl (lookupA H (.int .i64) false .nilp t3 x1)).bind fun t5 =>
  (callN C (.func (.func 85) [] []) [t5] H).bind fun r6 =>
  (nl (extA 0 r6.1)).bind fun t8 =>
  (nl (extA 1 r6.1)).bind fun t9 =>
  (stL 2 0 t9 [(.int .i64 0), (.int .i64 0)]).bind fun m12 =>
  evK C D c ⟨[(5, .l 5 0), (7, .v t8), (8, .l 8 0)], [(5, l5), (8, m12)], r6.2⟩ k := by kernel_rfl
def O34_4 : List IOper :=
  [⟨some 31, .move (.tmp 7), none⟩,
   ⟨some 32, .load true 2 (.tmp 8), none⟩,
   ⟨some 4, .move (.tmp 31), none⟩,
   ⟨none, .store 2 (.tmp 5) (.tmp 32), none⟩,
   ⟨some 6, .move (.const (.bool true)), none⟩]
@[simp] theorem R34_4 (x7 : AV) (l5 l8 : List AV) :
  evK C D (.seq (.regionD O34_4 []) (.keep [4, 5, 6] [5] c)) ⟨[(5, .l 5 0), (7, .v x7), (8, .l 8 0)], [(5, l5), (8, l8)], H⟩ k =
  (nl (rd true 2 0 l8)).bind fun t1 =>
  kB (AV.okB H.n t1) (
  (stL 2 0 t1 l5).bind fun m3 =>
  evK C D c ⟨[(4, .v x7), (5, .l 5 0), (6, .v (.bool true))], [(5, m3)], H⟩ k) := by kernel_rfl
def F34 : FnIR := ⟨33, 2, [.tmp 4, .cell 5 true 2, .tmp 6], [5, 8],
  .seq (.region O34_0)
  (.keep [0, 1, 5] [5] (.seq (.seq (.region O34_1)
   (.keep [0, 1, 5, 19] [5] (.cond (.tmp 19)
    (.seq (.region O34_2)
    (.keep [4, 5, 6] [5] (.ret)))
    (.skip))))
  (.keep [0, 1, 5] [5] (.seq (.region O34_3)
  (.keep [5, 7, 8] [5, 8] (.seq (.regionD O34_4 [])
  (.keep [4, 5, 6] [5] (.ret))))))))⟩
/-- wampum/node.Open -/
def O35_0 : List IOper :=
  [⟨some 6, .move (.const .nilp), none⟩,
   ⟨some 7, .move (.const (.int .i64 0)), none⟩]
@[simp] theorem R35_0 (x0 x1 x2 : AV) :
  evK C D (.seq (.region O35_0) (.keep [0, 1, 2] [] c)) ⟨[(0, .v x0), (1, .v x1), (2, .v x2)], [], H⟩ k =
  evK C D c ⟨[(0, .v x0), (1, .v x1), (2, .v x2)], [], H⟩ k := by kernel_rfl
def O35_1 : List IOper :=
  [⟨some 18, .move (.tmp 1), none⟩,
   ⟨some 19, .bin .eql .ptr (.tmp 18) (.const .nilp), none⟩,
   ⟨some 20, .move (.tmp 19), none⟩,
   ⟨some 21, .move (.tmp 0), some (20, false)⟩,
   ⟨some 22, .bin .lss .none (.tmp 21) (.const (.int .i64 0)), some (20, false)⟩,
   ⟨some 23, .pick (.tmp 20) (.const (.bool true)) (.tmp 22), none⟩,
   ⟨some 24, .move (.tmp 23), none⟩,
   ⟨some 25, .move (.tmp 0), some (24, false)⟩,
   ⟨some 26, .bin .geq .none (.tmp 25) (.const (.int .i64 3)), some (24, false)⟩,
   ⟨some 27, .pick (.tmp 24) (.const (.bool true)) (.tmp 26), none⟩,
   ⟨some 28, .move (.tmp 27), none⟩,
   ⟨some 29, .move (.tmp 2), some (28, false)⟩,
   ⟨some 30, .len .slice (.tmp 29), some (28, false)⟩,
   ⟨some 31, .move (.tmp 1), some (28, false)⟩,
   ⟨some 32, .call (.func 86) [(.tmp 31)], some (28, false)⟩,
   ⟨some 33, .bin .neq .int (.tmp 30) (.tmp 32), some (28, false)⟩,
   ⟨some 34, .pick (.tmp 28) (.const (.bool true)) (.tmp 33), none⟩]
@[simp] theorem R35_1 (x0 x1 x2 : AV) :
  evK C D (.seq (.region O35_1) (.keep [0, 1, 2, 34] [] c)) ⟨[(0, .v x0), (1, .v x1), (2, .v x2)], [], H⟩ k =
  (nl (binA .eql .ptr x1 .nilp)).bind fun t1 =>
  guardK t1 false (
  (nl (binA .lss .none x0 (.int .i64 0))).bind fun t4 =>
  guardK t4 false (
  (nl (binA .geq .none x0 (.int .i64 3))).bind fun t8 =>
  guardK t8 false (
  (lenS x2).bind fun t12 =>
  (callN C (.func (.func 86) [] []) [x1] H).bind fun r14 =>
  (nl (binA .neq .int t12 r14.1)).bind fun t15 =>
  evK C D c ⟨[(0, .v x0), (1, .v x1), (2, .v x2), (34, .v t15)], [], r14.2⟩ k)
  (evK C D c ⟨[(0, .v x0), (1, .v x1), (2, .v x2), (34, .v (.bool true))], [], H⟩ k))
  (evK C D c ⟨[(0, .v x0), (1, .v x1), (2, .v x2), (34, .v (.bool true))], [], H⟩ k))
  (evK C D c ⟨[(0, .v x0), (1, .v x1), (2, .v x2), (34, .v (.bool true))], [], H⟩ k) := by kernel_rfl
def O35_2 : List IOper :=
  [⟨some 6, .move (.const .nilp), none⟩,
   ⟨some 7, .move (.const (.int .i64 1)), none⟩]
@[simp] theorem R35_2 (x0 x1 x2 x34 : AV) :
  evK C D (.seq (.region O35_2) (.keep [6, 7] [] c)) ⟨[(0, .v x0), (1, .v x1), (2, .v x2), (34, .v x34)], [], H⟩ k =
  evK C D c ⟨[(6, .v .nilp), (7, .v (.int .i64 1))], [], H⟩ k := by kernel_rfl
def O35_3 : List IOper :=
  [⟨some 36, .call (.func 87) [(.const (.int .i64 10))], none⟩,
   ⟨some 35, .move (.tmp 36), none⟩,
   ⟨some 37, .extract (.tmp 35) 0, none⟩,
   ⟨some 38, .extract (.tmp 35) 1, none⟩,
   ⟨some 8, .move (.tmp 37), none⟩,
   ⟨some 9, .move (.tmp 38), none⟩]
@[simp] theorem R35_3 (x0 x1 x2 : AV) :
  evK C D (.seq (.region O35_3) (.keep [0, 1, 2, 8, 9] [] c)) ⟨[(0, .v x0), (1, .v x1), (2, .v x2)], [], H⟩ k =
  (callN C (.func (.func 87) [] []) [(.int .i64 10)] H).bind fun r0 =>
  (nl (extA 0 r0.1)).bind fun t2 =>
  (nl (extA 1 r0.1)).bind fun t3 =>
  evK C D c ⟨[(0, .v x0), (1, .v x1), (2, .v x2), (8, .v t2), (9, .v t3)], [], r0.2⟩ k := by kernel_rfl
def O35_4 : List IOper :=
  [⟨some 39, .move (.tmp 9), none⟩,
   ⟨some 40, .bin .neq .int (.tmp 39) (.const (.int .i64 0)), none⟩]
@[simp] theorem R35_4 (x0 x1 x2 x8 x9 : AV) :
  evK C D (.seq (.region O35_4) (.keep [0, 1, 2, 8, 9, 40] [] c)) ⟨[(0, .v x0), (1, .v x1), (2, .v x2), (8, .v x8), (9, .v x9)], [], H⟩ k =
  (nl (binA .neq .int x9 (.int .i64 0))).bind fun t1 =>
  evK C D c ⟨[(0, .v x0), (1, .v x1), (2, .v x2), (8, .v x8), (9, .v x9), (40, .v t1)], [], H⟩ k := by kernel_rfl
def O35_5 : List IOper :=
  [⟨some 41, .move (.tmp 9), none⟩,
   ⟨some 6, .move (.const .nilp), none⟩,
   ⟨some 7, .move (.tmp 41), none⟩]
@[simp] theorem R35_5 (x0 x1 x2 x8 x9 x40 : AV) :
  evK C D (.seq (.region O35_5) (.keep [6, 7] [] c)) ⟨[(0, .v x0), (1, .v x1), (2, .v x2), (8, .v x8), (9, .v x9), (40, .v x40)], [], H⟩ k =
  evK C D c ⟨[(6, .v .nilp), (7, .v x9)], [], H⟩ k := by kernel_rfl
def O35_6 : List IOper :=
  [⟨some 42, .move (.tmp 0), none⟩,
   ⟨some 43, .move (.tmp 1), none⟩,
   ⟨some 44, .move (.tmp 8), none⟩,
   ⟨some 45, .mkMap, none⟩,
   ⟨some 46, .mkMap, none⟩,
   ⟨some 47, .build [(.int .i64 0), .nilp, .nilp, .nils, .nils, .nilm, .nilm, .nils, (.int .i64 0), (.int .i64 0), (.int .i64 0), .nils] [(0, 1, (.tmp 42)), (1, 1, (.tmp 43)), (2, 1, (.tmp 44)), (5, 1, (.tmp 45)), (6, 1, (.tmp 46))], none⟩,
   ⟨some 48, .box false 12 (.tmp 47), none⟩,
   ⟨some 10, .move (.tmp 48), none⟩]
@[simp] theorem R35_6 (x0 x1 x2 x8 : AV) :
  evK C D (.seq (.region O35_6) (.keep [0, 1, 2, 10] [] c)) ⟨[(0, .v x0), (1, .v x1), (2, .v x2), (8, .v x8)], [], H⟩ k =
  (some (AV.map H.n, H.alloc (.map [] 0))).bind fun r3 =>
  (some (AV.map r3.2.n, r3.2.alloc (.map [] 0))).bind fun r4 =>
  ((fillC [(0, 1, x0), (1, 1, x1), (2, 1, x8), (5, 1, r3.1), (6, 1, r4.1)] [(.int .i64 0), .nilp, .nilp, .nils, .nils, .nilm, .nilm, .nils, (.int .i64 0), (.int .i64 0), (.int .i64 0), .nils]).map AV.agg).bind fun t5 =>
  ((boxC t5).map fun cs => (AV.ptr r4.2.n 0, r4.2.alloc (.row false 12 cs))).bind fun r6 =>
  evK C D c ⟨[(0, .v x0), (1, .v x1), (2, .v x2), (10, .v r6.1)], [], r6.2⟩ k := by kernel_rfl
def O35_7 : List IOper :=
  [⟨some 49, .move (.tmp 2), none⟩,
   ⟨some 50, .len .slice (.tmp 49), none⟩,
   ⟨some 51, .move (.const (.int .i64 0)), none⟩]
@[simp] theorem R35_7 (x0 x1 x2 x10 : AV) :
  evK C D (.seq (.region O35_7) (.keep [0, 1, 10, 49, 50, 51] [] c)) ⟨[(0, .v x0), (1, .v x1), (2, .v x2), (10, .v x10)], [], H⟩ k =
  (lenS x2).bind fun t1 =>
  evK C D c ⟨[(0, .v x0), (1, .v x1), (10, .v x10), (49, .v x2), (50, .v t1), (51, .v (.int .i64 0))], [], H⟩ k := by kernel_rfl
def O35_8 : List IOper :=
  [⟨some 52, .bin .lss .none (.tmp 51) (.tmp 50), none⟩]
@[simp] theorem R35_8 (x0 x1 x10 x49 x50 x51 : AV) :
  evK C D (.seq (.region O35_8) (.keep [0, 1, 10, 49, 50, 51, 52] [] c)) ⟨[(0, .v x0), (1, .v x1), (10, .v x10), (49, .v x49), (50, .v x50), (51, .v x51)], [], H⟩ k =
  (nl (binA .lss .none x51 x50)).bind fun t0 =>
  evK C D c ⟨[(0, .v x0), (1, .v x1), (10, .v x10), (49, .v x49), (50, .v x50), (51, .v x51), (52, .v t0)], [], H⟩ k := by kernel_rfl
def O35_9 : List IOper :=
  [⟨some 53, .move (.tmp 51), none⟩,
   ⟨some 54, .indexAddr none 1 (.tmp 49) (.tmp 51), none⟩,
   ⟨some 55, .load false 1 (.tmp 54), none⟩,
   ⟨some 11, .move (.tmp 53), none⟩,
   ⟨some 12, .move (.tmp 55), none⟩]
@[simp] theorem R35_9 (x0 x1 x10 x49 x50 x51 : AV) :
  evK C D (.seq (.region O35_9) (.keep [0, 1, 10, 11, 12, 49, 50, 51] [] c)) ⟨[(0, .v x0), (1, .v x1), (10, .v x10), (49, .v x49), (50, .v x50), (51, .v x51)], [], H⟩ k =
  (nl (idxS 1 x49 x51)).bind fun t1 =>
  (nl (loadP H false 1 t1)).bind fun t2 =>
  evK C D c ⟨[(0, .v x0), (1, .v x1), (10, .v x10), (11, .v x51), (12, .v t2), (49, .v x49), (50, .v x50), (51, .v x51)], [], H⟩ k := by kernel_rfl
def O35_10 : List IOper :=
  [⟨some 57, .move (.tmp 1), none⟩,
   ⟨some 58, .move (.tmp 11), none⟩,
   ⟨some 59, .call (.func 88) [(.tmp 57), (.tmp 58)], none⟩,
   ⟨some 56, .move (.tmp 59), none⟩,
   ⟨some 60, .extract (.tmp 56) 0, none⟩,
   ⟨some 61, .extract (.tmp 56) 1, none⟩,
   ⟨some 13, .alloc true 2 [(.str []), (.str [])], none⟩,
   ⟨none, .store 2 (.tmp 13) (.tmp 60), none⟩,
   ⟨some 14, .move (.tmp 61), none⟩]
@[simp] theorem R35_10 (x0 x1 x10 x11 x12 x49 x50 x51 : AV) :
  evK C D (.seq (.region O35_10) (.keep [0, 1, 10, 11, 12, 13, 49, 50, 51] [13] c)) ⟨[(0, .v x0), (1, .v x1), (10, .v x10), (11, .v x11), (12, .v x12), (49, .v x49), (50, .v x50), (51, .v x51)], [], H⟩ k =
  (callN C (.func (.func 88) [] []) [x1, x11] H).bind fun r2 =>
  (nl (extA 0 r2.1)).bind fun t4 =>
  (nl (extA 1 r2.1)).bind fun t5 =>
  (stL 2 0 t4 [(.str []), (.str [])]).bind fun m7 =>
  evK C D c ⟨[(0, .v x0), (1, .v x1), (10, .v x10), (11, .v x11), (12, .v x12), (13, .l 13 0), (49, .v x49), (50, .v x50), (51, .v x51)], [(13, m7)], r2.2⟩ k := by kernel_rfl
def O35_11 : List IOper :=
  [⟨some 63, .move (.tmp 12), none⟩,
   ⟨some 64, .move (.tmp 0), none⟩,
   ⟨some 65, .move (.tmp 11), none⟩,
   ⟨some 66, .load true 2 (.tmp 13), none⟩,
   ⟨some 67, .call (.func 8) [(.tmp 63), (.tmp 64), (.tmp 65), (.tmp 66)], none⟩,
   ⟨some 62, .move (.tmp 67), none⟩,
   ⟨some 68, .extract (.tmp 62) 0, none⟩,
   ⟨some 69, .extract (.tmp 62) 1, none⟩,
   ⟨some 15, .move (.tmp 68), none⟩,
   ⟨some 16, .move (.tmp 69), none⟩]
@[simp] theorem R35_11 (x0 x1 x10 x11 x12 x49 x50 x51 : AV) (l13 : List AV) :
  evK C D (.seq (.region O35_11) (.keep [0, 1, 10, 15, 16, 49, 50, 51] [] c)) ⟨[(0, .v x0), (1, .v x1), (10, .v x10), (11, .v x11), (12, .v x12), (13, .l 13 0), (49, .v x49), (50, .v x50), (51, .v x51)], [(13, l13)], H⟩ k =
  (nl (rd true 2 0 l13)).bind fun t3 =>
  (callN C (.func (.func 8) [] []) [x12, x0, x11, t3] H).bind fun r4 =>
  (nl (extA 0 r4.1)).bind fun t6 =>
  (nl (extA 1 r4.1)).bind fun t7 =>
  evK C D c ⟨[(0, .v x0), (1, .v x1), (10, .v x10), (15, .v t6), (16, .v t7), (49, .v x49), (50, .v x50), (51, .v x51)], [], r4.2⟩ k := by kernel_rfl
def O35_12 : List IOper :=
  [⟨some 70, .move (.tmp 16), none⟩,
   ⟨some 71, .bin .neq .int (.tmp 70) (.const (.int .i64 0)), none⟩]
@[simp] theorem R35_12 (x0 x1 x10 x15 x16 x49 x50 x51 : AV) :
  evK C D (.seq (.region O35_12) (.keep [0, 1, 10, 15, 16, 49, 50, 51, 71] [] c)) ⟨[(0, .v x0), (1, .v x1), (10, .v x10), (15, .v x15), (16, .v x16), (49, .v x49), (50, .v x50), (51, .v x51)], [], H⟩ k =
  (nl (binA .neq .int x16 (.int .i64 0))).bind fun t1 =>
  evK C D c ⟨[(0, .v x0), (1, .v x1), (10, .v x10), (15, .v x15), (16, .v x16), (49, .v x49), (50, .v x50), (51, .v x51), (71, .v t1)], [], H⟩ k := by kernel_rfl
def O35_13 : List IOper :=
  [⟨some 72, .move (.tmp 16), none⟩,
   ⟨some 6, .move (.const .nilp), none⟩,
   ⟨some 7, .move (.tmp 72), none⟩]
@[simp] theorem R35_13 (x0 x1 x10 x15 x16 x49 x50 x51 x71 : AV) :
  evK C D (.seq (.region O35_13) (.keep [6, 7] [] c)) ⟨[(0, .v x0), (1, .v x1), (10, .v x10), (15, .v x15), (16, .v x16), (49, .v x49), (50, .v x50), (51, .v x51), (71, .v x71)], [], H⟩ k =
  evK C D c ⟨[(6, .v .nilp), (7, .v x16)], [], H⟩ k := by kernel_rfl
def O35_14 : List IOper :=
  [⟨some 74, .move (.tmp 15), none⟩,
   ⟨some 75, .move (.tmp 0), none⟩,
   ⟨some 76, .call (.func 23) [(.tmp 74), (.tmp 75)], none⟩,
   ⟨some 73, .move (.tmp 76), none⟩,
   ⟨some 77, .extract (.tmp 73) 0, none⟩,
   ⟨some 78, .extract (.tmp 73) 1, none⟩,
   ⟨some 17, .move (.tmp 77), none⟩,
   ⟨some 16, .move (.tmp 78), none⟩]
@[simp] theorem R35_14 (x0 x1 x10 x15 x49 x50 x51 : AV) :
  evK C D (.seq (.region O35_14) (.keep [0, 1, 10, 15, 16, 17, 49, 50, 51] [] c)) ⟨[(0, .v x0), (1, .v x1), (10, .v x10), (15, .v x15), (49, .v x49), (50, .v x50), (51, .v x51)], [], H⟩ k =
  (callN C (.func (.func 23) [] []) [x15, x0] H).bind fun r2 =>
  (nl (extA 0 r2.1)).bind fun t4 =>
  (nl (extA 1 r2.1)).bind fun t5 =>
  evK C D c ⟨[(0, .v x0), (1, .v x1), (10, .v x10), (15, .v x15), (16, .v t5), (17, .v t4), (49, .v x49), (50, .v x50), (51, .v x51)], [], r2.2⟩ k := by kernel_rfl
def O35_15 : List IOper :=
  [⟨some 79, .move (.tmp 16), none⟩,
   ⟨some 80, .bin .neq .int (.tmp 79) (.const (.int .i64 0)), none⟩]
@[simp] theorem R35_15 (x0 x1 x10 x15 x16 x17 x49 x50 x51 : AV) :
  evK C D (.seq (.region O35_15) (.keep [0, 1, 10, 15, 16, 17, 49, 50, 51, 80] [] c)) ⟨[(0, .v x0), (1, .v x1), (10, .v x10), (15, .v x15), (16, .v x16), (17, .v x17), (49, .v x49), (50, .v x50), (51, .v x51)], [], H⟩ k =
  (nl (binA .neq .int x16 (.int .i64 0))).bind fun t1 =>
  evK C D c ⟨[(0, .v x0), (1, .v x1), (10, .v x10), (15, .v x15), (16, .v x16), (17, .v x17), (49, .v x49), (50, .v x50), (51, .v x51), (80, .v t1)], [], H⟩ k := by kernel_rfl
def O35_16 : List IOper :=
  [⟨some 81, .move (.tmp 16), none⟩,
   ⟨some 6, .move (.const .nilp), none⟩,
   ⟨some 7, .move (.tmp 81), none⟩]
@[simp] theorem R35_16 (x0 x1 x10 x15 x16 x17 x49 x50 x51 x80 : AV) :
  evK C D (.seq (.region O35_16) (.keep [6, 7] [] c)) ⟨[(0, .v x0), (1, .v x1), (10, .v x10), (15, .v x15), (16, .v x16), (17, .v x17), (49, .v x49), (50, .v x50), (51, .v x51), (80, .v x80)], [], H⟩ k =
  evK C D c ⟨[(6, .v .nilp), (7, .v x16)], [], H⟩ k := by kernel_rfl
def O35_17 : List IOper :=
  [⟨some 85, .move (.tmp 10), none⟩,
   ⟨some 86, .nilCheck (.tmp 85), none⟩,
   ⟨some 87, .fieldAddr 3 (.tmp 86), none⟩,
   ⟨some 88, .load false 1 (.tmp 87), none⟩,
   ⟨some 89, .move (.tmp 15), none⟩,
   ⟨some 90, .buildSlice 1 1 [.nilp] [(0, 1, (.tmp 89))], none⟩,
   ⟨some 91, .append 1 8 (.tmp 88) (.tmp 90), none⟩,
   ⟨some 92, .move (.tmp 10), none⟩,
   ⟨some 93, .nilCheck (.tmp 92), none⟩,
   ⟨some 94, .fieldAddr 4 (.tmp 93), none⟩,
   ⟨some 95, .load false 1 (.tmp 94), none⟩,
   ⟨some 96, .move (.tmp 17), none⟩,
   ⟨some 97, .buildSlice 1 1 [.nilp] [(0, 1, (.tmp 96))], none⟩,
   ⟨some 98, .append 1 8 (.tmp 95) (.tmp 97), none⟩,
   ⟨some 99, .move (.tmp 10), none⟩,
   ⟨some 100, .nilCheck (.tmp 99), none⟩,
   ⟨some 101, .fieldAddr 7 (.tmp 100), none⟩,
   ⟨some 102, .load false 1 (.tmp 101), none⟩,
   ⟨some 103, .move (.tmp 0), none⟩,
   ⟨some 104, .buildSlice 1 1 [(.int .i64 0)] [(0, 1, (.tmp 103))], none⟩,
   ⟨some 105, .append 1 8 (.tmp 102) (.tmp 104), none⟩,
   ⟨some 82, .move (.tmp 10), none⟩,
   ⟨some 106, .nilCheck (.tmp 82), none⟩,
   ⟨some 107, .fieldAddr 3 (.tmp 106), none⟩,
   ⟨none, .store 1 (.tmp 107) (.tmp 91), none⟩,
   ⟨some 83, .move (.tmp 10), none⟩,
   ⟨some 108, .nilCheck (.tmp 83), none⟩,
   ⟨some 109, .fieldAddr 4 (.tmp 108), none⟩,
   ⟨none, .store 1 (.tmp 109) (.tmp 98), none⟩,
   ⟨some 84, .move (.tmp 10), none⟩,
   ⟨some 110, .nilCheck (.tmp 84), none⟩,
   ⟨some 111, .fieldAddr 7 (.tmp 110), none⟩,
   ⟨none, .store 1 (.tmp 111) (.tmp 105), none⟩]
@[simp] theorem R35_17 (x0 x1 x10 x15 x17 x49 x50 x51 : AV) :
  evK C D (.regionD O35_17 [(10, 0), (17, 0), (17, 7)]) ⟨[(0, .v x0), (1, .v x1), (10, .v x10), (15, .v x15), (17, .v x17), (49, .v x49), (50, .v x50), (51, .v x51)], [], H⟩ k =
  (nilC x10).bind fun t1 =>
  (fldP 3 t1).bind fun t2 =>
  (nl (loadP H false 1 t2)).bind fun t3 =>
  kB (AV.okB H.n t3) (
  ((fillC [(0, 1, x15)] [.nilp]).map fun cs => (AV.slice H.n 0 1 1, H.alloc (.row false 1 cs))).bind fun r5 =>
  (nlR (appendA r5.2 1 8 t3 r5.1)).bind fun r6 =>
  (nilC x10).bind fun t8 =>
  (fldP 4 t8).bind fun t9 =>
  (nl (loadP r6.2 false 1 t9)).bind fun t10 =>
  kB (AV.okB r6.2.n t10) (
  ((fillC [(0, 1, x17)] [.nilp]).map fun cs => (AV.slice r6.2.n 0 1 1, r6.2.alloc (.row false 1 cs))).bind fun r12 =>
  (nlR (appendA r12.2 1 8 t10 r12.1)).bind fun r13 =>
  (nilC x10).bind fun t15 =>
  (fldP 7 t15).bind fun t16 =>
  (nl (loadP r13.2 false 1 t16)).bind fun t17 =>
  kB (AV.okB r13.2.n t17) (
  ((fillC [(0, 1, x0)] [(.int .i64 0)]).map fun cs => (AV.slice r13.2.n 0 1 1, r13.2.alloc (.row false 1 cs))).bind fun r19 =>
  (nlR (appendA r19.2 1 8 t17 r19.1)).bind fun r20 =>
  (nilC x10).bind fun t22 =>
  (fldP 3 t22).bind fun t23 =>
  (storeP r20.2 1 r6.1 t23).bind fun H24 =>
  (nilC x10).bind fun t26 =>
  (fldP 4 t26).bind fun t27 =>
  (storeP H24 1 r13.1 t27).bind fun H28 =>
  (nilC x10).bind fun t30 =>
  (fldP 7 t30).bind fun t31 =>
  (storeP H28 1 r20.1 t31).bind fun H32 =>
  kB (chk (loadP H false 1 t9) t10) (
  kB (chk (loadP H false 1 t16) t17) (
  kB (chk (loadP r6.2 false 1 t16) t17) (
  k .normal ⟨[(111, .v t31), (110, .v t30), (84, .v x10), (109, .v t27), (108, .v t26), (83, .v x10), (107, .v t23), (106, .v t22), (82, .v x10), (105, .v r20.1), (104, .v r19.1), (103, .v x0), (102, .v t17), (101, .v t16), (100, .v t15), (99, .v x10), (98, .v r13.1), (97, .v r12.1), (96, .v x17), (95, .v t10), (94, .v t9), (93, .v t8), (92, .v x10), (91, .v r6.1), (90, .v r5.1), (89, .v x15), (88, .v t3), (87, .v t2), (86, .v t1), (85, .v x10), (0, .v x0), (1, .v x1), (10, .v x10), (15, .v x15), (17, .v x17), (49, .v x49), (50, .v x50), (51, .v x51)], [], H32⟩)))))) := by kernel_rfl
def O35_18 : List IOper :=
  [⟨some 112, .bin .add .none (.tmp 51) (.const (.int .i64 1)), none⟩,
   ⟨some 51, .move (.tmp 112), none⟩]
@[simp] theorem R35_18 (x0 x1 x10 x49 x50 x51 : AV) :
  evK C D (.region O35_18) ⟨[(0, .v x0), (1, .v x1), (10, .v x10), (49, .v x49), (50, .v x50), (51, .v x51)], [], H⟩ k =
  (nl (binA .add .none x51 (.int .i64 1))).bind fun t0 =>
  k .normal ⟨[(51, .v t0), (112, .v t0), (0, .v x0), (1, .v x1), (10, .v x10), (49, .v x49), (50, .v x50), (51, .v x51)], [], H⟩ := by kernel_rfl
def B35_0 : IC :=
  .seq (.region O35_8)
  (.keep [0, 1, 10, 49, 50, 51, 52] [] (.seq (.cond (.tmp 52)
    (.skip)
    (.exit 0))
  (.keep [0, 1, 10, 49, 50, 51] [] (.seq (.block 1 (.seq (.region O35_9)
    (.keep [0, 1, 10, 11, 12, 49, 50, 51] [] (.seq (.region O35_10)
    (.keep [0, 1, 10, 11, 12, 13, 49, 50, 51] [13] (.seq (.region O35_11)
    (.keep [0, 1, 10, 15, 16, 49, 50, 51] [] (.seq (.seq (.region O35_12)
     (.keep [0, 1, 10, 15, 16, 49, 50, 51, 71] [] (.cond (.tmp 71)
      (.seq (.region O35_13)
      (.keep [6, 7] [] (.ret)))
      (.skip))))
    (.keep [0, 1, 10, 15, 49, 50, 51] [] (.seq (.region O35_14)
    (.keep [0, 1, 10, 15, 16, 17, 49, 50, 51] [] (.seq (.seq (.region O35_15)
     (.keep [0, 1, 10, 15, 16, 17, 49, 50, 51, 80] [] (.cond (.tmp 80)
      (.seq (.region O35_16)
      (.keep [6, 7] [] (.ret)))
      (.skip))))
    (.keep [0, 1, 10, 15, 17, 49, 50, 51] [] (.regionD O35_17 [(10, 0), (17, 0), (17, 7)]))))))))))))))
  (.keep [0, 1, 10, 49, 50, 51] [] (.region O35_18))))))
def L35_0 : IC := .keep [0, 1, 10, 49, 50, 51] [] B35_0
@[simp] theorem LK35_0 (s : SK) (k : AExit → SK → Option R) : evK C D (.loop L35_0) s k = (D (.loop L35_0) (prK [0, 1, 10, 49, 50, 51] [] s).toSt).bind fun r => k r.1 (ofSt r.2) := by kernel_rfl
def O35_19 : List IOper :=
  [⟨some 116, .move (.tmp 10), none⟩,
   ⟨some 117, .nilCheck (.tmp 116), none⟩,
   ⟨some 118, .fieldAddr 3 (.tmp 117), none⟩,
   ⟨some 119, .load false 1 (.tmp 118), none⟩,
   ⟨some 120, .indexAddr none 1 (.tmp 119) (.const (.int .i64 0)), none⟩,
   ⟨some 121, .load false 1 (.tmp 120), none⟩,
   ⟨some 122, .call (.func 19) [(.tmp 121)], none⟩,
   ⟨some 113, .move (.tmp 10), none⟩,
   ⟨some 114, .nilCheck (.tmp 113), none⟩,
   ⟨some 115, .fieldAddr 9 (.tmp 114), none⟩,
   ⟨some 123, .bin .mul .none (.const (.int .i64 1048576)) (.tmp 122), none⟩,
   ⟨some 124, .call (.func 89) [(.tmp 115), (.tmp 123)], none⟩]
@[simp] theorem R35_19 (x10 : AV) :
  evK C D (.seq (.regionD O35_19 []) (.keep [10] [] c)) ⟨[(10, .v x10)], [], H⟩ k =
  (nilC x10).bind fun t1 =>
  (fldP 3 t1).bind fun t2 =>
  (nl (loadP H false 1 t2)).bind fun t3 =>
  kB (AV.okB H.n t3) (
  (nl (idxS 1 t3 (.int .i64 0))).bind fun t4 =>
  (nl (loadP H false 1 t4)).bind fun t5 =>
  kB (AV.okB H.n t5) (
  (callN C (.func (.func 19) [] []) [t5] H).bind fun r6 =>
  (nilC x10).bind fun t8 =>
  (fldP 9 t8).bind fun t9 =>
  (nl (binA .mul .none (.int .i64 1048576) r6.1)).bind fun t10 =>
  (callN C (.func (.func 89) [] []) [t9, t10] r6.2).bind fun r11 =>
  evK C D c ⟨[(10, .v x10)], [], r11.2⟩ k)) := by kernel_rfl
def O35_20 : List IOper :=
  [⟨some 125, .move (.tmp 10), none⟩,
   ⟨some 6, .move (.tmp 125), none⟩,
   ⟨some 7, .move (.const (.int .i64 0)), none⟩]
@[simp] theorem R35_20 (x10 : AV) :
  evK C D (.seq (.region O35_20) (.keep [6, 7] [] c)) ⟨[(10, .v x10)], [], H⟩ k =
  evK C D c ⟨[(6, .v x10), (7, .v (.int .i64 0))], [], H⟩ k := by kernel_rfl
def F35 : FnIR := ⟨126, 3, [.tmp 6, .tmp 7], [13],
  .seq (.region O35_0)
  (.keep [0, 1, 2] [] (.seq (.seq (.region O35_1)
   (.keep [0, 1, 2, 34] [] (.cond (.tmp 34)
    (.seq (.region O35_2)
    (.keep [6, 7] [] (.ret)))
    (.skip))))
  (.keep [0, 1, 2] [] (.seq (.region O35_3)
  (.keep [0, 1, 2, 8, 9] [] (.seq (.seq (.region O35_4)
   (.keep [0, 1, 2, 8, 9, 40] [] (.cond (.tmp 40)
    (.seq (.region O35_5)
    (.keep [6, 7] [] (.ret)))
    (.skip))))
  (.keep [0, 1, 2, 8] [] (.seq (.region O35_6)
  (.keep [0, 1, 2, 10] [] (.seq (.seq (.region O35_7)
   (.keep [0, 1, 10, 49, 50, 51] [] (.block 0 (.loop L35_0))))
  (.keep [10] [] (.seq (.regionD O35_19 [])
  (.keep [10] [] (.seq (.region O35_20)
  (.keep [6, 7] [] (.ret))))))))))))))))⟩
/-- (*wampum/node.Node).Step -/
def O36_0 : List IOper :=
  [⟨some 3, .box true 53 (.tmp 1), none⟩,
   ⟨some 4, .move (.const (.int .i64 0)), none⟩]
@[simp] theorem R36_0 (x0 x1 : AV) :
  evK C D (.seq (.region O36_0) (.keep [0, 3] [3] c)) ⟨[(0, .v x0), (1, .v x1)], [], H⟩ k =
  (boxC x1).bind fun m0 =>
  evK C D c ⟨[(0, .v x0), (3, .l 3 0)], [(3, m0)], H⟩ k := by kernel_rfl
def O36_1 : List IOper :=
  [⟨some 7, .move (.tmp 0), none⟩,
   ⟨some 8, .bin .eql .ptr (.tmp 7) (.const .nilp), none⟩,
   ⟨some 6, .move (.tmp 8), none⟩]
@[simp] theorem R36_1 (x0 : AV) (l3 : List AV) :
  evK C D (.seq (.region O36_1) (.keep [0, 3, 6] [3] c)) ⟨[(0, .v x0), (3, .l 3 0)], [(3, l3)], H⟩ k =
  (nl (binA .eql .ptr x0 .nilp)).bind fun t1 =>
  evK C D c ⟨[(0, .v x0), (3, .l 3 0), (6, .v t1)], [(3, l3)], H⟩ k := by kernel_rfl
def O36_2 : List IOper :=
  [⟨some 4, .move (.const (.int .i64 1)), none⟩]
@[simp] theorem R36_2 (x0 x6 : AV) (l3 : List AV) :
  evK C D (.seq (.region O36_2) (.keep [4] [] c)) ⟨[(0, .v x0), (3, .l 3 0), (6, .v x6)], [(3, l3)], H⟩ k =
  evK C D c ⟨[(4, .v (.int .i64 1))], [], H⟩ k := by kernel_rfl
def O36_3 : List IOper :=
  [⟨some 10, .fieldAddr 2 (.tmp 3), none⟩,
   ⟨some 11, .load false 1 (.tmp 10), none⟩,
   ⟨some 12, .move (.tmp 0), none⟩,
   ⟨some 13, .nilCheck (.tmp 12), none⟩,
   ⟨some 14, .fieldAddr 0 (.tmp 13), none⟩,
   ⟨some 15, .load false 1 (.tmp 14), none⟩,
   ⟨some 16, .bin .neq .int (.tmp 11) (.tmp 15), none⟩,
   ⟨some 17, .move (.tmp 16), none⟩,
   ⟨some 18, .move (.tmp 0), some (17, false)⟩,
   ⟨some 19, .fieldAddr 3 (.tmp 3), some (17, false)⟩,
   ⟨some 20, .load false 1 (.tmp 19), some (17, false)⟩,
   ⟨some 21, .call (.func 90) [(.tmp 18), (.tmp 20)], some (17, false)⟩,
   ⟨some 22, .un .not (.tmp 21), some (17, false)⟩,
   ⟨some 23, .pick (.tmp 17) (.const (.bool true)) (.tmp 22), none⟩,
   ⟨some 9, .move (.tmp 23), none⟩]
@[simp] theorem R36_3 (x0 x6 : AV) (l3 : List AV) :
  evK C D (.seq (.regionD O36_3 []) (.keep [0, 3, 9] [3] c)) ⟨[(0, .v x0), (3, .l 3 0), (6, .v x6)], [(3, l3)], H⟩ k =
  (nl (rd false 1 2 l3)).bind fun t1 =>
  kB (AV.okB H.n t1) (
  (nilC x0).bind fun t3 =>
  (fldP 0 t3).bind fun t4 =>
  (nl (loadP H false 1 t4)).bind fun t5 =>
  kB (AV.okB H.n t5) (
  (nl (binA .neq .int t1 t5)).bind fun t6 =>
  guardK t6 false (
  (nl (rd false 1 3 l3)).bind fun t10 =>
  kB (AV.okB H.n t10) (
  (callN C (.func (.func 90) [] []) [x0, t10] H).bind fun r11 =>
  (nl (unA .not r11.1)).bind fun t12 =>
  evK C D c ⟨[(0, .v x0), (3, .l 3 0), (9, .v t12)], [(3, l3)], r11.2⟩ k))
  (kB (AV.okB H.n undefA) (
  evK C D c ⟨[(0, .v x0), (3, .l 3 0), (9, .v (.bool true))], [(3, l3)], H⟩ k)))) := by kernel_rfl
def O36_4 : List IOper :=
  [⟨some 4, .move (.const (.int .i64 181)), none⟩]
@[simp] theorem R36_4 (x0 x9 : AV) (l3 : List AV) :
  evK C D (.seq (.region O36_4) (.keep [4] [] c)) ⟨[(0, .v x0), (3, .l 3 0), (9, .v x9)], [(3, l3)], H⟩ k =
  evK C D c ⟨[(4, .v (.int .i64 181))], [], H⟩ k := by kernel_rfl
def O36_5 : List IOper :=
  [⟨some 5, .move (.const (.int .i64 0)), none⟩]
@[simp] theorem R36_5 (x0 : AV) (l3 : List AV) :
  evK C D (.seq (.region O36_5) (.keep [0, 3] [3] c)) ⟨[(0, .v x0), (3, .l 3 0)], [(3, l3)], H⟩ k =
  evK C D c ⟨[(0, .v x0), (3, .l 3 0)], [(3, l3)], H⟩ k := by kernel_rfl
def O36_6 : List IOper :=
  [⟨some 24, .fieldAddr 0 (.tmp 3), none⟩,
   ⟨some 25, .load false 1 (.tmp 24), none⟩]
@[simp] theorem R36_6 (x0 : AV) (l3 : List AV) :
  evK C D (.seq (.region O36_6) (.keep [0, 3, 25] [3] c)) ⟨[(0, .v x0), (3, .l 3 0)], [(3, l3)], H⟩ k =
  (nl (rd false 1 0 l3)).bind fun t1 =>
  evK C D c ⟨[(0, .v x0), (3, .l 3 0), (25, .v t1)], [(3, l3)], H⟩ k := by kernel_rfl
def O36_7 : List IOper :=
  [⟨some 37, .bin .eql .int (.tmp 25) (.const (.int .i64 6)), none⟩,
   ⟨some 36, .move (.tmp 37), none⟩]
@[simp] theorem R36_7 (x0 x25 : AV) (l3 : List AV) :
  evK C D (.seq (.region O36_7) (.keep [0, 3, 25, 36] [3] c)) ⟨[(0, .v x0), (3, .l 3 0), (25, .v x25)], [(3, l3)], H⟩ k =
  (nl (binA .eql .int x25 (.int .i64 6))).bind fun t0 =>
  evK C D c ⟨[(0, .v x0), (3, .l 3 0), (25, .v x25), (36, .v t0)], [(3, l3)], H⟩ k := by kernel_rfl
def O36_8 : List IOper :=
  [⟨some 38, .bin .eql .int (.tmp 25) (.const (.int .i64 7)), none⟩,
   ⟨some 36, .move (.tmp 38), none⟩]
@[simp] theorem R36_8 (x0 x25 x36 : AV) (l3 : List AV) :
  evK C D (.region O36_8) ⟨[(0, .v x0), (3, .l 3 0), (25, .v x25), (36, .v x36)], [(3, l3)], H⟩ k =
  (nl (binA .eql .int x25 (.int .i64 7))).bind fun t0 =>
  k .normal ⟨[(36, .v t0), (38, .v t0), (0, .v x0), (3, .l 3 0), (25, .v x25), (36, .v x36)], [(3, l3)], H⟩ := by kernel_rfl
def O36_9 : List IOper :=
  [⟨some 39, .move (.tmp 0), none⟩,
   ⟨some 40, .nilCheck (.tmp 39), none⟩,
   ⟨some 41, .fieldAddr 2 (.tmp 40), none⟩,
   ⟨some 42, .load false 1 (.tmp 41), none⟩,
   ⟨some 43, .fieldAddr 11 (.tmp 3), none⟩,
   ⟨some 44, .load true 2 (.tmp 43), none⟩,
   ⟨some 45, .call (.func 91) [(.tmp 42), (.tmp 44)], none⟩,
   ⟨some 5, .move (.tmp 45), none⟩]
@[simp] theorem R36_9 (x0 x36 : AV) (l3 : List AV) :
  evK C D (.seq (.regionD O36_9 []) (.keep [0, 3, 5] [3] c)) ⟨[(0, .v x0), (3, .l 3 0), (36, .v x36)], [(3, l3)], H⟩ k =
  (nilC x0).bind fun t1 =>
  (fldP 2 t1).bind fun t2 =>
  (nl (loadP H false 1 t2)).bind fun t3 =>
  kB (AV.okB H.n t3) (
  (nl (rd true 2 11 l3)).bind fun t5 =>
  kB (AV.okB H.n t5) (
  (callN C (.func (.func 91) [] []) [t3, t5] H).bind fun r6 =>
  evK C D c ⟨[(0, .v x0), (3, .l 3 0), (5, .v r6.1)], [(3, l3)], r6.2⟩ k)) := by kernel_rfl
def O36_10 : List IOper :=
  [⟨some 46, .move (.tmp 5), none⟩,
   ⟨some 47, .bin .neq .int (.tmp 46) (.const (.int .i64 0)), none⟩]
@[simp] theorem R36_10 (x0 x5 : AV) (l3 : List AV) :
  evK C D (.seq (.region O36_10) (.keep [0, 3, 5, 47] [3] c)) ⟨[(0, .v x0), (3, .l 3 0), (5, .v x5)], [(3, l3)], H⟩ k =
  (nl (binA .neq .int x5 (.int .i64 0))).bind fun t1 =>
  evK C D c ⟨[(0, .v x0), (3, .l 3 0), (5, .v x5), (47, .v t1)], [(3, l3)], H⟩ k := by kernel_rfl
def O36_11 : List IOper :=
  [⟨some 4, .move (.const (.int .i64 41)), none⟩]
@[simp] theorem R36_11 (x0 x5 x47 : AV) (l3 : List AV) :
  evK C D (.seq (.region O36_11) (.keep [4] [] c)) ⟨[(0, .v x0), (3, .l 3 0), (5, .v x5), (47, .v x47)], [(3, l3)], H⟩ k =
  evK C D c ⟨[(4, .v (.int .i64 41))], [], H⟩ k := by kernel_rfl
def O36_12 : List IOper :=
  [⟨some 48, .fieldAddr 0 (.tmp 3), none⟩,
   ⟨some 49, .load false 1 (.tmp 48), none⟩,
   ⟨some 50, .bin .eql .int (.tmp 49) (.const (.int .i64 6)), none⟩]
@[simp] theorem R36_12 (x0 x5 : AV) (l3 : List AV) :
  evK C D (.seq (.region O36_12) (.keep [0, 3, 5, 50] [3] c)) ⟨[(0, .v x0), (3, .l 3 0), (5, .v x5)], [(3, l3)], H⟩ k =
  (nl (rd false 1 0 l3)).bind fun t1 =>
  (nl (binA .eql .int t1 (.int .i64 6))).bind fun t2 =>
  evK C D c ⟨[(0, .v x0), (3, .l 3 0), (5, .v x5), (50, .v t2)], [(3, l3)], H⟩ k := by kernel_rfl
def O36_13 : List IOper :=
  [⟨some 51, .move (.tmp 0), none⟩,
   ⟨some 52, .nilCheck (.tmp 51), none⟩,
   ⟨some 53, .fieldAddr 4 (.tmp 52), none⟩,
   ⟨some 54, .load false 1 (.tmp 53), none⟩,
   ⟨some 55, .fieldAddr 3 (.tmp 3), none⟩,
   ⟨some 56, .load false 1 (.tmp 55), none⟩,
   ⟨some 57, .indexAddr none 1 (.tmp 54) (.tmp 56), none⟩,
   ⟨some 58, .load false 1 (.tmp 57), none⟩,
   ⟨some 59, .fieldAddr 1 (.tmp 3), none⟩,
   ⟨some 60, .load false 1 (.tmp 59), none⟩,
   ⟨some 61, .fieldAddr 5 (.tmp 3), none⟩,
   ⟨some 62, .load false 1 (.tmp 61), none⟩,
   ⟨some 63, .fieldAddr 13 (.tmp 3), none⟩,
   ⟨some 64, .load true 22 (.tmp 63), none⟩,
   ⟨some 65, .call (.func 24) [(.tmp 58), (.tmp 60), (.tmp 62), (.tmp 64)], none⟩,
   ⟨some 5, .move (.tmp 65), none⟩]
@[simp] theorem R36_13 (x0 x5 x50 : AV) (l3 : List AV) :
  evK C D (.regionD O36_13 []) ⟨[(0, .v x0), (3, .l 3 0), (5, .v x5), (50, .v x50)], [(3, l3)], H⟩ k =
  (nilC x0).bind fun t1 =>
  (fldP 4 t1).bind fun t2 =>
  (nl (loadP H false 1 t2)).bind fun t3 =>
  kB (AV.okB H.n t3) (
  (nl (rd false 1 3 l3)).bind fun t5 =>
  kB (AV.okB H.n t5) (
  (nl (idxS 1 t3 t5)).bind fun t6 =>
  (nl (loadP H false 1 t6)).bind fun t7 =>
  kB (AV.okB H.n t7) (
  (nl (rd false 1 1 l3)).bind fun t9 =>
  kB (AV.okB H.n t9) (
  (nl (rd false 1 5 l3)).bind fun t11 =>
  kB (AV.okB H.n t11) (
  (nl (rd true 22 13 l3)).bind fun t13 =>
  kB (AV.okB H.n t13) (
  (callN C (.func (.func 24) [] []) [t7, t9, t11, t13] H).bind fun r14 =>
  k .normal ⟨[(5, .v r14.1), (65, .v r14.1), (64, .v t13), (63, .l 3 13), (62, .v t11), (61, .l 3 5), (60, .v t9), (59, .l 3 1), (58, .v t7), (57, .v t6), (56, .v t5), (55, .l 3 3), (54, .v t3), (53, .v t2), (52, .v t1), (51, .v x0), (0, .v x0), (3, .l 3 0), (5, .v x5), (50, .v x50)], [(3, l3)], r14.2⟩)))))) := by kernel_rfl
def O36_14 : List IOper :=
  [⟨some 66, .move (.tmp 0), none⟩,
   ⟨some 67, .fieldAddr 5 (.tmp 3), none⟩,
   ⟨some 68, .load false 1 (.tmp 67), none⟩,
   ⟨some 69, .fieldAddr 1 (.tmp 3), none⟩,
   ⟨some 70, .load false 1 (.tmp 69), none⟩,
   ⟨some 71, .fieldAddr 35 (.tmp 3), none⟩,
   ⟨some 72, .load true 18 (.tmp 71), none⟩,
   ⟨some 73, .call (.func 92) [(.tmp 66), (.tmp 68), (.tmp 70), (.tmp 72)], none⟩]
@[simp] theorem R36_14 (x0 x5 x50 : AV) (l3 : List AV) :
  evK C D (.region O36_14) ⟨[(0, .v x0), (3, .l 3 0), (5, .v x5), (50, .v x50)], [(3, l3)], H⟩ k =
  (nl (rd false 1 5 l3)).bind fun t2 =>
  (nl (rd false 1 1 l3)).bind fun t4 =>
  (nl (rd true 18 35 l3)).bind fun t6 =>
  (callN C (.func (.func 92) [] []) [x0, t2, t4, t6] H).bind fun r7 =>
  k .normal ⟨[(73, .v r7.1), (72, .v t6), (71, .l 3 35), (70, .v t4), (69, .l 3 1), (68, .v t2), (67, .l 3 5), (66, .v x0), (0, .v x0), (3, .l 3 0), (5, .v x5), (50, .v x50)], [(3, l3)], r7.2⟩ := by kernel_rfl
def O36_15 : List IOper :=
  [⟨some 26, .move (.tmp 0), none⟩,
   ⟨some 27, .nilCheck (.tmp 26), none⟩,
   ⟨some 28, .fieldAddr 3 (.tmp 27), none⟩,
   ⟨some 29, .load false 1 (.tmp 28), none⟩,
   ⟨some 30, .fieldAddr 3 (.tmp 3), none⟩,
   ⟨some 31, .load false 1 (.tmp 30), none⟩,
   ⟨some 32, .indexAddr none 1 (.tmp 29) (.tmp 31), none⟩,
   ⟨some 33, .load false 1 (.tmp 32), none⟩,
   ⟨some 34, .load true 53 (.tmp 3), none⟩,
   ⟨some 35, .call (.func 12) [(.tmp 33), (.tmp 34)], none⟩,
   ⟨some 5, .move (.tmp 35), none⟩]
@[simp] theorem R36_15 (x0 x36 : AV) (l3 : List AV) :
  evK C D (.regionD O36_15 []) ⟨[(0, .v x0), (3, .l 3 0), (36, .v x36)], [(3, l3)], H⟩ k =
  (nilC x0).bind fun t1 =>
  (fldP 3 t1).bind fun t2 =>
  (nl (loadP H false 1 t2)).bind fun t3 =>
  kB (AV.okB H.n t3) (
  (nl (rd false 1 3 l3)).bind fun t5 =>
  kB (AV.okB H.n t5) (
  (nl (idxS 1 t3 t5)).bind fun t6 =>
  (nl (loadP H false 1 t6)).bind fun t7 =>
  kB (AV.okB H.n t7) (
  (nl (rd true 53 0 l3)).bind fun t8 =>
  kB (AV.okB H.n t8) (
  (callN C (.func (.func 12) [] []) [t7, t8] H).bind fun r9 =>
  k .normal ⟨[(5, .v r9.1), (35, .v r9.1), (34, .v t8), (33, .v t7), (32, .v t6), (31, .v t5), (30, .l 3 3), (29, .v t3), (28, .v t2), (27, .v t1), (26, .v x0), (0, .v x0), (3, .l 3 0), (36, .v x36)], [(3, l3)], r9.2⟩)))) := by kernel_rfl
def O36_16 : List IOper :=
  [⟨some 74, .move (.tmp 0), none⟩,
   ⟨some 75, .call (.func 93) [(.tmp 74)], none⟩]
@[simp] theorem R36_16 (x0 x5 : AV) :
  evK C D (.seq (.region O36_16) (.keep [5] [] c)) ⟨[(0, .v x0), (5, .v x5)], [], H⟩ k =
  (callN C (.func (.func 93) [] []) [x0] H).bind fun r1 =>
  evK C D c ⟨[(5, .v x5)], [], r1.2⟩ k := by kernel_rfl
def O36_17 : List IOper :=
  [⟨some 76, .move (.tmp 5), none⟩,
   ⟨some 4, .move (.tmp 76), none⟩]
@[simp] theorem R36_17 (x5 : AV) :
  evK C D (.seq (.region O36_17) (.keep [4] [] c)) ⟨[(5, .v x5)], [], H⟩ k =
  evK C D c ⟨[(4, .v x5)], [], H⟩ k := by kernel_rfl
def F36 : FnIR := ⟨77, 2, [.tmp 4], [3],
  .seq (.region O36_0)
  (.keep [0, 3] [3] (.seq (.block 0 (.seq (.region O36_1)
    (.keep [0, 3, 6] [3] (.cond (.tmp 6)
     (.seq (.region O36_2)
     (.keep [4] [] (.ret)))
     (.seq (.regionD O36_3 [])
     (.keep [0, 3, 9] [3] (.cond (.tmp 9)
      (.seq (.region O36_4)
      (.keep [4] [] (.ret)))
      (.skip))))))))
  (.keep [0, 3] [3] (.seq (.region O36_5)
  (.keep [0, 3] [3] (.seq (.seq (.region O36_6)
   (.keep [0, 3, 25] [3] (.block 1 (.seq (.seq (.region O36_7)
     (.keep [0, 3, 25, 36] [3] (.cond (.tmp 36)
      (.skip)
      (.region O36_8))))
    (.keep [0, 3, 36] [3] (.cond (.tmp 36)
     (.seq (.seq (.regionD O36_9 [])
      (.keep [0, 3, 5] [3] (.seq (.region O36_10)
      (.keep [0, 3, 5, 47] [3] (.cond (.tmp 47)
       (.seq (.region O36_11)
       (.keep [4] [] (.ret)))
       (.skip))))))
     (.keep [0, 3, 5] [3] (.seq (.region O36_12)
     (.keep [0, 3, 5, 50] [3] (.cond (.tmp 50)
      (.regionD O36_13 [])
      (.region O36_14))))))
     (.regionD O36_15 [])))))))
  (.keep [0, 5] [] (.seq (.region O36_16)
  (.keep [5] [] (.seq (.region O36_17)
  (.keep [4] [] (.ret))))))))))))⟩
/-- (*wampum/node.Node).Tick -/
def O37_0 : List IOper :=
  [⟨some 2, .move (.const (.int .i64 0)), none⟩]
@[simp] theorem R37_0 (x0 : AV) :
  evK C D (.seq (.region O37_0) (.keep [0] [] c)) ⟨[(0, .v x0)], [], H⟩ k =
  evK C D c ⟨[(0, .v x0)], [], H⟩ k := by kernel_rfl
def O37_1 : List IOper :=
  [⟨some 10, .move (.tmp 0), none⟩,
   ⟨some 11, .bin .eql .ptr (.tmp 10) (.const .nilp), none⟩]
@[simp] theorem R37_1 (x0 : AV) :
  evK C D (.seq (.region O37_1) (.keep [0, 11] [] c)) ⟨[(0, .v x0)], [], H⟩ k =
  (nl (binA .eql .ptr x0 .nilp)).bind fun t1 =>
  evK C D c ⟨[(0, .v x0), (11, .v t1)], [], H⟩ k := by kernel_rfl
def O37_2 : List IOper :=
  [⟨some 2, .move (.const (.int .i64 1)), none⟩]
@[simp] theorem R37_2 (x0 x11 : AV) :
  evK C D (.seq (.region O37_2) (.keep [2] [] c)) ⟨[(0, .v x0), (11, .v x11)], [], H⟩ k =
  evK C D c ⟨[(2, .v (.int .i64 1))], [], H⟩ k := by kernel_rfl
def O37_3 : List IOper :=
  [⟨some 12, .move (.tmp 0), none⟩,
   ⟨some 13, .nilCheck (.tmp 12), none⟩,
   ⟨some 14, .fieldAddr 10 (.tmp 13), none⟩,
   ⟨some 15, .load false 1 (.tmp 14), none⟩,
   ⟨some 16, .bin .add .none (.tmp 15) (.const (.int .i64 1)), none⟩,
   ⟨some 17, .nilCheck (.tmp 12), none⟩,
   ⟨some 18, .fieldAddr 10 (.tmp 17), none⟩,
   ⟨none, .store 1 (.tmp 18) (.tmp 16), none⟩]
@[simp] theorem R37_3 (x0 : AV) :
  evK C D (.seq (.region O37_3) (.keep [0] [] c)) ⟨[(0, .v x0)], [], H⟩ k =
  (nilC x0).bind fun t1 =>
  (fldP 10 t1).bind fun t2 =>
  (nl (loadP H false 1 t2)).bind fun t3 =>
  (nl (binA .add .none t3 (.int .i64 1))).bind fun t4 =>
  (nilC x0).bind fun t5 =>
  (fldP 10 t5).bind fun t6 =>
  (storeP H 1 t4 t6).bind fun H7 =>
  evK C D c ⟨[(0, .v x0)], [], H7⟩ k := by kernel_rfl
def O37_4 : List IOper :=
  [⟨some 23, .move (.tmp 0), none⟩,
   ⟨some 24, .nilCheck (.tmp 23), none⟩,
   ⟨some 25, .fieldAddr 2 (.tmp 24), none⟩,
   ⟨some 26, .load false 1 (.tmp 25), none⟩,
   ⟨some 27, .call (.func 95) [(.tmp 26)], none⟩,
   ⟨some 19, .move (.tmp 0), none⟩,
   ⟨some 20, .nilCheck (.tmp 19), none⟩,
   ⟨some 21, .fieldAddr 2 (.tmp 20), none⟩,
   ⟨some 22, .load false 1 (.tmp 21), none⟩,
   ⟨some 28, .bin .add .none (.tmp 27) (.const (.int .i64 1)), none⟩,
   ⟨some 29, .call (.func 94) [(.tmp 22), (.tmp 28)], none⟩]
@[simp] theorem R37_4 (x0 : AV) :
  evK C D (.seq (.regionD O37_4 [(8, 0)]) (.keep [0] [] c)) ⟨[(0, .v x0)], [], H⟩ k =
  (nilC x0).bind fun t1 =>
  (fldP 2 t1).bind fun t2 =>
  (nl (loadP H false 1 t2)).bind fun t3 =>
  kB (AV.okB H.n t3) (
  (callN C (.func (.func 95) [] []) [t3] H).bind fun r4 =>
  (nilC x0).bind fun t6 =>
  (fldP 2 t6).bind fun t7 =>
  (nl (loadP r4.2 false 1 t7)).bind fun t8 =>
  kB (AV.okB r4.2.n t8) (
  (nl (binA .add .none r4.1 (.int .i64 1))).bind fun t9 =>
  (callN C (.func (.func 94) [] []) [t8, t9] r4.2).bind fun r10 =>
  kB (chk (loadP H false 1 t7) t8) (
  evK C D c ⟨[(0, .v x0)], [], r10.2⟩ k))) := by kernel_rfl
def O37_5 : List IOper :=
  [⟨some 30, .move (.tmp 0), none⟩,
   ⟨some 31, .nilCheck (.tmp 30), none⟩,
   ⟨some 32, .fieldAddr 3 (.tmp 31), none⟩,
   ⟨some 33, .load false 1 (.tmp 32), none⟩,
   ⟨some 34, .len .slice (.tmp 33), none⟩,
   ⟨some 35, .move (.const (.int .i64 0)), none⟩]
@[simp] theorem R37_5 (x0 : AV) :
  evK C D (.seq (.region O37_5) (.keep [0, 33, 34, 35] [] c)) ⟨[(0, .v x0)], [], H⟩ k =
  (nilC x0).bind fun t1 =>
  (fldP 3 t1).bind fun t2 =>
  (nl (loadP H false 1 t2)).bind fun t3 =>
  (lenS t3).bind fun t4 =>
  evK C D c ⟨[(0, .v x0), (33, .v t3), (34, .v t4), (35, .v (.int .i64 0))], [], H⟩ k := by kernel_rfl
def O37_6 : List IOper :=
  [⟨some 36, .bin .lss .none (.tmp 35) (.tmp 34), none⟩]
@[simp] theorem R37_6 (x0 x33 x34 x35 : AV) :
  evK C D (.seq (.region O37_6) (.keep [0, 33, 34, 35, 36] [] c)) ⟨[(0, .v x0), (33, .v x33), (34, .v x34), (35, .v x35)], [], H⟩ k =
  (nl (binA .lss .none x35 x34)).bind fun t0 =>
  evK C D c ⟨[(0, .v x0), (33, .v x33), (34, .v x34), (35, .v x35), (36, .v t0)], [], H⟩ k := by kernel_rfl
def O37_7 : List IOper :=
  [⟨some 37, .move (.tmp 35), none⟩,
   ⟨some 38, .indexAddr none 1 (.tmp 33) (.tmp 35), none⟩,
   ⟨some 39, .load false 1 (.tmp 38), none⟩,
   ⟨some 3, .move (.tmp 37), none⟩,
   ⟨some 4, .move (.tmp 39), none⟩]
@[simp] theorem R37_7 (x0 x33 x34 x35 : AV) :
  evK C D (.seq (.region O37_7) (.keep [0, 3, 4, 33, 34, 35] [] c)) ⟨[(0, .v x0), (33, .v x33), (34, .v x34), (35, .v x35)], [], H⟩ k =
  (nl (idxS 1 x33 x35)).bind fun t1 =>
  (nl (loadP H false 1 t1)).bind fun t2 =>
  evK C D c ⟨[(0, .v x0), (3, .v x35), (4, .v t2), (33, .v x33), (34, .v x34), (35, .v x35)], [], H⟩ k := by kernel_rfl
def O37_8 : List IOper :=
  [⟨some 40, .move (.tmp 4), none⟩,
   ⟨some 41, .call (.func 14) [(.tmp 40)], none⟩]
@[simp] theorem R37_8 (x0 x3 x4 x33 x34 x35 : AV) :
  evK C D (.seq (.region O37_8) (.keep [0, 3, 33, 34, 35] [] c)) ⟨[(0, .v x0), (3, .v x3), (4, .v x4), (33, .v x33), (34, .v x34), (35, .v x35)], [], H⟩ k =
  (callN C (.func (.func 14) [] []) [x4] H).bind fun r1 =>
  evK C D c ⟨[(0, .v x0), (3, .v x3), (33, .v x33), (34, .v x34), (35, .v x35)], [], r1.2⟩ k := by kernel_rfl
def O37_9 : List IOper :=
  [⟨some 42, .move (.tmp 0), none⟩,
   ⟨some 43, .nilCheck (.tmp 42), none⟩,
   ⟨some 44, .fieldAddr 4 (.tmp 43), none⟩,
   ⟨some 45, .load false 1 (.tmp 44), none⟩,
   ⟨some 46, .move (.tmp 3), none⟩,
   ⟨some 47, .indexAddr none 1 (.tmp 45) (.tmp 46), none⟩,
   ⟨some 48, .load false 1 (.tmp 47), none⟩,
   ⟨some 49, .call (.func 25) [(.tmp 48)], none⟩]
@[simp] theorem R37_9 (x0 x3 x33 x34 x35 : AV) :
  evK C D (.region O37_9) ⟨[(0, .v x0), (3, .v x3), (33, .v x33), (34, .v x34), (35, .v x35)], [], H⟩ k =
  (nilC x0).bind fun t1 =>
  (fldP 4 t1).bind fun t2 =>
  (nl (loadP H false 1 t2)).bind fun t3 =>
  (nl (idxS 1 t3 x3)).bind fun t5 =>
  (nl (loadP H false 1 t5)).bind fun t6 =>
  (callN C (.func (.func 25) [] []) [t6] H).bind fun r7 =>
  k .normal ⟨[(49, .v r7.1), (48, .v t6), (47, .v t5), (46, .v x3), (45, .v t3), (44, .v t2), (43, .v t1), (42, .v x0), (0, .v x0), (3, .v x3), (33, .v x33), (34, .v x34), (35, .v x35)], [], r7.2⟩ := by kernel_rfl
def O37_10 : List IOper :=
  [⟨some 50, .bin .add .none (.tmp 35) (.const (.int .i64 1)), none⟩,
   ⟨some 35, .move (.tmp 50), none⟩]
@[simp] theorem R37_10 (x0 x33 x34 x35 : AV) :
  evK C D (.region O37_10) ⟨[(0, .v x0), (33, .v x33), (34, .v x34), (35, .v x35)], [], H⟩ k =
  (nl (binA .add .none x35 (.int .i64 1))).bind fun t0 =>
  k .normal ⟨[(35, .v t0), (50, .v t0), (0, .v x0), (33, .v x33), (34, .v x34), (35, .v x35)], [], H⟩ := by kernel_rfl
def B37_0 : IC :=
  .seq (.region O37_6)
  (.keep [0, 33, 34, 35, 36] [] (.seq (.cond (.tmp 36)
    (.skip)
    (.exit 0))
  (.keep [0, 33, 34, 35] [] (.seq (.block 1 (.seq (.region O37_7)
    (.keep [0, 3, 4, 33, 34, 35] [] (.seq (.region O37_8)
    (.keep [0, 3, 33, 34, 35] [] (.region O37_9))))))
  (.keep [0, 33, 34, 35] [] (.region O37_10))))))
def L37_0 : IC := .keep [0, 33, 34, 35] [] B37_0
@[simp] theorem LK37_0 (s : SK) (k : AExit → SK → Option R) : evK C D (.loop L37_0) s k = (D (.loop L37_0) (prK [0, 33, 34, 35] [] s).toSt).bind fun r => k r.1 (ofSt r.2) := by kernel_rfl
def O37_11 : List IOper :=
  [⟨some 51, .move (.tmp 0), none⟩,
   ⟨some 52, .nilCheck (.tmp 51), none⟩,
   ⟨some 53, .fieldAddr 5 (.tmp 52), none⟩,
   ⟨some 54, .load false 1 (.tmp 53), none⟩,
   ⟨some 55, .call (.func 97) [(.tmp 54)], none⟩,
   ⟨some 56, .call (.func 96) [(.tmp 55)], none⟩,
   ⟨some 57, .len .slice (.tmp 56), none⟩,
   ⟨some 58, .move (.const (.int .i64 0)), none⟩]
@[simp] theorem R37_11 (x0 : AV) :
  evK C D (.seq (.region O37_11) (.keep [0, 56, 57, 58] [] c)) ⟨[(0, .v x0)], [], H⟩ k =
  (nilC x0).bind fun t1 =>
  (fldP 5 t1).bind fun t2 =>
  (nl (loadP H false 1 t2)).bind fun t3 =>
  (callN C (.func (.func 97) [] []) [t3] H).bind fun r4 =>
  (callN C (.func (.func 96) [] []) [r4.1] r4.2).bind fun r5 =>
  (lenS r5.1).bind fun t6 =>
  evK C D c ⟨[(0, .v x0), (56, .v r5.1), (57, .v t6), (58, .v (.int .i64 0))], [], r5.2⟩ k := by kernel_rfl
def O37_12 : List IOper :=
  [⟨some 59, .bin .lss .none (.tmp 58) (.tmp 57), none⟩]
@[simp] theorem R37_12 (x0 x56 x57 x58 : AV) :
  evK C D (.seq (.region O37_12) (.keep [0, 56, 57, 58, 59] [] c)) ⟨[(0, .v x0), (56, .v x56), (57, .v x57), (58, .v x58)], [], H⟩ k =
  (nl (binA .lss .none x58 x57)).bind fun t0 =>
  evK C D c ⟨[(0, .v x0), (56, .v x56), (57, .v x57), (58, .v x58), (59, .v t0)], [], H⟩ k := by kernel_rfl
def O37_13 : List IOper :=
  [⟨some 60, .indexAddr none 1 (.tmp 56) (.tmp 58), none⟩,
   ⟨some 61, .load false 1 (.tmp 60), none⟩,
   ⟨some 6, .move (.tmp 61), none⟩]
@[simp] theorem R37_13 (x0 x56 x57 x58 : AV) :
  evK C D (.seq (.region O37_13) (.keep [0, 6, 56, 57, 58] [] c)) ⟨[(0, .v x0), (56, .v x56), (57, .v x57), (58, .v x58)], [], H⟩ k =
  (nl (idxS 1 x56 x58)).bind fun t0 =>
  (nl (loadP H false 1 t0)).bind fun t1 =>
  evK C D c ⟨[(0, .v x0), (6, .v t1), (56, .v x56), (57, .v x57), (58, .v x58)], [], H⟩ k := by kernel_rfl
def O37_14 : List IOper :=
  [⟨some 68, .move (.tmp 0), none⟩,
   ⟨some 69, .call (.func 99) [(.tmp 68)], none⟩,
   ⟨some 62, .move (.tmp 0), none⟩,
   ⟨some 63, .nilCheck (.tmp 62), none⟩,
   ⟨some 64, .fieldAddr 5 (.tmp 63), none⟩,
   ⟨some 65, .load false 1 (.tmp 64), none⟩,
   ⟨some 66, .move (.tmp 6), none⟩,
   ⟨some 67, .lookup (.int .i64) false .nilp (.tmp 65) (.tmp 66), none⟩,
   ⟨some 70, .call (.func 98) [(.tmp 67), (.tmp 69)], none⟩]
@[simp] theorem R37_14 (x0 x6 x56 x57 x58 : AV) :
  evK C D (.regionD O37_14 [(5, 0), (7, 0)]) ⟨[(0, .v x0), (6, .v x6), (56, .v x56), (57, .v x57), (58, .v x58)], [], H⟩ k =
  (callN C (.func (.func 99) [] []) [x0] H).bind fun r1 =>
  (nilC x0).bind fun t3 =>
  (fldP 5 t3).bind fun t4 =>
  (nl (loadP r1.2 false 1 t4)).bind fun t5 =>
  kB (AV.okB r1.2.n t5) (
  (nl (lookupA r1.2 (.int .i64) false .nilp t5 x6)).bind fun t7 =>
  kB (AV.okB r1.2.n t7) (
  (callN C (.func (.func 98) [] []) [t7, r1.1] r1.2).bind fun r8 =>
  kB (chk (loadP H false 1 t4) t5) (
  kB (chk (lookupA H (.int .i64) false .nilp t5 x6) t7) (
  k .normal ⟨[(70, .v r8.1), (67, .v t7), (66, .v x6), (65, .v t5), (64, .v t4), (63, .v t3), (62, .v x0), (69, .v r1.1), (68, .v x0), (0, .v x0), (6, .v x6), (56, .v x56), (57, .v x57), (58, .v x58)], [], r8.2⟩)))) := by kernel_rfl
def O37_15 : List IOper :=
  [⟨some 71, .bin .add .none (.tmp 58) (.const (.int .i64 1)), none⟩,
   ⟨some 58, .move (.tmp 71), none⟩]
@[simp] theorem R37_15 (x0 x56 x57 x58 : AV) :
  evK C D (.region O37_15) ⟨[(0, .v x0), (56, .v x56), (57, .v x57), (58, .v x58)], [], H⟩ k =
  (nl (binA .add .none x58 (.int .i64 1))).bind fun t0 =>
  k .normal ⟨[(58, .v t0), (71, .v t0), (0, .v x0), (56, .v x56), (57, .v x57), (58, .v x58)], [], H⟩ := by kernel_rfl
def B37_1 : IC :=
  .seq (.region O37_12)
  (.keep [0, 56, 57, 58, 59] [] (.seq (.cond (.tmp 59)
    (.skip)
    (.exit 2))
  (.keep [0, 56, 57, 58] [] (.seq (.block 3 (.seq (.region O37_13)
    (.keep [0, 6, 56, 57, 58] [] (.regionD O37_14 [(5, 0), (7, 0)]))))
  (.keep [0, 56, 57, 58] [] (.region O37_15))))))
def L37_1 : IC := .keep [0, 56, 57, 58] [] B37_1
@[simp] theorem LK37_1 (s : SK) (k : AExit → SK → Option R) : evK C D (.loop L37_1) s k = (D (.loop L37_1) (prK [0, 56, 57, 58] [] s).toSt).bind fun r => k r.1 (ofSt r.2) := by kernel_rfl
def O37_16 : List IOper :=
  [⟨some 72, .move (.tmp 0), none⟩,
   ⟨some 73, .nilCheck (.tmp 72), none⟩,
   ⟨some 74, .fieldAddr 6 (.tmp 73), none⟩,
   ⟨some 75, .load false 1 (.tmp 74), none⟩,
   ⟨some 76, .call (.func 100) [(.tmp 75)], none⟩,
   ⟨some 77, .call (.func 96) [(.tmp 76)], none⟩,
   ⟨some 78, .len .slice (.tmp 77), none⟩,
   ⟨some 79, .move (.const (.int .i64 0)), none⟩]
@[simp] theorem R37_16 (x0 : AV) :
  evK C D (.seq (.region O37_16) (.keep [0, 77, 78, 79] [] c)) ⟨[(0, .v x0)], [], H⟩ k =
  (nilC x0).bind fun t1 =>
  (fldP 6 t1).bind fun t2 =>
  (nl (loadP H false 1 t2)).bind fun t3 =>
  (callN C (.func (.func 100) [] []) [t3] H).bind fun r4 =>
  (callN C (.func (.func 96) [] []) [r4.1] r4.2).bind fun r5 =>
  (lenS r5.1).bind fun t6 =>
  evK C D c ⟨[(0, .v x0), (77, .v r5.1), (78, .v t6), (79, .v (.int .i64 0))], [], r5.2⟩ k := by kernel_rfl
def O37_17 : List IOper :=
  [⟨some 80, .bin .lss .none (.tmp 79) (.tmp 78), none⟩]
@[simp] theorem R37_17 (x0 x77 x78 x79 : AV) :
  evK C D (.seq (.region O37_17) (.keep [0, 77, 78, 79, 80] [] c)) ⟨[(0, .v x0), (77, .v x77), (78, .v x78), (79, .v x79)], [], H⟩ k =
  (nl (binA .lss .none x79 x78)).bind fun t0 =>
  evK C D c ⟨[(0, .v x0), (77, .v x77), (78, .v x78), (79, .v x79), (80, .v t0)], [], H⟩ k := by kernel_rfl
def O37_18 : List IOper :=
  [⟨some 81, .indexAddr none 1 (.tmp 77) (.tmp 79), none⟩,
   ⟨some 82, .load false 1 (.tmp 81), none⟩,
   ⟨some 8, .move (.tmp 82), none⟩]
@[simp] theorem R37_18 (x0 x77 x78 x79 : AV) :
  evK C D (.seq (.region O37_18) (.keep [0, 8, 77, 78, 79] [] c)) ⟨[(0, .v x0), (77, .v x77), (78, .v x78), (79, .v x79)], [], H⟩ k =
  (nl (idxS 1 x77 x79)).bind fun t0 =>
  (nl (loadP H false 1 t0)).bind fun t1 =>
  evK C D c ⟨[(0, .v x0), (8, .v t1), (77, .v x77), (78, .v x78), (79, .v x79)], [], H⟩ k := by kernel_rfl
def O37_19 : List IOper :=
  [⟨some 83, .move (.tmp 0), none⟩,
   ⟨some 84, .nilCheck (.tmp 83), none⟩,
   ⟨some 85, .fieldAddr 6 (.tmp 84), none⟩,
   ⟨some 86, .load false 1 (.tmp 85), none⟩,
   ⟨some 87, .move (.tmp 8), none⟩,
   ⟨some 88, .lookup (.int .i64) false .nilp (.tmp 86) (.tmp 87), none⟩,
   ⟨some 9, .move (.tmp 88), none⟩]
@[simp] theorem R37_19 (x0 x8 x77 x78 x79 : AV) :
  evK C D (.seq (.region O37_19) (.keep [0, 8, 9, 77, 78, 79] [] c)) ⟨[(0, .v x0), (8, .v x8), (77, .v x77), (78, .v x78), (79, .v x79)], [], H⟩ k =
  (nilC x0).bind fun t1 =>
  (fldP 6 t1).bind fun t2 =>
  (nl (loadP H false 1 t2)).bind fun t3 =>
  (nl (lookupA H (.int .i64) false .nilp t3 x8)).bind fun t5 =>
  evK C D c ⟨[(0, .v x0), (8, .v x8), (9, .v t5), (77, .v x77), (78, .v x78), (79, .v x79)], [], H⟩ k := by kernel_rfl
def O37_20 : List IOper :=
  [⟨some 89, .move (.tmp 9), none⟩,
   ⟨some 90, .nilCheck (.tmp 89), none⟩,
   ⟨some 91, .fieldAddr 5 (.tmp 90), none⟩,
   ⟨some 92, .load false 1 (.tmp 91), none⟩,
   ⟨some 93, .move (.tmp 92), none⟩,
   ⟨some 94, .move (.tmp 0), some (93, false)⟩,
   ⟨some 95, .nilCheck (.tmp 94), some (93, false)⟩,
   ⟨some 96, .fieldAddr 10 (.tmp 95), some (93, false)⟩,
   ⟨some 97, .load false 1 (.tmp 96), some (93, false)⟩,
   ⟨some 98, .move (.tmp 9), some (93, false)⟩,
   ⟨some 99, .nilCheck (.tmp 98), some (93, false)⟩,
   ⟨some 100, .fieldAddr 4 (.tmp 99), some (93, false)⟩,
   ⟨some 101, .load false 1 (.tmp 100), some (93, false)⟩,
   ⟨some 102, .bin .sub .none (.tmp 97) (.tmp 101), some (93, false)⟩,
   ⟨some 103, .bin .geq .none (.tmp 102) (.const (.int .i64 8)), some (93, false)⟩,
   ⟨some 104, .pick (.tmp 93) (.const (.bool true)) (.tmp 103), none⟩]
@[simp] theorem R37_20 (x0 x8 x9 x77 x78 x79 : AV) :
  evK C D (.seq (.regionD O37_20 []) (.keep [0, 8, 9, 77, 78, 79, 104] [] c)) ⟨[(0, .v x0), (8, .v x8), (9, .v x9), (77, .v x77), (78, .v x78), (79, .v x79)], [], H⟩ k =
  (nilC x9).bind fun t1 =>
  (fldP 5 t1).bind fun t2 =>
  (nl (loadP H false 1 t2)).bind fun t3 =>
  kB (AV.okB H.n t3) (
  guardK t3 false (
  (nilC x0).bind fun t6 =>
  (fldP 10 t6).bind fun t7 =>
  (nl (loadP H false 1 t7)).bind fun t8 =>
  kB (AV.okB H.n t8) (
  (nilC x9).bind fun t10 =>
  (fldP 4 t10).bind fun t11 =>
  (nl (loadP H false 1 t11)).bind fun t12 =>
  kB (AV.okB H.n t12) (
  (nl (binA .sub .none t8 t12)).bind fun t13 =>
  (nl (binA .geq .none t13 (.int .i64 8))).bind fun t14 =>
  evK C D c ⟨[(0, .v x0), (8, .v x8), (9, .v x9), (77, .v x77), (78, .v x78), (79, .v x79), (104, .v t14)], [], H⟩ k)))
  (kB (AV.okB H.n undefA) (
  kB (AV.okB H.n undefA) (
  evK C D c ⟨[(0, .v x0), (8, .v x8), (9, .v x9), (77, .v x77), (78, .v x78), (79, .v x79), (104, .v (.bool true))], [], H⟩ k)))) := by kernel_rfl
def O37_21 : List IOper :=
  [⟨some 105, .move (.tmp 9), none⟩,
   ⟨some 106, .move (.tmp 9), none⟩,
   ⟨some 107, .nilCheck (.tmp 106), none⟩,
   ⟨some 108, .fieldAddr 3 (.tmp 107), none⟩,
   ⟨some 109, .load false 1 (.tmp 108), none⟩,
   ⟨some 110, .bin .add .none (.tmp 109) (.const (.int .i64 1)), none⟩,
   ⟨some 111, .bin .rem .none (.tmp 110) (.const (.int .i64 3)), none⟩,
   ⟨some 112, .nilCheck (.tmp 105), none⟩,
   ⟨some 113, .fieldAddr 3 (.tmp 112), none⟩,
   ⟨none, .store 1 (.tmp 113) (.tmp 111), none⟩]
@[simp] theorem R37_21 (x0 x8 x9 x77 x78 x79 x104 : AV) :
  evK C D (.seq (.region O37_21) (.keep [0, 8, 9, 77, 78, 79] [] c)) ⟨[(0, .v x0), (8, .v x8), (9, .v x9), (77, .v x77), (78, .v x78), (79, .v x79), (104, .v x104)], [], H⟩ k =
  (nilC x9).bind fun t2 =>
  (fldP 3 t2).bind fun t3 =>
  (nl (loadP H false 1 t3)).bind fun t4 =>
  (nl (binA .add .none t4 (.int .i64 1))).bind fun t5 =>
  (nl (binA .rem .none t5 (.int .i64 3))).bind fun t6 =>
  (nilC x9).bind fun t7 =>
  (fldP 3 t7).bind fun t8 =>
  (storeP H 1 t6 t8).bind fun H9 =>
  evK C D c ⟨[(0, .v x0), (8, .v x8), (9, .v x9), (77, .v x77), (78, .v x78), (79, .v x79)], [], H9⟩ k := by kernel_rfl
def O37_22 : List IOper :=
  [⟨some 114, .move (.tmp 0), none⟩,
   ⟨some 115, .move (.tmp 8), none⟩,
   ⟨some 116, .move (.tmp 9), none⟩,
   ⟨some 117, .call (.func 101) [(.tmp 114), (.tmp 115), (.tmp 116)], none⟩]
@[simp] theorem R37_22 (x0 x8 x9 x77 x78 x79 : AV) :
  evK C D (.region O37_22) ⟨[(0, .v x0), (8, .v x8), (9, .v x9), (77, .v x77), (78, .v x78), (79, .v x79)], [], H⟩ k =
  (callN C (.func (.func 101) [] []) [x0, x8, x9] H).bind fun r3 =>
  k .normal ⟨[(117, .v r3.1), (116, .v x9), (115, .v x8), (114, .v x0), (0, .v x0), (8, .v x8), (9, .v x9), (77, .v x77), (78, .v x78), (79, .v x79)], [], r3.2⟩ := by kernel_rfl
def O37_23 : List IOper :=
  [⟨some 118, .bin .add .none (.tmp 79) (.const (.int .i64 1)), none⟩,
   ⟨some 79, .move (.tmp 118), none⟩]
@[simp] theorem R37_23 (x0 x77 x78 x79 : AV) :
  evK C D (.region O37_23) ⟨[(0, .v x0), (77, .v x77), (78, .v x78), (79, .v x79)], [], H⟩ k =
  (nl (binA .add .none x79 (.int .i64 1))).bind fun t0 =>
  k .normal ⟨[(79, .v t0), (118, .v t0), (0, .v x0), (77, .v x77), (78, .v x78), (79, .v x79)], [], H⟩ := by kernel_rfl
def B37_2 : IC :=
  .seq (.region O37_17)
  (.keep [0, 77, 78, 79, 80] [] (.seq (.cond (.tmp 80)
    (.skip)
    (.exit 4))
  (.keep [0, 77, 78, 79] [] (.seq (.block 5 (.seq (.region O37_18)
    (.keep [0, 8, 77, 78, 79] [] (.seq (.region O37_19)
    (.keep [0, 8, 9, 77, 78, 79] [] (.seq (.regionD O37_20 [])
    (.keep [0, 8, 9, 77, 78, 79, 104] [] (.cond (.tmp 104)
     (.seq (.region O37_21)
     (.keep [0, 8, 9, 77, 78, 79] [] (.region O37_22)))
     (.skip)))))))))
  (.keep [0, 77, 78, 79] [] (.region O37_23))))))
def L37_2 : IC := .keep [0, 77, 78, 79] [] B37_2
@[simp] theorem LK37_2 (s : SK) (k : AExit → SK → Option R) : evK C D (.loop L37_2) s k = (D (.loop L37_2) (prK [0, 77, 78, 79] [] s).toSt).bind fun r => k r.1 (ofSt r.2) := by kernel_rfl
def O37_24 : List IOper :=
  [⟨some 119, .move (.tmp 0), none⟩,
   ⟨some 120, .call (.func 93) [(.tmp 119)], none⟩]
@[simp] theorem R37_24 (x0 : AV) :
  evK C D (.seq (.region O37_24) (.keep [] [] c)) ⟨[(0, .v x0)], [], H⟩ k =
  (callN C (.func (.func 93) [] []) [x0] H).bind fun r1 =>
  evK C D c ⟨[], [], r1.2⟩ k := by kernel_rfl
def O37_25 : List IOper :=
  [⟨some 2, .move (.const (.int .i64 0)), none⟩]
@[simp] theorem R37_25 :
  evK C D (.seq (.region O37_25) (.keep [2] [] c)) ⟨[], [], H⟩ k =
  evK C D c ⟨[(2, .v (.int .i64 0))], [], H⟩ k := by kernel_rfl
def F37 : FnIR := ⟨121, 1, [.tmp 2], [],
  .seq (.region O37_0)
  (.keep [0] [] (.seq (.seq (.region O37_1)
   (.keep [0, 11] [] (.cond (.tmp 11)
    (.seq (.region O37_2)
    (.keep [2] [] (.ret)))
    (.skip))))
  (.keep [0] [] (.seq (.region O37_3)
  (.keep [0] [] (.seq (.regionD O37_4 [(8, 0)])
  (.keep [0] [] (.seq (.seq (.region O37_5)
   (.keep [0, 33, 34, 35] [] (.block 0 (.loop L37_0))))
  (.keep [0] [] (.seq (.seq (.region O37_11)
   (.keep [0, 56, 57, 58] [] (.block 2 (.loop L37_1))))
  (.keep [0] [] (.seq (.seq (.region O37_16)
   (.keep [0, 77, 78, 79] [] (.block 4 (.loop L37_2))))
  (.keep [0] [] (.seq (.region O37_24)
  (.keep [] [] (.seq (.region O37_25)
  (.keep [2] [] (.ret))))))))))))))))))⟩
/-- (*wampum/node.Node).Set -/
def O38_0 : List IOper :=
  [⟨some 4, .move (.const (.int .i64 0)), none⟩]
@[simp] theorem R38_0 (x0 x1 : AV) :
  evK C D (.seq (.region O38_0) (.keep [0, 1] [] c)) ⟨[(0, .v x0), (1, .v x1)], [], H⟩ k =
  evK C D c ⟨[(0, .v x0), (1, .v x1)], [], H⟩ k := by kernel_rfl
def O38_1 : List IOper :=
  [⟨some 5, .move (.tmp 0), none⟩,
   ⟨some 6, .bin .eql .ptr (.tmp 5) (.const .nilp), none⟩]
@[simp] theorem R38_1 (x0 x1 : AV) :
  evK C D (.seq (.region O38_1) (.keep [0, 1, 6] [] c)) ⟨[(0, .v x0), (1, .v x1)], [], H⟩ k =
  (nl (binA .eql .ptr x0 .nilp)).bind fun t1 =>
  evK C D c ⟨[(0, .v x0), (1, .v x1), (6, .v t1)], [], H⟩ k := by kernel_rfl
def O38_2 : List IOper :=
  [⟨some 4, .move (.const (.int .i64 1)), none⟩]
@[simp] theorem R38_2 (x0 x1 x6 : AV) :
  evK C D (.seq (.region O38_2) (.keep [4] [] c)) ⟨[(0, .v x0), (1, .v x1), (6, .v x6)], [], H⟩ k =
  evK C D c ⟨[(4, .v (.int .i64 1))], [], H⟩ k := by kernel_rfl
def O38_3 : List IOper :=
  [⟨some 7, .move (.tmp 0), none⟩,
   ⟨some 8, .nilCheck (.tmp 7), none⟩,
   ⟨some 9, .fieldAddr 2 (.tmp 8), none⟩,
   ⟨some 10, .load false 1 (.tmp 9), none⟩,
   ⟨some 11, .move (.tmp 1), none⟩,
   ⟨some 12, .call (.func 94) [(.tmp 10), (.tmp 11)], none⟩,
   ⟨some 4, .move (.tmp 12), none⟩]
@[simp] theorem R38_3 (x0 x1 : AV) :
  evK C D (.seq (.region O38_3) (.keep [4] [] c)) ⟨[(0, .v x0), (1, .v x1)], [], H⟩ k =
  (nilC x0).bind fun t1 =>
  (fldP 2 t1).bind fun t2 =>
  (nl (loadP H false 1 t2)).bind fun t3 =>
  (callN C (.func (.func 94) [] []) [t3, x1] H).bind fun r5 =>
  evK C D c ⟨[(4, .v r5.1)], [], r5.2⟩ k := by kernel_rfl
def F38 : FnIR := ⟨13, 2, [.tmp 4], [],
  .seq (.region O38_0)
  (.keep [0, 1] [] (.seq (.seq (.region O38_1)
   (.keep [0, 1, 6] [] (.cond (.tmp 6)
    (.seq (.region O38_2)
    (.keep [4] [] (.ret)))
    (.skip))))
  (.keep [0, 1] [] (.seq (.region O38_3)
  (.keep [4] [] (.ret))))))⟩
/-- (*wampum/node.Node).Elect -/
def O39_0 : List IOper :=
  [⟨some 4, .move (.const (.int .i64 0)), none⟩]
@[simp] theorem R39_0 (x0 x1 : AV) :
  evK C D (.seq (.region O39_0) (.keep [0, 1] [] c)) ⟨[(0, .v x0), (1, .v x1)], [], H⟩ k =
  evK C D c ⟨[(0, .v x0), (1, .v x1)], [], H⟩ k := by kernel_rfl
def O39_1 : List IOper :=
  [⟨some 7, .move (.tmp 0), none⟩,
   ⟨some 8, .bin .eql .ptr (.tmp 7) (.const .nilp), none⟩,
   ⟨some 6, .move (.tmp 8), none⟩]
@[simp] theorem R39_1 (x0 x1 : AV) :
  evK C D (.seq (.region O39_1) (.keep [0, 1, 6] [] c)) ⟨[(0, .v x0), (1, .v x1)], [], H⟩ k =
  (nl (binA .eql .ptr x0 .nilp)).bind fun t1 =>
  evK C D c ⟨[(0, .v x0), (1, .v x1), (6, .v t1)], [], H⟩ k := by kernel_rfl
def O39_2 : List IOper :=
  [⟨some 4, .move (.const (.int .i64 1)), none⟩]
@[simp] theorem R39_2 (x0 x1 x6 : AV) :
  evK C D (.seq (.region O39_2) (.keep [4] [] c)) ⟨[(0, .v x0), (1, .v x1), (6, .v x6)], [], H⟩ k =
  evK C D c ⟨[(4, .v (.int .i64 1))], [], H⟩ k := by kernel_rfl
def O39_3 : List IOper :=
  [⟨some 10, .move (.tmp 0), none⟩,
   ⟨some 11, .move (.tmp 1), none⟩,
   ⟨some 12, .call (.func 90) [(.tmp 10), (.tmp 11)], none⟩,
   ⟨some 13, .un .not (.tmp 12), none⟩,
   ⟨some 9, .move (.tmp 13), none⟩]
@[simp] theorem R39_3 (x0 x1 x6 : AV) :
  evK C D (.seq (.region O39_3) (.keep [0, 1, 9] [] c)) ⟨[(0, .v x0), (1, .v x1), (6, .v x6)], [], H⟩ k =
  (callN C (.func (.func 90) [] []) [x0, x1] H).bind fun r2 =>
  (nl (unA .not r2.1)).bind fun t3 =>
  evK C D c ⟨[(0, .v x0), (1, .v x1), (9, .v t3)], [], r2.2⟩ k := by kernel_rfl
def O39_4 : List IOper :=
  [⟨some 4, .move (.const (.int .i64 142)), none⟩]
@[simp] theorem R39_4 (x0 x1 x9 : AV) :
  evK C D (.seq (.region O39_4) (.keep [4] [] c)) ⟨[(0, .v x0), (1, .v x1), (9, .v x9)], [], H⟩ k =
  evK C D c ⟨[(4, .v (.int .i64 142))], [], H⟩ k := by kernel_rfl
def O39_5 : List IOper :=
  [⟨some 14, .move (.tmp 0), none⟩,
   ⟨some 15, .nilCheck (.tmp 14), none⟩,
   ⟨some 16, .fieldAddr 3 (.tmp 15), none⟩,
   ⟨some 17, .load false 1 (.tmp 16), none⟩,
   ⟨some 18, .move (.tmp 1), none⟩,
   ⟨some 19, .indexAddr none 1 (.tmp 17) (.tmp 18), none⟩,
   ⟨some 20, .load false 1 (.tmp 19), none⟩,
   ⟨some 21, .call (.func 13) [(.tmp 20)], none⟩,
   ⟨some 5, .move (.tmp 21), none⟩]
@[simp] theorem R39_5 (x0 x1 : AV) :
  evK C D (.seq (.region O39_5) (.keep [0, 5] [] c)) ⟨[(0, .v x0), (1, .v x1)], [], H⟩ k =
  (nilC x0).bind fun t1 =>
  (fldP 3 t1).bind fun t2 =>
  (nl (loadP H false 1 t2)).bind fun t3 =>
  (nl (idxS 1 t3 x1)).bind fun t5 =>
  (nl (loadP H false 1 t5)).bind fun t6 =>
  (callN C (.func (.func 13) [] []) [t6] H).bind fun r7 =>
  evK C D c ⟨[(0, .v x0), (5, .v r7.1)], [], r7.2⟩ k := by kernel_rfl
def O39_6 : List IOper :=
  [⟨some 22, .move (.tmp 0), none⟩,
   ⟨some 23, .call (.func 93) [(.tmp 22)], none⟩]
@[simp] theorem R39_6 (x0 x5 : AV) :
  evK C D (.seq (.region O39_6) (.keep [5] [] c)) ⟨[(0, .v x0), (5, .v x5)], [], H⟩ k =
  (callN C (.func (.func 93) [] []) [x0] H).bind fun r1 =>
  evK C D c ⟨[(5, .v x5)], [], r1.2⟩ k := by kernel_rfl
def O39_7 : List IOper :=
  [⟨some 24, .move (.tmp 5), none⟩,
   ⟨some 4, .move (.tmp 24), none⟩]
@[simp] theorem R39_7 (x5 : AV) :
  evK C D (.seq (.region O39_7) (.keep [4] [] c)) ⟨[(5, .v x5)], [], H⟩ k =
  evK C D c ⟨[(4, .v x5)], [], H⟩ k := by kernel_rfl
def F39 : FnIR := ⟨25, 2, [.tmp 4], [],
  .seq (.region O39_0)
  (.keep [0, 1] [] (.seq (.block 0 (.seq (.region O39_1)
    (.keep [0, 1, 6] [] (.cond (.tmp 6)
     (.seq (.region O39_2)
     (.keep [4] [] (.ret)))
     (.seq (.region O39_3)
     (.keep [0, 1, 9] [] (.cond (.tmp 9)
      (.seq (.region O39_4)
      (.keep [4] [] (.ret)))
      (.skip))))))))
  (.keep [0, 1] [] (.seq (.region O39_5)
  (.keep [0, 5] [] (.seq (.region O39_6)
  (.keep [5] [] (.seq (.region O39_7)
  (.keep [4] [] (.ret))))))))))⟩
/-- (*wampum/node.Node).Do -/
def O40_0 : List IOper :=
  [⟨some 5, .box true 4 (.tmp 2), none⟩,
   ⟨some 6, .move (.const (.int .i64 0)), none⟩]
@[simp] theorem R40_0 (x0 x1 x2 : AV) :
  evK C D (.seq (.region O40_0) (.keep [0, 1, 5] [5] c)) ⟨[(0, .v x0), (1, .v x1), (2, .v x2)], [], H⟩ k =
  (boxC x2).bind fun m0 =>
  evK C D c ⟨[(0, .v x0), (1, .v x1), (5, .l 5 0)], [(5, m0)], H⟩ k := by kernel_rfl
def O40_1 : List IOper :=
  [⟨some 10, .move (.tmp 0), none⟩,
   ⟨some 11, .bin .eql .ptr (.tmp 10) (.const .nilp), none⟩]
@[simp] theorem R40_1 (x0 x1 : AV) (l5 : List AV) :
  evK C D (.seq (.region O40_1) (.keep [0, 1, 5, 11] [5] c)) ⟨[(0, .v x0), (1, .v x1), (5, .l 5 0)], [(5, l5)], H⟩ k =
  (nl (binA .eql .ptr x0 .nilp)).bind fun t1 =>
  evK C D c ⟨[(0, .v x0), (1, .v x1), (5, .l 5 0), (11, .v t1)], [(5, l5)], H⟩ k := by kernel_rfl
def O40_2 : List IOper :=
  [⟨some 6, .move (.const (.int .i64 1)), none⟩]
@[simp] theorem R40_2 (x0 x1 x11 : AV) (l5 : List AV) :
  evK C D (.seq (.region O40_2) (.keep [6] [] c)) ⟨[(0, .v x0), (1, .v x1), (5, .l 5 0), (11, .v x11)], [(5, l5)], H⟩ k =
  evK C D c ⟨[(6, .v (.int .i64 1))], [], H⟩ k := by kernel_rfl
def O40_3 : List IOper :=
  [⟨some 13, .move (.tmp 0), none⟩,
   ⟨some 14, .nilCheck (.tmp 13), none⟩,
   ⟨some 15, .fieldAddr 5 (.tmp 14), none⟩,
   ⟨some 16, .load false 1 (.tmp 15), none⟩,
   ⟨some 17, .move (.tmp 1), none⟩,
   ⟨some 18, .lookup (.int .i64) true .nilp (.tmp 16) (.tmp 17), none⟩,
   ⟨some 12, .move (.tmp 18), none⟩,
   ⟨some 19, .extract (.tmp 12) 0, none⟩,
   ⟨some 20, .extract (.tmp 12) 1, none⟩,
   ⟨some 7, .move (.tmp 19), none⟩,
   ⟨some 8, .move (.tmp 20), none⟩]
@[simp] theorem R40_3 (x0 x1 : AV) (l5 : List AV) :
  evK C D (.seq (.region O40_3) (.keep [0, 5, 7, 8] [5] c)) ⟨[(0, .v x0), (1, .v x1), (5, .l 5 0)], [(5, l5)], H⟩ k =
  (nilC x0).bind fun t1 =>
  (fldP 5 t1).bind fun t2 =>
  (nl (loadP H false 1 t2)).bind fun t3 =>
  (nl (lookupA H (.int .i64) true .nilp t3 x1)).bind fun t5 =>
  (nl (extA 0 t5)).bind fun t7 =>
  (nl (extA 1 t5)).bind fun t8 =>
  evK C D c ⟨[(0, .v x0), (5, .l 5 0), (7, .v t7), (8, .v t8)], [(5, l5)], H⟩ k := by kernel_rfl
def O40_4 : List IOper :=
  [⟨some 21, .move (.tmp 8), none⟩,
   ⟨some 22, .un .not (.tmp 21), none⟩]
@[simp] theorem R40_4 (x0 x7 x8 : AV) (l5 : List AV) :
  evK C D (.seq (.region O40_4) (.keep [0, 5, 7, 22] [5] c)) ⟨[(0, .v x0), (5, .l 5 0), (7, .v x7), (8, .v x8)], [(5, l5)], H⟩ k =
  (nl (unA .not x8)).bind fun t1 =>
  evK C D c ⟨[(0, .v x0), (5, .l 5 0), (7, .v x7), (22, .v t1)], [(5, l5)], H⟩ k := by kernel_rfl
def O40_5 : List IOper :=
  [⟨some 6, .move (.const (.int .i64 222)), none⟩]
@[simp] theorem R40_5 (x0 x7 x22 : AV) (l5 : List AV) :
  evK C D (.seq (.region O40_5) (.keep [6] [] c)) ⟨[(0, .v x0), (5, .l 5 0), (7, .v x7), (22, .v x22)], [(5, l5)], H⟩ k =
  evK C D c ⟨[(6, .v (.int .i64 222))], [], H⟩ k := by kernel_rfl
def O40_6 : List IOper :=
  [⟨some 23, .move (.tmp 7), none⟩,
   ⟨some 24, .load true 4 (.tmp 5), none⟩,
   ⟨some 25, .call (.func 102) [(.tmp 23), (.tmp 24)], none⟩,
   ⟨some 9, .move (.tmp 25), none⟩]
@[simp] theorem R40_6 (x0 x7 : AV) (l5 : List AV) :
  evK C D (.seq (.region O40_6) (.keep [0, 9] [] c)) ⟨[(0, .v x0), (5, .l 5 0), (7, .v x7)], [(5, l5)], H⟩ k =
  (nl (rd true 4 0 l5)).bind fun t1 =>
  (callN C (.func (.func 102) [] []) [x7, t1] H).bind fun r2 =>
  evK C D c ⟨[(0, .v x0), (9, .v r2.1)], [], r2.2⟩ k := by kernel_rfl
def O40_7 : List IOper :=
  [⟨some 26, .move (.tmp 0), none⟩,
   ⟨some 27, .call (.func 93) [(.tmp 26)], none⟩]
@[simp] theorem R40_7 (x0 x9 : AV) :
  evK C D (.seq (.region O40_7) (.keep [9] [] c)) ⟨[(0, .v x0), (9, .v x9)], [], H⟩ k =
  (callN C (.func (.func 93) [] []) [x0] H).bind fun r1 =>
  evK C D c ⟨[(9, .v x9)], [], r1.2⟩ k := by kernel_rfl
def O40_8 : List IOper :=
  [⟨some 28, .move (.tmp 9), none⟩,
   ⟨some 6, .move (.tmp 28), none⟩]
@[simp] theorem R40_8 (x9 : AV) :
  evK C D (.seq (.region O40_8) (.keep [6] [] c)) ⟨[(9, .v x9)], [], H⟩ k =
  evK C D c ⟨[(6, .v x9)], [], H⟩ k := by kernel_rfl
def F40 : FnIR := ⟨29, 3, [.tmp 6], [5],
  .seq (.region O40_0)
  (.keep [0, 1, 5] [5] (.seq (.seq (.region O40_1)
   (.keep [0, 1, 5, 11] [5] (.cond (.tmp 11)
    (.seq (.region O40_2)
    (.keep [6] [] (.ret)))
    (.skip))))
  (.keep [0, 1, 5] [5] (.seq (.region O40_3)
  (.keep [0, 5, 7, 8] [5] (.seq (.seq (.region O40_4)
   (.keep [0, 5, 7, 22] [5] (.cond (.tmp 22)
    (.seq (.region O40_5)
    (.keep [6] [] (.ret)))
    (.skip))))
  (.keep [0, 5, 7] [5] (.seq (.region O40_6)
  (.keep [0, 9] [] (.seq (.region O40_7)
  (.keep [9] [] (.seq (.region O40_8)
  (.keep [6] [] (.ret))))))))))))))⟩
/-- (*wampum/node.Node).Out -/
def O41_0 : List IOper :=
  [⟨some 2, .move (.const .nils), none⟩]
@[simp] theorem R41_0 (x0 : AV) :
  evK C D (.seq (.region O41_0) (.keep [0] [] c)) ⟨[(0, .v x0)], [], H⟩ k =
  evK C D c ⟨[(0, .v x0)], [], H⟩ k := by kernel_rfl
def O41_1 : List IOper :=
  [⟨some 4, .move (.tmp 0), none⟩,
   ⟨some 5, .bin .eql .ptr (.tmp 4) (.const .nilp), none⟩]
@[simp] theorem R41_1 (x0 : AV) :
  evK C D (.seq (.region O41_1) (.keep [0, 5] [] c)) ⟨[(0, .v x0)], [], H⟩ k =
  (nl (binA .eql .ptr x0 .nilp)).bind fun t1 =>
  evK C D c ⟨[(0, .v x0), (5, .v t1)], [], H⟩ k := by kernel_rfl
def O41_2 : List IOper :=
  [⟨some 2, .move (.const .nils), none⟩]
@[simp] theorem R41_2 (x0 x5 : AV) :
  evK C D (.seq (.region O41_2) (.keep [2] [] c)) ⟨[(0, .v x0), (5, .v x5)], [], H⟩ k =
  evK C D c ⟨[(2, .v .nils)], [], H⟩ k := by kernel_rfl
def O41_3 : List IOper :=
  [⟨some 6, .move (.tmp 0), none⟩,
   ⟨some 7, .nilCheck (.tmp 6), none⟩,
   ⟨some 8, .fieldAddr 11 (.tmp 7), none⟩,
   ⟨some 9, .load false 1 (.tmp 8), none⟩,
   ⟨some 3, .move (.tmp 9), none⟩]
@[simp] theorem R41_3 (x0 : AV) :
  evK C D (.seq (.region O41_3) (.keep [0, 3] [] c)) ⟨[(0, .v x0)], [], H⟩ k =
  (nilC x0).bind fun t1 =>
  (fldP 11 t1).bind fun t2 =>
  (nl (loadP H false 1 t2)).bind fun t3 =>
  evK C D c ⟨[(0, .v x0), (3, .v t3)], [], H⟩ k := by kernel_rfl
def O41_4 : List IOper :=
  [⟨some 10, .move (.tmp 0), none⟩,
   ⟨some 11, .nilCheck (.tmp 10), none⟩,
   ⟨some 12, .fieldAddr 11 (.tmp 11), none⟩,
   ⟨none, .store 1 (.tmp 12) (.const .nils), none⟩]
@[simp] theorem R41_4 (x0 x3 : AV) :
  evK C D (.seq (.region O41_4) (.keep [3] [] c)) ⟨[(0, .v x0), (3, .v x3)], [], H⟩ k =
  (nilC x0).bind fun t1 =>
  (fldP 11 t1).bind fun t2 =>
  (storeP H 1 .nils t2).bind fun H3 =>
  evK C D c ⟨[(3, .v x3)], [], H3⟩ k := by kernel_rfl
def O41_5 : List IOper :=
  [⟨some 13, .move (.tmp 3), none⟩,
   ⟨some 2, .move (.tmp 13), none⟩]
@[simp] theorem R41_5 (x3 : AV) :
  evK C D (.seq (.region O41_5) (.keep [2] [] c)) ⟨[(3, .v x3)], [], H⟩ k =
  evK C D c ⟨[(2, .v x3)], [], H⟩ k := by kernel_rfl
def F41 : FnIR := ⟨14, 1, [.tmp 2], [],
  .seq (.region O41_0)
  (.keep [0] [] (.seq (.seq (.region O41_1)
   (.keep [0, 5] [] (.cond (.tmp 5)
    (.seq (.region O41_2)
    (.keep [2] [] (.ret)))
    (.skip))))
  (.keep [0] [] (.seq (.region O41_3)
  (.keep [0, 3] [] (.seq (.region O41_4)
  (.keep [3] [] (.seq (.region O41_5)
  (.keep [2] [] (.ret))))))))))⟩
/-- (*wampum/node.Node).Holds -/
def O42_0 : List IOper :=
  [⟨some 4, .move (.const (.bool false)), none⟩]
@[simp] theorem R42_0 (x0 x1 : AV) :
  evK C D (.seq (.region O42_0) (.keep [0, 1] [] c)) ⟨[(0, .v x0), (1, .v x1)], [], H⟩ k =
  evK C D c ⟨[(0, .v x0), (1, .v x1)], [], H⟩ k := by kernel_rfl
def O42_1 : List IOper :=
  [⟨some 5, .move (.tmp 0), none⟩,
   ⟨some 6, .move (.tmp 1), none⟩,
   ⟨some 7, .call (.func 90) [(.tmp 5), (.tmp 6)], none⟩,
   ⟨some 8, .move (.tmp 7), none⟩,
   ⟨some 9, .move (.tmp 0), some (8, true)⟩,
   ⟨some 10, .nilCheck (.tmp 9), some (8, true)⟩,
   ⟨some 11, .fieldAddr 4 (.tmp 10), some (8, true)⟩,
   ⟨some 12, .load false 1 (.tmp 11), some (8, true)⟩,
   ⟨some 13, .move (.tmp 1), some (8, true)⟩,
   ⟨some 14, .indexAddr none 1 (.tmp 12) (.tmp 13), some (8, true)⟩,
   ⟨some 15, .load false 1 (.tmp 14), some (8, true)⟩,
   ⟨some 16, .call (.func 28) [(.tmp 15)], some (8, true)⟩,
   ⟨some 17, .pick (.tmp 8) (.tmp 16) (.const (.bool false)), none⟩,
   ⟨some 4, .move (.tmp 17), none⟩]
@[simp] theorem R42_1 (x0 x1 : AV) :
  evK C D (.seq (.region O42_1) (.keep [4] [] c)) ⟨[(0, .v x0), (1, .v x1)], [], H⟩ k =
  (callN C (.func (.func 90) [] []) [x0, x1] H).bind fun r2 =>
  guardK r2.1 true (
  (nilC x0).bind fun t5 =>
  (fldP 4 t5).bind fun t6 =>
  (nl (loadP r2.2 false 1 t6)).bind fun t7 =>
  (nl (idxS 1 t7 x1)).bind fun t9 =>
  (nl (loadP r2.2 false 1 t9)).bind fun t10 =>
  (callN C (.func (.func 28) [] []) [t10] r2.2).bind fun r11 =>
  evK C D c ⟨[(4, .v r11.1)], [], r11.2⟩ k)
  (evK C D c ⟨[(4, .v (.bool false))], [], r2.2⟩ k) := by kernel_rfl
def F42 : FnIR := ⟨18, 2, [.tmp 4], [],
  .seq (.region O42_0)
  (.keep [0, 1] [] (.seq (.region O42_1)
  (.keep [4] [] (.ret))))⟩
/-- (*wampum/node.Node).State -/
def O43_0 : List IOper :=
  [⟨some 4, .move (.const .nilp), none⟩]
@[simp] theorem R43_0 (x0 x1 : AV) :
  evK C D (.seq (.region O43_0) (.keep [0, 1] [] c)) ⟨[(0, .v x0), (1, .v x1)], [], H⟩ k =
  evK C D c ⟨[(0, .v x0), (1, .v x1)], [], H⟩ k := by kernel_rfl
def O43_1 : List IOper :=
  [⟨some 5, .move (.tmp 0), none⟩,
   ⟨some 6, .move (.tmp 1), none⟩,
   ⟨some 7, .call (.func 90) [(.tmp 5), (.tmp 6)], none⟩,
   ⟨some 8, .un .not (.tmp 7), none⟩]
@[simp] theorem R43_1 (x0 x1 : AV) :
  evK C D (.seq (.region O43_1) (.keep [0, 1, 8] [] c)) ⟨[(0, .v x0), (1, .v x1)], [], H⟩ k =
  (callN C (.func (.func 90) [] []) [x0, x1] H).bind fun r2 =>
  (nl (unA .not r2.1)).bind fun t3 =>
  evK C D c ⟨[(0, .v x0), (1, .v x1), (8, .v t3)], [], r2.2⟩ k := by kernel_rfl
def O43_2 : List IOper :=
  [⟨some 4, .move (.const .nilp), none⟩]
@[simp] theorem R43_2 (x0 x1 x8 : AV) :
  evK C D (.seq (.region O43_2) (.keep [4] [] c)) ⟨[(0, .v x0), (1, .v x1), (8, .v x8)], [], H⟩ k =
  evK C D c ⟨[(4, .v .nilp)], [], H⟩ k := by kernel_rfl
def O43_3 : List IOper :=
  [⟨some 9, .move (.tmp 0), none⟩,
   ⟨some 10, .nilCheck (.tmp 9), none⟩,
   ⟨some 11, .fieldAddr 3 (.tmp 10), none⟩,
   ⟨some 12, .load false 1 (.tmp 11), none⟩,
   ⟨some 13, .move (.tmp 1), none⟩,
   ⟨some 14, .indexAddr none 1 (.tmp 12) (.tmp 13), none⟩,
   ⟨some 15, .load false 1 (.tmp 14), none⟩,
   ⟨some 16, .call (.func 20) [(.tmp 15)], none⟩,
   ⟨some 4, .move (.tmp 16), none⟩]
@[simp] theorem R43_3 (x0 x1 : AV) :
  evK C D (.seq (.region O43_3) (.keep [4] [] c)) ⟨[(0, .v x0), (1, .v x1)], [], H⟩ k =
  (nilC x0).bind fun t1 =>
  (fldP 3 t1).bind fun t2 =>
  (nl (loadP H false 1 t2)).bind fun t3 =>
  (nl (idxS 1 t3 x1)).bind fun t5 =>
  (nl (loadP H false 1 t5)).bind fun t6 =>
  (callN C (.func (.func 20) [] []) [t6] H).bind fun r7 =>
  evK C D c ⟨[(4, .v r7.1)], [], r7.2⟩ k := by kernel_rfl
def F43 : FnIR := ⟨17, 2, [.tmp 4], [],
  .seq (.region O43_0)
  (.keep [0, 1] [] (.seq (.seq (.region O43_1)
   (.keep [0, 1, 8] [] (.cond (.tmp 8)
    (.seq (.region O43_2)
    (.keep [4] [] (.ret)))
    (.skip))))
  (.keep [0, 1] [] (.seq (.region O43_3)
  (.keep [4] [] (.ret))))))⟩
/-- (*wampum/node.Node).Idle -/
def O44_0 : List IOper :=
  [⟨some 2, .move (.const (.bool false)), none⟩]
@[simp] theorem R44_0 (x0 : AV) :
  evK C D (.seq (.region O44_0) (.keep [0] [] c)) ⟨[(0, .v x0)], [], H⟩ k =
  evK C D c ⟨[(0, .v x0)], [], H⟩ k := by kernel_rfl
def O44_1 : List IOper :=
  [⟨some 7, .move (.tmp 0), none⟩,
   ⟨some 8, .bin .eql .ptr (.tmp 7) (.const .nilp), none⟩]
@[simp] theorem R44_1 (x0 : AV) :
  evK C D (.seq (.region O44_1) (.keep [0, 8] [] c)) ⟨[(0, .v x0)], [], H⟩ k =
  (nl (binA .eql .ptr x0 .nilp)).bind fun t1 =>
  evK C D c ⟨[(0, .v x0), (8, .v t1)], [], H⟩ k := by kernel_rfl
def O44_2 : List IOper :=
  [⟨some 2, .move (.const (.bool false)), none⟩]
@[simp] theorem R44_2 (x0 x8 : AV) :
  evK C D (.seq (.region O44_2) (.keep [2] [] c)) ⟨[(0, .v x0), (8, .v x8)], [], H⟩ k =
  evK C D c ⟨[(2, .v (.bool false))], [], H⟩ k := by kernel_rfl
def O44_3 : List IOper :=
  [⟨some 9, .move (.tmp 0), none⟩,
   ⟨some 10, .nilCheck (.tmp 9), none⟩,
   ⟨some 11, .fieldAddr 5 (.tmp 10), none⟩,
   ⟨some 12, .load false 1 (.tmp 11), none⟩,
   ⟨some 13, .rangeM (.tmp 12), none⟩]
-- R44_3: not resolved
def O44_4 : List IOper :=
  [⟨some 16, .entryM (.tmp 13), none⟩,
   ⟨some 17, .extract (.tmp 16) 1, none⟩,
   ⟨some 4, .move (.tmp 17), none⟩]
def O44_5 : List IOper :=
  [⟨some 19, .move (.tmp 4), none⟩,
   ⟨some 20, .call (.func 85) [(.tmp 19)], none⟩,
   ⟨some 18, .move (.tmp 20), none⟩,
   ⟨some 21, .extract (.tmp 18) 0, none⟩,
   ⟨some 22, .extract (.tmp 18) 1, none⟩,
   ⟨some 6, .alloc true 2 [(.int .i64 0), (.int .i64 0)], none⟩,
   ⟨some 5, .move (.tmp 21), none⟩,
   ⟨none, .store 2 (.tmp 6) (.tmp 22), none⟩]
def O44_6 : List IOper :=
  [⟨some 23, .move (.tmp 5), none⟩,
   ⟨some 24, .bin .eql .int (.tmp 23) (.const (.int .i64 0)), none⟩,
   ⟨some 25, .move (.tmp 24), none⟩,
   ⟨some 26, .move (.tmp 4), some (25, false)⟩,
   ⟨some 27, .call (.func 103) [(.tmp 26)], some (25, false)⟩,
   ⟨some 28, .un .not (.tmp 27), some (25, false)⟩,
   ⟨some 29, .pick (.tmp 25) (.const (.bool true)) (.tmp 28), none⟩]
def O44_7 : List IOper :=
  [⟨some 2, .move (.const (.bool false)), none⟩]
def O44_8 : List IOper :=
  [⟨some 2, .move (.const (.bool true)), none⟩]
def F44 : FnIR := ⟨30, 1, [.tmp 2], [6],
  .seq (.region O44_0)
  (.keep [0] [] (.seq (.seq (.region O44_1)
   (.keep [0, 8] [] (.cond (.tmp 8)
    (.seq (.region O44_2)
    (.keep [2] [] (.ret)))
    (.skip))))
  (.keep [0] [] (.seq (.seq (.region O44_3)
   (.keep [13] [] (.mapR 14 15 (.tmp 13) 0 [2] [] (.keep [13] [] (.block 1 (.seq (.region O44_4)
     (.keep [4, 13] [] (.seq (.region O44_5)
     (.keep [4, 5, 13] [] (.seq (.region O44_6)
     (.keep [13, 29] [] (.cond (.tmp 29)
      (.seq (.region O44_7)
      (.keep [2] [] (.ret)))
      (.skip)))))))))))))
  (.keep [] [] (.seq (.region O44_8)
  (.keep [2] [] (.ret))))))))⟩
/-- (*wampum/node.Node).has -/
def O90_0 : List IOper :=
  [⟨some 4, .move (.const (.bool false)), none⟩]
@[simp] theorem R90_0 (x0 x1 : AV) :
  evK C D (.seq (.region O90_0) (.keep [0, 1] [] c)) ⟨[(0, .v x0), (1, .v x1)], [], H⟩ k =
  evK C D c ⟨[(0, .v x0), (1, .v x1)], [], H⟩ k := by kernel_rfl
def O90_1 : List IOper :=
  [⟨some 5, .move (.tmp 0), none⟩,
   ⟨some 6, .bin .neq .ptr (.tmp 5) (.const .nilp), none⟩,
   ⟨some 7, .move (.tmp 6), none⟩,
   ⟨some 8, .move (.tmp 1), some (7, true)⟩,
   ⟨some 9, .bin .geq .none (.tmp 8) (.const (.int .i64 0)), some (7, true)⟩,
   ⟨some 10, .pick (.tmp 7) (.tmp 9) (.const (.bool false)), none⟩,
   ⟨some 11, .move (.tmp 10), none⟩,
   ⟨some 12, .move (.tmp 1), some (11, true)⟩,
   ⟨some 13, .move (.tmp 0), some (11, true)⟩,
   ⟨some 14, .nilCheck (.tmp 13), some (11, true)⟩,
   ⟨some 15, .fieldAddr 3 (.tmp 14), some (11, true)⟩,
   ⟨some 16, .load false 1 (.tmp 15), some (11, true)⟩,
   ⟨some 17, .len .slice (.tmp 16), some (11, true)⟩,
   ⟨some 18, .bin .lss .none (.tmp 12) (.tmp 17), some (11, true)⟩,
   ⟨some 19, .pick (.tmp 11) (.tmp 18) (.const (.bool false)), none⟩,
   ⟨some 4, .move (.tmp 19), none⟩]
@[simp] theorem R90_1 (x0 x1 : AV) :
  evK C D (.seq (.region O90_1) (.keep [4] [] c)) ⟨[(0, .v x0), (1, .v x1)], [], H⟩ k =
  (nl (binA .neq .ptr x0 .nilp)).bind fun t1 =>
  guardK t1 true (
  (nl (binA .geq .none x1 (.int .i64 0))).bind fun t4 =>
  guardK t4 true (
  (nilC x0).bind fun t9 =>
  (fldP 3 t9).bind fun t10 =>
  (nl (loadP H false 1 t10)).bind fun t11 =>
  (lenS t11).bind fun t12 =>
  (nl (binA .lss .none x1 t12)).bind fun t13 =>
  evK C D c ⟨[(4, .v t13)], [], H⟩ k)
  (evK C D c ⟨[(4, .v (.bool false))], [], H⟩ k))
  (evK C D c ⟨[(4, .v (.bool false))], [], H⟩ k) := by kernel_rfl
def F90 : FnIR := ⟨20, 2, [.tmp 4], [],
  .seq (.region O90_0)
  (.keep [0, 1] [] (.seq (.region O90_1)
  (.keep [4] [] (.ret))))⟩
end Go.Proofs.YtpdmmpajjdaebaaGreat
