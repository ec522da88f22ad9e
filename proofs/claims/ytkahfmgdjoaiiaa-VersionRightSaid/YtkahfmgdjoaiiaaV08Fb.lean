/- Functions of the program in our form (V08, b). No condition. -/
import Derived.Test.YtkahfmgdjoaiiaaAmZ
import Derived.Test.YtkahfmgdjoaiiaaRows
set_option linter.unusedVariables false
set_option linter.unusedSimpArgs false
namespace Go.Proofs.Ytkahfmgdjoaiiaa
open Go.Wam
variable {R : Type} (C : CallF) (D : IC → St → Option (AExit × St)) (c : IC) (H : AHeap) (k : AExit → SK → Option R)
/-- wampum/version.Read -/
def O19_0 : List IOper :=
  [⟨some 5, .box true 12 (.tmp 0), none⟩,
   ⟨some 6, .box true 2 (.tmp 1), none⟩,
   ⟨some 7, .box true 2 (.tmp 2), none⟩,
   ⟨some 10, .alloc true 5 [(.int .i64 0), (.int .i64 0), (.str []), (.bool false), (.int .i64 0)], none⟩,
   ⟨some 11, .move (.const (.bool false)), none⟩,
   ⟨some 12, .alloc true 5 [(.int .i64 0), (.int .i64 0), (.str []), (.int .i64 0), (.int .i64 0)], none⟩,
   ⟨some 13, .move (.const (.int .i64 0)), none⟩]
@[simp] theorem R19_0 (x0 x1 x2 x3 x4 : AV) :
  evK C D (.seq (.region O19_0) (.keep [3, 4, 5, 6, 7, 10, 11, 12] [5, 6, 7, 10, 12] c)) ⟨[(0, .v x0), (1, .v x1), (2, .v x2), (3, .v x3), (4, .v x4)], [], H⟩ k =
  (boxC x0).bind fun m0 =>
  (boxC x1).bind fun m1 =>
  (boxC x2).bind fun m2 =>
  evK C D c ⟨[(3, .v x3), (4, .v x4), (5, .l 5 0), (6, .l 6 0), (7, .l 7 0), (10, .l 10 0), (11, .v (.bool false)), (12, .l 12 0)], [(5, m0), (6, m1), (7, m2), (10, [(.int .i64 0), (.int .i64 0), (.str []), (.bool false), (.int .i64 0)]), (12, [(.int .i64 0), (.int .i64 0), (.str []), (.int .i64 0), (.int .i64 0)])], H⟩ k := by kernel_rfl
def O19_1 : List IOper :=
  [⟨some 17, .fieldAddr 2 (.tmp 5), none⟩,
   ⟨some 18, .load true 10 (.tmp 17), none⟩,
   ⟨some 14, .alloc true 10 [(.int .i64 0), (.int .i64 0), (.str []), (.int .i64 0), (.int .i64 0), (.int .i64 0), (.int .i64 0), (.int .i64 0), (.str []), (.bool false)], none⟩,
   ⟨none, .store 10 (.tmp 14) (.tmp 18), none⟩]
@[simp] theorem R19_1 (x3 x4 x11 : AV) (l5 l6 l7 l10 l12 : List AV) :
  evK C D (.seq (.region O19_1) (.keep [3, 4, 5, 6, 7, 10, 11, 12, 14] [5, 6, 7, 10, 12, 14] c)) ⟨[(3, .v x3), (4, .v x4), (5, .l 5 0), (6, .l 6 0), (7, .l 7 0), (10, .l 10 0), (11, .v x11), (12, .l 12 0)], [(5, l5), (6, l6), (7, l7), (10, l10), (12, l12)], H⟩ k =
  (nl (rd true 10 2 l5)).bind fun t1 =>
  (stL 10 0 t1 [(.int .i64 0), (.int .i64 0), (.str []), (.int .i64 0), (.int .i64 0), (.int .i64 0), (.int .i64 0), (.int .i64 0), (.str []), (.bool false)]).bind fun m3 =>
  evK C D c ⟨[(3, .v x3), (4, .v x4), (5, .l 5 0), (6, .l 6 0), (7, .l 7 0), (10, .l 10 0), (11, .v x11), (12, .l 12 0), (14, .l 14 0)], [(5, l5), (6, l6), (7, l7), (10, l10), (12, l12), (14, m3)], H⟩ k := by kernel_rfl
def O19_2 : List IOper :=
  [⟨some 20, .fieldAddr 1 (.tmp 5), none⟩,
   ⟨some 21, .load false 1 (.tmp 20), none⟩,
   ⟨some 22, .move (.tmp 21), none⟩,
   ⟨some 23, .fieldAddr 0 (.tmp 14), some (22, true)⟩,
   ⟨some 24, .fieldAddr 0 (.tmp 23), some (22, true)⟩,
   ⟨some 25, .load false 1 (.tmp 24), some (22, true)⟩,
   ⟨some 26, .move (.tmp 3), some (22, true)⟩,
   ⟨some 27, .bin .eql .int (.tmp 25) (.tmp 26), some (22, true)⟩,
   ⟨some 28, .pick (.tmp 22) (.tmp 27) (.const (.bool false)), none⟩,
   ⟨some 29, .move (.tmp 28), none⟩,
   ⟨some 30, .fieldAddr 0 (.tmp 14), some (29, true)⟩,
   ⟨some 31, .fieldAddr 1 (.tmp 30), some (29, true)⟩,
   ⟨some 32, .load false 1 (.tmp 31), some (29, true)⟩,
   ⟨some 33, .move (.tmp 4), some (29, true)⟩,
   ⟨some 34, .bin .eql .int (.tmp 32) (.tmp 33), some (29, true)⟩,
   ⟨some 35, .pick (.tmp 29) (.tmp 34) (.const (.bool false)), none⟩,
   ⟨some 19, .move (.tmp 35), none⟩]
@[simp] theorem R19_2 (x3 x4 x11 : AV) (l5 l6 l7 l10 l12 l14 : List AV) :
  evK C D (.seq (.region O19_2) (.keep [3, 5, 6, 7, 10, 11, 12, 14, 19] [5, 6, 7, 10, 12, 14] c)) ⟨[(3, .v x3), (4, .v x4), (5, .l 5 0), (6, .l 6 0), (7, .l 7 0), (10, .l 10 0), (11, .v x11), (12, .l 12 0), (14, .l 14 0)], [(5, l5), (6, l6), (7, l7), (10, l10), (12, l12), (14, l14)], H⟩ k =
  (nl (rd false 1 1 l5)).bind fun t1 =>
  guardK t1 true (
  (nl (rd false 1 0 l14)).bind fun t5 =>
  (nl (binA .eql .int t5 x3)).bind fun t7 =>
  guardK t7 true (
  (nl (rd false 1 1 l14)).bind fun t12 =>
  (nl (binA .eql .int t12 x4)).bind fun t14 =>
  evK C D c ⟨[(3, .v x3), (5, .l 5 0), (6, .l 6 0), (7, .l 7 0), (10, .l 10 0), (11, .v x11), (12, .l 12 0), (14, .l 14 0), (19, .v t14)], [(5, l5), (6, l6), (7, l7), (10, l10), (12, l12), (14, l14)], H⟩ k)
  (evK C D c ⟨[(3, .v x3), (5, .l 5 0), (6, .l 6 0), (7, .l 7 0), (10, .l 10 0), (11, .v x11), (12, .l 12 0), (14, .l 14 0), (19, .v (.bool false))], [(5, l5), (6, l6), (7, l7), (10, l10), (12, l12), (14, l14)], H⟩ k))
  (evK C D c ⟨[(3, .v x3), (5, .l 5 0), (6, .l 6 0), (7, .l 7 0), (10, .l 10 0), (11, .v x11), (12, .l 12 0), (14, .l 14 0), (19, .v (.bool false))], [(5, l5), (6, l6), (7, l7), (10, l10), (12, l12), (14, l14)], H⟩ k) := by kernel_rfl
def O19_3 : List IOper :=
  [⟨some 36, .fieldAddr 9 (.tmp 14), none⟩,
   ⟨some 37, .load false 1 (.tmp 36), none⟩,
   ⟨some 38, .un .not (.tmp 37), none⟩]
@[simp] theorem R19_3 (x3 x11 x19 : AV) (l5 l6 l7 l10 l12 l14 : List AV) :
  evK C D (.seq (.region O19_3) (.keep [3, 10, 11, 12, 14, 38] [10, 12, 14] c)) ⟨[(3, .v x3), (5, .l 5 0), (6, .l 6 0), (7, .l 7 0), (10, .l 10 0), (11, .v x11), (12, .l 12 0), (14, .l 14 0), (19, .v x19)], [(5, l5), (6, l6), (7, l7), (10, l10), (12, l12), (14, l14)], H⟩ k =
  (nl (rd false 1 9 l14)).bind fun t1 =>
  (nl (unA .not t1)).bind fun t2 =>
  evK C D c ⟨[(3, .v x3), (10, .l 10 0), (11, .v x11), (12, .l 12 0), (14, .l 14 0), (38, .v t2)], [(10, l10), (12, l12), (14, l14)], H⟩ k := by kernel_rfl
def O19_4 : List IOper :=
  [⟨some 39, .fieldAddr 6 (.tmp 14), none⟩,
   ⟨some 40, .load true 2 (.tmp 39), none⟩,
   ⟨some 41, .fieldAddr 8 (.tmp 14), none⟩,
   ⟨some 42, .load false 1 (.tmp 41), none⟩,
   ⟨some 43, .move (.tmp 3), none⟩,
   ⟨some 44, .build [(.int .i64 0), (.int .i64 0), (.str []), (.bool false), (.int .i64 0)] [(0, 2, (.tmp 40)), (2, 1, (.tmp 42)), (4, 1, (.tmp 43))], none⟩,
   ⟨none, .store 5 (.tmp 10) (.tmp 44), none⟩,
   ⟨some 11, .move (.const (.bool true)), none⟩]
@[simp] theorem R19_4 (x3 x11 x38 : AV) (l10 l12 l14 : List AV) :
  evK C D (.region O19_4) ⟨[(3, .v x3), (10, .l 10 0), (11, .v x11), (12, .l 12 0), (14, .l 14 0), (38, .v x38)], [(10, l10), (12, l12), (14, l14)], H⟩ k =
  (nl (rd true 2 6 l14)).bind fun t1 =>
  (nl (rd false 1 8 l14)).bind fun t3 =>
  ((fillC [(0, 2, t1), (2, 1, t3), (4, 1, x3)] [(.int .i64 0), (.int .i64 0), (.str []), (.bool false), (.int .i64 0)]).map AV.agg).bind fun t5 =>
  (stL 5 0 t5 l10).bind fun m6 =>
  k .normal ⟨[(11, .v (.bool true)), (44, .v t5), (43, .v x3), (42, .v t3), (41, .l 14 8), (40, .v t1), (39, .l 14 6), (3, .v x3), (10, .l 10 0), (11, .v x11), (12, .l 12 0), (14, .l 14 0), (38, .v x38)], [(10, m6), (10, l10), (12, l12), (14, l14)], H⟩ := by kernel_rfl
def O19_5 : List IOper :=
  [⟨some 45, .load true 5 (.tmp 10), none⟩,
   ⟨none, .store 5 (.tmp 10) (.tmp 45), none⟩,
   ⟨some 46, .move (.tmp 11), none⟩,
   ⟨some 47, .load true 5 (.tmp 12), none⟩,
   ⟨some 11, .move (.tmp 46), none⟩,
   ⟨none, .store 5 (.tmp 12) (.tmp 47), none⟩,
   ⟨some 13, .move (.const (.int .i64 0)), none⟩]
@[simp] theorem R19_5 (x11 : AV) (l10 l12 : List AV) :
  evK C D (.seq (.regionD O19_5 [(3, 0)]) (.keep [10, 11, 12, 13] [10, 12] c)) ⟨[(10, .l 10 0), (11, .v x11), (12, .l 12 0)], [(10, l10), (12, l12)], H⟩ k =
  (nl (rd true 5 0 l10)).bind fun t0 =>
  kB (AV.okB H.n t0) (
  (stL 5 0 t0 l10).bind fun m1 =>
  (nl (rd true 5 0 l12)).bind fun t3 =>
  kB (AV.okB H.n t3) (
  (stL 5 0 t3 l12).bind fun m5 =>
  kB (chk (rd true 5 0 l12) t3) (
  evK C D c ⟨[(10, .l 10 0), (11, .v x11), (12, .l 12 0), (13, .v (.int .i64 0))], [(10, m1), (12, m5)], H⟩ k))) := by kernel_rfl
def O19_6 : List IOper :=
  [⟨some 49, .fieldAddr 1 (.tmp 5), none⟩,
   ⟨some 50, .load false 1 (.tmp 49), none⟩,
   ⟨some 51, .move (.tmp 50), none⟩,
   ⟨some 52, .fieldAddr 0 (.tmp 14), some (51, true)⟩,
   ⟨some 53, .fieldAddr 0 (.tmp 52), some (51, true)⟩,
   ⟨some 54, .load false 1 (.tmp 53), some (51, true)⟩,
   ⟨some 55, .move (.tmp 3), some (51, true)⟩,
   ⟨some 56, .bin .neq .int (.tmp 54) (.tmp 55), some (51, true)⟩,
   ⟨some 57, .pick (.tmp 51) (.tmp 56) (.const (.bool false)), none⟩,
   ⟨some 58, .move (.tmp 57), none⟩,
   ⟨some 59, .fieldAddr 6 (.tmp 14), some (58, true)⟩,
   ⟨some 60, .load true 2 (.tmp 59), some (58, true)⟩,
   ⟨some 61, .load true 2 (.tmp 7), some (58, true)⟩,
   ⟨some 62, .call (.func 41) [(.tmp 60), (.tmp 61)], some (58, true)⟩,
   ⟨some 63, .pick (.tmp 58) (.tmp 62) (.const (.bool false)), none⟩,
   ⟨some 48, .move (.tmp 63), none⟩]
@[simp] theorem R19_6 (x3 x11 x19 : AV) (l5 l6 l7 l10 l12 l14 : List AV) :
  evK C D (.seq (.region O19_6) (.keep [5, 6, 7, 10, 12, 14, 48] [5, 6, 7, 10, 12, 14] c)) ⟨[(3, .v x3), (5, .l 5 0), (6, .l 6 0), (7, .l 7 0), (10, .l 10 0), (11, .v x11), (12, .l 12 0), (14, .l 14 0), (19, .v x19)], [(5, l5), (6, l6), (7, l7), (10, l10), (12, l12), (14, l14)], H⟩ k =
  (nl (rd false 1 1 l5)).bind fun t1 =>
  guardK t1 true (
  (nl (rd false 1 0 l14)).bind fun t5 =>
  (nl (binA .neq .int t5 x3)).bind fun t7 =>
  guardK t7 true (
  (nl (rd true 2 6 l14)).bind fun t11 =>
  (nl (rd true 2 0 l7)).bind fun t12 =>
  (callN C (.func (.func 41) [] []) [t11, t12] H).bind fun r13 =>
  evK C D c ⟨[(5, .l 5 0), (6, .l 6 0), (7, .l 7 0), (10, .l 10 0), (12, .l 12 0), (14, .l 14 0), (48, .v r13.1)], [(5, l5), (6, l6), (7, l7), (10, l10), (12, l12), (14, l14)], r13.2⟩ k)
  (evK C D c ⟨[(5, .l 5 0), (6, .l 6 0), (7, .l 7 0), (10, .l 10 0), (12, .l 12 0), (14, .l 14 0), (48, .v (.bool false))], [(5, l5), (6, l6), (7, l7), (10, l10), (12, l12), (14, l14)], H⟩ k))
  (evK C D c ⟨[(5, .l 5 0), (6, .l 6 0), (7, .l 7 0), (10, .l 10 0), (12, .l 12 0), (14, .l 14 0), (48, .v (.bool false))], [(5, l5), (6, l6), (7, l7), (10, l10), (12, l12), (14, l14)], H⟩ k) := by kernel_rfl
def O19_7 : List IOper :=
  [⟨some 64, .load true 5 (.tmp 10), none⟩,
   ⟨none, .store 5 (.tmp 10) (.tmp 64), none⟩,
   ⟨some 65, .fieldAddr 0 (.tmp 14), none⟩,
   ⟨some 66, .load true 5 (.tmp 65), none⟩,
   ⟨some 11, .move (.const (.bool false)), none⟩,
   ⟨none, .store 5 (.tmp 12) (.tmp 66), none⟩,
   ⟨some 13, .move (.const (.int .i64 81)), none⟩]
@[simp] theorem R19_7 (x48 : AV) (l5 l6 l7 l10 l12 l14 : List AV) :
  evK C D (.seq (.regionD O19_7 [(3, 0)]) (.keep [10, 11, 12, 13] [10, 12] c)) ⟨[(5, .l 5 0), (6, .l 6 0), (7, .l 7 0), (10, .l 10 0), (12, .l 12 0), (14, .l 14 0), (48, .v x48)], [(5, l5), (6, l6), (7, l7), (10, l10), (12, l12), (14, l14)], H⟩ k =
  (nl (rd true 5 0 l10)).bind fun t0 =>
  kB (AV.okB H.n t0) (
  (stL 5 0 t0 l10).bind fun m1 =>
  (nl (rd true 5 0 l14)).bind fun t3 =>
  kB (AV.okB H.n t3) (
  (stL 5 0 t3 l12).bind fun m5 =>
  kB (chk (rd true 5 0 l14) t3) (
  evK C D c ⟨[(10, .l 10 0), (11, .v (.bool false)), (12, .l 12 0), (13, .v (.int .i64 81))], [(10, m1), (12, m5)], H⟩ k))) := by kernel_rfl
def O19_8 : List IOper :=
  [⟨some 67, .load true 12 (.tmp 5), none⟩,
   ⟨some 68, .load true 2 (.tmp 6), none⟩,
   ⟨some 69, .call (.func 43) [(.tmp 67), (.tmp 68)], none⟩,
   ⟨some 70, .load true 12 (.tmp 5), none⟩,
   ⟨some 71, .load true 2 (.tmp 7), none⟩,
   ⟨some 72, .call (.func 43) [(.tmp 70), (.tmp 71)], none⟩,
   ⟨some 15, .move (.tmp 69), none⟩,
   ⟨some 16, .move (.tmp 72), none⟩]
@[simp] theorem R19_8 (l5 l6 l7 l10 l12 : List AV) :
  evK C D (.seq (.regionD O19_8 [(3, 0), (4, 0)]) (.keep [5, 10, 12, 15, 16] [5, 10, 12] c)) ⟨[(5, .l 5 0), (6, .l 6 0), (7, .l 7 0), (10, .l 10 0), (12, .l 12 0)], [(5, l5), (6, l6), (7, l7), (10, l10), (12, l12)], H⟩ k =
  (nl (rd true 12 0 l5)).bind fun t0 =>
  kB (AV.okB H.n t0) (
  (nl (rd true 2 0 l6)).bind fun t1 =>
  kB (AV.okB H.n t1) (
  (callN C (.func (.func 43) [] []) [t0, t1] H).bind fun r2 =>
  (nl (rd true 12 0 l5)).bind fun t3 =>
  kB (AV.okB r2.2.n t3) (
  (nl (rd true 2 0 l7)).bind fun t4 =>
  kB (AV.okB r2.2.n t4) (
  (callN C (.func (.func 43) [] []) [t3, t4] r2.2).bind fun r5 =>
  kB (chk (rd true 12 0 l5) t3) (
  kB (chk (rd true 2 0 l7) t4) (
  evK C D c ⟨[(5, .l 5 0), (10, .l 10 0), (12, .l 12 0), (15, .v r2.1), (16, .v r5.1)], [(5, l5), (10, l10), (12, l12)], r5.2⟩ k)))))) := by kernel_rfl
def O19_9 : List IOper :=
  [⟨some 74, .move (.tmp 16), none⟩,
   ⟨some 75, .move (.tmp 15), none⟩,
   ⟨some 76, .bin .gtr .none (.tmp 74) (.tmp 75), none⟩,
   ⟨some 73, .move (.tmp 76), none⟩]
@[simp] theorem R19_9 (x15 x16 : AV) (l5 l10 l12 : List AV) :
  evK C D (.seq (.region O19_9) (.keep [5, 10, 12, 15, 16, 73] [5, 10, 12] c)) ⟨[(5, .l 5 0), (10, .l 10 0), (12, .l 12 0), (15, .v x15), (16, .v x16)], [(5, l5), (10, l10), (12, l12)], H⟩ k =
  (nl (binA .gtr .none x16 x15)).bind fun t2 =>
  evK C D c ⟨[(5, .l 5 0), (10, .l 10 0), (12, .l 12 0), (15, .v x15), (16, .v x16), (73, .v t2)], [(5, l5), (10, l10), (12, l12)], H⟩ k := by kernel_rfl
def O19_10 : List IOper :=
  [⟨some 77, .fieldAddr 0 (.tmp 5), none⟩,
   ⟨some 78, .load false 1 (.tmp 77), none⟩,
   ⟨some 79, .move (.tmp 16), none⟩,
   ⟨some 80, .bin .sub .none (.tmp 79) (.const (.int .i64 1)), none⟩,
   ⟨some 81, .indexAddr none 5 (.tmp 78) (.tmp 80), none⟩,
   ⟨some 82, .fieldAddr 0 (.tmp 81), none⟩,
   ⟨some 83, .load true 2 (.tmp 82), none⟩,
   ⟨some 84, .build [(.int .i64 0), (.int .i64 0), (.str []), (.bool false), (.int .i64 0)] [(0, 2, (.tmp 83))], none⟩,
   ⟨none, .store 5 (.tmp 10) (.tmp 84), none⟩,
   ⟨some 85, .load true 5 (.tmp 12), none⟩,
   ⟨some 11, .move (.const (.bool false)), none⟩,
   ⟨none, .store 5 (.tmp 12) (.tmp 85), none⟩,
   ⟨some 13, .move (.const (.int .i64 82)), none⟩]
@[simp] theorem R19_10 (x15 x16 x73 : AV) (l5 l10 l12 : List AV) :
  evK C D (.seq (.regionD O19_10 [(9, 0)]) (.keep [10, 11, 12, 13] [10, 12] c)) ⟨[(5, .l 5 0), (10, .l 10 0), (12, .l 12 0), (15, .v x15), (16, .v x16), (73, .v x73)], [(5, l5), (10, l10), (12, l12)], H⟩ k =
  (nl (rd false 1 0 l5)).bind fun t1 =>
  kB (AV.okB H.n t1) (
  (nl (binA .sub .none x16 (.int .i64 1))).bind fun t3 =>
  (nl (idxS 5 t1 t3)).bind fun t4 =>
  (fldP 0 t4).bind fun t5 =>
  (nl (loadP H true 2 t5)).bind fun t6 =>
  kB (AV.okB H.n t6) (
  ((fillC [(0, 2, t6)] [(.int .i64 0), (.int .i64 0), (.str []), (.bool false), (.int .i64 0)]).map AV.agg).bind fun t7 =>
  (stL 5 0 t7 l10).bind fun m8 =>
  (nl (rd true 5 0 l12)).bind fun t9 =>
  kB (AV.okB H.n t9) (
  (stL 5 0 t9 l12).bind fun m11 =>
  kB (chk (rd true 5 0 l12) t9) (
  evK C D c ⟨[(10, .l 10 0), (11, .v (.bool false)), (12, .l 12 0), (13, .v (.int .i64 82))], [(10, m8), (12, m11)], H⟩ k)))) := by kernel_rfl
def O19_11 : List IOper :=
  [⟨some 87, .move (.tmp 15), none⟩,
   ⟨some 88, .bin .eql .int (.tmp 87) (.const (.int .i64 0)), none⟩,
   ⟨some 89, .move (.tmp 88), none⟩,
   ⟨some 90, .fieldAddr 0 (.tmp 5), some (89, false)⟩,
   ⟨some 91, .load false 1 (.tmp 90), some (89, false)⟩,
   ⟨some 92, .move (.tmp 15), some (89, false)⟩,
   ⟨some 93, .bin .sub .none (.tmp 92) (.const (.int .i64 1)), some (89, false)⟩,
   ⟨some 94, .indexAddr none 5 (.tmp 91) (.tmp 93), some (89, false)⟩,
   ⟨some 95, .fieldAddr 3 (.tmp 94), some (89, false)⟩,
   ⟨some 96, .load false 1 (.tmp 95), some (89, false)⟩,
   ⟨some 97, .pick (.tmp 89) (.const (.bool true)) (.tmp 96), none⟩,
   ⟨some 86, .move (.tmp 97), none⟩]
@[simp] theorem R19_11 (x15 x16 x73 : AV) (l5 l10 l12 : List AV) :
  evK C D (.seq (.region O19_11) (.keep [5, 10, 12, 15, 86] [5, 10, 12] c)) ⟨[(5, .l 5 0), (10, .l 10 0), (12, .l 12 0), (15, .v x15), (16, .v x16), (73, .v x73)], [(5, l5), (10, l10), (12, l12)], H⟩ k =
  (nl (binA .eql .int x15 (.int .i64 0))).bind fun t1 =>
  guardK t1 false (
  (nl (rd false 1 0 l5)).bind fun t4 =>
  (nl (binA .sub .none x15 (.int .i64 1))).bind fun t6 =>
  (nl (idxS 5 t4 t6)).bind fun t7 =>
  (fldP 3 t7).bind fun t8 =>
  (nl (loadP H false 1 t8)).bind fun t9 =>
  evK C D c ⟨[(5, .l 5 0), (10, .l 10 0), (12, .l 12 0), (15, .v x15), (86, .v t9)], [(5, l5), (10, l10), (12, l12)], H⟩ k)
  (evK C D c ⟨[(5, .l 5 0), (10, .l 10 0), (12, .l 12 0), (15, .v x15), (86, .v (.bool true))], [(5, l5), (10, l10), (12, l12)], H⟩ k) := by kernel_rfl
def O19_12 : List IOper :=
  [⟨some 98, .load true 5 (.tmp 10), none⟩,
   ⟨none, .store 5 (.tmp 10) (.tmp 98), none⟩,
   ⟨some 99, .load true 5 (.tmp 12), none⟩,
   ⟨some 11, .move (.const (.bool false)), none⟩,
   ⟨none, .store 5 (.tmp 12) (.tmp 99), none⟩,
   ⟨some 13, .move (.const (.int .i64 0)), none⟩]
@[simp] theorem R19_12 (x15 x86 : AV) (l5 l10 l12 : List AV) :
  evK C D (.seq (.regionD O19_12 [(2, 0)]) (.keep [10, 11, 12, 13] [10, 12] c)) ⟨[(5, .l 5 0), (10, .l 10 0), (12, .l 12 0), (15, .v x15), (86, .v x86)], [(5, l5), (10, l10), (12, l12)], H⟩ k =
  (nl (rd true 5 0 l10)).bind fun t0 =>
  kB (AV.okB H.n t0) (
  (stL 5 0 t0 l10).bind fun m1 =>
  (nl (rd true 5 0 l12)).bind fun t2 =>
  kB (AV.okB H.n t2) (
  (stL 5 0 t2 l12).bind fun m4 =>
  kB (chk (rd true 5 0 l12) t2) (
  evK C D c ⟨[(10, .l 10 0), (11, .v (.bool false)), (12, .l 12 0), (13, .v (.int .i64 0))], [(10, m1), (12, m4)], H⟩ k))) := by kernel_rfl
def O19_13 : List IOper :=
  [⟨some 100, .fieldAddr 0 (.tmp 5), none⟩,
   ⟨some 101, .load false 1 (.tmp 100), none⟩,
   ⟨some 102, .move (.tmp 15), none⟩,
   ⟨some 103, .bin .sub .none (.tmp 102) (.const (.int .i64 1)), none⟩,
   ⟨some 104, .indexAddr none 5 (.tmp 101) (.tmp 103), none⟩,
   ⟨some 105, .load true 5 (.tmp 104), none⟩,
   ⟨none, .store 5 (.tmp 10) (.tmp 105), none⟩,
   ⟨some 106, .load true 5 (.tmp 12), none⟩,
   ⟨some 11, .move (.const (.bool true)), none⟩,
   ⟨none, .store 5 (.tmp 12) (.tmp 106), none⟩,
   ⟨some 13, .move (.const (.int .i64 0)), none⟩]
@[simp] theorem R19_13 (x15 : AV) (l5 l10 l12 : List AV) :
  evK C D (.seq (.regionD O19_13 [(7, 0)]) (.keep [10, 11, 12, 13] [10, 12] c)) ⟨[(5, .l 5 0), (10, .l 10 0), (12, .l 12 0), (15, .v x15)], [(5, l5), (10, l10), (12, l12)], H⟩ k =
  (nl (rd false 1 0 l5)).bind fun t1 =>
  kB (AV.okB H.n t1) (
  (nl (binA .sub .none x15 (.int .i64 1))).bind fun t3 =>
  (nl (idxS 5 t1 t3)).bind fun t4 =>
  (nl (loadP H true 5 t4)).bind fun t5 =>
  kB (AV.okB H.n t5) (
  (stL 5 0 t5 l10).bind fun m6 =>
  (nl (rd true 5 0 l12)).bind fun t7 =>
  kB (AV.okB H.n t7) (
  (stL 5 0 t7 l12).bind fun m9 =>
  kB (chk (rd true 5 0 l12) t7) (
  evK C D c ⟨[(10, .l 10 0), (11, .v (.bool true)), (12, .l 12 0), (13, .v (.int .i64 0))], [(10, m6), (12, m9)], H⟩ k)))) := by kernel_rfl
def F19 : FnIR := ⟨107, 5, [.cell 10 true 5, .tmp 11, .cell 12 true 5, .tmp 13], [5, 6, 7, 10, 12, 14],
  .seq (.region O19_0)
  (.keep [3, 4, 5, 6, 7, 10, 11, 12] [5, 6, 7, 10, 12] (.seq (.region O19_1)
  (.keep [3, 4, 5, 6, 7, 10, 11, 12, 14] [5, 6, 7, 10, 12, 14] (.seq (.block 0 (.seq (.region O19_2)
    (.keep [3, 5, 6, 7, 10, 11, 12, 14, 19] [5, 6, 7, 10, 12, 14] (.cond (.tmp 19)
     (.seq (.seq (.region O19_3)
      (.keep [3, 10, 11, 12, 14, 38] [10, 12, 14] (.cond (.tmp 38)
       (.region O19_4)
       (.skip))))
     (.keep [10, 11, 12] [10, 12] (.seq (.regionD O19_5 [(3, 0)])
     (.keep [10, 11, 12, 13] [10, 12] (.ret)))))
     (.seq (.region O19_6)
     (.keep [5, 6, 7, 10, 12, 14, 48] [5, 6, 7, 10, 12, 14] (.cond (.tmp 48)
      (.seq (.regionD O19_7 [(3, 0)])
      (.keep [10, 11, 12, 13] [10, 12] (.ret)))
      (.skip))))))))
  (.keep [5, 6, 7, 10, 12] [5, 6, 7, 10, 12] (.seq (.regionD O19_8 [(3, 0), (4, 0)])
  (.keep [5, 10, 12, 15, 16] [5, 10, 12] (.seq (.block 1 (.seq (.region O19_9)
    (.keep [5, 10, 12, 15, 16, 73] [5, 10, 12] (.cond (.tmp 73)
     (.seq (.regionD O19_10 [(9, 0)])
     (.keep [10, 11, 12, 13] [10, 12] (.ret)))
     (.seq (.region O19_11)
     (.keep [5, 10, 12, 15, 86] [5, 10, 12] (.cond (.tmp 86)
      (.seq (.regionD O19_12 [(2, 0)])
      (.keep [10, 11, 12, 13] [10, 12] (.ret)))
      (.skip))))))))
  (.keep [5, 10, 12, 15] [5, 10, 12] (.seq (.regionD O19_13 [(7, 0)])
  (.keep [10, 11, 12, 13] [10, 12] (.ret))))))))))))⟩
/-- wampum/version.above -/
def O43_0 : List IOper :=
  [⟨some 2, .box true 12 (.tmp 0), none⟩,
   ⟨some 3, .box true 2 (.tmp 1), none⟩,
   ⟨some 4, .move (.const (.int .i64 0)), none⟩]
@[simp] theorem R43_0 (x0 x1 : AV) :
  evK C D (.seq (.region O43_0) (.keep [2, 3] [2, 3] c)) ⟨[(0, .v x0), (1, .v x1)], [], H⟩ k =
  (boxC x0).bind fun m0 =>
  (boxC x1).bind fun m1 =>
  evK C D c ⟨[(2, .l 2 0), (3, .l 3 0)], [(2, m0), (3, m1)], H⟩ k := by kernel_rfl
def O43_1 : List IOper :=
  [⟨some 8, .fieldAddr 0 (.tmp 2), none⟩,
   ⟨some 9, .load false 1 (.tmp 8), none⟩,
   ⟨some 10, .load true 2 (.tmp 3), none⟩,
   ⟨some 11, .call (.func 51) [(.tmp 9), (.tmp 10), (.func 52)], none⟩,
   ⟨some 7, .move (.tmp 11), none⟩,
   ⟨some 12, .extract (.tmp 7) 0, none⟩,
   ⟨some 13, .extract (.tmp 7) 1, none⟩,
   ⟨some 5, .move (.tmp 12), none⟩,
   ⟨some 6, .move (.tmp 13), none⟩]
@[simp] theorem R43_1 (l2 l3 : List AV) :
  evK C D (.seq (.region O43_1) (.keep [5] [] c)) ⟨[(2, .l 2 0), (3, .l 3 0)], [(2, l2), (3, l3)], H⟩ k =
  (nl (rd false 1 0 l2)).bind fun t1 =>
  (nl (rd true 2 0 l3)).bind fun t2 =>
  (callN C (.func (.func 51) [] []) [t1, t2, (.func (.func 52) [] [])] H).bind fun r3 =>
  (nl (extA 0 r3.1)).bind fun t5 =>
  (nl (extA 1 r3.1)).bind fun t6 =>
  evK C D c ⟨[(5, .v t5)], [], r3.2⟩ k := by kernel_rfl
def O43_2 : List IOper :=
  [⟨some 14, .move (.tmp 5), none⟩,
   ⟨some 4, .move (.tmp 14), none⟩]
@[simp] theorem R43_2 (x5 : AV) :
  evK C D (.seq (.region O43_2) (.keep [4] [] c)) ⟨[(5, .v x5)], [], H⟩ k =
  evK C D c ⟨[(4, .v x5)], [], H⟩ k := by kernel_rfl
def F43 : FnIR := ⟨15, 2, [.tmp 4], [2, 3],
  .seq (.region O43_0)
  (.keep [2, 3] [2, 3] (.seq (.region O43_1)
  (.keep [5] [] (.seq (.region O43_2)
  (.keep [4] [] (.ret))))))⟩
/-- slices.BinarySearchFunc[[]wampum/api.Version,wampum/api.Version,wampum/api.Stamp] -/
def O51_0 : List IOper :=
  [⟨some 4, .box true 2 (.tmp 1), none⟩,
   ⟨some 6, .move (.const (.int .i64 0)), none⟩,
   ⟨some 7, .move (.const (.bool false)), none⟩]
@[simp] theorem R51_0 (x0 x1 x2 : AV) :
  evK C D (.seq (.region O51_0) (.keep [0, 2, 4] [4] c)) ⟨[(0, .v x0), (1, .v x1), (2, .v x2)], [], H⟩ k =
  (boxC x1).bind fun m0 =>
  evK C D c ⟨[(0, .v x0), (2, .v x2), (4, .l 4 0)], [(4, m0)], H⟩ k := by kernel_rfl
def O51_1 : List IOper :=
  [⟨some 12, .move (.tmp 0), none⟩,
   ⟨some 13, .len .slice (.tmp 12), none⟩,
   ⟨some 8, .move (.tmp 13), none⟩]
@[simp] theorem R51_1 (x0 x2 : AV) (l4 : List AV) :
  evK C D (.seq (.region O51_1) (.keep [0, 2, 4, 8] [4] c)) ⟨[(0, .v x0), (2, .v x2), (4, .l 4 0)], [(4, l4)], H⟩ k =
  (lenS x0).bind fun t1 =>
  evK C D c ⟨[(0, .v x0), (2, .v x2), (4, .l 4 0), (8, .v t1)], [(4, l4)], H⟩ k := by kernel_rfl
def O51_2 : List IOper :=
  [⟨some 14, .move (.tmp 8), none⟩,
   ⟨some 9, .move (.const (.int .i64 0)), none⟩,
   ⟨some 10, .move (.tmp 14), none⟩]
@[simp] theorem R51_2 (x0 x2 x8 : AV) (l4 : List AV) :
  evK C D (.seq (.region O51_2) (.keep [0, 2, 4, 8, 9, 10] [4] c)) ⟨[(0, .v x0), (2, .v x2), (4, .l 4 0), (8, .v x8)], [(4, l4)], H⟩ k =
  evK C D c ⟨[(0, .v x0), (2, .v x2), (4, .l 4 0), (8, .v x8), (9, .v (.int .i64 0)), (10, .v x8)], [(4, l4)], H⟩ k := by kernel_rfl
def O51_3 : List IOper :=
  [⟨some 15, .move (.tmp 9), none⟩,
   ⟨some 16, .move (.tmp 10), none⟩,
   ⟨some 17, .bin .lss .none (.tmp 15) (.tmp 16), none⟩]
@[simp] theorem R51_3 (x0 x2 x8 x9 x10 : AV) (l4 : List AV) :
  evK C D (.seq (.region O51_3) (.keep [0, 2, 4, 8, 9, 10, 17] [4] c)) ⟨[(0, .v x0), (2, .v x2), (4, .l 4 0), (8, .v x8), (9, .v x9), (10, .v x10)], [(4, l4)], H⟩ k =
  (nl (binA .lss .none x9 x10)).bind fun t2 =>
  evK C D c ⟨[(0, .v x0), (2, .v x2), (4, .l 4 0), (8, .v x8), (9, .v x9), (10, .v x10), (17, .v t2)], [(4, l4)], H⟩ k := by kernel_rfl
def O51_4 : List IOper :=
  [⟨some 18, .move (.tmp 9), none⟩,
   ⟨some 19, .move (.tmp 10), none⟩,
   ⟨some 20, .bin .add .none (.tmp 18) (.tmp 19), none⟩,
   ⟨some 21, .conv (.toInt .u64) (.tmp 20), none⟩,
   ⟨some 22, .bin .shr .none (.tmp 21) (.const (.int .u64 1)), none⟩,
   ⟨some 23, .conv (.toInt .i64) (.tmp 22), none⟩,
   ⟨some 11, .move (.tmp 23), none⟩]
@[simp] theorem R51_4 (x0 x2 x8 x9 x10 : AV) (l4 : List AV) :
  evK C D (.seq (.region O51_4) (.keep [0, 2, 4, 8, 9, 10, 11] [4] c)) ⟨[(0, .v x0), (2, .v x2), (4, .l 4 0), (8, .v x8), (9, .v x9), (10, .v x10)], [(4, l4)], H⟩ k =
  (nl (binA .add .none x9 x10)).bind fun t2 =>
  (convI .u64 t2).bind fun t3 =>
  (nl (binA .shr .none t3 (.int .u64 1))).bind fun t4 =>
  (convI .i64 t4).bind fun t5 =>
  evK C D c ⟨[(0, .v x0), (2, .v x2), (4, .l 4 0), (8, .v x8), (9, .v x9), (10, .v x10), (11, .v t5)], [(4, l4)], H⟩ k := by kernel_rfl
def O51_5 : List IOper :=
  [⟨some 24, .move (.tmp 2), none⟩,
   ⟨some 25, .move (.tmp 0), none⟩,
   ⟨some 26, .move (.tmp 11), none⟩,
   ⟨some 27, .indexAddr none 5 (.tmp 25) (.tmp 26), none⟩,
   ⟨some 28, .load true 5 (.tmp 27), none⟩,
   ⟨some 29, .load true 2 (.tmp 4), none⟩,
   ⟨some 30, .call (.tmp 24) [(.tmp 28), (.tmp 29)], none⟩,
   ⟨some 31, .bin .lss .none (.tmp 30) (.const (.int .i64 0)), none⟩]
@[simp] theorem R51_5 (x0 x2 x8 x9 x10 x11 : AV) (l4 : List AV) :
  evK C D (.seq (.regionD O51_5 []) (.keep [0, 2, 4, 8, 9, 10, 11, 31] [4] c)) ⟨[(0, .v x0), (2, .v x2), (4, .l 4 0), (8, .v x8), (9, .v x9), (10, .v x10), (11, .v x11)], [(4, l4)], H⟩ k =
  (nl (idxS 5 x0 x11)).bind fun t3 =>
  (nl (loadP H true 5 t3)).bind fun t4 =>
  kB (AV.okB H.n t4) (
  (nl (rd true 2 0 l4)).bind fun t5 =>
  kB (AV.okB H.n t5) (
  (callN C x2 [t4, t5] H).bind fun r6 =>
  (nl (binA .lss .none r6.1 (.int .i64 0))).bind fun t7 =>
  evK C D c ⟨[(0, .v x0), (2, .v x2), (4, .l 4 0), (8, .v x8), (9, .v x9), (10, .v x10), (11, .v x11), (31, .v t7)], [(4, l4)], r6.2⟩ k)) := by kernel_rfl
def O51_6 : List IOper :=
  [⟨some 32, .move (.tmp 11), none⟩,
   ⟨some 33, .bin .add .none (.tmp 32) (.const (.int .i64 1)), none⟩,
   ⟨some 9, .move (.tmp 33), none⟩]
@[simp] theorem R51_6 (x0 x2 x8 x9 x10 x11 x31 : AV) (l4 : List AV) :
  evK C D (.region O51_6) ⟨[(0, .v x0), (2, .v x2), (4, .l 4 0), (8, .v x8), (9, .v x9), (10, .v x10), (11, .v x11), (31, .v x31)], [(4, l4)], H⟩ k =
  (nl (binA .add .none x11 (.int .i64 1))).bind fun t1 =>
  k .normal ⟨[(9, .v t1), (33, .v t1), (32, .v x11), (0, .v x0), (2, .v x2), (4, .l 4 0), (8, .v x8), (9, .v x9), (10, .v x10), (11, .v x11), (31, .v x31)], [(4, l4)], H⟩ := by kernel_rfl
def O51_7 : List IOper :=
  [⟨some 34, .move (.tmp 11), none⟩,
   ⟨some 10, .move (.tmp 34), none⟩]
@[simp] theorem R51_7 (x0 x2 x8 x9 x10 x11 x31 : AV) (l4 : List AV) :
  evK C D (.region O51_7) ⟨[(0, .v x0), (2, .v x2), (4, .l 4 0), (8, .v x8), (9, .v x9), (10, .v x10), (11, .v x11), (31, .v x31)], [(4, l4)], H⟩ k =
  k .normal ⟨[(10, .v x11), (34, .v x11), (0, .v x0), (2, .v x2), (4, .l 4 0), (8, .v x8), (9, .v x9), (10, .v x10), (11, .v x11), (31, .v x31)], [(4, l4)], H⟩ := by kernel_rfl
def B51_0 : IC :=
  .seq (.seq (.region O51_3)
   (.keep [0, 2, 4, 8, 9, 10, 17] [4] (.cond (.tmp 17)
    (.skip)
    (.exit 0))))
  (.keep [0, 2, 4, 8, 9, 10] [4] (.block 1 (.seq (.region O51_4)
   (.keep [0, 2, 4, 8, 9, 10, 11] [4] (.seq (.regionD O51_5 [])
   (.keep [0, 2, 4, 8, 9, 10, 11, 31] [4] (.cond (.tmp 31)
    (.region O51_6)
    (.region O51_7))))))))
def L51_0 : IC := .keep [0, 2, 4, 8, 9, 10] [4] B51_0
@[simp] theorem LK51_0 (s : SK) (k : AExit → SK → Option R) : evK C D (.loop L51_0) s k = (D (.loop L51_0) (prK [0, 2, 4, 8, 9, 10] [4] s).toSt).bind fun r => k r.1 (ofSt r.2) := by kernel_rfl
def O51_8 : List IOper :=
  [⟨some 36, .move (.tmp 9), none⟩,
   ⟨some 37, .move (.tmp 8), none⟩,
   ⟨some 38, .bin .lss .none (.tmp 36) (.tmp 37), none⟩,
   ⟨some 39, .move (.tmp 38), none⟩,
   ⟨some 40, .move (.tmp 2), some (39, true)⟩,
   ⟨some 41, .move (.tmp 0), some (39, true)⟩,
   ⟨some 42, .move (.tmp 9), some (39, true)⟩,
   ⟨some 43, .indexAddr none 5 (.tmp 41) (.tmp 42), some (39, true)⟩,
   ⟨some 44, .load true 5 (.tmp 43), some (39, true)⟩,
   ⟨some 45, .load true 2 (.tmp 4), some (39, true)⟩,
   ⟨some 46, .call (.tmp 40) [(.tmp 44), (.tmp 45)], some (39, true)⟩,
   ⟨some 35, .move (.tmp 9), none⟩,
   ⟨some 47, .bin .eql .int (.tmp 46) (.const (.int .i64 0)), some (39, true)⟩,
   ⟨some 48, .pick (.tmp 39) (.tmp 47) (.const (.bool false)), none⟩,
   ⟨some 6, .move (.tmp 35), none⟩,
   ⟨some 7, .move (.tmp 48), none⟩]
@[simp] theorem R51_8 (x0 x2 x8 x9 : AV) (l4 : List AV) :
  evK C D (.seq (.regionD O51_8 []) (.keep [6, 7] [] c)) ⟨[(0, .v x0), (2, .v x2), (4, .l 4 0), (8, .v x8), (9, .v x9)], [(4, l4)], H⟩ k =
  (nl (binA .lss .none x9 x8)).bind fun t2 =>
  guardK t2 true (
  (nl (idxS 5 x0 x9)).bind fun t7 =>
  (nl (loadP H true 5 t7)).bind fun t8 =>
  kB (AV.okB H.n t8) (
  (nl (rd true 2 0 l4)).bind fun t9 =>
  kB (AV.okB H.n t9) (
  (callN C x2 [t8, t9] H).bind fun r10 =>
  (nl (binA .eql .int r10.1 (.int .i64 0))).bind fun t12 =>
  evK C D c ⟨[(6, .v x9), (7, .v t12)], [], r10.2⟩ k)))
  (kB (AV.okB H.n undefA) (
  kB (AV.okB H.n undefA) (
  evK C D c ⟨[(6, .v x9), (7, .v (.bool false))], [], H⟩ k))) := by kernel_rfl
def F51 : FnIR := ⟨49, 3, [.tmp 6, .tmp 7], [4],
  .seq (.region O51_0)
  (.keep [0, 2, 4] [4] (.seq (.region O51_1)
  (.keep [0, 2, 4, 8] [4] (.seq (.region O51_2)
  (.keep [0, 2, 4, 8, 9, 10] [4] (.seq (.block 0 (.loop L51_0))
  (.keep [0, 2, 4, 8, 9] [4] (.seq (.regionD O51_8 [])
  (.keep [6, 7] [] (.ret))))))))))⟩
/-- wampum/version.above$1 -/
def O52_0 : List IOper :=
  [⟨some 2, .box true 5 (.tmp 0), none⟩,
   ⟨some 3, .box true 2 (.tmp 1), none⟩,
   ⟨some 4, .move (.const (.int .i64 0)), none⟩]
@[simp] theorem R52_0 (x0 x1 : AV) :
  evK C D (.seq (.region O52_0) (.keep [2, 3] [2, 3] c)) ⟨[(0, .v x0), (1, .v x1)], [], H⟩ k =
  (boxC x0).bind fun m0 =>
  (boxC x1).bind fun m1 =>
  evK C D c ⟨[(2, .l 2 0), (3, .l 3 0)], [(2, m0), (3, m1)], H⟩ k := by kernel_rfl
def O52_1 : List IOper :=
  [⟨some 5, .fieldAddr 0 (.tmp 2), none⟩,
   ⟨some 6, .load true 2 (.tmp 5), none⟩,
   ⟨some 7, .load true 2 (.tmp 3), none⟩,
   ⟨some 8, .call (.func 41) [(.tmp 6), (.tmp 7)], none⟩]
@[simp] theorem R52_1 (l2 l3 : List AV) :
  evK C D (.seq (.region O52_1) (.keep [8] [] c)) ⟨[(2, .l 2 0), (3, .l 3 0)], [(2, l2), (3, l3)], H⟩ k =
  (nl (rd true 2 0 l2)).bind fun t1 =>
  (nl (rd true 2 0 l3)).bind fun t2 =>
  (callN C (.func (.func 41) [] []) [t1, t2] H).bind fun r3 =>
  evK C D c ⟨[(8, .v r3.1)], [], r3.2⟩ k := by kernel_rfl
def O52_2 : List IOper :=
  [⟨some 4, .move (.const (.int .i64 (-1))), none⟩]
@[simp] theorem R52_2 (x8 : AV) :
  evK C D (.seq (.region O52_2) (.keep [4] [] c)) ⟨[(8, .v x8)], [], H⟩ k =
  evK C D c ⟨[(4, .v (.int .i64 (-1)))], [], H⟩ k := by kernel_rfl
def O52_3 : List IOper :=
  [⟨some 4, .move (.const (.int .i64 1)), none⟩]
@[simp] theorem R52_3 :
  evK C D (.seq (.region O52_3) (.keep [4] [] c)) ⟨[], [], H⟩ k =
  evK C D c ⟨[(4, .v (.int .i64 1))], [], H⟩ k := by kernel_rfl
def F52 : FnIR := ⟨9, 2, [.tmp 4], [2, 3],
  .seq (.region O52_0)
  (.keep [2, 3] [2, 3] (.seq (.seq (.region O52_1)
   (.keep [8] [] (.cond (.tmp 8)
    (.seq (.region O52_2)
    (.keep [4] [] (.ret)))
    (.skip))))
  (.keep [] [] (.seq (.region O52_3)
  (.keep [4] [] (.ret))))))⟩
/-- wampum/wampumref08.Copy -/
def O13_0 : List IOper :=
  [⟨some 1, .box true 12 (.tmp 0), none⟩,
   ⟨some 2, .alloc true 12 [.nils, (.bool false), (.int .i64 0), (.int .i64 0), (.str []), (.int .i64 0), (.int .i64 0), (.int .i64 0), (.int .i64 0), (.int .i64 0), (.str []), (.bool false)], none⟩]
@[simp] theorem R13_0 (x0 : AV) :
  evK C D (.seq (.region O13_0) (.keep [1, 2] [1, 2] c)) ⟨[(0, .v x0)], [], H⟩ k =
  (boxC x0).bind fun m0 =>
  evK C D c ⟨[(1, .l 1 0), (2, .l 2 0)], [(1, m0), (2, [.nils, (.bool false), (.int .i64 0), (.int .i64 0), (.str []), (.int .i64 0), (.int .i64 0), (.int .i64 0), (.int .i64 0), (.int .i64 0), (.str []), (.bool false)])], H⟩ k := by kernel_rfl
def O13_1 : List IOper :=
  [⟨some 3, .buildSlice 5 0 [] [], none⟩,
   ⟨some 4, .fieldAddr 0 (.tmp 1), none⟩,
   ⟨some 5, .load false 1 (.tmp 4), none⟩,
   ⟨some 6, .append 5 48 (.tmp 3) (.tmp 5), none⟩,
   ⟨some 7, .fieldAddr 0 (.tmp 1), none⟩,
   ⟨none, .store 1 (.tmp 7) (.tmp 6), none⟩]
@[simp] theorem R13_1 (l1 l2 : List AV) :
  evK C D (.seq (.region O13_1) (.keep [1, 2] [1, 2] c)) ⟨[(1, .l 1 0), (2, .l 2 0)], [(1, l1), (2, l2)], H⟩ k =
  ((fillC [] []).map fun cs => (AV.slice H.n 0 0 0, H.alloc (.row false 5 cs))).bind fun r0 =>
  (nl (rd false 1 0 l1)).bind fun t2 =>
  (nlR (appendA r0.2 5 48 r0.1 t2)).bind fun r3 =>
  (stL 1 0 r3.1 l1).bind fun m5 =>
  evK C D c ⟨[(1, .l 1 0), (2, .l 2 0)], [(1, m5), (2, l2)], r3.2⟩ k := by kernel_rfl
def O13_2 : List IOper :=
  [⟨some 8, .load true 12 (.tmp 1), none⟩,
   ⟨none, .store 12 (.tmp 2) (.tmp 8), none⟩]
@[simp] theorem R13_2 (l1 l2 : List AV) :
  evK C D (.seq (.region O13_2) (.keep [2] [2] c)) ⟨[(1, .l 1 0), (2, .l 2 0)], [(1, l1), (2, l2)], H⟩ k =
  (nl (rd true 12 0 l1)).bind fun t0 =>
  (stL 12 0 t0 l2).bind fun m1 =>
  evK C D c ⟨[(2, .l 2 0)], [(2, m1)], H⟩ k := by kernel_rfl
def F13 : FnIR := ⟨9, 1, [.cell 2 true 12], [1, 2],
  .seq (.region O13_0)
  (.keep [1, 2] [1, 2] (.seq (.region O13_1)
  (.keep [1, 2] [1, 2] (.seq (.region O13_2)
  (.keep [2] [2] (.ret))))))⟩
/-- wampum/wampumref08.Write -/
def O15_0 : List IOper :=
  [⟨some 2, .box true 12 (.tmp 0), none⟩,
   ⟨some 3, .box true 10 (.tmp 1), none⟩,
   ⟨some 4, .alloc true 12 [.nils, (.bool false), (.int .i64 0), (.int .i64 0), (.str []), (.int .i64 0), (.int .i64 0), (.int .i64 0), (.int .i64 0), (.int .i64 0), (.str []), (.bool false)], none⟩,
   ⟨some 5, .alloc true 2 [(.int .i64 0), (.int .i64 0)], none⟩,
   ⟨some 6, .alloc true 5 [(.int .i64 0), (.int .i64 0), (.str []), (.int .i64 0), (.int .i64 0)], none⟩,
   ⟨some 7, .move (.const (.int .i64 0)), none⟩]
@[simp] theorem R15_0 (x0 x1 : AV) :
  evK C D (.seq (.region O15_0) (.keep [2, 3, 4, 5, 6] [2, 3, 4, 5, 6] c)) ⟨[(0, .v x0), (1, .v x1)], [], H⟩ k =
  (boxC x0).bind fun m0 =>
  (boxC x1).bind fun m1 =>
  evK C D c ⟨[(2, .l 2 0), (3, .l 3 0), (4, .l 4 0), (5, .l 5 0), (6, .l 6 0)], [(2, m0), (3, m1), (4, [.nils, (.bool false), (.int .i64 0), (.int .i64 0), (.str []), (.int .i64 0), (.int .i64 0), (.int .i64 0), (.int .i64 0), (.int .i64 0), (.str []), (.bool false)]), (5, [(.int .i64 0), (.int .i64 0)]), (6, [(.int .i64 0), (.int .i64 0), (.str []), (.int .i64 0), (.int .i64 0)])], H⟩ k := by kernel_rfl
def O15_1 : List IOper :=
  [⟨some 17, .fieldAddr 2 (.tmp 2), none⟩,
   ⟨some 18, .load true 10 (.tmp 17), none⟩,
   ⟨some 8, .alloc true 10 [(.int .i64 0), (.int .i64 0), (.str []), (.int .i64 0), (.int .i64 0), (.int .i64 0), (.int .i64 0), (.int .i64 0), (.str []), (.bool false)], none⟩,
   ⟨none, .store 10 (.tmp 8) (.tmp 18), none⟩]
@[simp] theorem R15_1 (l2 l3 l4 l5 l6 : List AV) :
  evK C D (.seq (.region O15_1) (.keep [2, 3, 4, 5, 6, 8] [2, 3, 4, 5, 6, 8] c)) ⟨[(2, .l 2 0), (3, .l 3 0), (4, .l 4 0), (5, .l 5 0), (6, .l 6 0)], [(2, l2), (3, l3), (4, l4), (5, l5), (6, l6)], H⟩ k =
  (nl (rd true 10 2 l2)).bind fun t1 =>
  (stL 10 0 t1 [(.int .i64 0), (.int .i64 0), (.str []), (.int .i64 0), (.int .i64 0), (.int .i64 0), (.int .i64 0), (.int .i64 0), (.str []), (.bool false)]).bind fun m3 =>
  evK C D c ⟨[(2, .l 2 0), (3, .l 3 0), (4, .l 4 0), (5, .l 5 0), (6, .l 6 0), (8, .l 8 0)], [(2, l2), (3, l3), (4, l4), (5, l5), (6, l6), (8, m3)], H⟩ k := by kernel_rfl
def O15_2 : List IOper :=
  [⟨some 19, .fieldAddr 1 (.tmp 2), none⟩,
   ⟨some 20, .load false 1 (.tmp 19), none⟩,
   ⟨some 21, .move (.tmp 20), none⟩,
   ⟨some 22, .fieldAddr 0 (.tmp 8), some (21, true)⟩,
   ⟨some 23, .fieldAddr 0 (.tmp 22), some (21, true)⟩,
   ⟨some 24, .load false 1 (.tmp 23), some (21, true)⟩,
   ⟨some 25, .fieldAddr 0 (.tmp 3), some (21, true)⟩,
   ⟨some 26, .fieldAddr 0 (.tmp 25), some (21, true)⟩,
   ⟨some 27, .load false 1 (.tmp 26), some (21, true)⟩,
   ⟨some 28, .bin .neq .int (.tmp 24) (.tmp 27), some (21, true)⟩,
   ⟨some 29, .pick (.tmp 21) (.tmp 28) (.const (.bool false)), none⟩]
@[simp] theorem R15_2 (l2 l3 l4 l5 l6 l8 : List AV) :
  evK C D (.seq (.region O15_2) (.keep [2, 3, 4, 5, 6, 8, 29] [2, 3, 4, 5, 6, 8] c)) ⟨[(2, .l 2 0), (3, .l 3 0), (4, .l 4 0), (5, .l 5 0), (6, .l 6 0), (8, .l 8 0)], [(2, l2), (3, l3), (4, l4), (5, l5), (6, l6), (8, l8)], H⟩ k =
  (nl (rd false 1 1 l2)).bind fun t1 =>
  guardK t1 true (
  (nl (rd false 1 0 l8)).bind fun t5 =>
  (nl (rd false 1 0 l3)).bind fun t8 =>
  (nl (binA .neq .int t5 t8)).bind fun t9 =>
  evK C D c ⟨[(2, .l 2 0), (3, .l 3 0), (4, .l 4 0), (5, .l 5 0), (6, .l 6 0), (8, .l 8 0), (29, .v t9)], [(2, l2), (3, l3), (4, l4), (5, l5), (6, l6), (8, l8)], H⟩ k)
  (evK C D c ⟨[(2, .l 2 0), (3, .l 3 0), (4, .l 4 0), (5, .l 5 0), (6, .l 6 0), (8, .l 8 0), (29, .v (.bool false))], [(2, l2), (3, l3), (4, l4), (5, l5), (6, l6), (8, l8)], H⟩ k) := by kernel_rfl
def O15_3 : List IOper :=
  [⟨some 30, .build [.nils, (.bool false), (.int .i64 0), (.int .i64 0), (.str []), (.int .i64 0), (.int .i64 0), (.int .i64 0), (.int .i64 0), (.int .i64 0), (.str []), (.bool false)] [], none⟩,
   ⟨none, .store 12 (.tmp 4) (.tmp 30), none⟩,
   ⟨some 31, .build [(.int .i64 0), (.int .i64 0)] [], none⟩,
   ⟨none, .store 2 (.tmp 5) (.tmp 31), none⟩,
   ⟨some 32, .fieldAddr 0 (.tmp 8), none⟩,
   ⟨some 33, .load true 5 (.tmp 32), none⟩,
   ⟨none, .store 5 (.tmp 6) (.tmp 33), none⟩,
   ⟨some 7, .move (.const (.int .i64 81)), none⟩]
@[simp] theorem R15_3 (x29 : AV) (l2 l3 l4 l5 l6 l8 : List AV) :
  evK C D (.seq (.regionD O15_3 [(5, 0), (5, 2)]) (.keep [4, 5, 6, 7] [4, 5, 6] c)) ⟨[(2, .l 2 0), (3, .l 3 0), (4, .l 4 0), (5, .l 5 0), (6, .l 6 0), (8, .l 8 0), (29, .v x29)], [(2, l2), (3, l3), (4, l4), (5, l5), (6, l6), (8, l8)], H⟩ k =
  ((fillC [] [.nils, (.bool false), (.int .i64 0), (.int .i64 0), (.str []), (.int .i64 0), (.int .i64 0), (.int .i64 0), (.int .i64 0), (.int .i64 0), (.str []), (.bool false)]).map AV.agg).bind fun t0 =>
  (stL 12 0 t0 l4).bind fun m1 =>
  ((fillC [] [(.int .i64 0), (.int .i64 0)]).map AV.agg).bind fun t2 =>
  (stL 2 0 t2 l5).bind fun m3 =>
  (nl (rd true 5 0 l8)).bind fun t5 =>
  kB (AV.okB H.n t5) (
  (stL 5 0 t5 l6).bind fun m6 =>
  kB (chk (rd true 5 0 l8) t5) (
  kB (chk (rd true 5 0 l8) t5) (
  evK C D c ⟨[(4, .l 4 0), (5, .l 5 0), (6, .l 6 0), (7, .v (.int .i64 81))], [(4, m1), (5, m3), (6, m6)], H⟩ k))) := by kernel_rfl
def O15_4 : List IOper :=
  [⟨some 9, .move (.const (.int .i64 0)), none⟩]
@[simp] theorem R15_4 (l2 l3 l4 l5 l6 l8 : List AV) :
  evK C D (.seq (.region O15_4) (.keep [2, 3, 4, 5, 6, 8, 9] [2, 3, 4, 5, 6, 8] c)) ⟨[(2, .l 2 0), (3, .l 3 0), (4, .l 4 0), (5, .l 5 0), (6, .l 6 0), (8, .l 8 0)], [(2, l2), (3, l3), (4, l4), (5, l5), (6, l6), (8, l8)], H⟩ k =
  evK C D c ⟨[(2, .l 2 0), (3, .l 3 0), (4, .l 4 0), (5, .l 5 0), (6, .l 6 0), (8, .l 8 0), (9, .v (.int .i64 0))], [(2, l2), (3, l3), (4, l4), (5, l5), (6, l6), (8, l8)], H⟩ k := by kernel_rfl
def O15_5 : List IOper :=
  [⟨some 34, .move (.tmp 9), none⟩,
   ⟨some 35, .fieldAddr 0 (.tmp 2), none⟩,
   ⟨some 36, .load false 1 (.tmp 35), none⟩,
   ⟨some 37, .len .slice (.tmp 36), none⟩,
   ⟨some 38, .bin .lss .none (.tmp 34) (.tmp 37), none⟩]
@[simp] theorem R15_5 (x9 : AV) (l2 l3 l4 l5 l6 l8 : List AV) :
  evK C D (.seq (.region O15_5) (.keep [2, 3, 4, 5, 6, 8, 9, 38] [2, 3, 4, 5, 6, 8] c)) ⟨[(2, .l 2 0), (3, .l 3 0), (4, .l 4 0), (5, .l 5 0), (6, .l 6 0), (8, .l 8 0), (9, .v x9)], [(2, l2), (3, l3), (4, l4), (5, l5), (6, l6), (8, l8)], H⟩ k =
  (nl (rd false 1 0 l2)).bind fun t2 =>
  (lenS t2).bind fun t3 =>
  (nl (binA .lss .none x9 t3)).bind fun t4 =>
  evK C D c ⟨[(2, .l 2 0), (3, .l 3 0), (4, .l 4 0), (5, .l 5 0), (6, .l 6 0), (8, .l 8 0), (9, .v x9), (38, .v t4)], [(2, l2), (3, l3), (4, l4), (5, l5), (6, l6), (8, l8)], H⟩ k := by kernel_rfl
def O15_6 : List IOper :=
  [⟨some 41, .fieldAddr 0 (.tmp 2), none⟩,
   ⟨some 42, .load false 1 (.tmp 41), none⟩,
   ⟨some 43, .move (.tmp 9), none⟩,
   ⟨some 44, .indexAddr none 5 (.tmp 42) (.tmp 43), none⟩,
   ⟨some 45, .fieldAddr 4 (.tmp 44), none⟩,
   ⟨some 46, .load false 1 (.tmp 45), none⟩,
   ⟨some 47, .fieldAddr 0 (.tmp 3), none⟩,
   ⟨some 48, .fieldAddr 0 (.tmp 47), none⟩,
   ⟨some 49, .load false 1 (.tmp 48), none⟩,
   ⟨some 50, .bin .eql .int (.tmp 46) (.tmp 49), none⟩]
@[simp] theorem R15_6 (x9 : AV) (l2 l3 l4 l5 l6 l8 : List AV) :
  evK C D (.seq (.regionD O15_6 []) (.keep [2, 3, 4, 5, 6, 8, 9, 50] [2, 3, 4, 5, 6, 8] c)) ⟨[(2, .l 2 0), (3, .l 3 0), (4, .l 4 0), (5, .l 5 0), (6, .l 6 0), (8, .l 8 0), (9, .v x9)], [(2, l2), (3, l3), (4, l4), (5, l5), (6, l6), (8, l8)], H⟩ k =
  (nl (rd false 1 0 l2)).bind fun t1 =>
  kB (AV.okB H.n t1) (
  (nl (idxS 5 t1 x9)).bind fun t3 =>
  (fldP 4 t3).bind fun t4 =>
  (nl (loadP H false 1 t4)).bind fun t5 =>
  kB (AV.okB H.n t5) (
  (nl (rd false 1 0 l3)).bind fun t8 =>
  kB (AV.okB H.n t8) (
  (nl (binA .eql .int t5 t8)).bind fun t9 =>
  evK C D c ⟨[(2, .l 2 0), (3, .l 3 0), (4, .l 4 0), (5, .l 5 0), (6, .l 6 0), (8, .l 8 0), (9, .v x9), (50, .v t9)], [(2, l2), (3, l3), (4, l4), (5, l5), (6, l6), (8, l8)], H⟩ k))) := by kernel_rfl
def O15_7 : List IOper :=
  [⟨some 51, .build [.nils, (.bool false), (.int .i64 0), (.int .i64 0), (.str []), (.int .i64 0), (.int .i64 0), (.int .i64 0), (.int .i64 0), (.int .i64 0), (.str []), (.bool false)] [], none⟩,
   ⟨some 52, .build [(.int .i64 0), (.int .i64 0)] [], none⟩,
   ⟨some 53, .build [(.int .i64 0), (.int .i64 0), (.str []), (.int .i64 0), (.int .i64 0)] [], none⟩,
   ⟨none, .store 12 (.tmp 4) (.tmp 51), none⟩,
   ⟨none, .store 2 (.tmp 5) (.tmp 52), none⟩,
   ⟨none, .store 5 (.tmp 6) (.tmp 53), none⟩,
   ⟨some 7, .move (.const (.int .i64 83)), none⟩]
@[simp] theorem R15_7 (x9 x50 : AV) (l2 l3 l4 l5 l6 l8 : List AV) :
  evK C D (.seq (.region O15_7) (.keep [4, 5, 6, 7] [4, 5, 6] c)) ⟨[(2, .l 2 0), (3, .l 3 0), (4, .l 4 0), (5, .l 5 0), (6, .l 6 0), (8, .l 8 0), (9, .v x9), (50, .v x50)], [(2, l2), (3, l3), (4, l4), (5, l5), (6, l6), (8, l8)], H⟩ k =
  ((fillC [] [.nils, (.bool false), (.int .i64 0), (.int .i64 0), (.str []), (.int .i64 0), (.int .i64 0), (.int .i64 0), (.int .i64 0), (.int .i64 0), (.str []), (.bool false)]).map AV.agg).bind fun t0 =>
  ((fillC [] [(.int .i64 0), (.int .i64 0)]).map AV.agg).bind fun t1 =>
  ((fillC [] [(.int .i64 0), (.int .i64 0), (.str []), (.int .i64 0), (.int .i64 0)]).map AV.agg).bind fun t2 =>
  (stL 12 0 t0 l4).bind fun m3 =>
  (stL 2 0 t1 l5).bind fun m4 =>
  (stL 5 0 t2 l6).bind fun m5 =>
  evK C D c ⟨[(4, .l 4 0), (5, .l 5 0), (6, .l 6 0), (7, .v (.int .i64 83))], [(4, m3), (5, m4), (6, m5)], H⟩ k := by kernel_rfl
def O15_8 : List IOper :=
  [⟨some 39, .move (.tmp 9), none⟩,
   ⟨some 40, .bin .add .none (.tmp 39) (.const (.int .i64 1)), none⟩,
   ⟨some 9, .move (.tmp 40), none⟩]
@[simp] theorem R15_8 (x9 : AV) (l2 l3 l4 l5 l6 l8 : List AV) :
  evK C D (.region O15_8) ⟨[(2, .l 2 0), (3, .l 3 0), (4, .l 4 0), (5, .l 5 0), (6, .l 6 0), (8, .l 8 0), (9, .v x9)], [(2, l2), (3, l3), (4, l4), (5, l5), (6, l6), (8, l8)], H⟩ k =
  (nl (binA .add .none x9 (.int .i64 1))).bind fun t1 =>
  k .normal ⟨[(9, .v t1), (40, .v t1), (39, .v x9), (2, .l 2 0), (3, .l 3 0), (4, .l 4 0), (5, .l 5 0), (6, .l 6 0), (8, .l 8 0), (9, .v x9)], [(2, l2), (3, l3), (4, l4), (5, l5), (6, l6), (8, l8)], H⟩ := by kernel_rfl
def B15_0 : IC :=
  .seq (.seq (.region O15_5)
   (.keep [2, 3, 4, 5, 6, 8, 9, 38] [2, 3, 4, 5, 6, 8] (.cond (.tmp 38)
    (.skip)
    (.exit 0))))
  (.keep [2, 3, 4, 5, 6, 8, 9] [2, 3, 4, 5, 6, 8] (.seq (.block 1 (.seq (.regionD O15_6 [])
    (.keep [2, 3, 4, 5, 6, 8, 9, 50] [2, 3, 4, 5, 6, 8] (.cond (.tmp 50)
     (.seq (.region O15_7)
     (.keep [4, 5, 6, 7] [4, 5, 6] (.ret)))
     (.skip)))))
  (.keep [2, 3, 4, 5, 6, 8, 9] [2, 3, 4, 5, 6, 8] (.region O15_8))))
def L15_0 : IC := .keep [2, 3, 4, 5, 6, 8, 9] [2, 3, 4, 5, 6, 8] B15_0
@[simp] theorem LK15_0 (s : SK) (k : AExit → SK → Option R) : evK C D (.loop L15_0) s k = (D (.loop L15_0) (prK [2, 3, 4, 5, 6, 8, 9] [2, 3, 4, 5, 6, 8] s).toSt).bind fun r => k r.1 (ofSt r.2) := by kernel_rfl
def O15_9 : List IOper :=
  [⟨some 54, .fieldAddr 1 (.tmp 2), none⟩,
   ⟨some 55, .load false 1 (.tmp 54), none⟩,
   ⟨some 56, .move (.tmp 55), none⟩,
   ⟨some 57, .fieldAddr 0 (.tmp 8), some (56, true)⟩,
   ⟨some 58, .fieldAddr 1 (.tmp 57), some (56, true)⟩,
   ⟨some 59, .load false 1 (.tmp 58), some (56, true)⟩,
   ⟨some 60, .fieldAddr 0 (.tmp 3), some (56, true)⟩,
   ⟨some 61, .fieldAddr 1 (.tmp 60), some (56, true)⟩,
   ⟨some 62, .load false 1 (.tmp 61), some (56, true)⟩,
   ⟨some 63, .bin .gtr .none (.tmp 59) (.tmp 62), some (56, true)⟩,
   ⟨some 64, .pick (.tmp 56) (.tmp 63) (.const (.bool false)), none⟩]
@[simp] theorem R15_9 (l2 l3 l4 l5 l6 l8 : List AV) :
  evK C D (.seq (.region O15_9) (.keep [2, 3, 4, 5, 6, 8, 64] [2, 3, 4, 5, 6, 8] c)) ⟨[(2, .l 2 0), (3, .l 3 0), (4, .l 4 0), (5, .l 5 0), (6, .l 6 0), (8, .l 8 0)], [(2, l2), (3, l3), (4, l4), (5, l5), (6, l6), (8, l8)], H⟩ k =
  (nl (rd false 1 1 l2)).bind fun t1 =>
  guardK t1 true (
  (nl (rd false 1 1 l8)).bind fun t5 =>
  (nl (rd false 1 1 l3)).bind fun t8 =>
  (nl (binA .gtr .none t5 t8)).bind fun t9 =>
  evK C D c ⟨[(2, .l 2 0), (3, .l 3 0), (4, .l 4 0), (5, .l 5 0), (6, .l 6 0), (8, .l 8 0), (64, .v t9)], [(2, l2), (3, l3), (4, l4), (5, l5), (6, l6), (8, l8)], H⟩ k)
  (evK C D c ⟨[(2, .l 2 0), (3, .l 3 0), (4, .l 4 0), (5, .l 5 0), (6, .l 6 0), (8, .l 8 0), (64, .v (.bool false))], [(2, l2), (3, l3), (4, l4), (5, l5), (6, l6), (8, l8)], H⟩ k) := by kernel_rfl
def O15_10 : List IOper :=
  [⟨some 65, .build [.nils, (.bool false), (.int .i64 0), (.int .i64 0), (.str []), (.int .i64 0), (.int .i64 0), (.int .i64 0), (.int .i64 0), (.int .i64 0), (.str []), (.bool false)] [], none⟩,
   ⟨some 66, .build [(.int .i64 0), (.int .i64 0)] [], none⟩,
   ⟨some 67, .build [(.int .i64 0), (.int .i64 0), (.str []), (.int .i64 0), (.int .i64 0)] [], none⟩,
   ⟨none, .store 12 (.tmp 4) (.tmp 65), none⟩,
   ⟨none, .store 2 (.tmp 5) (.tmp 66), none⟩,
   ⟨none, .store 5 (.tmp 6) (.tmp 67), none⟩,
   ⟨some 7, .move (.const (.int .i64 84)), none⟩]
@[simp] theorem R15_10 (x64 : AV) (l2 l3 l4 l5 l6 l8 : List AV) :
  evK C D (.seq (.region O15_10) (.keep [4, 5, 6, 7] [4, 5, 6] c)) ⟨[(2, .l 2 0), (3, .l 3 0), (4, .l 4 0), (5, .l 5 0), (6, .l 6 0), (8, .l 8 0), (64, .v x64)], [(2, l2), (3, l3), (4, l4), (5, l5), (6, l6), (8, l8)], H⟩ k =
  ((fillC [] [.nils, (.bool false), (.int .i64 0), (.int .i64 0), (.str []), (.int .i64 0), (.int .i64 0), (.int .i64 0), (.int .i64 0), (.int .i64 0), (.str []), (.bool false)]).map AV.agg).bind fun t0 =>
  ((fillC [] [(.int .i64 0), (.int .i64 0)]).map AV.agg).bind fun t1 =>
  ((fillC [] [(.int .i64 0), (.int .i64 0), (.str []), (.int .i64 0), (.int .i64 0)]).map AV.agg).bind fun t2 =>
  (stL 12 0 t0 l4).bind fun m3 =>
  (stL 2 0 t1 l5).bind fun m4 =>
  (stL 5 0 t2 l6).bind fun m5 =>
  evK C D c ⟨[(4, .l 4 0), (5, .l 5 0), (6, .l 6 0), (7, .v (.int .i64 84))], [(4, m3), (5, m4), (6, m5)], H⟩ k := by kernel_rfl
def O15_11 : List IOper :=
  [⟨some 68, .fieldAddr 1 (.tmp 2), none⟩,
   ⟨some 69, .load false 1 (.tmp 68), none⟩,
   ⟨some 70, .move (.tmp 69), none⟩,
   ⟨some 71, .fieldAddr 0 (.tmp 8), some (70, true)⟩,
   ⟨some 72, .fieldAddr 1 (.tmp 71), some (70, true)⟩,
   ⟨some 73, .load false 1 (.tmp 72), some (70, true)⟩,
   ⟨some 74, .fieldAddr 0 (.tmp 3), some (70, true)⟩,
   ⟨some 75, .fieldAddr 1 (.tmp 74), some (70, true)⟩,
   ⟨some 76, .load false 1 (.tmp 75), some (70, true)⟩,
   ⟨some 77, .bin .eql .int (.tmp 73) (.tmp 76), some (70, true)⟩,
   ⟨some 78, .pick (.tmp 70) (.tmp 77) (.const (.bool false)), none⟩,
   ⟨some 79, .move (.tmp 78), none⟩,
   ⟨some 80, .fieldAddr 5 (.tmp 8), some (79, true)⟩,
   ⟨some 81, .load false 1 (.tmp 80), some (79, true)⟩,
   ⟨some 82, .fieldAddr 5 (.tmp 3), some (79, true)⟩,
   ⟨some 83, .load false 1 (.tmp 82), some (79, true)⟩,
   ⟨some 84, .bin .geq .none (.tmp 81) (.tmp 83), some (79, true)⟩,
   ⟨some 85, .pick (.tmp 79) (.tmp 84) (.const (.bool false)), none⟩]
@[simp] theorem R15_11 (l2 l3 l4 l5 l6 l8 : List AV) :
  evK C D (.seq (.region O15_11) (.keep [2, 3, 4, 5, 6, 8, 85] [2, 3, 4, 5, 6, 8] c)) ⟨[(2, .l 2 0), (3, .l 3 0), (4, .l 4 0), (5, .l 5 0), (6, .l 6 0), (8, .l 8 0)], [(2, l2), (3, l3), (4, l4), (5, l5), (6, l6), (8, l8)], H⟩ k =
  (nl (rd false 1 1 l2)).bind fun t1 =>
  guardK t1 true (
  (nl (rd false 1 1 l8)).bind fun t5 =>
  (nl (rd false 1 1 l3)).bind fun t8 =>
  (nl (binA .eql .int t5 t8)).bind fun t9 =>
  guardK t9 true (
  (nl (rd false 1 5 l8)).bind fun t13 =>
  (nl (rd false 1 5 l3)).bind fun t15 =>
  (nl (binA .geq .none t13 t15)).bind fun t16 =>
  evK C D c ⟨[(2, .l 2 0), (3, .l 3 0), (4, .l 4 0), (5, .l 5 0), (6, .l 6 0), (8, .l 8 0), (85, .v t16)], [(2, l2), (3, l3), (4, l4), (5, l5), (6, l6), (8, l8)], H⟩ k)
  (evK C D c ⟨[(2, .l 2 0), (3, .l 3 0), (4, .l 4 0), (5, .l 5 0), (6, .l 6 0), (8, .l 8 0), (85, .v (.bool false))], [(2, l2), (3, l3), (4, l4), (5, l5), (6, l6), (8, l8)], H⟩ k))
  (evK C D c ⟨[(2, .l 2 0), (3, .l 3 0), (4, .l 4 0), (5, .l 5 0), (6, .l 6 0), (8, .l 8 0), (85, .v (.bool false))], [(2, l2), (3, l3), (4, l4), (5, l5), (6, l6), (8, l8)], H⟩ k) := by kernel_rfl
def O15_12 : List IOper :=
  [⟨some 86, .load true 12 (.tmp 2), none⟩,
   ⟨some 87, .call (.func 13) [(.tmp 86)], none⟩,
   ⟨none, .store 12 (.tmp 4) (.tmp 87), none⟩,
   ⟨some 88, .fieldAddr 6 (.tmp 8), none⟩,
   ⟨some 89, .load true 2 (.tmp 88), none⟩,
   ⟨none, .store 2 (.tmp 5) (.tmp 89), none⟩,
   ⟨some 90, .build [(.int .i64 0), (.int .i64 0), (.str []), (.int .i64 0), (.int .i64 0)] [], none⟩,
   ⟨none, .store 5 (.tmp 6) (.tmp 90), none⟩,
   ⟨some 7, .move (.const (.int .i64 0)), none⟩]
@[simp] theorem R15_12 (x85 : AV) (l2 l3 l4 l5 l6 l8 : List AV) :
  evK C D (.seq (.regionD O15_12 [(4, 0), (4, 2)]) (.keep [4, 5, 6, 7] [4, 5, 6] c)) ⟨[(2, .l 2 0), (3, .l 3 0), (4, .l 4 0), (5, .l 5 0), (6, .l 6 0), (8, .l 8 0), (85, .v x85)], [(2, l2), (3, l3), (4, l4), (5, l5), (6, l6), (8, l8)], H⟩ k =
  (nl (rd true 12 0 l2)).bind fun t0 =>
  kB (AV.okB H.n t0) (
  (callN C (.func (.func 13) [] []) [t0] H).bind fun r1 =>
  (stL 12 0 r1.1 l4).bind fun m2 =>
  (nl (rd true 2 6 l8)).bind fun t4 =>
  kB (AV.okB r1.2.n t4) (
  (stL 2 0 t4 l5).bind fun m5 =>
  ((fillC [] [(.int .i64 0), (.int .i64 0), (.str []), (.int .i64 0), (.int .i64 0)]).map AV.agg).bind fun t6 =>
  (stL 5 0 t6 l6).bind fun m7 =>
  kB (chk (rd true 2 6 l8) t4) (
  kB (chk (rd true 2 6 l8) t4) (
  evK C D c ⟨[(4, .l 4 0), (5, .l 5 0), (6, .l 6 0), (7, .v (.int .i64 0))], [(4, m2), (5, m5), (6, m7)], r1.2⟩ k)))) := by kernel_rfl
def O15_13 : List IOper :=
  [⟨some 91, .fieldAddr 6 (.tmp 3), none⟩,
   ⟨some 92, .load true 2 (.tmp 91), none⟩,
   ⟨some 10, .alloc true 2 [(.int .i64 0), (.int .i64 0)], none⟩,
   ⟨none, .store 2 (.tmp 10) (.tmp 92), none⟩]
@[simp] theorem R15_13 (l2 l3 l4 l5 l6 l8 : List AV) :
  evK C D (.seq (.region O15_13) (.keep [2, 3, 4, 5, 6, 8, 10] [2, 3, 4, 5, 6, 8, 10] c)) ⟨[(2, .l 2 0), (3, .l 3 0), (4, .l 4 0), (5, .l 5 0), (6, .l 6 0), (8, .l 8 0)], [(2, l2), (3, l3), (4, l4), (5, l5), (6, l6), (8, l8)], H⟩ k =
  (nl (rd true 2 6 l3)).bind fun t1 =>
  (stL 2 0 t1 [(.int .i64 0), (.int .i64 0)]).bind fun m3 =>
  evK C D c ⟨[(2, .l 2 0), (3, .l 3 0), (4, .l 4 0), (5, .l 5 0), (6, .l 6 0), (8, .l 8 0), (10, .l 10 0)], [(2, l2), (3, l3), (4, l4), (5, l5), (6, l6), (8, l8), (10, m3)], H⟩ k := by kernel_rfl
def O15_14 : List IOper :=
  [⟨some 94, .load true 12 (.tmp 2), none⟩,
   ⟨some 95, .call (.func 35) [(.tmp 94)], none⟩,
   ⟨some 93, .move (.tmp 95), none⟩,
   ⟨some 96, .extract (.tmp 93) 0, none⟩,
   ⟨some 97, .extract (.tmp 93) 1, none⟩,
   ⟨some 11, .alloc true 2 [(.int .i64 0), (.int .i64 0)], none⟩,
   ⟨none, .store 2 (.tmp 11) (.tmp 96), none⟩,
   ⟨some 12, .move (.tmp 97), none⟩]
@[simp] theorem R15_14 (l2 l3 l4 l5 l6 l8 l10 : List AV) :
  evK C D (.seq (.region O15_14) (.keep [2, 3, 4, 5, 6, 8, 10, 11, 12] [2, 3, 4, 5, 6, 8, 10, 11] c)) ⟨[(2, .l 2 0), (3, .l 3 0), (4, .l 4 0), (5, .l 5 0), (6, .l 6 0), (8, .l 8 0), (10, .l 10 0)], [(2, l2), (3, l3), (4, l4), (5, l5), (6, l6), (8, l8), (10, l10)], H⟩ k =
  (nl (rd true 12 0 l2)).bind fun t0 =>
  (callN C (.func (.func 35) [] []) [t0] H).bind fun r1 =>
  (nl (extA 0 r1.1)).bind fun t3 =>
  (nl (extA 1 r1.1)).bind fun t4 =>
  (stL 2 0 t3 [(.int .i64 0), (.int .i64 0)]).bind fun m6 =>
  evK C D c ⟨[(2, .l 2 0), (3, .l 3 0), (4, .l 4 0), (5, .l 5 0), (6, .l 6 0), (8, .l 8 0), (10, .l 10 0), (11, .l 11 0), (12, .v t4)], [(2, l2), (3, l3), (4, l4), (5, l5), (6, l6), (8, l8), (10, l10), (11, m6)], r1.2⟩ k := by kernel_rfl
def O15_15 : List IOper :=
  [⟨some 98, .move (.tmp 12), none⟩]
@[simp] theorem R15_15 (x12 : AV) (l2 l3 l4 l5 l6 l8 l10 l11 : List AV) :
  evK C D (.seq (.region O15_15) (.keep [2, 3, 4, 5, 6, 8, 10, 11, 98] [2, 3, 4, 5, 6, 8, 10, 11] c)) ⟨[(2, .l 2 0), (3, .l 3 0), (4, .l 4 0), (5, .l 5 0), (6, .l 6 0), (8, .l 8 0), (10, .l 10 0), (11, .l 11 0), (12, .v x12)], [(2, l2), (3, l3), (4, l4), (5, l5), (6, l6), (8, l8), (10, l10), (11, l11)], H⟩ k =
  evK C D c ⟨[(2, .l 2 0), (3, .l 3 0), (4, .l 4 0), (5, .l 5 0), (6, .l 6 0), (8, .l 8 0), (10, .l 10 0), (11, .l 11 0), (98, .v x12)], [(2, l2), (3, l3), (4, l4), (5, l5), (6, l6), (8, l8), (10, l10), (11, l11)], H⟩ k := by kernel_rfl
def O15_16 : List IOper :=
  [⟨some 100, .load true 2 (.tmp 11), none⟩,
   ⟨some 101, .call (.func 36) [(.tmp 100)], none⟩,
   ⟨some 99, .move (.tmp 101), none⟩,
   ⟨some 102, .extract (.tmp 99) 0, none⟩,
   ⟨some 103, .extract (.tmp 99) 1, none⟩,
   ⟨some 13, .alloc true 2 [(.int .i64 0), (.int .i64 0)], none⟩,
   ⟨none, .store 2 (.tmp 13) (.tmp 102), none⟩,
   ⟨some 14, .move (.tmp 103), none⟩]
@[simp] theorem R15_16 (x98 : AV) (l2 l3 l4 l5 l6 l8 l10 l11 : List AV) :
  evK C D (.seq (.region O15_16) (.keep [2, 3, 4, 5, 6, 8, 10, 13, 14] [2, 3, 4, 5, 6, 8, 10, 13] c)) ⟨[(2, .l 2 0), (3, .l 3 0), (4, .l 4 0), (5, .l 5 0), (6, .l 6 0), (8, .l 8 0), (10, .l 10 0), (11, .l 11 0), (98, .v x98)], [(2, l2), (3, l3), (4, l4), (5, l5), (6, l6), (8, l8), (10, l10), (11, l11)], H⟩ k =
  (nl (rd true 2 0 l11)).bind fun t0 =>
  (callN C (.func (.func 36) [] []) [t0] H).bind fun r1 =>
  (nl (extA 0 r1.1)).bind fun t3 =>
  (nl (extA 1 r1.1)).bind fun t4 =>
  (stL 2 0 t3 [(.int .i64 0), (.int .i64 0)]).bind fun m6 =>
  evK C D c ⟨[(2, .l 2 0), (3, .l 3 0), (4, .l 4 0), (5, .l 5 0), (6, .l 6 0), (8, .l 8 0), (10, .l 10 0), (13, .l 13 0), (14, .v t4)], [(2, l2), (3, l3), (4, l4), (5, l5), (6, l6), (8, l8), (10, l10), (13, m6)], r1.2⟩ k := by kernel_rfl
def O15_17 : List IOper :=
  [⟨some 104, .move (.tmp 14), none⟩,
   ⟨some 105, .bin .neq .int (.tmp 104) (.const (.int .i64 0)), none⟩]
@[simp] theorem R15_17 (x14 : AV) (l2 l3 l4 l5 l6 l8 l10 l13 : List AV) :
  evK C D (.seq (.region O15_17) (.keep [2, 3, 4, 5, 6, 8, 10, 13, 105] [2, 3, 4, 5, 6, 8, 10, 13] c)) ⟨[(2, .l 2 0), (3, .l 3 0), (4, .l 4 0), (5, .l 5 0), (6, .l 6 0), (8, .l 8 0), (10, .l 10 0), (13, .l 13 0), (14, .v x14)], [(2, l2), (3, l3), (4, l4), (5, l5), (6, l6), (8, l8), (10, l10), (13, l13)], H⟩ k =
  (nl (binA .neq .int x14 (.int .i64 0))).bind fun t1 =>
  evK C D c ⟨[(2, .l 2 0), (3, .l 3 0), (4, .l 4 0), (5, .l 5 0), (6, .l 6 0), (8, .l 8 0), (10, .l 10 0), (13, .l 13 0), (105, .v t1)], [(2, l2), (3, l3), (4, l4), (5, l5), (6, l6), (8, l8), (10, l10), (13, l13)], H⟩ k := by kernel_rfl
def O15_18 : List IOper :=
  [⟨some 106, .build [.nils, (.bool false), (.int .i64 0), (.int .i64 0), (.str []), (.int .i64 0), (.int .i64 0), (.int .i64 0), (.int .i64 0), (.int .i64 0), (.str []), (.bool false)] [], none⟩,
   ⟨some 107, .build [(.int .i64 0), (.int .i64 0)] [], none⟩,
   ⟨some 108, .build [(.int .i64 0), (.int .i64 0), (.str []), (.int .i64 0), (.int .i64 0)] [], none⟩,
   ⟨none, .store 12 (.tmp 4) (.tmp 106), none⟩,
   ⟨none, .store 2 (.tmp 5) (.tmp 107), none⟩,
   ⟨none, .store 5 (.tmp 6) (.tmp 108), none⟩,
   ⟨some 7, .move (.const (.int .i64 31)), none⟩]
@[simp] theorem R15_18 (x105 : AV) (l2 l3 l4 l5 l6 l8 l10 l13 : List AV) :
  evK C D (.seq (.region O15_18) (.keep [4, 5, 6, 7] [4, 5, 6] c)) ⟨[(2, .l 2 0), (3, .l 3 0), (4, .l 4 0), (5, .l 5 0), (6, .l 6 0), (8, .l 8 0), (10, .l 10 0), (13, .l 13 0), (105, .v x105)], [(2, l2), (3, l3), (4, l4), (5, l5), (6, l6), (8, l8), (10, l10), (13, l13)], H⟩ k =
  ((fillC [] [.nils, (.bool false), (.int .i64 0), (.int .i64 0), (.str []), (.int .i64 0), (.int .i64 0), (.int .i64 0), (.int .i64 0), (.int .i64 0), (.str []), (.bool false)]).map AV.agg).bind fun t0 =>
  ((fillC [] [(.int .i64 0), (.int .i64 0)]).map AV.agg).bind fun t1 =>
  ((fillC [] [(.int .i64 0), (.int .i64 0), (.str []), (.int .i64 0), (.int .i64 0)]).map AV.agg).bind fun t2 =>
  (stL 12 0 t0 l4).bind fun m3 =>
  (stL 2 0 t1 l5).bind fun m4 =>
  (stL 5 0 t2 l6).bind fun m5 =>
  evK C D c ⟨[(4, .l 4 0), (5, .l 5 0), (6, .l 6 0), (7, .v (.int .i64 31))], [(4, m3), (5, m4), (6, m5)], H⟩ k := by kernel_rfl
def O15_19 : List IOper :=
  [⟨some 109, .load true 2 (.tmp 10), none⟩,
   ⟨some 110, .load true 2 (.tmp 13), none⟩,
   ⟨some 111, .call (.func 37) [(.tmp 109), (.tmp 110)], none⟩,
   ⟨none, .store 2 (.tmp 10) (.tmp 111), none⟩]
@[simp] theorem R15_19 (l2 l3 l4 l5 l6 l8 l10 l13 : List AV) :
  evK C D (.region O15_19) ⟨[(2, .l 2 0), (3, .l 3 0), (4, .l 4 0), (5, .l 5 0), (6, .l 6 0), (8, .l 8 0), (10, .l 10 0), (13, .l 13 0)], [(2, l2), (3, l3), (4, l4), (5, l5), (6, l6), (8, l8), (10, l10), (13, l13)], H⟩ k =
  (nl (rd true 2 0 l10)).bind fun t0 =>
  (nl (rd true 2 0 l13)).bind fun t1 =>
  (callN C (.func (.func 37) [] []) [t0, t1] H).bind fun r2 =>
  (stL 2 0 r2.1 l10).bind fun m3 =>
  k .normal ⟨[(111, .v r2.1), (110, .v t1), (109, .v t0), (2, .l 2 0), (3, .l 3 0), (4, .l 4 0), (5, .l 5 0), (6, .l 6 0), (8, .l 8 0), (10, .l 10 0), (13, .l 13 0)], [(10, m3), (2, l2), (3, l3), (4, l4), (5, l5), (6, l6), (8, l8), (10, l10), (13, l13)], r2.2⟩ := by kernel_rfl
def O15_20 : List IOper :=
  [⟨some 112, .fieldAddr 1 (.tmp 2), none⟩,
   ⟨some 113, .load false 1 (.tmp 112), none⟩]
@[simp] theorem R15_20 (l2 l3 l4 l5 l6 l8 l10 : List AV) :
  evK C D (.seq (.region O15_20) (.keep [2, 3, 4, 5, 6, 8, 10, 113] [2, 3, 4, 5, 6, 8, 10] c)) ⟨[(2, .l 2 0), (3, .l 3 0), (4, .l 4 0), (5, .l 5 0), (6, .l 6 0), (8, .l 8 0), (10, .l 10 0)], [(2, l2), (3, l3), (4, l4), (5, l5), (6, l6), (8, l8), (10, l10)], H⟩ k =
  (nl (rd false 1 1 l2)).bind fun t1 =>
  evK C D c ⟨[(2, .l 2 0), (3, .l 3 0), (4, .l 4 0), (5, .l 5 0), (6, .l 6 0), (8, .l 8 0), (10, .l 10 0), (113, .v t1)], [(2, l2), (3, l3), (4, l4), (5, l5), (6, l6), (8, l8), (10, l10)], H⟩ k := by kernel_rfl
def O15_21 : List IOper :=
  [⟨some 114, .load true 2 (.tmp 10), none⟩,
   ⟨some 115, .fieldAddr 6 (.tmp 8), none⟩,
   ⟨some 116, .load true 2 (.tmp 115), none⟩,
   ⟨some 117, .call (.func 37) [(.tmp 114), (.tmp 116)], none⟩,
   ⟨none, .store 2 (.tmp 10) (.tmp 117), none⟩]
@[simp] theorem R15_21 (x113 : AV) (l2 l3 l4 l5 l6 l8 l10 : List AV) :
  evK C D (.region O15_21) ⟨[(2, .l 2 0), (3, .l 3 0), (4, .l 4 0), (5, .l 5 0), (6, .l 6 0), (8, .l 8 0), (10, .l 10 0), (113, .v x113)], [(2, l2), (3, l3), (4, l4), (5, l5), (6, l6), (8, l8), (10, l10)], H⟩ k =
  (nl (rd true 2 0 l10)).bind fun t0 =>
  (nl (rd true 2 6 l8)).bind fun t2 =>
  (callN C (.func (.func 37) [] []) [t0, t2] H).bind fun r3 =>
  (stL 2 0 r3.1 l10).bind fun m4 =>
  k .normal ⟨[(117, .v r3.1), (116, .v t2), (115, .l 8 6), (114, .v t0), (2, .l 2 0), (3, .l 3 0), (4, .l 4 0), (5, .l 5 0), (6, .l 6 0), (8, .l 8 0), (10, .l 10 0), (113, .v x113)], [(10, m4), (2, l2), (3, l3), (4, l4), (5, l5), (6, l6), (8, l8), (10, l10)], r3.2⟩ := by kernel_rfl
def O15_22 : List IOper :=
  [⟨some 118, .load true 2 (.tmp 10), none⟩,
   ⟨some 119, .call (.func 38) [(.tmp 118)], none⟩,
   ⟨some 15, .move (.tmp 119), none⟩]
@[simp] theorem R15_22 (l2 l3 l4 l5 l6 l10 : List AV) :
  evK C D (.seq (.region O15_22) (.keep [2, 3, 4, 5, 6, 10, 15] [2, 3, 4, 5, 6, 10] c)) ⟨[(2, .l 2 0), (3, .l 3 0), (4, .l 4 0), (5, .l 5 0), (6, .l 6 0), (10, .l 10 0)], [(2, l2), (3, l3), (4, l4), (5, l5), (6, l6), (10, l10)], H⟩ k =
  (nl (rd true 2 0 l10)).bind fun t0 =>
  (callN C (.func (.func 38) [] []) [t0] H).bind fun r1 =>
  evK C D c ⟨[(2, .l 2 0), (3, .l 3 0), (4, .l 4 0), (5, .l 5 0), (6, .l 6 0), (10, .l 10 0), (15, .v r1.1)], [(2, l2), (3, l3), (4, l4), (5, l5), (6, l6), (10, l10)], r1.2⟩ k := by kernel_rfl
def O15_23 : List IOper :=
  [⟨some 120, .move (.tmp 15), none⟩,
   ⟨some 121, .un .not (.tmp 120), none⟩]
@[simp] theorem R15_23 (x15 : AV) (l2 l3 l4 l5 l6 l10 : List AV) :
  evK C D (.seq (.region O15_23) (.keep [2, 3, 4, 5, 6, 10, 121] [2, 3, 4, 5, 6, 10] c)) ⟨[(2, .l 2 0), (3, .l 3 0), (4, .l 4 0), (5, .l 5 0), (6, .l 6 0), (10, .l 10 0), (15, .v x15)], [(2, l2), (3, l3), (4, l4), (5, l5), (6, l6), (10, l10)], H⟩ k =
  (nl (unA .not x15)).bind fun t1 =>
  evK C D c ⟨[(2, .l 2 0), (3, .l 3 0), (4, .l 4 0), (5, .l 5 0), (6, .l 6 0), (10, .l 10 0), (121, .v t1)], [(2, l2), (3, l3), (4, l4), (5, l5), (6, l6), (10, l10)], H⟩ k := by kernel_rfl
def O15_24 : List IOper :=
  [⟨some 122, .build [.nils, (.bool false), (.int .i64 0), (.int .i64 0), (.str []), (.int .i64 0), (.int .i64 0), (.int .i64 0), (.int .i64 0), (.int .i64 0), (.str []), (.bool false)] [], none⟩,
   ⟨some 123, .build [(.int .i64 0), (.int .i64 0)] [], none⟩,
   ⟨some 124, .build [(.int .i64 0), (.int .i64 0), (.str []), (.int .i64 0), (.int .i64 0)] [], none⟩,
   ⟨none, .store 12 (.tmp 4) (.tmp 122), none⟩,
   ⟨none, .store 2 (.tmp 5) (.tmp 123), none⟩,
   ⟨none, .store 5 (.tmp 6) (.tmp 124), none⟩,
   ⟨some 7, .move (.const (.int .i64 31)), none⟩]
@[simp] theorem R15_24 (x121 : AV) (l2 l3 l4 l5 l6 l10 : List AV) :
  evK C D (.seq (.region O15_24) (.keep [4, 5, 6, 7] [4, 5, 6] c)) ⟨[(2, .l 2 0), (3, .l 3 0), (4, .l 4 0), (5, .l 5 0), (6, .l 6 0), (10, .l 10 0), (121, .v x121)], [(2, l2), (3, l3), (4, l4), (5, l5), (6, l6), (10, l10)], H⟩ k =
  ((fillC [] [.nils, (.bool false), (.int .i64 0), (.int .i64 0), (.str []), (.int .i64 0), (.int .i64 0), (.int .i64 0), (.int .i64 0), (.int .i64 0), (.str []), (.bool false)]).map AV.agg).bind fun t0 =>
  ((fillC [] [(.int .i64 0), (.int .i64 0)]).map AV.agg).bind fun t1 =>
  ((fillC [] [(.int .i64 0), (.int .i64 0), (.str []), (.int .i64 0), (.int .i64 0)]).map AV.agg).bind fun t2 =>
  (stL 12 0 t0 l4).bind fun m3 =>
  (stL 2 0 t1 l5).bind fun m4 =>
  (stL 5 0 t2 l6).bind fun m5 =>
  evK C D c ⟨[(4, .l 4 0), (5, .l 5 0), (6, .l 6 0), (7, .v (.int .i64 31))], [(4, m3), (5, m4), (6, m5)], H⟩ k := by kernel_rfl
def O15_25 : List IOper :=
  [⟨some 125, .load true 12 (.tmp 2), none⟩,
   ⟨some 126, .call (.func 13) [(.tmp 125)], none⟩,
   ⟨some 16, .alloc true 12 [.nils, (.bool false), (.int .i64 0), (.int .i64 0), (.str []), (.int .i64 0), (.int .i64 0), (.int .i64 0), (.int .i64 0), (.int .i64 0), (.str []), (.bool false)], none⟩,
   ⟨none, .store 12 (.tmp 16) (.tmp 126), none⟩]
@[simp] theorem R15_25 (l2 l3 l4 l5 l6 l10 : List AV) :
  evK C D (.seq (.region O15_25) (.keep [3, 4, 5, 6, 10, 16] [3, 4, 5, 6, 10, 16] c)) ⟨[(2, .l 2 0), (3, .l 3 0), (4, .l 4 0), (5, .l 5 0), (6, .l 6 0), (10, .l 10 0)], [(2, l2), (3, l3), (4, l4), (5, l5), (6, l6), (10, l10)], H⟩ k =
  (nl (rd true 12 0 l2)).bind fun t0 =>
  (callN C (.func (.func 13) [] []) [t0] H).bind fun r1 =>
  (stL 12 0 r1.1 [.nils, (.bool false), (.int .i64 0), (.int .i64 0), (.str []), (.int .i64 0), (.int .i64 0), (.int .i64 0), (.int .i64 0), (.int .i64 0), (.str []), (.bool false)]).bind fun m3 =>
  evK C D c ⟨[(3, .l 3 0), (4, .l 4 0), (5, .l 5 0), (6, .l 6 0), (10, .l 10 0), (16, .l 16 0)], [(3, l3), (4, l4), (5, l5), (6, l6), (10, l10), (16, m3)], r1.2⟩ k := by kernel_rfl
def O15_26 : List IOper :=
  [⟨some 127, .fieldAddr 1 (.tmp 16), none⟩,
   ⟨none, .store 1 (.tmp 127) (.const (.bool true)), none⟩]
@[simp] theorem R15_26 (l3 l4 l5 l6 l10 l16 : List AV) :
  evK C D (.seq (.region O15_26) (.keep [3, 4, 5, 6, 10, 16] [3, 4, 5, 6, 10, 16] c)) ⟨[(3, .l 3 0), (4, .l 4 0), (5, .l 5 0), (6, .l 6 0), (10, .l 10 0), (16, .l 16 0)], [(3, l3), (4, l4), (5, l5), (6, l6), (10, l10), (16, l16)], H⟩ k =
  (stL 1 1 (.bool true) l16).bind fun m1 =>
  evK C D c ⟨[(3, .l 3 0), (4, .l 4 0), (5, .l 5 0), (6, .l 6 0), (10, .l 10 0), (16, .l 16 0)], [(3, l3), (4, l4), (5, l5), (6, l6), (10, l10), (16, m1)], H⟩ k := by kernel_rfl
def O15_27 : List IOper :=
  [⟨some 128, .load true 10 (.tmp 3), none⟩,
   ⟨some 129, .fieldAddr 2 (.tmp 16), none⟩,
   ⟨none, .store 10 (.tmp 129) (.tmp 128), none⟩]
@[simp] theorem R15_27 (l3 l4 l5 l6 l10 l16 : List AV) :
  evK C D (.seq (.region O15_27) (.keep [4, 5, 6, 10, 16] [4, 5, 6, 10, 16] c)) ⟨[(3, .l 3 0), (4, .l 4 0), (5, .l 5 0), (6, .l 6 0), (10, .l 10 0), (16, .l 16 0)], [(3, l3), (4, l4), (5, l5), (6, l6), (10, l10), (16, l16)], H⟩ k =
  (nl (rd true 10 0 l3)).bind fun t0 =>
  (stL 10 2 t0 l16).bind fun m2 =>
  evK C D c ⟨[(4, .l 4 0), (5, .l 5 0), (6, .l 6 0), (10, .l 10 0), (16, .l 16 0)], [(4, l4), (5, l5), (6, l6), (10, l10), (16, m2)], H⟩ k := by kernel_rfl
def O15_28 : List IOper :=
  [⟨some 130, .load true 2 (.tmp 10), none⟩,
   ⟨some 131, .fieldAddr 2 (.tmp 16), none⟩,
   ⟨some 132, .fieldAddr 6 (.tmp 131), none⟩,
   ⟨none, .store 2 (.tmp 132) (.tmp 130), none⟩]
@[simp] theorem R15_28 (l4 l5 l6 l10 l16 : List AV) :
  evK C D (.seq (.region O15_28) (.keep [4, 5, 6, 10, 16] [4, 5, 6, 10, 16] c)) ⟨[(4, .l 4 0), (5, .l 5 0), (6, .l 6 0), (10, .l 10 0), (16, .l 16 0)], [(4, l4), (5, l5), (6, l6), (10, l10), (16, l16)], H⟩ k =
  (nl (rd true 2 0 l10)).bind fun t0 =>
  (stL 2 8 t0 l16).bind fun m3 =>
  evK C D c ⟨[(4, .l 4 0), (5, .l 5 0), (6, .l 6 0), (10, .l 10 0), (16, .l 16 0)], [(4, l4), (5, l5), (6, l6), (10, l10), (16, m3)], H⟩ k := by kernel_rfl
def O15_29 : List IOper :=
  [⟨some 133, .load true 12 (.tmp 16), none⟩,
   ⟨none, .store 12 (.tmp 4) (.tmp 133), none⟩,
   ⟨some 134, .load true 2 (.tmp 10), none⟩,
   ⟨none, .store 2 (.tmp 5) (.tmp 134), none⟩,
   ⟨some 135, .build [(.int .i64 0), (.int .i64 0), (.str []), (.int .i64 0), (.int .i64 0)] [], none⟩,
   ⟨none, .store 5 (.tmp 6) (.tmp 135), none⟩,
   ⟨some 7, .move (.const (.int .i64 0)), none⟩]
@[simp] theorem R15_29 (l4 l5 l6 l10 l16 : List AV) :
  evK C D (.seq (.regionD O15_29 [(2, 0)]) (.keep [4, 5, 6, 7] [4, 5, 6] c)) ⟨[(4, .l 4 0), (5, .l 5 0), (6, .l 6 0), (10, .l 10 0), (16, .l 16 0)], [(4, l4), (5, l5), (6, l6), (10, l10), (16, l16)], H⟩ k =
  (nl (rd true 12 0 l16)).bind fun t0 =>
  kB (AV.okB H.n t0) (
  (stL 12 0 t0 l4).bind fun m1 =>
  (nl (rd true 2 0 l10)).bind fun t2 =>
  kB (AV.okB H.n t2) (
  (stL 2 0 t2 l5).bind fun m3 =>
  ((fillC [] [(.int .i64 0), (.int .i64 0), (.str []), (.int .i64 0), (.int .i64 0)]).map AV.agg).bind fun t4 =>
  (stL 5 0 t4 l6).bind fun m5 =>
  kB (chk (rd true 2 0 l10) t2) (
  evK C D c ⟨[(4, .l 4 0), (5, .l 5 0), (6, .l 6 0), (7, .v (.int .i64 0))], [(4, m1), (5, m3), (6, m5)], H⟩ k))) := by kernel_rfl
def F15 : FnIR := ⟨136, 2, [.cell 4 true 12, .cell 5 true 2, .cell 6 true 5, .tmp 7], [2, 3, 4, 5, 6, 8, 10, 11, 13, 16],
  .seq (.region O15_0)
  (.keep [2, 3, 4, 5, 6] [2, 3, 4, 5, 6] (.seq (.region O15_1)
  (.keep [2, 3, 4, 5, 6, 8] [2, 3, 4, 5, 6, 8] (.seq (.seq (.region O15_2)
   (.keep [2, 3, 4, 5, 6, 8, 29] [2, 3, 4, 5, 6, 8] (.cond (.tmp 29)
    (.seq (.regionD O15_3 [(5, 0), (5, 2)])
    (.keep [4, 5, 6, 7] [4, 5, 6] (.ret)))
    (.skip))))
  (.keep [2, 3, 4, 5, 6, 8] [2, 3, 4, 5, 6, 8] (.seq (.seq (.region O15_4)
   (.keep [2, 3, 4, 5, 6, 8, 9] [2, 3, 4, 5, 6, 8] (.block 0 (.loop L15_0))))
  (.keep [2, 3, 4, 5, 6, 8] [2, 3, 4, 5, 6, 8] (.seq (.seq (.region O15_9)
   (.keep [2, 3, 4, 5, 6, 8, 64] [2, 3, 4, 5, 6, 8] (.cond (.tmp 64)
    (.seq (.region O15_10)
    (.keep [4, 5, 6, 7] [4, 5, 6] (.ret)))
    (.skip))))
  (.keep [2, 3, 4, 5, 6, 8] [2, 3, 4, 5, 6, 8] (.seq (.seq (.region O15_11)
   (.keep [2, 3, 4, 5, 6, 8, 85] [2, 3, 4, 5, 6, 8] (.cond (.tmp 85)
    (.seq (.regionD O15_12 [(4, 0), (4, 2)])
    (.keep [4, 5, 6, 7] [4, 5, 6] (.ret)))
    (.skip))))
  (.keep [2, 3, 4, 5, 6, 8] [2, 3, 4, 5, 6, 8] (.seq (.region O15_13)
  (.keep [2, 3, 4, 5, 6, 8, 10] [2, 3, 4, 5, 6, 8, 10] (.seq (.region O15_14)
  (.keep [2, 3, 4, 5, 6, 8, 10, 11, 12] [2, 3, 4, 5, 6, 8, 10, 11] (.seq (.seq (.region O15_15)
   (.keep [2, 3, 4, 5, 6, 8, 10, 11, 98] [2, 3, 4, 5, 6, 8, 10, 11] (.cond (.tmp 98)
    (.seq (.region O15_16)
    (.keep [2, 3, 4, 5, 6, 8, 10, 13, 14] [2, 3, 4, 5, 6, 8, 10, 13] (.seq (.seq (.region O15_17)
     (.keep [2, 3, 4, 5, 6, 8, 10, 13, 105] [2, 3, 4, 5, 6, 8, 10, 13] (.cond (.tmp 105)
      (.seq (.region O15_18)
      (.keep [4, 5, 6, 7] [4, 5, 6] (.ret)))
      (.skip))))
    (.keep [2, 3, 4, 5, 6, 8, 10, 13] [2, 3, 4, 5, 6, 8, 10, 13] (.region O15_19)))))
    (.skip))))
  (.keep [2, 3, 4, 5, 6, 8, 10] [2, 3, 4, 5, 6, 8, 10] (.seq (.seq (.region O15_20)
   (.keep [2, 3, 4, 5, 6, 8, 10, 113] [2, 3, 4, 5, 6, 8, 10] (.cond (.tmp 113)
    (.region O15_21)
    (.skip))))
  (.keep [2, 3, 4, 5, 6, 10] [2, 3, 4, 5, 6, 10] (.seq (.region O15_22)
  (.keep [2, 3, 4, 5, 6, 10, 15] [2, 3, 4, 5, 6, 10] (.seq (.seq (.region O15_23)
   (.keep [2, 3, 4, 5, 6, 10, 121] [2, 3, 4, 5, 6, 10] (.cond (.tmp 121)
    (.seq (.region O15_24)
    (.keep [4, 5, 6, 7] [4, 5, 6] (.ret)))
    (.skip))))
  (.keep [2, 3, 4, 5, 6, 10] [2, 3, 4, 5, 6, 10] (.seq (.region O15_25)
  (.keep [3, 4, 5, 6, 10, 16] [3, 4, 5, 6, 10, 16] (.seq (.region O15_26)
  (.keep [3, 4, 5, 6, 10, 16] [3, 4, 5, 6, 10, 16] (.seq (.region O15_27)
  (.keep [4, 5, 6, 10, 16] [4, 5, 6, 10, 16] (.seq (.region O15_28)
  (.keep [4, 5, 6, 10, 16] [4, 5, 6, 10, 16] (.seq (.regionD O15_29 [(2, 0)])
  (.keep [4, 5, 6, 7] [4, 5, 6] (.ret))))))))))))))))))))))))))))))))))⟩
/-- wampum/wampumref03.Next -/
def O36_0 : List IOper :=
  [⟨some 1, .box true 2 (.tmp 0), none⟩,
   ⟨some 2, .alloc true 2 [(.int .i64 0), (.int .i64 0)], none⟩,
   ⟨some 3, .move (.const (.int .i64 0)), none⟩]
@[simp] theorem R36_0 (x0 : AV) :
  evK C D (.seq (.region O36_0) (.keep [1, 2] [1, 2] c)) ⟨[(0, .v x0)], [], H⟩ k =
  (boxC x0).bind fun m0 =>
  evK C D c ⟨[(1, .l 1 0), (2, .l 2 0)], [(1, m0), (2, [(.int .i64 0), (.int .i64 0)])], H⟩ k := by kernel_rfl
def O36_1 : List IOper :=
  [⟨some 5, .load true 2 (.tmp 1), none⟩,
   ⟨some 6, .call (.func 38) [(.tmp 5)], none⟩,
   ⟨some 4, .move (.tmp 6), none⟩]
@[simp] theorem R36_1 (l1 l2 : List AV) :
  evK C D (.seq (.region O36_1) (.keep [1, 2, 4] [1, 2] c)) ⟨[(1, .l 1 0), (2, .l 2 0)], [(1, l1), (2, l2)], H⟩ k =
  (nl (rd true 2 0 l1)).bind fun t0 =>
  (callN C (.func (.func 38) [] []) [t0] H).bind fun r1 =>
  evK C D c ⟨[(1, .l 1 0), (2, .l 2 0), (4, .v r1.1)], [(1, l1), (2, l2)], r1.2⟩ k := by kernel_rfl
def O36_2 : List IOper :=
  [⟨some 7, .move (.tmp 4), none⟩,
   ⟨some 8, .un .not (.tmp 7), none⟩,
   ⟨some 9, .move (.tmp 8), none⟩,
   ⟨some 10, .fieldAddr 0 (.tmp 1), some (9, false)⟩,
   ⟨some 11, .load false 1 (.tmp 10), some (9, false)⟩,
   ⟨some 12, .bin .eql .int (.tmp 11) (.const (.int .i64 1099511627776)), some (9, false)⟩,
   ⟨some 13, .move (.tmp 12), some (9, false)⟩,
   ⟨some 14, .fieldAddr 1 (.tmp 1), some (13, true)⟩,
   ⟨some 15, .load false 1 (.tmp 14), some (13, true)⟩,
   ⟨some 16, .bin .eql .int (.tmp 15) (.const (.int .i64 65535)), some (13, true)⟩,
   ⟨some 17, .pick (.tmp 13) (.tmp 16) (.const (.bool false)), some (9, false)⟩,
   ⟨some 18, .pick (.tmp 9) (.const (.bool true)) (.tmp 17), none⟩]
@[simp] theorem R36_2 (x4 : AV) (l1 l2 : List AV) :
  evK C D (.seq (.region O36_2) (.keep [1, 2, 18] [1, 2] c)) ⟨[(1, .l 1 0), (2, .l 2 0), (4, .v x4)], [(1, l1), (2, l2)], H⟩ k =
  (nl (unA .not x4)).bind fun t1 =>
  guardK t1 false (
  (nl (rd false 1 0 l1)).bind fun t4 =>
  (nl (binA .eql .int t4 (.int .i64 1099511627776))).bind fun t5 =>
  guardK t5 true (
  (nl (rd false 1 1 l1)).bind fun t8 =>
  (nl (binA .eql .int t8 (.int .i64 65535))).bind fun t9 =>
  evK C D c ⟨[(1, .l 1 0), (2, .l 2 0), (18, .v t9)], [(1, l1), (2, l2)], H⟩ k)
  (evK C D c ⟨[(1, .l 1 0), (2, .l 2 0), (18, .v (.bool false))], [(1, l1), (2, l2)], H⟩ k))
  (evK C D c ⟨[(1, .l 1 0), (2, .l 2 0), (18, .v (.bool true))], [(1, l1), (2, l2)], H⟩ k) := by kernel_rfl
def O36_3 : List IOper :=
  [⟨some 19, .build [(.int .i64 0), (.int .i64 0)] [], none⟩,
   ⟨none, .store 2 (.tmp 2) (.tmp 19), none⟩,
   ⟨some 3, .move (.const (.int .i64 31)), none⟩]
@[simp] theorem R36_3 (x18 : AV) (l1 l2 : List AV) :
  evK C D (.seq (.region O36_3) (.keep [2, 3] [2] c)) ⟨[(1, .l 1 0), (2, .l 2 0), (18, .v x18)], [(1, l1), (2, l2)], H⟩ k =
  ((fillC [] [(.int .i64 0), (.int .i64 0)]).map AV.agg).bind fun t0 =>
  (stL 2 0 t0 l2).bind fun m1 =>
  evK C D c ⟨[(2, .l 2 0), (3, .v (.int .i64 31))], [(2, m1)], H⟩ k := by kernel_rfl
def O36_4 : List IOper :=
  [⟨some 20, .fieldAddr 1 (.tmp 1), none⟩,
   ⟨some 21, .load false 1 (.tmp 20), none⟩,
   ⟨some 22, .bin .eql .int (.tmp 21) (.const (.int .i64 65535)), none⟩]
@[simp] theorem R36_4 (l1 l2 : List AV) :
  evK C D (.seq (.region O36_4) (.keep [1, 2, 22] [1, 2] c)) ⟨[(1, .l 1 0), (2, .l 2 0)], [(1, l1), (2, l2)], H⟩ k =
  (nl (rd false 1 1 l1)).bind fun t1 =>
  (nl (binA .eql .int t1 (.int .i64 65535))).bind fun t2 =>
  evK C D c ⟨[(1, .l 1 0), (2, .l 2 0), (22, .v t2)], [(1, l1), (2, l2)], H⟩ k := by kernel_rfl
def O36_5 : List IOper :=
  [⟨some 23, .fieldAddr 0 (.tmp 1), none⟩,
   ⟨some 24, .load false 1 (.tmp 23), none⟩,
   ⟨some 25, .bin .add .none (.tmp 24) (.const (.int .i64 1)), none⟩,
   ⟨some 26, .build [(.int .i64 0), (.int .i64 0)] [(0, 1, (.tmp 25))], none⟩,
   ⟨none, .store 2 (.tmp 2) (.tmp 26), none⟩,
   ⟨some 3, .move (.const (.int .i64 0)), none⟩]
@[simp] theorem R36_5 (x22 : AV) (l1 l2 : List AV) :
  evK C D (.seq (.region O36_5) (.keep [2, 3] [2] c)) ⟨[(1, .l 1 0), (2, .l 2 0), (22, .v x22)], [(1, l1), (2, l2)], H⟩ k =
  (nl (rd false 1 0 l1)).bind fun t1 =>
  (nl (binA .add .none t1 (.int .i64 1))).bind fun t2 =>
  ((fillC [(0, 1, t2)] [(.int .i64 0), (.int .i64 0)]).map AV.agg).bind fun t3 =>
  (stL 2 0 t3 l2).bind fun m4 =>
  evK C D c ⟨[(2, .l 2 0), (3, .v (.int .i64 0))], [(2, m4)], H⟩ k := by kernel_rfl
def O36_6 : List IOper :=
  [⟨some 27, .fieldAddr 0 (.tmp 1), none⟩,
   ⟨some 28, .load false 1 (.tmp 27), none⟩,
   ⟨some 29, .fieldAddr 1 (.tmp 1), none⟩,
   ⟨some 30, .load false 1 (.tmp 29), none⟩,
   ⟨some 31, .bin .add .none (.tmp 30) (.const (.int .i64 1)), none⟩,
   ⟨some 32, .build [(.int .i64 0), (.int .i64 0)] [(0, 1, (.tmp 28)), (1, 1, (.tmp 31))], none⟩,
   ⟨none, .store 2 (.tmp 2) (.tmp 32), none⟩,
   ⟨some 3, .move (.const (.int .i64 0)), none⟩]
@[simp] theorem R36_6 (l1 l2 : List AV) :
  evK C D (.seq (.region O36_6) (.keep [2, 3] [2] c)) ⟨[(1, .l 1 0), (2, .l 2 0)], [(1, l1), (2, l2)], H⟩ k =
  (nl (rd false 1 0 l1)).bind fun t1 =>
  (nl (rd false 1 1 l1)).bind fun t3 =>
  (nl (binA .add .none t3 (.int .i64 1))).bind fun t4 =>
  ((fillC [(0, 1, t1), (1, 1, t4)] [(.int .i64 0), (.int .i64 0)]).map AV.agg).bind fun t5 =>
  (stL 2 0 t5 l2).bind fun m6 =>
  evK C D c ⟨[(2, .l 2 0), (3, .v (.int .i64 0))], [(2, m6)], H⟩ k := by kernel_rfl
def F36 : FnIR := ⟨33, 1, [.cell 2 true 2, .tmp 3], [1, 2],
  .seq (.region O36_0)
  (.keep [1, 2] [1, 2] (.seq (.region O36_1)
  (.keep [1, 2, 4] [1, 2] (.seq (.seq (.region O36_2)
   (.keep [1, 2, 18] [1, 2] (.cond (.tmp 18)
    (.seq (.region O36_3)
    (.keep [2, 3] [2] (.ret)))
    (.skip))))
  (.keep [1, 2] [1, 2] (.seq (.seq (.region O36_4)
   (.keep [1, 2, 22] [1, 2] (.cond (.tmp 22)
    (.seq (.region O36_5)
    (.keep [2, 3] [2] (.ret)))
    (.skip))))
  (.keep [1, 2] [1, 2] (.seq (.region O36_6)
  (.keep [2, 3] [2] (.ret))))))))))⟩
/-- wampum/wampumref03.Max -/
def O37_0 : List IOper :=
  [⟨some 2, .box true 2 (.tmp 0), none⟩,
   ⟨some 3, .box true 2 (.tmp 1), none⟩,
   ⟨some 4, .alloc true 2 [(.int .i64 0), (.int .i64 0)], none⟩]
@[simp] theorem R37_0 (x0 x1 : AV) :
  evK C D (.seq (.region O37_0) (.keep [2, 3, 4] [2, 3, 4] c)) ⟨[(0, .v x0), (1, .v x1)], [], H⟩ k =
  (boxC x0).bind fun m0 =>
  (boxC x1).bind fun m1 =>
  evK C D c ⟨[(2, .l 2 0), (3, .l 3 0), (4, .l 4 0)], [(2, m0), (3, m1), (4, [(.int .i64 0), (.int .i64 0)])], H⟩ k := by kernel_rfl
def O37_1 : List IOper :=
  [⟨some 6, .load true 2 (.tmp 2), none⟩,
   ⟨some 7, .load true 2 (.tmp 3), none⟩,
   ⟨some 8, .call (.func 46) [(.tmp 6), (.tmp 7)], none⟩,
   ⟨some 5, .move (.tmp 8), none⟩]
@[simp] theorem R37_1 (l2 l3 l4 : List AV) :
  evK C D (.seq (.region O37_1) (.keep [2, 3, 4, 5] [2, 3, 4] c)) ⟨[(2, .l 2 0), (3, .l 3 0), (4, .l 4 0)], [(2, l2), (3, l3), (4, l4)], H⟩ k =
  (nl (rd true 2 0 l2)).bind fun t0 =>
  (nl (rd true 2 0 l3)).bind fun t1 =>
  (callN C (.func (.func 46) [] []) [t0, t1] H).bind fun r2 =>
  evK C D c ⟨[(2, .l 2 0), (3, .l 3 0), (4, .l 4 0), (5, .v r2.1)], [(2, l2), (3, l3), (4, l4)], r2.2⟩ k := by kernel_rfl
def O37_2 : List IOper :=
  [⟨some 9, .move (.tmp 5), none⟩]
@[simp] theorem R37_2 (x5 : AV) (l2 l3 l4 : List AV) :
  evK C D (.seq (.region O37_2) (.keep [2, 3, 4, 9] [2, 3, 4] c)) ⟨[(2, .l 2 0), (3, .l 3 0), (4, .l 4 0), (5, .v x5)], [(2, l2), (3, l3), (4, l4)], H⟩ k =
  evK C D c ⟨[(2, .l 2 0), (3, .l 3 0), (4, .l 4 0), (9, .v x5)], [(2, l2), (3, l3), (4, l4)], H⟩ k := by kernel_rfl
def O37_3 : List IOper :=
  [⟨some 10, .load true 2 (.tmp 3), none⟩,
   ⟨none, .store 2 (.tmp 4) (.tmp 10), none⟩]
@[simp] theorem R37_3 (x9 : AV) (l2 l3 l4 : List AV) :
  evK C D (.seq (.region O37_3) (.keep [4] [4] c)) ⟨[(2, .l 2 0), (3, .l 3 0), (4, .l 4 0), (9, .v x9)], [(2, l2), (3, l3), (4, l4)], H⟩ k =
  (nl (rd true 2 0 l3)).bind fun t0 =>
  (stL 2 0 t0 l4).bind fun m1 =>
  evK C D c ⟨[(4, .l 4 0)], [(4, m1)], H⟩ k := by kernel_rfl
def O37_4 : List IOper :=
  [⟨some 11, .load true 2 (.tmp 2), none⟩,
   ⟨none, .store 2 (.tmp 4) (.tmp 11), none⟩]
@[simp] theorem R37_4 (l2 l4 : List AV) :
  evK C D (.seq (.region O37_4) (.keep [4] [4] c)) ⟨[(2, .l 2 0), (4, .l 4 0)], [(2, l2), (4, l4)], H⟩ k =
  (nl (rd true 2 0 l2)).bind fun t0 =>
  (stL 2 0 t0 l4).bind fun m1 =>
  evK C D c ⟨[(4, .l 4 0)], [(4, m1)], H⟩ k := by kernel_rfl
def F37 : FnIR := ⟨12, 2, [.cell 4 true 2], [2, 3, 4],
  .seq (.region O37_0)
  (.keep [2, 3, 4] [2, 3, 4] (.seq (.region O37_1)
  (.keep [2, 3, 4, 5] [2, 3, 4] (.seq (.seq (.region O37_2)
   (.keep [2, 3, 4, 9] [2, 3, 4] (.cond (.tmp 9)
    (.seq (.region O37_3)
    (.keep [4] [4] (.ret)))
    (.skip))))
  (.keep [2, 4] [2, 4] (.seq (.region O37_4)
  (.keep [4] [4] (.ret))))))))⟩
/-- wampum/wampumref08.Resolve -/
def O17_0 : List IOper :=
  [⟨some 5, .box true 12 (.tmp 0), none⟩,
   ⟨some 9, .box true 2 (.tmp 4), none⟩,
   ⟨some 10, .alloc true 12 [.nils, (.bool false), (.int .i64 0), (.int .i64 0), (.str []), (.int .i64 0), (.int .i64 0), (.int .i64 0), (.int .i64 0), (.int .i64 0), (.str []), (.bool false)], none⟩,
   ⟨some 11, .move (.const (.int .i64 0)), none⟩]
@[simp] theorem R17_0 (x0 x1 x2 x3 x4 : AV) :
  evK C D (.seq (.region O17_0) (.keep [1, 2, 3, 5, 9, 10] [5, 9, 10] c)) ⟨[(0, .v x0), (1, .v x1), (2, .v x2), (3, .v x3), (4, .v x4)], [], H⟩ k =
  (boxC x0).bind fun m0 =>
  (boxC x4).bind fun m1 =>
  evK C D c ⟨[(1, .v x1), (2, .v x2), (3, .v x3), (5, .l 5 0), (9, .l 9 0), (10, .l 10 0)], [(5, m0), (9, m1), (10, [.nils, (.bool false), (.int .i64 0), (.int .i64 0), (.str []), (.int .i64 0), (.int .i64 0), (.int .i64 0), (.int .i64 0), (.int .i64 0), (.str []), (.bool false)])], H⟩ k := by kernel_rfl
def O17_1 : List IOper :=
  [⟨some 17, .load true 12 (.tmp 5), none⟩,
   ⟨some 18, .call (.func 13) [(.tmp 17)], none⟩,
   ⟨some 12, .alloc true 12 [.nils, (.bool false), (.int .i64 0), (.int .i64 0), (.str []), (.int .i64 0), (.int .i64 0), (.int .i64 0), (.int .i64 0), (.int .i64 0), (.str []), (.bool false)], none⟩,
   ⟨none, .store 12 (.tmp 12) (.tmp 18), none⟩]
@[simp] theorem R17_1 (x1 x2 x3 : AV) (l5 l9 l10 : List AV) :
  evK C D (.seq (.region O17_1) (.keep [1, 2, 3, 5, 9, 10, 12] [5, 9, 10, 12] c)) ⟨[(1, .v x1), (2, .v x2), (3, .v x3), (5, .l 5 0), (9, .l 9 0), (10, .l 10 0)], [(5, l5), (9, l9), (10, l10)], H⟩ k =
  (nl (rd true 12 0 l5)).bind fun t0 =>
  (callN C (.func (.func 13) [] []) [t0] H).bind fun r1 =>
  (stL 12 0 r1.1 [.nils, (.bool false), (.int .i64 0), (.int .i64 0), (.str []), (.int .i64 0), (.int .i64 0), (.int .i64 0), (.int .i64 0), (.int .i64 0), (.str []), (.bool false)]).bind fun m3 =>
  evK C D c ⟨[(1, .v x1), (2, .v x2), (3, .v x3), (5, .l 5 0), (9, .l 9 0), (10, .l 10 0), (12, .l 12 0)], [(5, l5), (9, l9), (10, l10), (12, m3)], r1.2⟩ k := by kernel_rfl
def O17_2 : List IOper :=
  [⟨some 19, .fieldAddr 2 (.tmp 5), none⟩,
   ⟨some 20, .load true 10 (.tmp 19), none⟩,
   ⟨some 13, .alloc true 10 [(.int .i64 0), (.int .i64 0), (.str []), (.int .i64 0), (.int .i64 0), (.int .i64 0), (.int .i64 0), (.int .i64 0), (.str []), (.bool false)], none⟩,
   ⟨none, .store 10 (.tmp 13) (.tmp 20), none⟩]
@[simp] theorem R17_2 (x1 x2 x3 : AV) (l5 l9 l10 l12 : List AV) :
  evK C D (.seq (.region O17_2) (.keep [1, 2, 3, 5, 9, 10, 12, 13] [5, 9, 10, 12, 13] c)) ⟨[(1, .v x1), (2, .v x2), (3, .v x3), (5, .l 5 0), (9, .l 9 0), (10, .l 10 0), (12, .l 12 0)], [(5, l5), (9, l9), (10, l10), (12, l12)], H⟩ k =
  (nl (rd true 10 2 l5)).bind fun t1 =>
  (stL 10 0 t1 [(.int .i64 0), (.int .i64 0), (.str []), (.int .i64 0), (.int .i64 0), (.int .i64 0), (.int .i64 0), (.int .i64 0), (.str []), (.bool false)]).bind fun m3 =>
  evK C D c ⟨[(1, .v x1), (2, .v x2), (3, .v x3), (5, .l 5 0), (9, .l 9 0), (10, .l 10 0), (12, .l 12 0), (13, .l 13 0)], [(5, l5), (9, l9), (10, l10), (12, l12), (13, m3)], H⟩ k := by kernel_rfl
def O17_3 : List IOper :=
  [⟨some 21, .fieldAddr 1 (.tmp 5), none⟩,
   ⟨some 22, .load false 1 (.tmp 21), none⟩,
   ⟨some 23, .un .not (.tmp 22), none⟩,
   ⟨some 24, .move (.tmp 23), none⟩,
   ⟨some 25, .fieldAddr 0 (.tmp 13), some (24, false)⟩,
   ⟨some 26, .fieldAddr 0 (.tmp 25), some (24, false)⟩,
   ⟨some 27, .load false 1 (.tmp 26), some (24, false)⟩,
   ⟨some 28, .move (.tmp 1), some (24, false)⟩,
   ⟨some 29, .bin .neq .int (.tmp 27) (.tmp 28), some (24, false)⟩,
   ⟨some 30, .pick (.tmp 24) (.const (.bool true)) (.tmp 29), none⟩]
@[simp] theorem R17_3 (x1 x2 x3 : AV) (l5 l9 l10 l12 l13 : List AV) :
  evK C D (.seq (.region O17_3) (.keep [1, 2, 3, 5, 9, 10, 12, 13, 30] [5, 9, 10, 12, 13] c)) ⟨[(1, .v x1), (2, .v x2), (3, .v x3), (5, .l 5 0), (9, .l 9 0), (10, .l 10 0), (12, .l 12 0), (13, .l 13 0)], [(5, l5), (9, l9), (10, l10), (12, l12), (13, l13)], H⟩ k =
  (nl (rd false 1 1 l5)).bind fun t1 =>
  (nl (unA .not t1)).bind fun t2 =>
  guardK t2 false (
  (nl (rd false 1 0 l13)).bind fun t6 =>
  (nl (binA .neq .int t6 x1)).bind fun t8 =>
  evK C D c ⟨[(1, .v x1), (2, .v x2), (3, .v x3), (5, .l 5 0), (9, .l 9 0), (10, .l 10 0), (12, .l 12 0), (13, .l 13 0), (30, .v t8)], [(5, l5), (9, l9), (10, l10), (12, l12), (13, l13)], H⟩ k)
  (evK C D c ⟨[(1, .v x1), (2, .v x2), (3, .v x3), (5, .l 5 0), (9, .l 9 0), (10, .l 10 0), (12, .l 12 0), (13, .l 13 0), (30, .v (.bool true))], [(5, l5), (9, l9), (10, l10), (12, l12), (13, l13)], H⟩ k) := by kernel_rfl
def O17_4 : List IOper :=
  [⟨some 31, .load true 12 (.tmp 12), none⟩,
   ⟨none, .store 12 (.tmp 10) (.tmp 31), none⟩,
   ⟨some 11, .move (.const (.int .i64 0)), none⟩]
@[simp] theorem R17_4 (x1 x2 x3 x30 : AV) (l5 l9 l10 l12 l13 : List AV) :
  evK C D (.seq (.region O17_4) (.keep [10, 11] [10] c)) ⟨[(1, .v x1), (2, .v x2), (3, .v x3), (5, .l 5 0), (9, .l 9 0), (10, .l 10 0), (12, .l 12 0), (13, .l 13 0), (30, .v x30)], [(5, l5), (9, l9), (10, l10), (12, l12), (13, l13)], H⟩ k =
  (nl (rd true 12 0 l12)).bind fun t0 =>
  (stL 12 0 t0 l10).bind fun m1 =>
  evK C D c ⟨[(10, .l 10 0), (11, .v (.int .i64 0))], [(10, m1)], H⟩ k := by kernel_rfl
def O17_5 : List IOper :=
  [⟨some 32, .move (.tmp 3), none⟩,
   ⟨some 33, .un .not (.tmp 32), none⟩,
   ⟨some 34, .move (.tmp 33), none⟩,
   ⟨some 35, .fieldAddr 0 (.tmp 13), some (34, true)⟩,
   ⟨some 36, .fieldAddr 1 (.tmp 35), some (34, true)⟩,
   ⟨some 37, .load false 1 (.tmp 36), some (34, true)⟩,
   ⟨some 38, .move (.tmp 2), some (34, true)⟩,
   ⟨some 39, .bin .gtr .none (.tmp 37) (.tmp 38), some (34, true)⟩,
   ⟨some 40, .pick (.tmp 34) (.tmp 39) (.const (.bool false)), none⟩]
@[simp] theorem R17_5 (x1 x2 x3 : AV) (l5 l9 l10 l12 l13 : List AV) :
  evK C D (.seq (.region O17_5) (.keep [1, 2, 3, 5, 9, 10, 12, 13, 40] [5, 9, 10, 12, 13] c)) ⟨[(1, .v x1), (2, .v x2), (3, .v x3), (5, .l 5 0), (9, .l 9 0), (10, .l 10 0), (12, .l 12 0), (13, .l 13 0)], [(5, l5), (9, l9), (10, l10), (12, l12), (13, l13)], H⟩ k =
  (nl (unA .not x3)).bind fun t1 =>
  guardK t1 true (
  (nl (rd false 1 1 l13)).bind fun t5 =>
  (nl (binA .gtr .none t5 x2)).bind fun t7 =>
  evK C D c ⟨[(1, .v x1), (2, .v x2), (3, .v x3), (5, .l 5 0), (9, .l 9 0), (10, .l 10 0), (12, .l 12 0), (13, .l 13 0), (40, .v t7)], [(5, l5), (9, l9), (10, l10), (12, l12), (13, l13)], H⟩ k)
  (evK C D c ⟨[(1, .v x1), (2, .v x2), (3, .v x3), (5, .l 5 0), (9, .l 9 0), (10, .l 10 0), (12, .l 12 0), (13, .l 13 0), (40, .v (.bool false))], [(5, l5), (9, l9), (10, l10), (12, l12), (13, l13)], H⟩ k) := by kernel_rfl
def O17_6 : List IOper :=
  [⟨some 41, .load true 12 (.tmp 12), none⟩,
   ⟨none, .store 12 (.tmp 10) (.tmp 41), none⟩,
   ⟨some 11, .move (.const (.int .i64 0)), none⟩]
@[simp] theorem R17_6 (x1 x2 x3 x40 : AV) (l5 l9 l10 l12 l13 : List AV) :
  evK C D (.seq (.region O17_6) (.keep [10, 11] [10] c)) ⟨[(1, .v x1), (2, .v x2), (3, .v x3), (5, .l 5 0), (9, .l 9 0), (10, .l 10 0), (12, .l 12 0), (13, .l 13 0), (40, .v x40)], [(5, l5), (9, l9), (10, l10), (12, l12), (13, l13)], H⟩ k =
  (nl (rd true 12 0 l12)).bind fun t0 =>
  (stL 12 0 t0 l10).bind fun m1 =>
  evK C D c ⟨[(10, .l 10 0), (11, .v (.int .i64 0))], [(10, m1)], H⟩ k := by kernel_rfl
def O17_7 : List IOper :=
  [⟨some 42, .move (.tmp 3), none⟩,
   ⟨some 43, .move (.tmp 42), none⟩,
   ⟨some 44, .fieldAddr 0 (.tmp 13), some (43, true)⟩,
   ⟨some 45, .fieldAddr 1 (.tmp 44), some (43, true)⟩,
   ⟨some 46, .load false 1 (.tmp 45), some (43, true)⟩,
   ⟨some 47, .move (.tmp 2), some (43, true)⟩,
   ⟨some 48, .bin .eql .int (.tmp 46) (.tmp 47), some (43, true)⟩,
   ⟨some 49, .pick (.tmp 43) (.tmp 48) (.const (.bool false)), none⟩]
@[simp] theorem R17_7 (x1 x2 x3 : AV) (l5 l9 l10 l12 l13 : List AV) :
  evK C D (.seq (.region O17_7) (.keep [1, 5, 9, 10, 12, 13, 49] [5, 9, 10, 12, 13] c)) ⟨[(1, .v x1), (2, .v x2), (3, .v x3), (5, .l 5 0), (9, .l 9 0), (10, .l 10 0), (12, .l 12 0), (13, .l 13 0)], [(5, l5), (9, l9), (10, l10), (12, l12), (13, l13)], H⟩ k =
  guardK x3 true (
  (nl (rd false 1 1 l13)).bind fun t4 =>
  (nl (binA .eql .int t4 x2)).bind fun t6 =>
  evK C D c ⟨[(1, .v x1), (5, .l 5 0), (9, .l 9 0), (10, .l 10 0), (12, .l 12 0), (13, .l 13 0), (49, .v t6)], [(5, l5), (9, l9), (10, l10), (12, l12), (13, l13)], H⟩ k)
  (evK C D c ⟨[(1, .v x1), (5, .l 5 0), (9, .l 9 0), (10, .l 10 0), (12, .l 12 0), (13, .l 13 0), (49, .v (.bool false))], [(5, l5), (9, l9), (10, l10), (12, l12), (13, l13)], H⟩ k) := by kernel_rfl
def O17_8 : List IOper :=
  [⟨some 51, .load true 12 (.tmp 5), none⟩,
   ⟨some 52, .call (.func 35) [(.tmp 51)], none⟩,
   ⟨some 50, .move (.tmp 52), none⟩,
   ⟨some 53, .extract (.tmp 50) 0, none⟩,
   ⟨some 54, .extract (.tmp 50) 1, none⟩,
   ⟨some 14, .alloc true 2 [(.int .i64 0), (.int .i64 0)], none⟩,
   ⟨none, .store 2 (.tmp 14) (.tmp 53), none⟩,
   ⟨some 15, .move (.tmp 54), none⟩]
@[simp] theorem R17_8 (x1 x49 : AV) (l5 l9 l10 l12 l13 : List AV) :
  evK C D (.seq (.region O17_8) (.keep [1, 9, 10, 12, 13, 14, 15] [9, 10, 12, 13, 14] c)) ⟨[(1, .v x1), (5, .l 5 0), (9, .l 9 0), (10, .l 10 0), (12, .l 12 0), (13, .l 13 0), (49, .v x49)], [(5, l5), (9, l9), (10, l10), (12, l12), (13, l13)], H⟩ k =
  (nl (rd true 12 0 l5)).bind fun t0 =>
  (callN C (.func (.func 35) [] []) [t0] H).bind fun r1 =>
  (nl (extA 0 r1.1)).bind fun t3 =>
  (nl (extA 1 r1.1)).bind fun t4 =>
  (stL 2 0 t3 [(.int .i64 0), (.int .i64 0)]).bind fun m6 =>
  evK C D c ⟨[(1, .v x1), (9, .l 9 0), (10, .l 10 0), (12, .l 12 0), (13, .l 13 0), (14, .l 14 0), (15, .v t4)], [(9, l9), (10, l10), (12, l12), (13, l13), (14, m6)], r1.2⟩ k := by kernel_rfl
def O17_9 : List IOper :=
  [⟨some 55, .load true 2 (.tmp 9), none⟩,
   ⟨some 56, .call (.func 38) [(.tmp 55)], none⟩,
   ⟨some 16, .move (.tmp 56), none⟩]
@[simp] theorem R17_9 (x1 x15 : AV) (l9 l10 l12 l13 l14 : List AV) :
  evK C D (.seq (.region O17_9) (.keep [1, 9, 10, 12, 13, 14, 15, 16] [9, 10, 12, 13, 14] c)) ⟨[(1, .v x1), (9, .l 9 0), (10, .l 10 0), (12, .l 12 0), (13, .l 13 0), (14, .l 14 0), (15, .v x15)], [(9, l9), (10, l10), (12, l12), (13, l13), (14, l14)], H⟩ k =
  (nl (rd true 2 0 l9)).bind fun t0 =>
  (callN C (.func (.func 38) [] []) [t0] H).bind fun r1 =>
  evK C D c ⟨[(1, .v x1), (9, .l 9 0), (10, .l 10 0), (12, .l 12 0), (13, .l 13 0), (14, .l 14 0), (15, .v x15), (16, .v r1.1)], [(9, l9), (10, l10), (12, l12), (13, l13), (14, l14)], r1.2⟩ k := by kernel_rfl
def O17_10 : List IOper :=
  [⟨some 57, .move (.tmp 16), none⟩,
   ⟨some 58, .un .not (.tmp 57), none⟩,
   ⟨some 59, .move (.tmp 58), none⟩,
   ⟨some 60, .move (.tmp 15), some (59, false)⟩,
   ⟨some 61, .move (.tmp 60), some (59, false)⟩,
   ⟨some 62, .load true 2 (.tmp 9), some (61, true)⟩,
   ⟨some 63, .load true 2 (.tmp 14), some (61, true)⟩,
   ⟨some 64, .call (.func 42) [(.tmp 62), (.tmp 63)], some (61, true)⟩,
   ⟨some 65, .pick (.tmp 61) (.tmp 64) (.const (.bool false)), some (59, false)⟩,
   ⟨some 66, .pick (.tmp 59) (.const (.bool true)) (.tmp 65), none⟩]
@[simp] theorem R17_10 (x1 x15 x16 : AV) (l9 l10 l12 l13 l14 : List AV) :
  evK C D (.seq (.region O17_10) (.keep [1, 9, 10, 12, 13, 66] [9, 10, 12, 13] c)) ⟨[(1, .v x1), (9, .l 9 0), (10, .l 10 0), (12, .l 12 0), (13, .l 13 0), (14, .l 14 0), (15, .v x15), (16, .v x16)], [(9, l9), (10, l10), (12, l12), (13, l13), (14, l14)], H⟩ k =
  (nl (unA .not x16)).bind fun t1 =>
  guardK t1 false (
  guardK x15 true (
  (nl (rd true 2 0 l9)).bind fun t5 =>
  (nl (rd true 2 0 l14)).bind fun t6 =>
  (callN C (.func (.func 42) [] []) [t5, t6] H).bind fun r7 =>
  evK C D c ⟨[(1, .v x1), (9, .l 9 0), (10, .l 10 0), (12, .l 12 0), (13, .l 13 0), (66, .v r7.1)], [(9, l9), (10, l10), (12, l12), (13, l13)], r7.2⟩ k)
  (evK C D c ⟨[(1, .v x1), (9, .l 9 0), (10, .l 10 0), (12, .l 12 0), (13, .l 13 0), (66, .v (.bool false))], [(9, l9), (10, l10), (12, l12), (13, l13)], H⟩ k))
  (evK C D c ⟨[(1, .v x1), (9, .l 9 0), (10, .l 10 0), (12, .l 12 0), (13, .l 13 0), (66, .v (.bool true))], [(9, l9), (10, l10), (12, l12), (13, l13)], H⟩ k) := by kernel_rfl
def O17_11 : List IOper :=
  [⟨some 67, .build [.nils, (.bool false), (.int .i64 0), (.int .i64 0), (.str []), (.int .i64 0), (.int .i64 0), (.int .i64 0), (.int .i64 0), (.int .i64 0), (.str []), (.bool false)] [], none⟩,
   ⟨none, .store 12 (.tmp 10) (.tmp 67), none⟩,
   ⟨some 11, .move (.const (.int .i64 84)), none⟩]
@[simp] theorem R17_11 (x1 x66 : AV) (l9 l10 l12 l13 : List AV) :
  evK C D (.seq (.region O17_11) (.keep [10, 11] [10] c)) ⟨[(1, .v x1), (9, .l 9 0), (10, .l 10 0), (12, .l 12 0), (13, .l 13 0), (66, .v x66)], [(9, l9), (10, l10), (12, l12), (13, l13)], H⟩ k =
  ((fillC [] [.nils, (.bool false), (.int .i64 0), (.int .i64 0), (.str []), (.int .i64 0), (.int .i64 0), (.int .i64 0), (.int .i64 0), (.int .i64 0), (.str []), (.bool false)]).map AV.agg).bind fun t0 =>
  (stL 12 0 t0 l10).bind fun m1 =>
  evK C D c ⟨[(10, .l 10 0), (11, .v (.int .i64 84))], [(10, m1)], H⟩ k := by kernel_rfl
def O17_12 : List IOper :=
  [⟨some 68, .fieldAddr 0 (.tmp 12), none⟩,
   ⟨some 69, .load false 1 (.tmp 68), none⟩,
   ⟨some 70, .load true 2 (.tmp 9), none⟩,
   ⟨some 71, .fieldAddr 8 (.tmp 13), none⟩,
   ⟨some 72, .load false 1 (.tmp 71), none⟩,
   ⟨some 73, .fieldAddr 9 (.tmp 13), none⟩,
   ⟨some 74, .load false 1 (.tmp 73), none⟩,
   ⟨some 75, .move (.tmp 1), none⟩,
   ⟨some 76, .build [(.int .i64 0), (.int .i64 0), (.str []), (.bool false), (.int .i64 0)] [(0, 2, (.tmp 70)), (2, 1, (.tmp 72)), (3, 1, (.tmp 74)), (4, 1, (.tmp 75))], none⟩,
   ⟨some 77, .buildSlice 5 1 [(.int .i64 0), (.int .i64 0), (.str []), (.bool false), (.int .i64 0)] [(0, 5, (.tmp 76))], none⟩,
   ⟨some 78, .append 5 48 (.tmp 69) (.tmp 77), none⟩,
   ⟨some 79, .fieldAddr 0 (.tmp 12), none⟩,
   ⟨none, .store 1 (.tmp 79) (.tmp 78), none⟩]
@[simp] theorem R17_12 (x1 : AV) (l9 l10 l12 l13 : List AV) :
  evK C D (.region O17_12) ⟨[(1, .v x1), (9, .l 9 0), (10, .l 10 0), (12, .l 12 0), (13, .l 13 0)], [(9, l9), (10, l10), (12, l12), (13, l13)], H⟩ k =
  (nl (rd false 1 0 l12)).bind fun t1 =>
  (nl (rd true 2 0 l9)).bind fun t2 =>
  (nl (rd false 1 8 l13)).bind fun t4 =>
  (nl (rd false 1 9 l13)).bind fun t6 =>
  ((fillC [(0, 2, t2), (2, 1, t4), (3, 1, t6), (4, 1, x1)] [(.int .i64 0), (.int .i64 0), (.str []), (.bool false), (.int .i64 0)]).map AV.agg).bind fun t8 =>
  ((fillC [(0, 5, t8)] [(.int .i64 0), (.int .i64 0), (.str []), (.bool false), (.int .i64 0)]).map fun cs => (AV.slice H.n 0 1 1, H.alloc (.row false 5 cs))).bind fun r9 =>
  (nlR (appendA r9.2 5 48 t1 r9.1)).bind fun r10 =>
  (stL 1 0 r10.1 l12).bind fun m12 =>
  k .normal ⟨[(79, .l 12 0), (78, .v r10.1), (77, .v r9.1), (76, .v t8), (75, .v x1), (74, .v t6), (73, .l 13 9), (72, .v t4), (71, .l 13 8), (70, .v t2), (69, .v t1), (68, .l 12 0), (1, .v x1), (9, .l 9 0), (10, .l 10 0), (12, .l 12 0), (13, .l 13 0)], [(12, m12), (9, l9), (10, l10), (12, l12), (13, l13)], r10.2⟩ := by kernel_rfl
def O17_13 : List IOper :=
  [⟨some 80, .fieldAddr 1 (.tmp 12), none⟩,
   ⟨none, .store 1 (.tmp 80) (.const (.bool false)), none⟩]
@[simp] theorem R17_13 (l10 l12 : List AV) :
  evK C D (.seq (.region O17_13) (.keep [10, 12] [10, 12] c)) ⟨[(10, .l 10 0), (12, .l 12 0)], [(10, l10), (12, l12)], H⟩ k =
  (stL 1 1 (.bool false) l12).bind fun m1 =>
  evK C D c ⟨[(10, .l 10 0), (12, .l 12 0)], [(10, l10), (12, m1)], H⟩ k := by kernel_rfl
def O17_14 : List IOper :=
  [⟨some 81, .build [(.int .i64 0), (.int .i64 0), (.str []), (.int .i64 0), (.int .i64 0), (.int .i64 0), (.int .i64 0), (.int .i64 0), (.str []), (.bool false)] [], none⟩,
   ⟨some 82, .fieldAddr 2 (.tmp 12), none⟩,
   ⟨none, .store 10 (.tmp 82) (.tmp 81), none⟩]
@[simp] theorem R17_14 (l10 l12 : List AV) :
  evK C D (.seq (.region O17_14) (.keep [10, 12] [10, 12] c)) ⟨[(10, .l 10 0), (12, .l 12 0)], [(10, l10), (12, l12)], H⟩ k =
  ((fillC [] [(.int .i64 0), (.int .i64 0), (.str []), (.int .i64 0), (.int .i64 0), (.int .i64 0), (.int .i64 0), (.int .i64 0), (.str []), (.bool false)]).map AV.agg).bind fun t0 =>
  (stL 10 2 t0 l12).bind fun m2 =>
  evK C D c ⟨[(10, .l 10 0), (12, .l 12 0)], [(10, l10), (12, m2)], H⟩ k := by kernel_rfl
def O17_15 : List IOper :=
  [⟨some 83, .load true 12 (.tmp 12), none⟩,
   ⟨none, .store 12 (.tmp 10) (.tmp 83), none⟩,
   ⟨some 11, .move (.const (.int .i64 0)), none⟩]
@[simp] theorem R17_15 (l10 l12 : List AV) :
  evK C D (.seq (.region O17_15) (.keep [10, 11] [10] c)) ⟨[(10, .l 10 0), (12, .l 12 0)], [(10, l10), (12, l12)], H⟩ k =
  (nl (rd true 12 0 l12)).bind fun t0 =>
  (stL 12 0 t0 l10).bind fun m1 =>
  evK C D c ⟨[(10, .l 10 0), (11, .v (.int .i64 0))], [(10, m1)], H⟩ k := by kernel_rfl
def F17 : FnIR := ⟨84, 5, [.cell 10 true 12, .tmp 11], [5, 9, 10, 12, 13, 14],
  .seq (.region O17_0)
  (.keep [1, 2, 3, 5, 9, 10] [5, 9, 10] (.seq (.region O17_1)
  (.keep [1, 2, 3, 5, 9, 10, 12] [5, 9, 10, 12] (.seq (.region O17_2)
  (.keep [1, 2, 3, 5, 9, 10, 12, 13] [5, 9, 10, 12, 13] (.seq (.seq (.region O17_3)
   (.keep [1, 2, 3, 5, 9, 10, 12, 13, 30] [5, 9, 10, 12, 13] (.cond (.tmp 30)
    (.seq (.region O17_4)
    (.keep [10, 11] [10] (.ret)))
    (.skip))))
  (.keep [1, 2, 3, 5, 9, 10, 12, 13] [5, 9, 10, 12, 13] (.seq (.seq (.region O17_5)
   (.keep [1, 2, 3, 5, 9, 10, 12, 13, 40] [5, 9, 10, 12, 13] (.cond (.tmp 40)
    (.seq (.region O17_6)
    (.keep [10, 11] [10] (.ret)))
    (.skip))))
  (.keep [1, 2, 3, 5, 9, 10, 12, 13] [5, 9, 10, 12, 13] (.seq (.seq (.region O17_7)
   (.keep [1, 5, 9, 10, 12, 13, 49] [5, 9, 10, 12, 13] (.cond (.tmp 49)
    (.seq (.region O17_8)
    (.keep [1, 9, 10, 12, 13, 14, 15] [9, 10, 12, 13, 14] (.seq (.region O17_9)
    (.keep [1, 9, 10, 12, 13, 14, 15, 16] [9, 10, 12, 13, 14] (.seq (.seq (.region O17_10)
     (.keep [1, 9, 10, 12, 13, 66] [9, 10, 12, 13] (.cond (.tmp 66)
      (.seq (.region O17_11)
      (.keep [10, 11] [10] (.ret)))
      (.skip))))
    (.keep [1, 9, 10, 12, 13] [9, 10, 12, 13] (.region O17_12)))))))
    (.skip))))
  (.keep [10, 12] [10, 12] (.seq (.region O17_13)
  (.keep [10, 12] [10, 12] (.seq (.region O17_14)
  (.keep [10, 12] [10, 12] (.seq (.region O17_15)
  (.keep [10, 11] [10] (.ret))))))))))))))))))⟩
/-- wampum/wampumref08.upto -/
def O42_0 : List IOper :=
  [⟨some 2, .box true 2 (.tmp 0), none⟩,
   ⟨some 3, .box true 2 (.tmp 1), none⟩,
   ⟨some 4, .move (.const (.bool false)), none⟩]
@[simp] theorem R42_0 (x0 x1 : AV) :
  evK C D (.seq (.region O42_0) (.keep [2, 3] [2, 3] c)) ⟨[(0, .v x0), (1, .v x1)], [], H⟩ k =
  (boxC x0).bind fun m0 =>
  (boxC x1).bind fun m1 =>
  evK C D c ⟨[(2, .l 2 0), (3, .l 3 0)], [(2, m0), (3, m1)], H⟩ k := by kernel_rfl
def O42_1 : List IOper :=
  [⟨some 6, .load true 2 (.tmp 3), none⟩,
   ⟨some 7, .load true 2 (.tmp 2), none⟩,
   ⟨some 8, .call (.func 46) [(.tmp 6), (.tmp 7)], none⟩,
   ⟨some 5, .move (.tmp 8), none⟩]
@[simp] theorem R42_1 (l2 l3 : List AV) :
  evK C D (.seq (.region O42_1) (.keep [5] [] c)) ⟨[(2, .l 2 0), (3, .l 3 0)], [(2, l2), (3, l3)], H⟩ k =
  (nl (rd true 2 0 l3)).bind fun t0 =>
  (nl (rd true 2 0 l2)).bind fun t1 =>
  (callN C (.func (.func 46) [] []) [t0, t1] H).bind fun r2 =>
  evK C D c ⟨[(5, .v r2.1)], [], r2.2⟩ k := by kernel_rfl
def O42_2 : List IOper :=
  [⟨some 9, .move (.tmp 5), none⟩,
   ⟨some 10, .un .not (.tmp 9), none⟩,
   ⟨some 4, .move (.tmp 10), none⟩]
@[simp] theorem R42_2 (x5 : AV) :
  evK C D (.seq (.region O42_2) (.keep [4] [] c)) ⟨[(5, .v x5)], [], H⟩ k =
  (nl (unA .not x5)).bind fun t1 =>
  evK C D c ⟨[(4, .v t1)], [], H⟩ k := by kernel_rfl
def F42 : FnIR := ⟨11, 2, [.tmp 4], [2, 3],
  .seq (.region O42_0)
  (.keep [2, 3] [2, 3] (.seq (.region O42_1)
  (.keep [5] [] (.seq (.region O42_2)
  (.keep [4] [] (.ret))))))⟩
/-- wampum/wampumref08.Same -/
def O18_0 : List IOper :=
  [⟨some 2, .box true 12 (.tmp 0), none⟩,
   ⟨some 3, .box true 12 (.tmp 1), none⟩,
   ⟨some 4, .move (.const (.bool false)), none⟩]
@[simp] theorem R18_0 (x0 x1 : AV) :
  evK C D (.seq (.region O18_0) (.keep [2, 3] [2, 3] c)) ⟨[(0, .v x0), (1, .v x1)], [], H⟩ k =
  (boxC x0).bind fun m0 =>
  (boxC x1).bind fun m1 =>
  evK C D c ⟨[(2, .l 2 0), (3, .l 3 0)], [(2, m0), (3, m1)], H⟩ k := by kernel_rfl
def O18_1 : List IOper :=
  [⟨some 6, .fieldAddr 1 (.tmp 2), none⟩,
   ⟨some 7, .load false 1 (.tmp 6), none⟩,
   ⟨some 8, .fieldAddr 1 (.tmp 3), none⟩,
   ⟨some 9, .load false 1 (.tmp 8), none⟩,
   ⟨some 10, .bin .neq .bool (.tmp 7) (.tmp 9), none⟩,
   ⟨some 11, .move (.tmp 10), none⟩,
   ⟨some 12, .fieldAddr 2 (.tmp 2), some (11, false)⟩,
   ⟨some 13, .load true 10 (.tmp 12), some (11, false)⟩,
   ⟨some 14, .fieldAddr 2 (.tmp 3), some (11, false)⟩,
   ⟨some 15, .load true 10 (.tmp 14), some (11, false)⟩,
   ⟨some 16, .bin .neq (.struct [(0, true, 5, (.struct [(0, false, 1, .int), (1, false, 1, .int), (2, false, 1, .str), (3, true, 2, (.struct [(0, false, 1, .int), (1, false, 1, .int)]))])), (5, false, 1, .int), (6, true, 2, (.struct [(0, false, 1, .int), (1, false, 1, .int)])), (8, false, 1, .str), (9, false, 1, .bool)]) (.tmp 13) (.tmp 15), some (11, false)⟩,
   ⟨some 17, .pick (.tmp 11) (.const (.bool true)) (.tmp 16), none⟩,
   ⟨some 18, .move (.tmp 17), none⟩,
   ⟨some 19, .fieldAddr 0 (.tmp 2), some (18, false)⟩,
   ⟨some 20, .load false 1 (.tmp 19), some (18, false)⟩,
   ⟨some 21, .len .slice (.tmp 20), some (18, false)⟩,
   ⟨some 22, .fieldAddr 0 (.tmp 3), some (18, false)⟩,
   ⟨some 23, .load false 1 (.tmp 22), some (18, false)⟩,
   ⟨some 24, .len .slice (.tmp 23), some (18, false)⟩,
   ⟨some 25, .bin .neq .int (.tmp 21) (.tmp 24), some (18, false)⟩,
   ⟨some 26, .pick (.tmp 18) (.const (.bool true)) (.tmp 25), none⟩]
@[simp] theorem R18_1 (l2 l3 : List AV) :
  evK C D (.seq (.region O18_1) (.keep [2, 3, 26] [2, 3] c)) ⟨[(2, .l 2 0), (3, .l 3 0)], [(2, l2), (3, l3)], H⟩ k =
  (nl (rd false 1 1 l2)).bind fun t1 =>
  (nl (rd false 1 1 l3)).bind fun t3 =>
  (nl (binA .neq .bool t1 t3)).bind fun t4 =>
  guardK t4 false (
  (nl (rd true 10 2 l2)).bind fun t7 =>
  (nl (rd true 10 2 l3)).bind fun t9 =>
  (nl (binA .neq (.struct [(0, true, 5, (.struct [(0, false, 1, .int), (1, false, 1, .int), (2, false, 1, .str), (3, true, 2, (.struct [(0, false, 1, .int), (1, false, 1, .int)]))])), (5, false, 1, .int), (6, true, 2, (.struct [(0, false, 1, .int), (1, false, 1, .int)])), (8, false, 1, .str), (9, false, 1, .bool)]) t7 t9)).bind fun t10 =>
  guardK t10 false (
  (nl (rd false 1 0 l2)).bind fun t14 =>
  (lenS t14).bind fun t15 =>
  (nl (rd false 1 0 l3)).bind fun t17 =>
  (lenS t17).bind fun t18 =>
  (nl (binA .neq .int t15 t18)).bind fun t19 =>
  evK C D c ⟨[(2, .l 2 0), (3, .l 3 0), (26, .v t19)], [(2, l2), (3, l3)], H⟩ k)
  (evK C D c ⟨[(2, .l 2 0), (3, .l 3 0), (26, .v (.bool true))], [(2, l2), (3, l3)], H⟩ k))
  (evK C D c ⟨[(2, .l 2 0), (3, .l 3 0), (26, .v (.bool true))], [(2, l2), (3, l3)], H⟩ k) := by kernel_rfl
def O18_2 : List IOper :=
  [⟨some 4, .move (.const (.bool false)), none⟩]
@[simp] theorem R18_2 (x26 : AV) (l2 l3 : List AV) :
  evK C D (.seq (.region O18_2) (.keep [4] [] c)) ⟨[(2, .l 2 0), (3, .l 3 0), (26, .v x26)], [(2, l2), (3, l3)], H⟩ k =
  evK C D c ⟨[(4, .v (.bool false))], [], H⟩ k := by kernel_rfl
def O18_3 : List IOper :=
  [⟨some 5, .move (.const (.int .i64 0)), none⟩]
@[simp] theorem R18_3 (l2 l3 : List AV) :
  evK C D (.seq (.region O18_3) (.keep [2, 3, 5] [2, 3] c)) ⟨[(2, .l 2 0), (3, .l 3 0)], [(2, l2), (3, l3)], H⟩ k =
  evK C D c ⟨[(2, .l 2 0), (3, .l 3 0), (5, .v (.int .i64 0))], [(2, l2), (3, l3)], H⟩ k := by kernel_rfl
def O18_4 : List IOper :=
  [⟨some 27, .move (.tmp 5), none⟩,
   ⟨some 28, .fieldAddr 0 (.tmp 2), none⟩,
   ⟨some 29, .load false 1 (.tmp 28), none⟩,
   ⟨some 30, .len .slice (.tmp 29), none⟩,
   ⟨some 31, .bin .lss .none (.tmp 27) (.tmp 30), none⟩]
@[simp] theorem R18_4 (x5 : AV) (l2 l3 : List AV) :
  evK C D (.seq (.region O18_4) (.keep [2, 3, 5, 31] [2, 3] c)) ⟨[(2, .l 2 0), (3, .l 3 0), (5, .v x5)], [(2, l2), (3, l3)], H⟩ k =
  (nl (rd false 1 0 l2)).bind fun t2 =>
  (lenS t2).bind fun t3 =>
  (nl (binA .lss .none x5 t3)).bind fun t4 =>
  evK C D c ⟨[(2, .l 2 0), (3, .l 3 0), (5, .v x5), (31, .v t4)], [(2, l2), (3, l3)], H⟩ k := by kernel_rfl
def O18_5 : List IOper :=
  [⟨some 34, .fieldAddr 0 (.tmp 2), none⟩,
   ⟨some 35, .load false 1 (.tmp 34), none⟩,
   ⟨some 36, .move (.tmp 5), none⟩,
   ⟨some 37, .indexAddr none 5 (.tmp 35) (.tmp 36), none⟩,
   ⟨some 38, .load true 5 (.tmp 37), none⟩,
   ⟨some 39, .fieldAddr 0 (.tmp 3), none⟩,
   ⟨some 40, .load false 1 (.tmp 39), none⟩,
   ⟨some 41, .move (.tmp 5), none⟩,
   ⟨some 42, .indexAddr none 5 (.tmp 40) (.tmp 41), none⟩,
   ⟨some 43, .load true 5 (.tmp 42), none⟩,
   ⟨some 44, .bin .neq (.struct [(0, true, 2, (.struct [(0, false, 1, .int), (1, false, 1, .int)])), (2, false, 1, .str), (3, false, 1, .bool), (4, false, 1, .int)]) (.tmp 38) (.tmp 43), none⟩]
@[simp] theorem R18_5 (x5 : AV) (l2 l3 : List AV) :
  evK C D (.seq (.regionD O18_5 []) (.keep [2, 3, 5, 44] [2, 3] c)) ⟨[(2, .l 2 0), (3, .l 3 0), (5, .v x5)], [(2, l2), (3, l3)], H⟩ k =
  (nl (rd false 1 0 l2)).bind fun t1 =>
  kB (AV.okB H.n t1) (
  (nl (idxS 5 t1 x5)).bind fun t3 =>
  (nl (loadP H true 5 t3)).bind fun t4 =>
  kB (AV.okB H.n t4) (
  (nl (rd false 1 0 l3)).bind fun t6 =>
  kB (AV.okB H.n t6) (
  (nl (idxS 5 t6 x5)).bind fun t8 =>
  (nl (loadP H true 5 t8)).bind fun t9 =>
  kB (AV.okB H.n t9) (
  (nl (binA .neq (.struct [(0, true, 2, (.struct [(0, false, 1, .int), (1, false, 1, .int)])), (2, false, 1, .str), (3, false, 1, .bool), (4, false, 1, .int)]) t4 t9)).bind fun t10 =>
  evK C D c ⟨[(2, .l 2 0), (3, .l 3 0), (5, .v x5), (44, .v t10)], [(2, l2), (3, l3)], H⟩ k)))) := by kernel_rfl
def O18_6 : List IOper :=
  [⟨some 4, .move (.const (.bool false)), none⟩]
@[simp] theorem R18_6 (x5 x44 : AV) (l2 l3 : List AV) :
  evK C D (.seq (.region O18_6) (.keep [4] [] c)) ⟨[(2, .l 2 0), (3, .l 3 0), (5, .v x5), (44, .v x44)], [(2, l2), (3, l3)], H⟩ k =
  evK C D c ⟨[(4, .v (.bool false))], [], H⟩ k := by kernel_rfl
def O18_7 : List IOper :=
  [⟨some 32, .move (.tmp 5), none⟩,
   ⟨some 33, .bin .add .none (.tmp 32) (.const (.int .i64 1)), none⟩,
   ⟨some 5, .move (.tmp 33), none⟩]
@[simp] theorem R18_7 (x5 : AV) (l2 l3 : List AV) :
  evK C D (.region O18_7) ⟨[(2, .l 2 0), (3, .l 3 0), (5, .v x5)], [(2, l2), (3, l3)], H⟩ k =
  (nl (binA .add .none x5 (.int .i64 1))).bind fun t1 =>
  k .normal ⟨[(5, .v t1), (33, .v t1), (32, .v x5), (2, .l 2 0), (3, .l 3 0), (5, .v x5)], [(2, l2), (3, l3)], H⟩ := by kernel_rfl
def B18_0 : IC :=
  .seq (.seq (.region O18_4)
   (.keep [2, 3, 5, 31] [2, 3] (.cond (.tmp 31)
    (.skip)
    (.exit 0))))
  (.keep [2, 3, 5] [2, 3] (.seq (.block 1 (.seq (.regionD O18_5 [])
    (.keep [2, 3, 5, 44] [2, 3] (.cond (.tmp 44)
     (.seq (.region O18_6)
     (.keep [4] [] (.ret)))
     (.skip)))))
  (.keep [2, 3, 5] [2, 3] (.region O18_7))))
def L18_0 : IC := .keep [2, 3, 5] [2, 3] B18_0
@[simp] theorem LK18_0 (s : SK) (k : AExit → SK → Option R) : evK C D (.loop L18_0) s k = (D (.loop L18_0) (prK [2, 3, 5] [2, 3] s).toSt).bind fun r => k r.1 (ofSt r.2) := by kernel_rfl
def O18_8 : List IOper :=
  [⟨some 4, .move (.const (.bool true)), none⟩]
@[simp] theorem R18_8 :
  evK C D (.seq (.region O18_8) (.keep [4] [] c)) ⟨[], [], H⟩ k =
  evK C D c ⟨[(4, .v (.bool true))], [], H⟩ k := by kernel_rfl
def F18 : FnIR := ⟨45, 2, [.tmp 4], [2, 3],
  .seq (.region O18_0)
  (.keep [2, 3] [2, 3] (.seq (.seq (.region O18_1)
   (.keep [2, 3, 26] [2, 3] (.cond (.tmp 26)
    (.seq (.region O18_2)
    (.keep [4] [] (.ret)))
    (.skip))))
  (.keep [2, 3] [2, 3] (.seq (.seq (.region O18_3)
   (.keep [2, 3, 5] [2, 3] (.block 0 (.loop L18_0))))
  (.keep [] [] (.seq (.region O18_8)
  (.keep [4] [] (.ret))))))))⟩
/-- wampum/wampumlaw08.VersionStays -/
def O4_0 : List IOper :=
  [⟨some 3, .box true 12 (.tmp 0), none⟩,
   ⟨some 4, .box true 2 (.tmp 1), none⟩,
   ⟨some 6, .move (.const (.bool false)), none⟩]
@[simp] theorem R4_0 (x0 x1 x2 : AV) :
  evK C D (.seq (.region O4_0) (.keep [2, 3, 4] [3, 4] c)) ⟨[(0, .v x0), (1, .v x1), (2, .v x2)], [], H⟩ k =
  (boxC x0).bind fun m0 =>
  (boxC x1).bind fun m1 =>
  evK C D c ⟨[(2, .v x2), (3, .l 3 0), (4, .l 4 0)], [(3, m0), (4, m1)], H⟩ k := by kernel_rfl
def O4_1 : List IOper :=
  [⟨some 18, .load true 12 (.tmp 3), none⟩,
   ⟨some 19, .call (.func 11) [(.tmp 18)], none⟩,
   ⟨some 7, .move (.tmp 19), none⟩]
@[simp] theorem R4_1 (x2 : AV) (l3 l4 : List AV) :
  evK C D (.seq (.region O4_1) (.keep [2, 3, 4, 7] [3, 4] c)) ⟨[(2, .v x2), (3, .l 3 0), (4, .l 4 0)], [(3, l3), (4, l4)], H⟩ k =
  (nl (rd true 12 0 l3)).bind fun t0 =>
  (callN C (.func (.func 11) [] []) [t0] H).bind fun r1 =>
  evK C D c ⟨[(2, .v x2), (3, .l 3 0), (4, .l 4 0), (7, .v r1.1)], [(3, l3), (4, l4)], r1.2⟩ k := by kernel_rfl
def O4_2 : List IOper :=
  [⟨some 21, .load true 12 (.tmp 3), none⟩,
   ⟨some 22, .load true 2 (.tmp 4), none⟩,
   ⟨some 23, .load true 2 (.tmp 4), none⟩,
   ⟨some 24, .call (.func 19) [(.tmp 21), (.tmp 22), (.tmp 23), (.const (.int .i64 (-1))), (.const (.int .i64 0))], none⟩,
   ⟨some 20, .move (.tmp 24), none⟩,
   ⟨some 25, .extract (.tmp 20) 0, none⟩,
   ⟨some 26, .extract (.tmp 20) 1, none⟩,
   ⟨some 27, .extract (.tmp 20) 2, none⟩,
   ⟨some 28, .extract (.tmp 20) 3, none⟩,
   ⟨some 8, .alloc true 5 [(.int .i64 0), (.int .i64 0), (.str []), (.bool false), (.int .i64 0)], none⟩,
   ⟨some 10, .alloc true 5 [(.int .i64 0), (.int .i64 0), (.str []), (.int .i64 0), (.int .i64 0)], none⟩,
   ⟨none, .store 5 (.tmp 8) (.tmp 25), none⟩,
   ⟨some 9, .move (.tmp 26), none⟩,
   ⟨none, .store 5 (.tmp 10) (.tmp 27), none⟩,
   ⟨some 11, .move (.tmp 28), none⟩]
@[simp] theorem R4_2 (x2 x7 : AV) (l3 l4 : List AV) :
  evK C D (.seq (.region O4_2) (.keep [2, 3, 4, 7, 8, 9, 11] [3, 4, 8] c)) ⟨[(2, .v x2), (3, .l 3 0), (4, .l 4 0), (7, .v x7)], [(3, l3), (4, l4)], H⟩ k =
  (nl (rd true 12 0 l3)).bind fun t0 =>
  (nl (rd true 2 0 l4)).bind fun t1 =>
  (nl (rd true 2 0 l4)).bind fun t2 =>
  (callN C (.func (.func 19) [] []) [t0, t1, t2, (.int .i64 (-1)), (.int .i64 0)] H).bind fun r3 =>
  (nl (extA 0 r3.1)).bind fun t5 =>
  (nl (extA 1 r3.1)).bind fun t6 =>
  (nl (extA 2 r3.1)).bind fun t7 =>
  (nl (extA 3 r3.1)).bind fun t8 =>
  (stL 5 0 t5 [(.int .i64 0), (.int .i64 0), (.str []), (.bool false), (.int .i64 0)]).bind fun m11 =>
  (stL 5 0 t7 [(.int .i64 0), (.int .i64 0), (.str []), (.int .i64 0), (.int .i64 0)]).bind fun m13 =>
  evK C D c ⟨[(2, .v x2), (3, .l 3 0), (4, .l 4 0), (7, .v x7), (8, .l 8 0), (9, .v t6), (11, .v t8)], [(3, l3), (4, l4), (8, m11)], r3.2⟩ k := by kernel_rfl
def O4_3 : List IOper :=
  [⟨some 29, .move (.tmp 7), none⟩,
   ⟨some 30, .un .not (.tmp 29), none⟩,
   ⟨some 31, .move (.tmp 30), none⟩,
   ⟨some 32, .move (.tmp 11), some (31, false)⟩,
   ⟨some 33, .bin .neq .int (.tmp 32) (.const (.int .i64 0)), some (31, false)⟩,
   ⟨some 34, .pick (.tmp 31) (.const (.bool true)) (.tmp 33), none⟩,
   ⟨some 35, .move (.tmp 34), none⟩,
   ⟨some 36, .fieldAddr 1 (.tmp 3), some (35, false)⟩,
   ⟨some 37, .load false 1 (.tmp 36), some (35, false)⟩,
   ⟨some 38, .pick (.tmp 35) (.const (.bool true)) (.tmp 37), none⟩]
@[simp] theorem R4_3 (x2 x7 x9 x11 : AV) (l3 l4 l8 : List AV) :
  evK C D (.seq (.region O4_3) (.keep [2, 3, 4, 8, 9, 38] [3, 4, 8] c)) ⟨[(2, .v x2), (3, .l 3 0), (4, .l 4 0), (7, .v x7), (8, .l 8 0), (9, .v x9), (11, .v x11)], [(3, l3), (4, l4), (8, l8)], H⟩ k =
  (nl (unA .not x7)).bind fun t1 =>
  guardK t1 false (
  (nl (binA .neq .int x11 (.int .i64 0))).bind fun t4 =>
  guardK t4 false (
  (nl (rd false 1 1 l3)).bind fun t8 =>
  evK C D c ⟨[(2, .v x2), (3, .l 3 0), (4, .l 4 0), (8, .l 8 0), (9, .v x9), (38, .v t8)], [(3, l3), (4, l4), (8, l8)], H⟩ k)
  (evK C D c ⟨[(2, .v x2), (3, .l 3 0), (4, .l 4 0), (8, .l 8 0), (9, .v x9), (38, .v (.bool true))], [(3, l3), (4, l4), (8, l8)], H⟩ k))
  (evK C D c ⟨[(2, .v x2), (3, .l 3 0), (4, .l 4 0), (8, .l 8 0), (9, .v x9), (38, .v (.bool true))], [(3, l3), (4, l4), (8, l8)], H⟩ k) := by kernel_rfl
def O4_4 : List IOper :=
  [⟨some 39, .call (.func 12) [], none⟩,
   ⟨some 6, .move (.tmp 39), none⟩]
@[simp] theorem R4_4 (x2 x9 x38 : AV) (l3 l4 l8 : List AV) :
  evK C D (.seq (.region O4_4) (.keep [6] [] c)) ⟨[(2, .v x2), (3, .l 3 0), (4, .l 4 0), (8, .l 8 0), (9, .v x9), (38, .v x38)], [(3, l3), (4, l4), (8, l8)], H⟩ k =
  (callN C (.func (.func 12) [] []) [] H).bind fun r0 =>
  evK C D c ⟨[(6, .v r0.1)], [], r0.2⟩ k := by kernel_rfl
def O4_5 : List IOper :=
  [⟨some 12, .move (.const (.int .i64 0)), none⟩]
@[simp] theorem R4_5 (x2 x9 : AV) (l3 l4 l8 : List AV) :
  evK C D (.seq (.region O4_5) (.keep [2, 3, 4, 8, 9, 12] [3, 4, 8] c)) ⟨[(2, .v x2), (3, .l 3 0), (4, .l 4 0), (8, .l 8 0), (9, .v x9)], [(3, l3), (4, l4), (8, l8)], H⟩ k =
  evK C D c ⟨[(2, .v x2), (3, .l 3 0), (4, .l 4 0), (8, .l 8 0), (9, .v x9), (12, .v (.int .i64 0))], [(3, l3), (4, l4), (8, l8)], H⟩ k := by kernel_rfl
def O4_6 : List IOper :=
  [⟨some 40, .move (.tmp 12), none⟩,
   ⟨some 41, .move (.tmp 2), none⟩,
   ⟨some 42, .len .slice (.tmp 41), none⟩,
   ⟨some 43, .bin .lss .none (.tmp 40) (.tmp 42), none⟩,
   ⟨some 44, .move (.tmp 43), none⟩,
   ⟨some 45, .move (.tmp 12), some (44, true)⟩,
   ⟨some 46, .bin .lss .none (.tmp 45) (.const (.int .i64 60)), some (44, true)⟩,
   ⟨some 47, .pick (.tmp 44) (.tmp 46) (.const (.bool false)), none⟩]
@[simp] theorem R4_6 (x2 x9 x12 : AV) (l3 l4 l8 : List AV) :
  evK C D (.seq (.region O4_6) (.keep [2, 3, 4, 8, 9, 12, 47] [3, 4, 8] c)) ⟨[(2, .v x2), (3, .l 3 0), (4, .l 4 0), (8, .l 8 0), (9, .v x9), (12, .v x12)], [(3, l3), (4, l4), (8, l8)], H⟩ k =
  (lenS x2).bind fun t2 =>
  (nl (binA .lss .none x12 t2)).bind fun t3 =>
  guardK t3 true (
  (nl (binA .lss .none x12 (.int .i64 60))).bind fun t6 =>
  evK C D c ⟨[(2, .v x2), (3, .l 3 0), (4, .l 4 0), (8, .l 8 0), (9, .v x9), (12, .v x12), (47, .v t6)], [(3, l3), (4, l4), (8, l8)], H⟩ k)
  (evK C D c ⟨[(2, .v x2), (3, .l 3 0), (4, .l 4 0), (8, .l 8 0), (9, .v x9), (12, .v x12), (47, .v (.bool false))], [(3, l3), (4, l4), (8, l8)], H⟩ k) := by kernel_rfl
def O4_7 : List IOper :=
  [⟨some 50, .move (.tmp 2), none⟩,
   ⟨some 51, .move (.tmp 12), none⟩,
   ⟨some 52, .indexAddr none 16 (.tmp 50) (.tmp 51), none⟩,
   ⟨some 53, .load true 16 (.tmp 52), none⟩,
   ⟨some 13, .alloc true 16 [(.int .i64 0), (.int .i64 0), (.int .i64 0), (.int .i64 0), (.int .i64 0), (.str []), (.int .i64 0), (.int .i64 0), (.int .i64 0), (.int .i64 0), (.int .i64 0), (.str []), (.bool false), (.bool false), (.int .i64 0), (.int .i64 0)], none⟩,
   ⟨none, .store 16 (.tmp 13) (.tmp 53), none⟩]
@[simp] theorem R4_7 (x2 x9 x12 : AV) (l3 l4 l8 : List AV) :
  evK C D (.seq (.region O4_7) (.keep [2, 3, 4, 8, 9, 12, 13] [3, 4, 8, 13] c)) ⟨[(2, .v x2), (3, .l 3 0), (4, .l 4 0), (8, .l 8 0), (9, .v x9), (12, .v x12)], [(3, l3), (4, l4), (8, l8)], H⟩ k =
  (nl (idxS 16 x2 x12)).bind fun t2 =>
  (nl (loadP H true 16 t2)).bind fun t3 =>
  (stL 16 0 t3 [(.int .i64 0), (.int .i64 0), (.int .i64 0), (.int .i64 0), (.int .i64 0), (.str []), (.int .i64 0), (.int .i64 0), (.int .i64 0), (.int .i64 0), (.int .i64 0), (.str []), (.bool false), (.bool false), (.int .i64 0), (.int .i64 0)]).bind fun m5 =>
  evK C D c ⟨[(2, .v x2), (3, .l 3 0), (4, .l 4 0), (8, .l 8 0), (9, .v x9), (12, .v x12), (13, .l 13 0)], [(3, l3), (4, l4), (8, l8), (13, m5)], H⟩ k := by kernel_rfl
def O4_8 : List IOper :=
  [⟨some 54, .load true 2 (.tmp 4), none⟩,
   ⟨some 55, .fieldAddr 3 (.tmp 13), none⟩,
   ⟨some 56, .fieldAddr 6 (.tmp 55), none⟩,
   ⟨some 57, .load true 2 (.tmp 56), none⟩,
   ⟨some 58, .call (.func 20) [(.tmp 54), (.tmp 57)], none⟩,
   ⟨some 59, .un .not (.tmp 58), none⟩,
   ⟨some 60, .move (.tmp 59), none⟩,
   ⟨some 61, .load true 2 (.tmp 4), some (60, false)⟩,
   ⟨some 62, .fieldAddr 14 (.tmp 13), some (60, false)⟩,
   ⟨some 63, .load true 2 (.tmp 62), some (60, false)⟩,
   ⟨some 64, .call (.func 20) [(.tmp 61), (.tmp 63)], some (60, false)⟩,
   ⟨some 65, .un .not (.tmp 64), some (60, false)⟩,
   ⟨some 66, .pick (.tmp 60) (.const (.bool true)) (.tmp 65), none⟩,
   ⟨some 67, .move (.tmp 66), none⟩,
   ⟨some 68, .fieldAddr 3 (.tmp 13), some (67, false)⟩,
   ⟨some 69, .fieldAddr 0 (.tmp 68), some (67, false)⟩,
   ⟨some 70, .fieldAddr 0 (.tmp 69), some (67, false)⟩,
   ⟨some 71, .load false 1 (.tmp 70), some (67, false)⟩,
   ⟨some 72, .bin .eql .int (.tmp 71) (.const (.int .i64 (-1))), some (67, false)⟩,
   ⟨some 73, .pick (.tmp 67) (.const (.bool true)) (.tmp 72), none⟩]
@[simp] theorem R4_8 (x2 x9 x12 : AV) (l3 l4 l8 l13 : List AV) :
  evK C D (.seq (.region O4_8) (.keep [2, 3, 4, 8, 9, 12, 13, 73] [3, 4, 8, 13] c)) ⟨[(2, .v x2), (3, .l 3 0), (4, .l 4 0), (8, .l 8 0), (9, .v x9), (12, .v x12), (13, .l 13 0)], [(3, l3), (4, l4), (8, l8), (13, l13)], H⟩ k =
  (nl (rd true 2 0 l4)).bind fun t0 =>
  (nl (rd true 2 9 l13)).bind fun t3 =>
  (callN C (.func (.func 20) [] []) [t0, t3] H).bind fun r4 =>
  (nl (unA .not r4.1)).bind fun t5 =>
  guardK t5 false (
  (nl (rd true 2 0 l4)).bind fun t7 =>
  (nl (rd true 2 14 l13)).bind fun t9 =>
  (callN C (.func (.func 20) [] []) [t7, t9] r4.2).bind fun r10 =>
  (nl (unA .not r10.1)).bind fun t11 =>
  guardK t11 false (
  (nl (rd false 1 3 l13)).bind fun t17 =>
  (nl (binA .eql .int t17 (.int .i64 (-1)))).bind fun t18 =>
  evK C D c ⟨[(2, .v x2), (3, .l 3 0), (4, .l 4 0), (8, .l 8 0), (9, .v x9), (12, .v x12), (13, .l 13 0), (73, .v t18)], [(3, l3), (4, l4), (8, l8), (13, l13)], r10.2⟩ k)
  (evK C D c ⟨[(2, .v x2), (3, .l 3 0), (4, .l 4 0), (8, .l 8 0), (9, .v x9), (12, .v x12), (13, .l 13 0), (73, .v (.bool true))], [(3, l3), (4, l4), (8, l8), (13, l13)], r10.2⟩ k))
  (evK C D c ⟨[(2, .v x2), (3, .l 3 0), (4, .l 4 0), (8, .l 8 0), (9, .v x9), (12, .v x12), (13, .l 13 0), (73, .v (.bool true))], [(3, l3), (4, l4), (8, l8), (13, l13)], r4.2⟩ k) := by kernel_rfl
def O4_9 : List IOper :=
  [⟨some 74, .load true 16 (.tmp 13), none⟩,
   ⟨some 75, .load true 12 (.tmp 3), none⟩,
   ⟨some 76, .call (.func 21) [(.tmp 74), (.tmp 75)], none⟩,
   ⟨none, .store 12 (.tmp 3) (.tmp 76), none⟩]
@[simp] theorem R4_9 (x2 x9 x12 : AV) (l3 l4 l8 l13 : List AV) :
  evK C D (.seq (.region O4_9) (.keep [2, 3, 4, 8, 9, 12] [3, 4, 8] c)) ⟨[(2, .v x2), (3, .l 3 0), (4, .l 4 0), (8, .l 8 0), (9, .v x9), (12, .v x12), (13, .l 13 0)], [(3, l3), (4, l4), (8, l8), (13, l13)], H⟩ k =
  (nl (rd true 16 0 l13)).bind fun t0 =>
  (nl (rd true 12 0 l3)).bind fun t1 =>
  (callN C (.func (.func 21) [] []) [t0, t1] H).bind fun r2 =>
  (stL 12 0 r2.1 l3).bind fun m3 =>
  evK C D c ⟨[(2, .v x2), (3, .l 3 0), (4, .l 4 0), (8, .l 8 0), (9, .v x9), (12, .v x12)], [(3, m3), (4, l4), (8, l8)], r2.2⟩ k := by kernel_rfl
def O4_10 : List IOper :=
  [⟨some 78, .load true 12 (.tmp 3), none⟩,
   ⟨some 79, .load true 2 (.tmp 4), none⟩,
   ⟨some 80, .load true 2 (.tmp 4), none⟩,
   ⟨some 81, .call (.func 19) [(.tmp 78), (.tmp 79), (.tmp 80), (.const (.int .i64 (-1))), (.const (.int .i64 0))], none⟩,
   ⟨some 77, .move (.tmp 81), none⟩,
   ⟨some 82, .extract (.tmp 77) 0, none⟩,
   ⟨some 83, .extract (.tmp 77) 1, none⟩,
   ⟨some 84, .extract (.tmp 77) 2, none⟩,
   ⟨some 85, .extract (.tmp 77) 3, none⟩,
   ⟨some 14, .alloc true 5 [(.int .i64 0), (.int .i64 0), (.str []), (.bool false), (.int .i64 0)], none⟩,
   ⟨some 16, .alloc true 5 [(.int .i64 0), (.int .i64 0), (.str []), (.int .i64 0), (.int .i64 0)], none⟩,
   ⟨none, .store 5 (.tmp 14) (.tmp 82), none⟩,
   ⟨some 15, .move (.tmp 83), none⟩,
   ⟨none, .store 5 (.tmp 16) (.tmp 84), none⟩,
   ⟨some 17, .move (.tmp 85), none⟩]
@[simp] theorem R4_10 (x2 x9 x12 : AV) (l3 l4 l8 : List AV) :
  evK C D (.seq (.region O4_10) (.keep [2, 3, 4, 8, 9, 12, 14, 15, 17] [3, 4, 8, 14] c)) ⟨[(2, .v x2), (3, .l 3 0), (4, .l 4 0), (8, .l 8 0), (9, .v x9), (12, .v x12)], [(3, l3), (4, l4), (8, l8)], H⟩ k =
  (nl (rd true 12 0 l3)).bind fun t0 =>
  (nl (rd true 2 0 l4)).bind fun t1 =>
  (nl (rd true 2 0 l4)).bind fun t2 =>
  (callN C (.func (.func 19) [] []) [t0, t1, t2, (.int .i64 (-1)), (.int .i64 0)] H).bind fun r3 =>
  (nl (extA 0 r3.1)).bind fun t5 =>
  (nl (extA 1 r3.1)).bind fun t6 =>
  (nl (extA 2 r3.1)).bind fun t7 =>
  (nl (extA 3 r3.1)).bind fun t8 =>
  (stL 5 0 t5 [(.int .i64 0), (.int .i64 0), (.str []), (.bool false), (.int .i64 0)]).bind fun m11 =>
  (stL 5 0 t7 [(.int .i64 0), (.int .i64 0), (.str []), (.int .i64 0), (.int .i64 0)]).bind fun m13 =>
  evK C D c ⟨[(2, .v x2), (3, .l 3 0), (4, .l 4 0), (8, .l 8 0), (9, .v x9), (12, .v x12), (14, .l 14 0), (15, .v t6), (17, .v t8)], [(3, l3), (4, l4), (8, l8), (14, m11)], r3.2⟩ k := by kernel_rfl
def O4_11 : List IOper :=
  [⟨some 86, .move (.tmp 17), none⟩,
   ⟨some 87, .bin .neq .int (.tmp 86) (.const (.int .i64 0)), none⟩,
   ⟨some 88, .move (.tmp 87), none⟩,
   ⟨some 89, .load true 5 (.tmp 14), some (88, false)⟩,
   ⟨some 90, .load true 5 (.tmp 8), some (88, false)⟩,
   ⟨some 91, .bin .neq (.struct [(0, true, 2, (.struct [(0, false, 1, .int), (1, false, 1, .int)])), (2, false, 1, .str), (3, false, 1, .bool), (4, false, 1, .int)]) (.tmp 89) (.tmp 90), some (88, false)⟩,
   ⟨some 92, .pick (.tmp 88) (.const (.bool true)) (.tmp 91), none⟩,
   ⟨some 93, .move (.tmp 92), none⟩,
   ⟨some 94, .move (.tmp 15), some (93, false)⟩,
   ⟨some 95, .move (.tmp 9), some (93, false)⟩,
   ⟨some 96, .bin .neq .bool (.tmp 94) (.tmp 95), some (93, false)⟩,
   ⟨some 97, .pick (.tmp 93) (.const (.bool true)) (.tmp 96), none⟩]
@[simp] theorem R4_11 (x2 x9 x12 x15 x17 : AV) (l3 l4 l8 l14 : List AV) :
  evK C D (.seq (.region O4_11) (.keep [2, 3, 4, 8, 9, 12, 97] [3, 4, 8] c)) ⟨[(2, .v x2), (3, .l 3 0), (4, .l 4 0), (8, .l 8 0), (9, .v x9), (12, .v x12), (14, .l 14 0), (15, .v x15), (17, .v x17)], [(3, l3), (4, l4), (8, l8), (14, l14)], H⟩ k =
  (nl (binA .neq .int x17 (.int .i64 0))).bind fun t1 =>
  guardK t1 false (
  (nl (rd true 5 0 l14)).bind fun t3 =>
  (nl (rd true 5 0 l8)).bind fun t4 =>
  (nl (binA .neq (.struct [(0, true, 2, (.struct [(0, false, 1, .int), (1, false, 1, .int)])), (2, false, 1, .str), (3, false, 1, .bool), (4, false, 1, .int)]) t3 t4)).bind fun t5 =>
  guardK t5 false (
  (nl (binA .neq .bool x15 x9)).bind fun t10 =>
  evK C D c ⟨[(2, .v x2), (3, .l 3 0), (4, .l 4 0), (8, .l 8 0), (9, .v x9), (12, .v x12), (97, .v t10)], [(3, l3), (4, l4), (8, l8)], H⟩ k)
  (evK C D c ⟨[(2, .v x2), (3, .l 3 0), (4, .l 4 0), (8, .l 8 0), (9, .v x9), (12, .v x12), (97, .v (.bool true))], [(3, l3), (4, l4), (8, l8)], H⟩ k))
  (evK C D c ⟨[(2, .v x2), (3, .l 3 0), (4, .l 4 0), (8, .l 8 0), (9, .v x9), (12, .v x12), (97, .v (.bool true))], [(3, l3), (4, l4), (8, l8)], H⟩ k) := by kernel_rfl
def O4_12 : List IOper :=
  [⟨some 6, .move (.const (.bool false)), none⟩]
@[simp] theorem R4_12 (x2 x9 x12 x97 : AV) (l3 l4 l8 : List AV) :
  evK C D (.seq (.region O4_12) (.keep [6] [] c)) ⟨[(2, .v x2), (3, .l 3 0), (4, .l 4 0), (8, .l 8 0), (9, .v x9), (12, .v x12), (97, .v x97)], [(3, l3), (4, l4), (8, l8)], H⟩ k =
  evK C D c ⟨[(6, .v (.bool false))], [], H⟩ k := by kernel_rfl
def O4_13 : List IOper :=
  [⟨some 48, .move (.tmp 12), none⟩,
   ⟨some 49, .bin .add .none (.tmp 48) (.const (.int .i64 1)), none⟩,
   ⟨some 12, .move (.tmp 49), none⟩]
@[simp] theorem R4_13 (x2 x9 x12 : AV) (l3 l4 l8 : List AV) :
  evK C D (.region O4_13) ⟨[(2, .v x2), (3, .l 3 0), (4, .l 4 0), (8, .l 8 0), (9, .v x9), (12, .v x12)], [(3, l3), (4, l4), (8, l8)], H⟩ k =
  (nl (binA .add .none x12 (.int .i64 1))).bind fun t1 =>
  k .normal ⟨[(12, .v t1), (49, .v t1), (48, .v x12), (2, .v x2), (3, .l 3 0), (4, .l 4 0), (8, .l 8 0), (9, .v x9), (12, .v x12)], [(3, l3), (4, l4), (8, l8)], H⟩ := by kernel_rfl
def B4_0 : IC :=
  .seq (.seq (.region O4_6)
   (.keep [2, 3, 4, 8, 9, 12, 47] [3, 4, 8] (.cond (.tmp 47)
    (.skip)
    (.exit 0))))
  (.keep [2, 3, 4, 8, 9, 12] [3, 4, 8] (.seq (.block 1 (.seq (.region O4_7)
    (.keep [2, 3, 4, 8, 9, 12, 13] [3, 4, 8, 13] (.seq (.seq (.region O4_8)
     (.keep [2, 3, 4, 8, 9, 12, 13, 73] [3, 4, 8, 13] (.cond (.tmp 73)
      (.exit 1)
      (.skip))))
    (.keep [2, 3, 4, 8, 9, 12, 13] [3, 4, 8, 13] (.seq (.region O4_9)
    (.keep [2, 3, 4, 8, 9, 12] [3, 4, 8] (.seq (.region O4_10)
    (.keep [2, 3, 4, 8, 9, 12, 14, 15, 17] [3, 4, 8, 14] (.seq (.region O4_11)
    (.keep [2, 3, 4, 8, 9, 12, 97] [3, 4, 8] (.cond (.tmp 97)
     (.seq (.region O4_12)
     (.keep [6] [] (.ret)))
     (.skip)))))))))))))
  (.keep [2, 3, 4, 8, 9, 12] [3, 4, 8] (.region O4_13))))
def L4_0 : IC := .keep [2, 3, 4, 8, 9, 12] [3, 4, 8] B4_0
@[simp] theorem LK4_0 (s : SK) (k : AExit → SK → Option R) : evK C D (.loop L4_0) s k = (D (.loop L4_0) (prK [2, 3, 4, 8, 9, 12] [3, 4, 8] s).toSt).bind fun r => k r.1 (ofSt r.2) := by kernel_rfl
def O4_14 : List IOper :=
  [⟨some 98, .call (.func 12) [], none⟩,
   ⟨some 6, .move (.tmp 98), none⟩]
@[simp] theorem R4_14 :
  evK C D (.seq (.region O4_14) (.keep [6] [] c)) ⟨[], [], H⟩ k =
  (callN C (.func (.func 12) [] []) [] H).bind fun r0 =>
  evK C D c ⟨[(6, .v r0.1)], [], r0.2⟩ k := by kernel_rfl
def F4 : FnIR := ⟨99, 3, [.tmp 6], [3, 4, 8, 10, 13, 14, 16],
  .seq (.region O4_0)
  (.keep [2, 3, 4] [3, 4] (.seq (.region O4_1)
  (.keep [2, 3, 4, 7] [3, 4] (.seq (.region O4_2)
  (.keep [2, 3, 4, 7, 8, 9, 11] [3, 4, 8] (.seq (.seq (.region O4_3)
   (.keep [2, 3, 4, 8, 9, 38] [3, 4, 8] (.cond (.tmp 38)
    (.seq (.region O4_4)
    (.keep [6] [] (.ret)))
    (.skip))))
  (.keep [2, 3, 4, 8, 9] [3, 4, 8] (.seq (.seq (.region O4_5)
   (.keep [2, 3, 4, 8, 9, 12] [3, 4, 8] (.block 0 (.loop L4_0))))
  (.keep [] [] (.seq (.region O4_14)
  (.keep [6] [] (.ret))))))))))))⟩
/-- (wampum/wampumlaw08.Act).does -/
def O21_0 : List IOper :=
  [⟨some 2, .box true 16 (.tmp 0), none⟩,
   ⟨some 3, .box true 12 (.tmp 1), none⟩,
   ⟨some 4, .alloc true 12 [.nils, (.bool false), (.int .i64 0), (.int .i64 0), (.str []), (.int .i64 0), (.int .i64 0), (.int .i64 0), (.int .i64 0), (.int .i64 0), (.str []), (.bool false)], none⟩]
@[simp] theorem R21_0 (x0 x1 : AV) :
  evK C D (.seq (.region O21_0) (.keep [2, 3, 4] [2, 3, 4] c)) ⟨[(0, .v x0), (1, .v x1)], [], H⟩ k =
  (boxC x0).bind fun m0 =>
  (boxC x1).bind fun m1 =>
  evK C D c ⟨[(2, .l 2 0), (3, .l 3 0), (4, .l 4 0)], [(2, m0), (3, m1), (4, [.nils, (.bool false), (.int .i64 0), (.int .i64 0), (.str []), (.int .i64 0), (.int .i64 0), (.int .i64 0), (.int .i64 0), (.int .i64 0), (.str []), (.bool false)])], H⟩ k := by kernel_rfl
def O21_1 : List IOper :=
  [⟨some 5, .alloc true 12 [.nils, (.bool false), (.int .i64 0), (.int .i64 0), (.str []), (.int .i64 0), (.int .i64 0), (.int .i64 0), (.int .i64 0), (.int .i64 0), (.str []), (.bool false)], none⟩]
@[simp] theorem R21_1 (l2 l3 l4 : List AV) :
  evK C D (.seq (.region O21_1) (.keep [2, 3, 4, 5] [2, 3, 4, 5] c)) ⟨[(2, .l 2 0), (3, .l 3 0), (4, .l 4 0)], [(2, l2), (3, l3), (4, l4)], H⟩ k =
  evK C D c ⟨[(2, .l 2 0), (3, .l 3 0), (4, .l 4 0), (5, .l 5 0)], [(2, l2), (3, l3), (4, l4), (5, [.nils, (.bool false), (.int .i64 0), (.int .i64 0), (.str []), (.int .i64 0), (.int .i64 0), (.int .i64 0), (.int .i64 0), (.int .i64 0), (.str []), (.bool false)])], H⟩ k := by kernel_rfl
def O21_2 : List IOper :=
  [⟨some 6, .move (.const (.int .i64 1)), none⟩]
@[simp] theorem R21_2 (l2 l3 l4 l5 : List AV) :
  evK C D (.seq (.region O21_2) (.keep [2, 3, 4, 5, 6] [2, 3, 4, 5] c)) ⟨[(2, .l 2 0), (3, .l 3 0), (4, .l 4 0), (5, .l 5 0)], [(2, l2), (3, l3), (4, l4), (5, l5)], H⟩ k =
  evK C D c ⟨[(2, .l 2 0), (3, .l 3 0), (4, .l 4 0), (5, .l 5 0), (6, .v (.int .i64 1))], [(2, l2), (3, l3), (4, l4), (5, l5)], H⟩ k := by kernel_rfl
def O21_3 : List IOper :=
  [⟨some 7, .fieldAddr 0 (.tmp 2), none⟩,
   ⟨some 8, .load false 1 (.tmp 7), none⟩]
@[simp] theorem R21_3 (x6 : AV) (l2 l3 l4 l5 : List AV) :
  evK C D (.seq (.region O21_3) (.keep [2, 3, 4, 5, 6, 8] [2, 3, 4, 5] c)) ⟨[(2, .l 2 0), (3, .l 3 0), (4, .l 4 0), (5, .l 5 0), (6, .v x6)], [(2, l2), (3, l3), (4, l4), (5, l5)], H⟩ k =
  (nl (rd false 1 0 l2)).bind fun t1 =>
  evK C D c ⟨[(2, .l 2 0), (3, .l 3 0), (4, .l 4 0), (5, .l 5 0), (6, .v x6), (8, .v t1)], [(2, l2), (3, l3), (4, l4), (5, l5)], H⟩ k := by kernel_rfl
def O21_4 : List IOper :=
  [⟨some 10, .bin .eql .int (.tmp 8) (.const (.int .i64 1)), none⟩,
   ⟨some 9, .move (.tmp 10), none⟩]
@[simp] theorem R21_4 (x6 x8 : AV) (l2 l3 l4 l5 : List AV) :
  evK C D (.seq (.region O21_4) (.keep [2, 3, 4, 5, 6, 8, 9] [2, 3, 4, 5] c)) ⟨[(2, .l 2 0), (3, .l 3 0), (4, .l 4 0), (5, .l 5 0), (6, .v x6), (8, .v x8)], [(2, l2), (3, l3), (4, l4), (5, l5)], H⟩ k =
  (nl (binA .eql .int x8 (.int .i64 1))).bind fun t0 =>
  evK C D c ⟨[(2, .l 2 0), (3, .l 3 0), (4, .l 4 0), (5, .l 5 0), (6, .v x6), (8, .v x8), (9, .v t0)], [(2, l2), (3, l3), (4, l4), (5, l5)], H⟩ k := by kernel_rfl
def O21_5 : List IOper :=
  [⟨some 12, .load true 12 (.tmp 3), none⟩,
   ⟨some 13, .fieldAddr 3 (.tmp 2), none⟩,
   ⟨some 14, .load true 10 (.tmp 13), none⟩,
   ⟨some 15, .call (.func 14) [(.tmp 12), (.tmp 14)], none⟩,
   ⟨some 11, .move (.tmp 15), none⟩,
   ⟨some 16, .extract (.tmp 11) 0, none⟩,
   ⟨some 17, .extract (.tmp 11) 1, none⟩,
   ⟨some 18, .extract (.tmp 11) 2, none⟩,
   ⟨some 19, .extract (.tmp 11) 3, none⟩,
   ⟨none, .store 12 (.tmp 5) (.tmp 16), none⟩,
   ⟨some 6, .move (.tmp 19), none⟩]
@[simp] theorem R21_5 (x6 x8 x9 : AV) (l2 l3 l4 l5 : List AV) :
  evK C D (.region O21_5) ⟨[(2, .l 2 0), (3, .l 3 0), (4, .l 4 0), (5, .l 5 0), (6, .v x6), (8, .v x8), (9, .v x9)], [(2, l2), (3, l3), (4, l4), (5, l5)], H⟩ k =
  (nl (rd true 12 0 l3)).bind fun t0 =>
  (nl (rd true 10 3 l2)).bind fun t2 =>
  (callN C (.func (.func 14) [] []) [t0, t2] H).bind fun r3 =>
  (nl (extA 0 r3.1)).bind fun t5 =>
  (nl (extA 1 r3.1)).bind fun t6 =>
  (nl (extA 2 r3.1)).bind fun t7 =>
  (nl (extA 3 r3.1)).bind fun t8 =>
  (stL 12 0 t5 l5).bind fun m9 =>
  k .normal ⟨[(6, .v t8), (19, .v t8), (18, .v t7), (17, .v t6), (16, .v t5), (11, .v r3.1), (15, .v r3.1), (14, .v t2), (13, .l 2 3), (12, .v t0), (2, .l 2 0), (3, .l 3 0), (4, .l 4 0), (5, .l 5 0), (6, .v x6), (8, .v x8), (9, .v x9)], [(5, m9), (2, l2), (3, l3), (4, l4), (5, l5)], r3.2⟩ := by kernel_rfl
def O21_6 : List IOper :=
  [⟨some 21, .bin .eql .int (.tmp 8) (.const (.int .i64 2)), none⟩,
   ⟨some 20, .move (.tmp 21), none⟩]
@[simp] theorem R21_6 (x6 x8 x9 : AV) (l2 l3 l4 l5 : List AV) :
  evK C D (.seq (.region O21_6) (.keep [2, 3, 4, 5, 6, 20] [2, 3, 4, 5] c)) ⟨[(2, .l 2 0), (3, .l 3 0), (4, .l 4 0), (5, .l 5 0), (6, .v x6), (8, .v x8), (9, .v x9)], [(2, l2), (3, l3), (4, l4), (5, l5)], H⟩ k =
  (nl (binA .eql .int x8 (.int .i64 2))).bind fun t0 =>
  evK C D c ⟨[(2, .l 2 0), (3, .l 3 0), (4, .l 4 0), (5, .l 5 0), (6, .v x6), (20, .v t0)], [(2, l2), (3, l3), (4, l4), (5, l5)], H⟩ k := by kernel_rfl
def O21_7 : List IOper :=
  [⟨some 23, .load true 12 (.tmp 3), none⟩,
   ⟨some 24, .fieldAddr 1 (.tmp 2), none⟩,
   ⟨some 25, .load false 1 (.tmp 24), none⟩,
   ⟨some 26, .fieldAddr 2 (.tmp 2), none⟩,
   ⟨some 27, .load false 1 (.tmp 26), none⟩,
   ⟨some 28, .fieldAddr 13 (.tmp 2), none⟩,
   ⟨some 29, .load false 1 (.tmp 28), none⟩,
   ⟨some 30, .fieldAddr 14 (.tmp 2), none⟩,
   ⟨some 31, .load true 2 (.tmp 30), none⟩,
   ⟨some 32, .call (.func 16) [(.tmp 23), (.tmp 25), (.tmp 27), (.tmp 29), (.tmp 31)], none⟩,
   ⟨some 22, .move (.tmp 32), none⟩,
   ⟨some 33, .extract (.tmp 22) 0, none⟩,
   ⟨some 34, .extract (.tmp 22) 1, none⟩,
   ⟨none, .store 12 (.tmp 5) (.tmp 33), none⟩,
   ⟨some 6, .move (.tmp 34), none⟩]
@[simp] theorem R21_7 (x6 x20 : AV) (l2 l3 l4 l5 : List AV) :
  evK C D (.region O21_7) ⟨[(2, .l 2 0), (3, .l 3 0), (4, .l 4 0), (5, .l 5 0), (6, .v x6), (20, .v x20)], [(2, l2), (3, l3), (4, l4), (5, l5)], H⟩ k =
  (nl (rd true 12 0 l3)).bind fun t0 =>
  (nl (rd false 1 1 l2)).bind fun t2 =>
  (nl (rd false 1 2 l2)).bind fun t4 =>
  (nl (rd false 1 13 l2)).bind fun t6 =>
  (nl (rd true 2 14 l2)).bind fun t8 =>
  (callN C (.func (.func 16) [] []) [t0, t2, t4, t6, t8] H).bind fun r9 =>
  (nl (extA 0 r9.1)).bind fun t11 =>
  (nl (extA 1 r9.1)).bind fun t12 =>
  (stL 12 0 t11 l5).bind fun m13 =>
  k .normal ⟨[(6, .v t12), (34, .v t12), (33, .v t11), (22, .v r9.1), (32, .v r9.1), (31, .v t8), (30, .l 2 14), (29, .v t6), (28, .l 2 13), (27, .v t4), (26, .l 2 2), (25, .v t2), (24, .l 2 1), (23, .v t0), (2, .l 2 0), (3, .l 3 0), (4, .l 4 0), (5, .l 5 0), (6, .v x6), (20, .v x20)], [(5, m13), (2, l2), (3, l3), (4, l4), (5, l5)], r9.2⟩ := by kernel_rfl
def O21_8 : List IOper :=
  [⟨some 35, .move (.tmp 6), none⟩,
   ⟨some 36, .bin .neq .int (.tmp 35) (.const (.int .i64 0)), none⟩]
@[simp] theorem R21_8 (x6 : AV) (l3 l4 l5 : List AV) :
  evK C D (.seq (.region O21_8) (.keep [3, 4, 5, 36] [3, 4, 5] c)) ⟨[(3, .l 3 0), (4, .l 4 0), (5, .l 5 0), (6, .v x6)], [(3, l3), (4, l4), (5, l5)], H⟩ k =
  (nl (binA .neq .int x6 (.int .i64 0))).bind fun t1 =>
  evK C D c ⟨[(3, .l 3 0), (4, .l 4 0), (5, .l 5 0), (36, .v t1)], [(3, l3), (4, l4), (5, l5)], H⟩ k := by kernel_rfl
def O21_9 : List IOper :=
  [⟨some 37, .load true 12 (.tmp 3), none⟩,
   ⟨none, .store 12 (.tmp 4) (.tmp 37), none⟩]
@[simp] theorem R21_9 (x36 : AV) (l3 l4 l5 : List AV) :
  evK C D (.seq (.region O21_9) (.keep [4] [4] c)) ⟨[(3, .l 3 0), (4, .l 4 0), (5, .l 5 0), (36, .v x36)], [(3, l3), (4, l4), (5, l5)], H⟩ k =
  (nl (rd true 12 0 l3)).bind fun t0 =>
  (stL 12 0 t0 l4).bind fun m1 =>
  evK C D c ⟨[(4, .l 4 0)], [(4, m1)], H⟩ k := by kernel_rfl
def O21_10 : List IOper :=
  [⟨some 38, .load true 12 (.tmp 5), none⟩,
   ⟨none, .store 12 (.tmp 4) (.tmp 38), none⟩]
@[simp] theorem R21_10 (l4 l5 : List AV) :
  evK C D (.seq (.region O21_10) (.keep [4] [4] c)) ⟨[(4, .l 4 0), (5, .l 5 0)], [(4, l4), (5, l5)], H⟩ k =
  (nl (rd true 12 0 l5)).bind fun t0 =>
  (stL 12 0 t0 l4).bind fun m1 =>
  evK C D c ⟨[(4, .l 4 0)], [(4, m1)], H⟩ k := by kernel_rfl
def F21 : FnIR := ⟨39, 2, [.cell 4 true 12], [2, 3, 4, 5],
  .seq (.region O21_0)
  (.keep [2, 3, 4] [2, 3, 4] (.seq (.region O21_1)
  (.keep [2, 3, 4, 5] [2, 3, 4, 5] (.seq (.region O21_2)
  (.keep [2, 3, 4, 5, 6] [2, 3, 4, 5] (.seq (.seq (.region O21_3)
   (.keep [2, 3, 4, 5, 6, 8] [2, 3, 4, 5] (.block 0 (.seq (.region O21_4)
    (.keep [2, 3, 4, 5, 6, 8, 9] [2, 3, 4, 5] (.cond (.tmp 9)
     (.region O21_5)
     (.seq (.region O21_6)
     (.keep [2, 3, 4, 5, 6, 20] [2, 3, 4, 5] (.cond (.tmp 20)
      (.region O21_7)
      (.skip))))))))))
  (.keep [3, 4, 5, 6] [3, 4, 5] (.seq (.seq (.region O21_8)
   (.keep [3, 4, 5, 36] [3, 4, 5] (.cond (.tmp 36)
    (.seq (.region O21_9)
    (.keep [4] [4] (.ret)))
    (.skip))))
  (.keep [4, 5] [4, 5] (.seq (.region O21_10)
  (.keep [4] [4] (.ret))))))))))))⟩
end Go.Proofs.Ytkahfmgdjoaiiaa
