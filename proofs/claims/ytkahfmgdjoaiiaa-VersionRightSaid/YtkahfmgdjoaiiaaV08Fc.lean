/- Functions of the program in our form (V08, c). No condition. -/
import Derived.Test.YtkahfmgdjoaiiaaAmZ
import Derived.Test.YtkahfmgdjoaiiaaRows
set_option linter.unusedVariables false
set_option linter.unusedSimpArgs false
namespace Go.Proofs.Ytkahfmgdjoaiiaa
open Go.Wam
variable {R : Type} (C : CallF) (D : IC → St → Option (AExit × St)) (c : IC) (H : AHeap) (k : AExit → SK → Option R)
/-- wampum/wampumlaw08.VersionRefreshed -/
def O5_0 : List IOper :=
  [⟨some 3, .box true 12 (.tmp 0), none⟩,
   ⟨some 4, .box true 2 (.tmp 1), none⟩,
   ⟨some 5, .box true 2 (.tmp 2), none⟩,
   ⟨some 6, .move (.const (.bool false)), none⟩]
@[simp] theorem R5_0 (x0 x1 x2 : AV) :
  evK C D (.seq (.region O5_0) (.keep [3, 4, 5] [3, 4, 5] c)) ⟨[(0, .v x0), (1, .v x1), (2, .v x2)], [], H⟩ k =
  (boxC x0).bind fun m0 =>
  (boxC x1).bind fun m1 =>
  (boxC x2).bind fun m2 =>
  evK C D c ⟨[(3, .l 3 0), (4, .l 4 0), (5, .l 5 0)], [(3, m0), (4, m1), (5, m2)], H⟩ k := by kernel_rfl
def O5_1 : List IOper :=
  [⟨some 22, .load true 12 (.tmp 3), none⟩,
   ⟨some 23, .call (.func 11) [(.tmp 22)], none⟩,
   ⟨some 7, .move (.tmp 23), none⟩]
@[simp] theorem R5_1 (l3 l4 l5 : List AV) :
  evK C D (.seq (.region O5_1) (.keep [3, 4, 5, 7] [3, 4, 5] c)) ⟨[(3, .l 3 0), (4, .l 4 0), (5, .l 5 0)], [(3, l3), (4, l4), (5, l5)], H⟩ k =
  (nl (rd true 12 0 l3)).bind fun t0 =>
  (callN C (.func (.func 11) [] []) [t0] H).bind fun r1 =>
  evK C D c ⟨[(3, .l 3 0), (4, .l 4 0), (5, .l 5 0), (7, .v r1.1)], [(3, l3), (4, l4), (5, l5)], r1.2⟩ k := by kernel_rfl
def O5_2 : List IOper :=
  [⟨some 25, .load true 12 (.tmp 3), none⟩,
   ⟨some 26, .load true 2 (.tmp 4), none⟩,
   ⟨some 27, .load true 2 (.tmp 5), none⟩,
   ⟨some 28, .call (.func 22) [(.tmp 25), (.const (.int .i64 (-1))), (.tmp 26), (.tmp 27)], none⟩,
   ⟨some 24, .move (.tmp 28), none⟩,
   ⟨some 29, .extract (.tmp 24) 0, none⟩,
   ⟨some 30, .extract (.tmp 24) 1, none⟩,
   ⟨some 8, .alloc true 5 [(.int .i64 0), (.int .i64 0), (.str []), (.int .i64 0), (.int .i64 0)], none⟩,
   ⟨none, .store 5 (.tmp 8) (.tmp 29), none⟩,
   ⟨some 9, .move (.tmp 30), none⟩]
@[simp] theorem R5_2 (x7 : AV) (l3 l4 l5 : List AV) :
  evK C D (.seq (.region O5_2) (.keep [3, 4, 5, 7, 9] [3, 4, 5] c)) ⟨[(3, .l 3 0), (4, .l 4 0), (5, .l 5 0), (7, .v x7)], [(3, l3), (4, l4), (5, l5)], H⟩ k =
  (nl (rd true 12 0 l3)).bind fun t0 =>
  (nl (rd true 2 0 l4)).bind fun t1 =>
  (nl (rd true 2 0 l5)).bind fun t2 =>
  (callN C (.func (.func 22) [] []) [t0, (.int .i64 (-1)), t1, t2] H).bind fun r3 =>
  (nl (extA 0 r3.1)).bind fun t5 =>
  (nl (extA 1 r3.1)).bind fun t6 =>
  (stL 5 0 t5 [(.int .i64 0), (.int .i64 0), (.str []), (.int .i64 0), (.int .i64 0)]).bind fun m8 =>
  evK C D c ⟨[(3, .l 3 0), (4, .l 4 0), (5, .l 5 0), (7, .v x7), (9, .v t6)], [(3, l3), (4, l4), (5, l5)], r3.2⟩ k := by kernel_rfl
def O5_3 : List IOper :=
  [⟨some 31, .move (.tmp 7), none⟩,
   ⟨some 32, .un .not (.tmp 31), none⟩,
   ⟨some 33, .move (.tmp 32), none⟩,
   ⟨some 34, .move (.tmp 9), some (33, false)⟩,
   ⟨some 35, .bin .neq .int (.tmp 34) (.const (.int .i64 0)), some (33, false)⟩,
   ⟨some 36, .pick (.tmp 33) (.const (.bool true)) (.tmp 35), none⟩,
   ⟨some 37, .move (.tmp 36), none⟩,
   ⟨some 38, .load true 2 (.tmp 4), some (37, false)⟩,
   ⟨some 39, .load true 2 (.tmp 5), some (37, false)⟩,
   ⟨some 40, .call (.func 20) [(.tmp 38), (.tmp 39)], some (37, false)⟩,
   ⟨some 41, .un .not (.tmp 40), some (37, false)⟩,
   ⟨some 42, .pick (.tmp 37) (.const (.bool true)) (.tmp 41), none⟩]
@[simp] theorem R5_3 (x7 x9 : AV) (l3 l4 l5 : List AV) :
  evK C D (.seq (.region O5_3) (.keep [3, 4, 5, 42] [3, 4, 5] c)) ⟨[(3, .l 3 0), (4, .l 4 0), (5, .l 5 0), (7, .v x7), (9, .v x9)], [(3, l3), (4, l4), (5, l5)], H⟩ k =
  (nl (unA .not x7)).bind fun t1 =>
  guardK t1 false (
  (nl (binA .neq .int x9 (.int .i64 0))).bind fun t4 =>
  guardK t4 false (
  (nl (rd true 2 0 l4)).bind fun t7 =>
  (nl (rd true 2 0 l5)).bind fun t8 =>
  (callN C (.func (.func 20) [] []) [t7, t8] H).bind fun r9 =>
  (nl (unA .not r9.1)).bind fun t10 =>
  evK C D c ⟨[(3, .l 3 0), (4, .l 4 0), (5, .l 5 0), (42, .v t10)], [(3, l3), (4, l4), (5, l5)], r9.2⟩ k)
  (evK C D c ⟨[(3, .l 3 0), (4, .l 4 0), (5, .l 5 0), (42, .v (.bool true))], [(3, l3), (4, l4), (5, l5)], H⟩ k))
  (evK C D c ⟨[(3, .l 3 0), (4, .l 4 0), (5, .l 5 0), (42, .v (.bool true))], [(3, l3), (4, l4), (5, l5)], H⟩ k) := by kernel_rfl
def O5_4 : List IOper :=
  [⟨some 43, .call (.func 12) [], none⟩,
   ⟨some 6, .move (.tmp 43), none⟩]
@[simp] theorem R5_4 (x42 : AV) (l3 l4 l5 : List AV) :
  evK C D (.seq (.region O5_4) (.keep [6] [] c)) ⟨[(3, .l 3 0), (4, .l 4 0), (5, .l 5 0), (42, .v x42)], [(3, l3), (4, l4), (5, l5)], H⟩ k =
  (callN C (.func (.func 12) [] []) [] H).bind fun r0 =>
  evK C D c ⟨[(6, .v r0.1)], [], r0.2⟩ k := by kernel_rfl
def O5_5 : List IOper :=
  [⟨some 45, .load true 12 (.tmp 3), none⟩,
   ⟨some 46, .load true 2 (.tmp 4), none⟩,
   ⟨some 47, .load true 2 (.tmp 4), none⟩,
   ⟨some 48, .call (.func 19) [(.tmp 45), (.tmp 46), (.tmp 47), (.const (.int .i64 (-1))), (.const (.int .i64 0))], none⟩,
   ⟨some 44, .move (.tmp 48), none⟩,
   ⟨some 49, .extract (.tmp 44) 0, none⟩,
   ⟨some 50, .extract (.tmp 44) 1, none⟩,
   ⟨some 51, .extract (.tmp 44) 2, none⟩,
   ⟨some 52, .extract (.tmp 44) 3, none⟩,
   ⟨some 10, .alloc true 5 [(.int .i64 0), (.int .i64 0), (.str []), (.bool false), (.int .i64 0)], none⟩,
   ⟨some 12, .alloc true 5 [(.int .i64 0), (.int .i64 0), (.str []), (.int .i64 0), (.int .i64 0)], none⟩,
   ⟨none, .store 5 (.tmp 10) (.tmp 49), none⟩,
   ⟨some 11, .move (.tmp 50), none⟩,
   ⟨none, .store 5 (.tmp 12) (.tmp 51), none⟩,
   ⟨some 13, .move (.tmp 52), none⟩]
@[simp] theorem R5_5 (l3 l4 l5 : List AV) :
  evK C D (.seq (.region O5_5) (.keep [3, 4, 5, 10, 11, 13] [3, 4, 5, 10] c)) ⟨[(3, .l 3 0), (4, .l 4 0), (5, .l 5 0)], [(3, l3), (4, l4), (5, l5)], H⟩ k =
  (nl (rd true 12 0 l3)).bind fun t0 =>
  (nl (rd true 2 0 l4)).bind fun t1 =>
  (nl (rd true 2 0 l4)).bind fun t2 =>
  (callN C (.func (.func 19) [] []) [t0, t1, t2, (.int .i64 (-1)), (.int .i64 0)] H).bind fun r3 =>
  (nl (extA 0 r3.1)).bind fun t5 =>
  (nl (extA 1 r3.1)).bind fun t6 =>
  (nl (extA 2 r3.1)).bind fun t7 =>
  (nl (extA 3 r3.1)).bind fun t8 =>
  (stL 5 0 t5 [(.int .i64 0), (.int .i64 0), (.str []), (.bool false), (.int .i64 0)]).bind fun m11 =>
  (stL 5 0 t7 [(.int .i64 0), (.int .i64 0), (.str []), (.int .i64 0), (.int .i64 0)]).bind fun m13 =>
  evK C D c ⟨[(3, .l 3 0), (4, .l 4 0), (5, .l 5 0), (10, .l 10 0), (11, .v t6), (13, .v t8)], [(3, l3), (4, l4), (5, l5), (10, m11)], r3.2⟩ k := by kernel_rfl
def O5_6 : List IOper :=
  [⟨some 54, .load true 12 (.tmp 3), none⟩,
   ⟨some 55, .load true 2 (.tmp 5), none⟩,
   ⟨some 56, .load true 2 (.tmp 5), none⟩,
   ⟨some 57, .call (.func 19) [(.tmp 54), (.tmp 55), (.tmp 56), (.const (.int .i64 (-1))), (.const (.int .i64 0))], none⟩,
   ⟨some 53, .move (.tmp 57), none⟩,
   ⟨some 58, .extract (.tmp 53) 0, none⟩,
   ⟨some 59, .extract (.tmp 53) 1, none⟩,
   ⟨some 60, .extract (.tmp 53) 2, none⟩,
   ⟨some 61, .extract (.tmp 53) 3, none⟩,
   ⟨some 14, .alloc true 5 [(.int .i64 0), (.int .i64 0), (.str []), (.bool false), (.int .i64 0)], none⟩,
   ⟨some 16, .alloc true 5 [(.int .i64 0), (.int .i64 0), (.str []), (.int .i64 0), (.int .i64 0)], none⟩,
   ⟨none, .store 5 (.tmp 14) (.tmp 58), none⟩,
   ⟨some 15, .move (.tmp 59), none⟩,
   ⟨none, .store 5 (.tmp 16) (.tmp 60), none⟩,
   ⟨some 17, .move (.tmp 61), none⟩]
@[simp] theorem R5_6 (x11 x13 : AV) (l3 l4 l5 l10 : List AV) :
  evK C D (.seq (.region O5_6) (.keep [3, 4, 5, 10, 11, 13, 14, 15, 17] [3, 4, 5, 10, 14] c)) ⟨[(3, .l 3 0), (4, .l 4 0), (5, .l 5 0), (10, .l 10 0), (11, .v x11), (13, .v x13)], [(3, l3), (4, l4), (5, l5), (10, l10)], H⟩ k =
  (nl (rd true 12 0 l3)).bind fun t0 =>
  (nl (rd true 2 0 l5)).bind fun t1 =>
  (nl (rd true 2 0 l5)).bind fun t2 =>
  (callN C (.func (.func 19) [] []) [t0, t1, t2, (.int .i64 (-1)), (.int .i64 0)] H).bind fun r3 =>
  (nl (extA 0 r3.1)).bind fun t5 =>
  (nl (extA 1 r3.1)).bind fun t6 =>
  (nl (extA 2 r3.1)).bind fun t7 =>
  (nl (extA 3 r3.1)).bind fun t8 =>
  (stL 5 0 t5 [(.int .i64 0), (.int .i64 0), (.str []), (.bool false), (.int .i64 0)]).bind fun m11 =>
  (stL 5 0 t7 [(.int .i64 0), (.int .i64 0), (.str []), (.int .i64 0), (.int .i64 0)]).bind fun m13 =>
  evK C D c ⟨[(3, .l 3 0), (4, .l 4 0), (5, .l 5 0), (10, .l 10 0), (11, .v x11), (13, .v x13), (14, .l 14 0), (15, .v t6), (17, .v t8)], [(3, l3), (4, l4), (5, l5), (10, l10), (14, m11)], r3.2⟩ k := by kernel_rfl
def O5_7 : List IOper :=
  [⟨some 63, .load true 12 (.tmp 3), none⟩,
   ⟨some 64, .load true 2 (.tmp 4), none⟩,
   ⟨some 65, .load true 2 (.tmp 5), none⟩,
   ⟨some 66, .call (.func 19) [(.tmp 63), (.tmp 64), (.tmp 65), (.const (.int .i64 (-1))), (.const (.int .i64 0))], none⟩,
   ⟨some 62, .move (.tmp 66), none⟩,
   ⟨some 67, .extract (.tmp 62) 0, none⟩,
   ⟨some 68, .extract (.tmp 62) 1, none⟩,
   ⟨some 69, .extract (.tmp 62) 2, none⟩,
   ⟨some 70, .extract (.tmp 62) 3, none⟩,
   ⟨some 18, .alloc true 5 [(.int .i64 0), (.int .i64 0), (.str []), (.bool false), (.int .i64 0)], none⟩,
   ⟨some 20, .alloc true 5 [(.int .i64 0), (.int .i64 0), (.str []), (.int .i64 0), (.int .i64 0)], none⟩,
   ⟨none, .store 5 (.tmp 18) (.tmp 67), none⟩,
   ⟨some 19, .move (.tmp 68), none⟩,
   ⟨none, .store 5 (.tmp 20) (.tmp 69), none⟩,
   ⟨some 21, .move (.tmp 70), none⟩]
@[simp] theorem R5_7 (x11 x13 x15 x17 : AV) (l3 l4 l5 l10 l14 : List AV) :
  evK C D (.seq (.region O5_7) (.keep [10, 11, 13, 14, 15, 17, 18, 19, 21] [10, 14, 18] c)) ⟨[(3, .l 3 0), (4, .l 4 0), (5, .l 5 0), (10, .l 10 0), (11, .v x11), (13, .v x13), (14, .l 14 0), (15, .v x15), (17, .v x17)], [(3, l3), (4, l4), (5, l5), (10, l10), (14, l14)], H⟩ k =
  (nl (rd true 12 0 l3)).bind fun t0 =>
  (nl (rd true 2 0 l4)).bind fun t1 =>
  (nl (rd true 2 0 l5)).bind fun t2 =>
  (callN C (.func (.func 19) [] []) [t0, t1, t2, (.int .i64 (-1)), (.int .i64 0)] H).bind fun r3 =>
  (nl (extA 0 r3.1)).bind fun t5 =>
  (nl (extA 1 r3.1)).bind fun t6 =>
  (nl (extA 2 r3.1)).bind fun t7 =>
  (nl (extA 3 r3.1)).bind fun t8 =>
  (stL 5 0 t5 [(.int .i64 0), (.int .i64 0), (.str []), (.bool false), (.int .i64 0)]).bind fun m11 =>
  (stL 5 0 t7 [(.int .i64 0), (.int .i64 0), (.str []), (.int .i64 0), (.int .i64 0)]).bind fun m13 =>
  evK C D c ⟨[(10, .l 10 0), (11, .v x11), (13, .v x13), (14, .l 14 0), (15, .v x15), (17, .v x17), (18, .l 18 0), (19, .v t6), (21, .v t8)], [(10, l10), (14, l14), (18, m11)], r3.2⟩ k := by kernel_rfl
def O5_8 : List IOper :=
  [⟨some 71, .call (.func 12) [], none⟩,
   ⟨some 72, .move (.tmp 71), none⟩,
   ⟨some 73, .move (.tmp 13), some (72, true)⟩,
   ⟨some 74, .bin .eql .int (.tmp 73) (.const (.int .i64 0)), some (72, true)⟩,
   ⟨some 75, .pick (.tmp 72) (.tmp 74) (.const (.bool false)), none⟩,
   ⟨some 76, .move (.tmp 75), none⟩,
   ⟨some 77, .move (.tmp 17), some (76, true)⟩,
   ⟨some 78, .bin .eql .int (.tmp 77) (.const (.int .i64 0)), some (76, true)⟩,
   ⟨some 79, .pick (.tmp 76) (.tmp 78) (.const (.bool false)), none⟩,
   ⟨some 80, .move (.tmp 79), none⟩,
   ⟨some 81, .move (.tmp 21), some (80, true)⟩,
   ⟨some 82, .bin .eql .int (.tmp 81) (.const (.int .i64 0)), some (80, true)⟩,
   ⟨some 83, .pick (.tmp 80) (.tmp 82) (.const (.bool false)), none⟩,
   ⟨some 84, .move (.tmp 83), none⟩,
   ⟨some 85, .load true 5 (.tmp 10), some (84, true)⟩,
   ⟨some 86, .load true 5 (.tmp 14), some (84, true)⟩,
   ⟨some 87, .bin .eql (.struct [(0, true, 2, (.struct [(0, false, 1, .int), (1, false, 1, .int)])), (2, false, 1, .str), (3, false, 1, .bool), (4, false, 1, .int)]) (.tmp 85) (.tmp 86), some (84, true)⟩,
   ⟨some 88, .pick (.tmp 84) (.tmp 87) (.const (.bool false)), none⟩,
   ⟨some 89, .move (.tmp 88), none⟩,
   ⟨some 90, .move (.tmp 11), some (89, true)⟩,
   ⟨some 91, .move (.tmp 15), some (89, true)⟩,
   ⟨some 92, .bin .eql .bool (.tmp 90) (.tmp 91), some (89, true)⟩,
   ⟨some 93, .pick (.tmp 89) (.tmp 92) (.const (.bool false)), none⟩,
   ⟨some 94, .move (.tmp 93), none⟩,
   ⟨some 95, .load true 5 (.tmp 18), some (94, true)⟩,
   ⟨some 96, .load true 5 (.tmp 10), some (94, true)⟩,
   ⟨some 97, .bin .eql (.struct [(0, true, 2, (.struct [(0, false, 1, .int), (1, false, 1, .int)])), (2, false, 1, .str), (3, false, 1, .bool), (4, false, 1, .int)]) (.tmp 95) (.tmp 96), some (94, true)⟩,
   ⟨some 98, .pick (.tmp 94) (.tmp 97) (.const (.bool false)), none⟩,
   ⟨some 99, .move (.tmp 98), none⟩,
   ⟨some 100, .move (.tmp 19), some (99, true)⟩,
   ⟨some 101, .move (.tmp 11), some (99, true)⟩,
   ⟨some 102, .bin .eql .bool (.tmp 100) (.tmp 101), some (99, true)⟩,
   ⟨some 103, .pick (.tmp 99) (.tmp 102) (.const (.bool false)), none⟩,
   ⟨some 6, .move (.tmp 103), none⟩]
@[simp] theorem R5_8 (x11 x13 x15 x17 x19 x21 : AV) (l10 l14 l18 : List AV) :
  evK C D (.seq (.region O5_8) (.keep [6] [] c)) ⟨[(10, .l 10 0), (11, .v x11), (13, .v x13), (14, .l 14 0), (15, .v x15), (17, .v x17), (18, .l 18 0), (19, .v x19), (21, .v x21)], [(10, l10), (14, l14), (18, l18)], H⟩ k =
  (callN C (.func (.func 12) [] []) [] H).bind fun r0 =>
  guardK r0.1 true (
  (nl (binA .eql .int x13 (.int .i64 0))).bind fun t3 =>
  guardK t3 true (
  (nl (binA .eql .int x17 (.int .i64 0))).bind fun t7 =>
  guardK t7 true (
  (nl (binA .eql .int x21 (.int .i64 0))).bind fun t11 =>
  guardK t11 true (
  (nl (rd true 5 0 l10)).bind fun t14 =>
  (nl (rd true 5 0 l14)).bind fun t15 =>
  (nl (binA .eql (.struct [(0, true, 2, (.struct [(0, false, 1, .int), (1, false, 1, .int)])), (2, false, 1, .str), (3, false, 1, .bool), (4, false, 1, .int)]) t14 t15)).bind fun t16 =>
  guardK t16 true (
  (nl (binA .eql .bool x11 x15)).bind fun t21 =>
  guardK t21 true (
  (nl (rd true 5 0 l18)).bind fun t24 =>
  (nl (rd true 5 0 l10)).bind fun t25 =>
  (nl (binA .eql (.struct [(0, true, 2, (.struct [(0, false, 1, .int), (1, false, 1, .int)])), (2, false, 1, .str), (3, false, 1, .bool), (4, false, 1, .int)]) t24 t25)).bind fun t26 =>
  guardK t26 true (
  (nl (binA .eql .bool x19 x11)).bind fun t31 =>
  evK C D c ⟨[(6, .v t31)], [], r0.2⟩ k)
  (evK C D c ⟨[(6, .v (.bool false))], [], r0.2⟩ k))
  (evK C D c ⟨[(6, .v (.bool false))], [], r0.2⟩ k))
  (evK C D c ⟨[(6, .v (.bool false))], [], r0.2⟩ k))
  (evK C D c ⟨[(6, .v (.bool false))], [], r0.2⟩ k))
  (evK C D c ⟨[(6, .v (.bool false))], [], r0.2⟩ k))
  (evK C D c ⟨[(6, .v (.bool false))], [], r0.2⟩ k))
  (evK C D c ⟨[(6, .v (.bool false))], [], r0.2⟩ k) := by kernel_rfl
def F5 : FnIR := ⟨104, 3, [.tmp 6], [3, 4, 5, 8, 10, 12, 14, 16, 18, 20],
  .seq (.region O5_0)
  (.keep [3, 4, 5] [3, 4, 5] (.seq (.region O5_1)
  (.keep [3, 4, 5, 7] [3, 4, 5] (.seq (.region O5_2)
  (.keep [3, 4, 5, 7, 9] [3, 4, 5] (.seq (.seq (.region O5_3)
   (.keep [3, 4, 5, 42] [3, 4, 5] (.cond (.tmp 42)
    (.seq (.region O5_4)
    (.keep [6] [] (.ret)))
    (.skip))))
  (.keep [3, 4, 5] [3, 4, 5] (.seq (.region O5_5)
  (.keep [3, 4, 5, 10, 11, 13] [3, 4, 5, 10] (.seq (.region O5_6)
  (.keep [3, 4, 5, 10, 11, 13, 14, 15, 17] [3, 4, 5, 10, 14] (.seq (.region O5_7)
  (.keep [10, 11, 13, 14, 15, 17, 18, 19, 21] [10, 14, 18] (.seq (.region O5_8)
  (.keep [6] [] (.ret))))))))))))))))⟩
/-- wampum/version.Refresh -/
def O22_0 : List IOper :=
  [⟨some 4, .box true 12 (.tmp 0), none⟩,
   ⟨some 6, .box true 2 (.tmp 2), none⟩,
   ⟨some 7, .box true 2 (.tmp 3), none⟩,
   ⟨some 8, .alloc true 5 [(.int .i64 0), (.int .i64 0), (.str []), (.int .i64 0), (.int .i64 0)], none⟩,
   ⟨some 9, .move (.const (.int .i64 0)), none⟩]
@[simp] theorem R22_0 (x0 x1 x2 x3 : AV) :
  evK C D (.seq (.region O22_0) (.keep [1, 4, 6, 7, 8] [4, 6, 7, 8] c)) ⟨[(0, .v x0), (1, .v x1), (2, .v x2), (3, .v x3)], [], H⟩ k =
  (boxC x0).bind fun m0 =>
  (boxC x2).bind fun m1 =>
  (boxC x3).bind fun m2 =>
  evK C D c ⟨[(1, .v x1), (4, .l 4 0), (6, .l 6 0), (7, .l 7 0), (8, .l 8 0)], [(4, m0), (6, m1), (7, m2), (8, [(.int .i64 0), (.int .i64 0), (.str []), (.int .i64 0), (.int .i64 0)])], H⟩ k := by kernel_rfl
def O22_1 : List IOper :=
  [⟨some 11, .fieldAddr 1 (.tmp 4), none⟩,
   ⟨some 12, .load false 1 (.tmp 11), none⟩,
   ⟨some 13, .move (.tmp 12), none⟩,
   ⟨some 14, .fieldAddr 2 (.tmp 4), some (13, true)⟩,
   ⟨some 15, .fieldAddr 0 (.tmp 14), some (13, true)⟩,
   ⟨some 16, .fieldAddr 0 (.tmp 15), some (13, true)⟩,
   ⟨some 17, .load false 1 (.tmp 16), some (13, true)⟩,
   ⟨some 18, .move (.tmp 1), some (13, true)⟩,
   ⟨some 19, .bin .neq .int (.tmp 17) (.tmp 18), some (13, true)⟩,
   ⟨some 20, .pick (.tmp 13) (.tmp 19) (.const (.bool false)), none⟩,
   ⟨some 21, .move (.tmp 20), none⟩,
   ⟨some 22, .fieldAddr 2 (.tmp 4), some (21, true)⟩,
   ⟨some 23, .fieldAddr 6 (.tmp 22), some (21, true)⟩,
   ⟨some 24, .load true 2 (.tmp 23), some (21, true)⟩,
   ⟨some 25, .load true 2 (.tmp 7), some (21, true)⟩,
   ⟨some 26, .call (.func 41) [(.tmp 24), (.tmp 25)], some (21, true)⟩,
   ⟨some 27, .pick (.tmp 21) (.tmp 26) (.const (.bool false)), none⟩,
   ⟨some 10, .move (.tmp 27), none⟩]
@[simp] theorem R22_1 (x1 : AV) (l4 l6 l7 l8 : List AV) :
  evK C D (.seq (.region O22_1) (.keep [4, 6, 7, 8, 10] [4, 6, 7, 8] c)) ⟨[(1, .v x1), (4, .l 4 0), (6, .l 6 0), (7, .l 7 0), (8, .l 8 0)], [(4, l4), (6, l6), (7, l7), (8, l8)], H⟩ k =
  (nl (rd false 1 1 l4)).bind fun t1 =>
  guardK t1 true (
  (nl (rd false 1 2 l4)).bind fun t6 =>
  (nl (binA .neq .int t6 x1)).bind fun t8 =>
  guardK t8 true (
  (nl (rd true 2 8 l4)).bind fun t13 =>
  (nl (rd true 2 0 l7)).bind fun t14 =>
  (callN C (.func (.func 41) [] []) [t13, t14] H).bind fun r15 =>
  evK C D c ⟨[(4, .l 4 0), (6, .l 6 0), (7, .l 7 0), (8, .l 8 0), (10, .v r15.1)], [(4, l4), (6, l6), (7, l7), (8, l8)], r15.2⟩ k)
  (evK C D c ⟨[(4, .l 4 0), (6, .l 6 0), (7, .l 7 0), (8, .l 8 0), (10, .v (.bool false))], [(4, l4), (6, l6), (7, l7), (8, l8)], H⟩ k))
  (evK C D c ⟨[(4, .l 4 0), (6, .l 6 0), (7, .l 7 0), (8, .l 8 0), (10, .v (.bool false))], [(4, l4), (6, l6), (7, l7), (8, l8)], H⟩ k) := by kernel_rfl
def O22_2 : List IOper :=
  [⟨some 28, .fieldAddr 2 (.tmp 4), none⟩,
   ⟨some 29, .fieldAddr 0 (.tmp 28), none⟩,
   ⟨some 30, .load true 5 (.tmp 29), none⟩,
   ⟨none, .store 5 (.tmp 8) (.tmp 30), none⟩,
   ⟨some 9, .move (.const (.int .i64 81)), none⟩]
@[simp] theorem R22_2 (x10 : AV) (l4 l6 l7 l8 : List AV) :
  evK C D (.seq (.region O22_2) (.keep [8, 9] [8] c)) ⟨[(4, .l 4 0), (6, .l 6 0), (7, .l 7 0), (8, .l 8 0), (10, .v x10)], [(4, l4), (6, l6), (7, l7), (8, l8)], H⟩ k =
  (nl (rd true 5 2 l4)).bind fun t2 =>
  (stL 5 0 t2 l8).bind fun m3 =>
  evK C D c ⟨[(8, .l 8 0), (9, .v (.int .i64 81))], [(8, m3)], H⟩ k := by kernel_rfl
def O22_3 : List IOper :=
  [⟨some 32, .load true 12 (.tmp 4), none⟩,
   ⟨some 33, .load true 2 (.tmp 7), none⟩,
   ⟨some 34, .call (.func 43) [(.tmp 32), (.tmp 33)], none⟩,
   ⟨some 35, .load true 12 (.tmp 4), none⟩,
   ⟨some 36, .load true 2 (.tmp 6), none⟩,
   ⟨some 37, .call (.func 43) [(.tmp 35), (.tmp 36)], none⟩,
   ⟨some 38, .bin .gtr .none (.tmp 34) (.tmp 37), none⟩,
   ⟨some 31, .move (.tmp 38), none⟩]
@[simp] theorem R22_3 (x10 : AV) (l4 l6 l7 l8 : List AV) :
  evK C D (.seq (.regionD O22_3 [(3, 0), (4, 0)]) (.keep [8, 31] [8] c)) ⟨[(4, .l 4 0), (6, .l 6 0), (7, .l 7 0), (8, .l 8 0), (10, .v x10)], [(4, l4), (6, l6), (7, l7), (8, l8)], H⟩ k =
  (nl (rd true 12 0 l4)).bind fun t0 =>
  kB (AV.okB H.n t0) (
  (nl (rd true 2 0 l7)).bind fun t1 =>
  kB (AV.okB H.n t1) (
  (callN C (.func (.func 43) [] []) [t0, t1] H).bind fun r2 =>
  (nl (rd true 12 0 l4)).bind fun t3 =>
  kB (AV.okB r2.2.n t3) (
  (nl (rd true 2 0 l6)).bind fun t4 =>
  kB (AV.okB r2.2.n t4) (
  (callN C (.func (.func 43) [] []) [t3, t4] r2.2).bind fun r5 =>
  (nl (binA .gtr .none r2.1 r5.1)).bind fun t6 =>
  kB (chk (rd true 12 0 l4) t3) (
  kB (chk (rd true 2 0 l6) t4) (
  evK C D c ⟨[(8, .l 8 0), (31, .v t6)], [(8, l8)], r5.2⟩ k)))))) := by kernel_rfl
def O22_4 : List IOper :=
  [⟨some 39, .build [(.int .i64 0), (.int .i64 0), (.str []), (.int .i64 0), (.int .i64 0)] [], none⟩,
   ⟨none, .store 5 (.tmp 8) (.tmp 39), none⟩,
   ⟨some 9, .move (.const (.int .i64 221)), none⟩]
@[simp] theorem R22_4 (x31 : AV) (l8 : List AV) :
  evK C D (.seq (.region O22_4) (.keep [8, 9] [8] c)) ⟨[(8, .l 8 0), (31, .v x31)], [(8, l8)], H⟩ k =
  ((fillC [] [(.int .i64 0), (.int .i64 0), (.str []), (.int .i64 0), (.int .i64 0)]).map AV.agg).bind fun t0 =>
  (stL 5 0 t0 l8).bind fun m1 =>
  evK C D c ⟨[(8, .l 8 0), (9, .v (.int .i64 221))], [(8, m1)], H⟩ k := by kernel_rfl
def O22_5 : List IOper :=
  [⟨some 40, .build [(.int .i64 0), (.int .i64 0), (.str []), (.int .i64 0), (.int .i64 0)] [], none⟩,
   ⟨none, .store 5 (.tmp 8) (.tmp 40), none⟩,
   ⟨some 9, .move (.const (.int .i64 0)), none⟩]
@[simp] theorem R22_5 (l8 : List AV) :
  evK C D (.seq (.region O22_5) (.keep [8, 9] [8] c)) ⟨[(8, .l 8 0)], [(8, l8)], H⟩ k =
  ((fillC [] [(.int .i64 0), (.int .i64 0), (.str []), (.int .i64 0), (.int .i64 0)]).map AV.agg).bind fun t0 =>
  (stL 5 0 t0 l8).bind fun m1 =>
  evK C D c ⟨[(8, .l 8 0), (9, .v (.int .i64 0))], [(8, m1)], H⟩ k := by kernel_rfl
def F22 : FnIR := ⟨41, 4, [.cell 8 true 5, .tmp 9], [4, 6, 7, 8],
  .seq (.region O22_0)
  (.keep [1, 4, 6, 7, 8] [4, 6, 7, 8] (.seq (.block 0 (.seq (.region O22_1)
    (.keep [4, 6, 7, 8, 10] [4, 6, 7, 8] (.cond (.tmp 10)
     (.seq (.region O22_2)
     (.keep [8, 9] [8] (.ret)))
     (.seq (.regionD O22_3 [(3, 0), (4, 0)])
     (.keep [8, 31] [8] (.cond (.tmp 31)
      (.seq (.region O22_4)
      (.keep [8, 9] [8] (.ret)))
      (.skip))))))))
  (.keep [8] [8] (.seq (.region O22_5)
  (.keep [8, 9] [8] (.ret))))))⟩
/-- wampum/wampumlaw08.VersionReads -/
def O6_0 : List IOper :=
  [⟨some 3, .box true 12 (.tmp 0), none⟩,
   ⟨some 4, .box true 4 (.tmp 1), none⟩,
   ⟨some 5, .box true 3 (.tmp 2), none⟩,
   ⟨some 6, .move (.const (.bool false)), none⟩]
@[simp] theorem R6_0 (x0 x1 x2 : AV) :
  evK C D (.seq (.region O6_0) (.keep [3, 4, 5] [3, 4, 5] c)) ⟨[(0, .v x0), (1, .v x1), (2, .v x2)], [], H⟩ k =
  (boxC x0).bind fun m0 =>
  (boxC x1).bind fun m1 =>
  (boxC x2).bind fun m2 =>
  evK C D c ⟨[(3, .l 3 0), (4, .l 4 0), (5, .l 5 0)], [(3, m0), (4, m1), (5, m2)], H⟩ k := by kernel_rfl
def O6_1 : List IOper :=
  [⟨some 20, .load true 12 (.tmp 3), none⟩,
   ⟨some 21, .call (.func 11) [(.tmp 20)], none⟩,
   ⟨some 7, .move (.tmp 21), none⟩]
@[simp] theorem R6_1 (l3 l4 l5 : List AV) :
  evK C D (.seq (.region O6_1) (.keep [3, 4, 5, 7] [3, 4, 5] c)) ⟨[(3, .l 3 0), (4, .l 4 0), (5, .l 5 0)], [(3, l3), (4, l4), (5, l5)], H⟩ k =
  (nl (rd true 12 0 l3)).bind fun t0 =>
  (callN C (.func (.func 11) [] []) [t0] H).bind fun r1 =>
  evK C D c ⟨[(3, .l 3 0), (4, .l 4 0), (5, .l 5 0), (7, .v r1.1)], [(3, l3), (4, l4), (5, l5)], r1.2⟩ k := by kernel_rfl
def O6_2 : List IOper :=
  [⟨some 22, .move (.tmp 7), none⟩,
   ⟨some 23, .un .not (.tmp 22), none⟩]
@[simp] theorem R6_2 (x7 : AV) (l3 l4 l5 : List AV) :
  evK C D (.seq (.region O6_2) (.keep [3, 4, 5, 23] [3, 4, 5] c)) ⟨[(3, .l 3 0), (4, .l 4 0), (5, .l 5 0), (7, .v x7)], [(3, l3), (4, l4), (5, l5)], H⟩ k =
  (nl (unA .not x7)).bind fun t1 =>
  evK C D c ⟨[(3, .l 3 0), (4, .l 4 0), (5, .l 5 0), (23, .v t1)], [(3, l3), (4, l4), (5, l5)], H⟩ k := by kernel_rfl
def O6_3 : List IOper :=
  [⟨some 24, .call (.func 12) [], none⟩,
   ⟨some 6, .move (.tmp 24), none⟩]
@[simp] theorem R6_3 (x23 : AV) (l3 l4 l5 : List AV) :
  evK C D (.seq (.region O6_3) (.keep [6] [] c)) ⟨[(3, .l 3 0), (4, .l 4 0), (5, .l 5 0), (23, .v x23)], [(3, l3), (4, l4), (5, l5)], H⟩ k =
  (callN C (.func (.func 12) [] []) [] H).bind fun r0 =>
  evK C D c ⟨[(6, .v r0.1)], [], r0.2⟩ k := by kernel_rfl
def O6_4 : List IOper :=
  [⟨some 26, .load true 12 (.tmp 3), none⟩,
   ⟨some 27, .indexAddr (some 2) 2 (.tmp 4) (.const (.int .i64 0)), none⟩,
   ⟨some 28, .load true 2 (.tmp 27), none⟩,
   ⟨some 29, .indexAddr (some 2) 2 (.tmp 4) (.const (.int .i64 1)), none⟩,
   ⟨some 30, .load true 2 (.tmp 29), none⟩,
   ⟨some 31, .indexAddr (some 3) 1 (.tmp 5) (.const (.int .i64 0)), none⟩,
   ⟨some 32, .load false 1 (.tmp 31), none⟩,
   ⟨some 33, .indexAddr (some 3) 1 (.tmp 5) (.const (.int .i64 1)), none⟩,
   ⟨some 34, .load false 1 (.tmp 33), none⟩,
   ⟨some 35, .call (.func 19) [(.tmp 26), (.tmp 28), (.tmp 30), (.tmp 32), (.tmp 34)], none⟩,
   ⟨some 25, .move (.tmp 35), none⟩,
   ⟨some 36, .extract (.tmp 25) 0, none⟩,
   ⟨some 37, .extract (.tmp 25) 1, none⟩,
   ⟨some 38, .extract (.tmp 25) 2, none⟩,
   ⟨some 39, .extract (.tmp 25) 3, none⟩,
   ⟨some 8, .alloc true 5 [(.int .i64 0), (.int .i64 0), (.str []), (.bool false), (.int .i64 0)], none⟩,
   ⟨some 10, .alloc true 5 [(.int .i64 0), (.int .i64 0), (.str []), (.int .i64 0), (.int .i64 0)], none⟩,
   ⟨none, .store 5 (.tmp 8) (.tmp 36), none⟩,
   ⟨some 9, .move (.tmp 37), none⟩,
   ⟨none, .store 5 (.tmp 10) (.tmp 38), none⟩,
   ⟨some 11, .move (.tmp 39), none⟩]
@[simp] theorem R6_4 (l3 l4 l5 : List AV) :
  evK C D (.seq (.region O6_4) (.keep [3, 4, 5, 8, 9, 10, 11] [3, 4, 5, 8, 10] c)) ⟨[(3, .l 3 0), (4, .l 4 0), (5, .l 5 0)], [(3, l3), (4, l4), (5, l5)], H⟩ k =
  (nl (rd true 12 0 l3)).bind fun t0 =>
  (nl (rd true 2 0 l4)).bind fun t2 =>
  (nl (rd true 2 2 l4)).bind fun t4 =>
  (nl (rd false 1 0 l5)).bind fun t6 =>
  (nl (rd false 1 1 l5)).bind fun t8 =>
  (callN C (.func (.func 19) [] []) [t0, t2, t4, t6, t8] H).bind fun r9 =>
  (nl (extA 0 r9.1)).bind fun t11 =>
  (nl (extA 1 r9.1)).bind fun t12 =>
  (nl (extA 2 r9.1)).bind fun t13 =>
  (nl (extA 3 r9.1)).bind fun t14 =>
  (stL 5 0 t11 [(.int .i64 0), (.int .i64 0), (.str []), (.bool false), (.int .i64 0)]).bind fun m17 =>
  (stL 5 0 t13 [(.int .i64 0), (.int .i64 0), (.str []), (.int .i64 0), (.int .i64 0)]).bind fun m19 =>
  evK C D c ⟨[(3, .l 3 0), (4, .l 4 0), (5, .l 5 0), (8, .l 8 0), (9, .v t12), (10, .l 10 0), (11, .v t14)], [(3, l3), (4, l4), (5, l5), (8, m17), (10, m19)], r9.2⟩ k := by kernel_rfl
def O6_5 : List IOper :=
  [⟨some 41, .load true 12 (.tmp 3), none⟩,
   ⟨some 42, .indexAddr (some 2) 2 (.tmp 4) (.const (.int .i64 0)), none⟩,
   ⟨some 43, .load true 2 (.tmp 42), none⟩,
   ⟨some 44, .indexAddr (some 2) 2 (.tmp 4) (.const (.int .i64 1)), none⟩,
   ⟨some 45, .load true 2 (.tmp 44), none⟩,
   ⟨some 46, .indexAddr (some 3) 1 (.tmp 5) (.const (.int .i64 0)), none⟩,
   ⟨some 47, .load false 1 (.tmp 46), none⟩,
   ⟨some 48, .indexAddr (some 3) 1 (.tmp 5) (.const (.int .i64 1)), none⟩,
   ⟨some 49, .load false 1 (.tmp 48), none⟩,
   ⟨some 50, .call (.func 23) [(.tmp 41), (.tmp 43), (.tmp 45), (.tmp 47), (.tmp 49)], none⟩,
   ⟨some 40, .move (.tmp 50), none⟩,
   ⟨some 51, .extract (.tmp 40) 0, none⟩,
   ⟨some 52, .extract (.tmp 40) 1, none⟩,
   ⟨some 53, .extract (.tmp 40) 2, none⟩,
   ⟨some 54, .extract (.tmp 40) 3, none⟩,
   ⟨some 12, .alloc true 5 [(.int .i64 0), (.int .i64 0), (.str []), (.bool false), (.int .i64 0)], none⟩,
   ⟨some 14, .alloc true 5 [(.int .i64 0), (.int .i64 0), (.str []), (.int .i64 0), (.int .i64 0)], none⟩,
   ⟨none, .store 5 (.tmp 12) (.tmp 51), none⟩,
   ⟨some 13, .move (.tmp 52), none⟩,
   ⟨none, .store 5 (.tmp 14) (.tmp 53), none⟩,
   ⟨some 15, .move (.tmp 54), none⟩]
@[simp] theorem R6_5 (x9 x11 : AV) (l3 l4 l5 l8 l10 : List AV) :
  evK C D (.seq (.region O6_5) (.keep [3, 4, 5, 8, 9, 10, 11, 12, 13, 14, 15] [3, 4, 5, 8, 10, 12, 14] c)) ⟨[(3, .l 3 0), (4, .l 4 0), (5, .l 5 0), (8, .l 8 0), (9, .v x9), (10, .l 10 0), (11, .v x11)], [(3, l3), (4, l4), (5, l5), (8, l8), (10, l10)], H⟩ k =
  (nl (rd true 12 0 l3)).bind fun t0 =>
  (nl (rd true 2 0 l4)).bind fun t2 =>
  (nl (rd true 2 2 l4)).bind fun t4 =>
  (nl (rd false 1 0 l5)).bind fun t6 =>
  (nl (rd false 1 1 l5)).bind fun t8 =>
  (callN C (.func (.func 23) [] []) [t0, t2, t4, t6, t8] H).bind fun r9 =>
  (nl (extA 0 r9.1)).bind fun t11 =>
  (nl (extA 1 r9.1)).bind fun t12 =>
  (nl (extA 2 r9.1)).bind fun t13 =>
  (nl (extA 3 r9.1)).bind fun t14 =>
  (stL 5 0 t11 [(.int .i64 0), (.int .i64 0), (.str []), (.bool false), (.int .i64 0)]).bind fun m17 =>
  (stL 5 0 t13 [(.int .i64 0), (.int .i64 0), (.str []), (.int .i64 0), (.int .i64 0)]).bind fun m19 =>
  evK C D c ⟨[(3, .l 3 0), (4, .l 4 0), (5, .l 5 0), (8, .l 8 0), (9, .v x9), (10, .l 10 0), (11, .v x11), (12, .l 12 0), (13, .v t12), (14, .l 14 0), (15, .v t14)], [(3, l3), (4, l4), (5, l5), (8, l8), (10, l10), (12, m17), (14, m19)], r9.2⟩ k := by kernel_rfl
def O6_6 : List IOper :=
  [⟨some 56, .load true 12 (.tmp 3), none⟩,
   ⟨some 57, .indexAddr (some 3) 1 (.tmp 5) (.const (.int .i64 0)), none⟩,
   ⟨some 58, .load false 1 (.tmp 57), none⟩,
   ⟨some 59, .indexAddr (some 2) 2 (.tmp 4) (.const (.int .i64 0)), none⟩,
   ⟨some 60, .load true 2 (.tmp 59), none⟩,
   ⟨some 61, .indexAddr (some 2) 2 (.tmp 4) (.const (.int .i64 1)), none⟩,
   ⟨some 62, .load true 2 (.tmp 61), none⟩,
   ⟨some 63, .call (.func 22) [(.tmp 56), (.tmp 58), (.tmp 60), (.tmp 62)], none⟩,
   ⟨some 55, .move (.tmp 63), none⟩,
   ⟨some 64, .extract (.tmp 55) 0, none⟩,
   ⟨some 65, .extract (.tmp 55) 1, none⟩,
   ⟨some 16, .alloc true 5 [(.int .i64 0), (.int .i64 0), (.str []), (.int .i64 0), (.int .i64 0)], none⟩,
   ⟨none, .store 5 (.tmp 16) (.tmp 64), none⟩,
   ⟨some 17, .move (.tmp 65), none⟩]
@[simp] theorem R6_6 (x9 x11 x13 x15 : AV) (l3 l4 l5 l8 l10 l12 l14 : List AV) :
  evK C D (.seq (.region O6_6) (.keep [3, 4, 5, 8, 9, 10, 11, 12, 13, 14, 15, 16, 17] [3, 4, 5, 8, 10, 12, 14, 16] c)) ⟨[(3, .l 3 0), (4, .l 4 0), (5, .l 5 0), (8, .l 8 0), (9, .v x9), (10, .l 10 0), (11, .v x11), (12, .l 12 0), (13, .v x13), (14, .l 14 0), (15, .v x15)], [(3, l3), (4, l4), (5, l5), (8, l8), (10, l10), (12, l12), (14, l14)], H⟩ k =
  (nl (rd true 12 0 l3)).bind fun t0 =>
  (nl (rd false 1 0 l5)).bind fun t2 =>
  (nl (rd true 2 0 l4)).bind fun t4 =>
  (nl (rd true 2 2 l4)).bind fun t6 =>
  (callN C (.func (.func 22) [] []) [t0, t2, t4, t6] H).bind fun r7 =>
  (nl (extA 0 r7.1)).bind fun t9 =>
  (nl (extA 1 r7.1)).bind fun t10 =>
  (stL 5 0 t9 [(.int .i64 0), (.int .i64 0), (.str []), (.int .i64 0), (.int .i64 0)]).bind fun m12 =>
  evK C D c ⟨[(3, .l 3 0), (4, .l 4 0), (5, .l 5 0), (8, .l 8 0), (9, .v x9), (10, .l 10 0), (11, .v x11), (12, .l 12 0), (13, .v x13), (14, .l 14 0), (15, .v x15), (16, .l 16 0), (17, .v t10)], [(3, l3), (4, l4), (5, l5), (8, l8), (10, l10), (12, l12), (14, l14), (16, m12)], r7.2⟩ k := by kernel_rfl
def O6_7 : List IOper :=
  [⟨some 67, .load true 12 (.tmp 3), none⟩,
   ⟨some 68, .indexAddr (some 3) 1 (.tmp 5) (.const (.int .i64 0)), none⟩,
   ⟨some 69, .load false 1 (.tmp 68), none⟩,
   ⟨some 70, .indexAddr (some 2) 2 (.tmp 4) (.const (.int .i64 0)), none⟩,
   ⟨some 71, .load true 2 (.tmp 70), none⟩,
   ⟨some 72, .indexAddr (some 2) 2 (.tmp 4) (.const (.int .i64 1)), none⟩,
   ⟨some 73, .load true 2 (.tmp 72), none⟩,
   ⟨some 74, .call (.func 24) [(.tmp 67), (.tmp 69), (.tmp 71), (.tmp 73)], none⟩,
   ⟨some 66, .move (.tmp 74), none⟩,
   ⟨some 75, .extract (.tmp 66) 0, none⟩,
   ⟨some 76, .extract (.tmp 66) 1, none⟩,
   ⟨some 18, .alloc true 5 [(.int .i64 0), (.int .i64 0), (.str []), (.int .i64 0), (.int .i64 0)], none⟩,
   ⟨none, .store 5 (.tmp 18) (.tmp 75), none⟩,
   ⟨some 19, .move (.tmp 76), none⟩]
@[simp] theorem R6_7 (x9 x11 x13 x15 x17 : AV) (l3 l4 l5 l8 l10 l12 l14 l16 : List AV) :
  evK C D (.seq (.region O6_7) (.keep [3, 4, 5, 8, 9, 10, 11, 12, 13, 14, 15, 16, 17, 18, 19] [3, 4, 5, 8, 10, 12, 14, 16, 18] c)) ⟨[(3, .l 3 0), (4, .l 4 0), (5, .l 5 0), (8, .l 8 0), (9, .v x9), (10, .l 10 0), (11, .v x11), (12, .l 12 0), (13, .v x13), (14, .l 14 0), (15, .v x15), (16, .l 16 0), (17, .v x17)], [(3, l3), (4, l4), (5, l5), (8, l8), (10, l10), (12, l12), (14, l14), (16, l16)], H⟩ k =
  (nl (rd true 12 0 l3)).bind fun t0 =>
  (nl (rd false 1 0 l5)).bind fun t2 =>
  (nl (rd true 2 0 l4)).bind fun t4 =>
  (nl (rd true 2 2 l4)).bind fun t6 =>
  (callN C (.func (.func 24) [] []) [t0, t2, t4, t6] H).bind fun r7 =>
  (nl (extA 0 r7.1)).bind fun t9 =>
  (nl (extA 1 r7.1)).bind fun t10 =>
  (stL 5 0 t9 [(.int .i64 0), (.int .i64 0), (.str []), (.int .i64 0), (.int .i64 0)]).bind fun m12 =>
  evK C D c ⟨[(3, .l 3 0), (4, .l 4 0), (5, .l 5 0), (8, .l 8 0), (9, .v x9), (10, .l 10 0), (11, .v x11), (12, .l 12 0), (13, .v x13), (14, .l 14 0), (15, .v x15), (16, .l 16 0), (17, .v x17), (18, .l 18 0), (19, .v t10)], [(3, l3), (4, l4), (5, l5), (8, l8), (10, l10), (12, l12), (14, l14), (16, l16), (18, m12)], r7.2⟩ k := by kernel_rfl
def O6_8 : List IOper :=
  [⟨some 77, .call (.func 12) [], none⟩,
   ⟨some 78, .move (.tmp 77), none⟩,
   ⟨some 79, .load true 5 (.tmp 8), some (78, true)⟩,
   ⟨some 80, .load true 5 (.tmp 12), some (78, true)⟩,
   ⟨some 81, .bin .eql (.struct [(0, true, 2, (.struct [(0, false, 1, .int), (1, false, 1, .int)])), (2, false, 1, .str), (3, false, 1, .bool), (4, false, 1, .int)]) (.tmp 79) (.tmp 80), some (78, true)⟩,
   ⟨some 82, .pick (.tmp 78) (.tmp 81) (.const (.bool false)), none⟩,
   ⟨some 83, .move (.tmp 82), none⟩,
   ⟨some 84, .move (.tmp 9), some (83, true)⟩,
   ⟨some 85, .move (.tmp 13), some (83, true)⟩,
   ⟨some 86, .bin .eql .bool (.tmp 84) (.tmp 85), some (83, true)⟩,
   ⟨some 87, .pick (.tmp 83) (.tmp 86) (.const (.bool false)), none⟩,
   ⟨some 88, .move (.tmp 87), none⟩,
   ⟨some 89, .load true 5 (.tmp 10), some (88, true)⟩,
   ⟨some 90, .load true 5 (.tmp 14), some (88, true)⟩,
   ⟨some 91, .bin .eql (.struct [(0, false, 1, .int), (1, false, 1, .int), (2, false, 1, .str), (3, true, 2, (.struct [(0, false, 1, .int), (1, false, 1, .int)]))]) (.tmp 89) (.tmp 90), some (88, true)⟩,
   ⟨some 92, .pick (.tmp 88) (.tmp 91) (.const (.bool false)), none⟩,
   ⟨some 93, .move (.tmp 92), none⟩,
   ⟨some 94, .move (.tmp 11), some (93, true)⟩,
   ⟨some 95, .move (.tmp 15), some (93, true)⟩,
   ⟨some 96, .bin .eql .int (.tmp 94) (.tmp 95), some (93, true)⟩,
   ⟨some 97, .pick (.tmp 93) (.tmp 96) (.const (.bool false)), none⟩,
   ⟨some 98, .move (.tmp 97), none⟩,
   ⟨some 99, .load true 5 (.tmp 16), some (98, true)⟩,
   ⟨some 100, .load true 5 (.tmp 18), some (98, true)⟩,
   ⟨some 101, .bin .eql (.struct [(0, false, 1, .int), (1, false, 1, .int), (2, false, 1, .str), (3, true, 2, (.struct [(0, false, 1, .int), (1, false, 1, .int)]))]) (.tmp 99) (.tmp 100), some (98, true)⟩,
   ⟨some 102, .pick (.tmp 98) (.tmp 101) (.const (.bool false)), none⟩,
   ⟨some 103, .move (.tmp 102), none⟩,
   ⟨some 104, .move (.tmp 17), some (103, true)⟩,
   ⟨some 105, .move (.tmp 19), some (103, true)⟩,
   ⟨some 106, .bin .eql .int (.tmp 104) (.tmp 105), some (103, true)⟩,
   ⟨some 107, .pick (.tmp 103) (.tmp 106) (.const (.bool false)), none⟩,
   ⟨some 108, .move (.tmp 107), none⟩,
   ⟨some 109, .load true 12 (.tmp 3), some (108, true)⟩,
   ⟨some 110, .indexAddr (some 3) 1 (.tmp 5) (.const (.int .i64 0)), some (108, true)⟩,
   ⟨some 111, .load false 1 (.tmp 110), some (108, true)⟩,
   ⟨some 112, .indexAddr (some 3) 1 (.tmp 5) (.const (.int .i64 1)), some (108, true)⟩,
   ⟨some 113, .load false 1 (.tmp 112), some (108, true)⟩,
   ⟨some 114, .indexAddr (some 3) 1 (.tmp 5) (.const (.int .i64 2)), some (108, true)⟩,
   ⟨some 115, .load false 1 (.tmp 114), some (108, true)⟩,
   ⟨some 116, .indexAddr (some 2) 2 (.tmp 4) (.const (.int .i64 0)), some (108, true)⟩,
   ⟨some 117, .load true 2 (.tmp 116), some (108, true)⟩,
   ⟨some 118, .call (.func 25) [(.tmp 109), (.tmp 111), (.tmp 113), (.tmp 115), (.tmp 117)], some (108, true)⟩,
   ⟨some 119, .load true 12 (.tmp 3), some (108, true)⟩,
   ⟨some 120, .indexAddr (some 3) 1 (.tmp 5) (.const (.int .i64 0)), some (108, true)⟩,
   ⟨some 121, .load false 1 (.tmp 120), some (108, true)⟩,
   ⟨some 122, .indexAddr (some 3) 1 (.tmp 5) (.const (.int .i64 1)), some (108, true)⟩,
   ⟨some 123, .load false 1 (.tmp 122), some (108, true)⟩,
   ⟨some 124, .indexAddr (some 3) 1 (.tmp 5) (.const (.int .i64 2)), some (108, true)⟩,
   ⟨some 125, .load false 1 (.tmp 124), some (108, true)⟩,
   ⟨some 126, .indexAddr (some 2) 2 (.tmp 4) (.const (.int .i64 0)), some (108, true)⟩,
   ⟨some 127, .load true 2 (.tmp 126), some (108, true)⟩,
   ⟨some 128, .call (.func 26) [(.tmp 119), (.tmp 121), (.tmp 123), (.tmp 125), (.tmp 127)], some (108, true)⟩,
   ⟨some 129, .bin .eql .bool (.tmp 118) (.tmp 128), some (108, true)⟩,
   ⟨some 130, .pick (.tmp 108) (.tmp 129) (.const (.bool false)), none⟩,
   ⟨some 6, .move (.tmp 130), none⟩]
@[simp] theorem R6_8 (x9 x11 x13 x15 x17 x19 : AV) (l3 l4 l5 l8 l10 l12 l14 l16 l18 : List AV) :
  evK C D (.seq (.regionD O6_8 [(42, 1), (44, 1), (46, 1), (48, 1), (50, 1)]) (.keep [6] [] c)) ⟨[(3, .l 3 0), (4, .l 4 0), (5, .l 5 0), (8, .l 8 0), (9, .v x9), (10, .l 10 0), (11, .v x11), (12, .l 12 0), (13, .v x13), (14, .l 14 0), (15, .v x15), (16, .l 16 0), (17, .v x17), (18, .l 18 0), (19, .v x19)], [(3, l3), (4, l4), (5, l5), (8, l8), (10, l10), (12, l12), (14, l14), (16, l16), (18, l18)], H⟩ k =
  (callN C (.func (.func 12) [] []) [] H).bind fun r0 =>
  guardK r0.1 true (
  (nl (rd true 5 0 l8)).bind fun t2 =>
  kB (AV.okB r0.2.n t2) (
  (nl (rd true 5 0 l12)).bind fun t3 =>
  kB (AV.okB r0.2.n t3) (
  (nl (binA .eql (.struct [(0, true, 2, (.struct [(0, false, 1, .int), (1, false, 1, .int)])), (2, false, 1, .str), (3, false, 1, .bool), (4, false, 1, .int)]) t2 t3)).bind fun t4 =>
  guardK t4 true (
  (nl (binA .eql .bool x9 x13)).bind fun t9 =>
  guardK t9 true (
  (nl (rd true 5 0 l10)).bind fun t12 =>
  kB (AV.okB r0.2.n t12) (
  (nl (rd true 5 0 l14)).bind fun t13 =>
  kB (AV.okB r0.2.n t13) (
  (nl (binA .eql (.struct [(0, false, 1, .int), (1, false, 1, .int), (2, false, 1, .str), (3, true, 2, (.struct [(0, false, 1, .int), (1, false, 1, .int)]))]) t12 t13)).bind fun t14 =>
  guardK t14 true (
  (nl (binA .eql .int x11 x15)).bind fun t19 =>
  guardK t19 true (
  (nl (rd true 5 0 l16)).bind fun t22 =>
  kB (AV.okB r0.2.n t22) (
  (nl (rd true 5 0 l18)).bind fun t23 =>
  kB (AV.okB r0.2.n t23) (
  (nl (binA .eql (.struct [(0, false, 1, .int), (1, false, 1, .int), (2, false, 1, .str), (3, true, 2, (.struct [(0, false, 1, .int), (1, false, 1, .int)]))]) t22 t23)).bind fun t24 =>
  guardK t24 true (
  (nl (binA .eql .int x17 x19)).bind fun t29 =>
  guardK t29 true (
  (nl (rd true 12 0 l3)).bind fun t32 =>
  kB (AV.okB r0.2.n t32) (
  (nl (rd false 1 0 l5)).bind fun t34 =>
  kB (AV.okB r0.2.n t34) (
  (nl (rd false 1 1 l5)).bind fun t36 =>
  kB (AV.okB r0.2.n t36) (
  (nl (rd false 1 2 l5)).bind fun t38 =>
  kB (AV.okB r0.2.n t38) (
  (nl (rd true 2 0 l4)).bind fun t40 =>
  kB (AV.okB r0.2.n t40) (
  (callN C (.func (.func 25) [] []) [t32, t34, t36, t38, t40] r0.2).bind fun r41 =>
  (nl (rd true 12 0 l3)).bind fun t42 =>
  kB (AV.okB r41.2.n t42) (
  (nl (rd false 1 0 l5)).bind fun t44 =>
  kB (AV.okB r41.2.n t44) (
  (nl (rd false 1 1 l5)).bind fun t46 =>
  kB (AV.okB r41.2.n t46) (
  (nl (rd false 1 2 l5)).bind fun t48 =>
  kB (AV.okB r41.2.n t48) (
  (nl (rd true 2 0 l4)).bind fun t50 =>
  kB (AV.okB r41.2.n t50) (
  (callN C (.func (.func 26) [] []) [t42, t44, t46, t48, t50] r41.2).bind fun r51 =>
  (nl (binA .eql .bool r41.1 r51.1)).bind fun t52 =>
  kB (chk (rd true 12 0 l3) t42) (
  kB (chk (rd false 1 0 l5) t44) (
  kB (chk (rd false 1 1 l5) t46) (
  kB (chk (rd false 1 2 l5) t48) (
  kB (chk (rd true 2 0 l4) t50) (
  evK C D c ⟨[(6, .v t52)], [], r51.2⟩ k))))))))))))))))
  (kB (AV.okB r0.2.n undefA) (
  kB (AV.okB r0.2.n undefA) (
  kB (AV.okB r0.2.n undefA) (
  kB (AV.okB r0.2.n undefA) (
  kB (AV.okB r0.2.n undefA) (
  kB (AV.okB r0.2.n undefA) (
  kB (AV.okB r0.2.n undefA) (
  kB (AV.okB r0.2.n undefA) (
  kB (AV.okB r0.2.n undefA) (
  kB (AV.okB r0.2.n undefA) (
  evK C D c ⟨[(6, .v (.bool false))], [], r0.2⟩ k))))))))))))
  (kB (AV.okB r0.2.n undefA) (
  kB (AV.okB r0.2.n undefA) (
  kB (AV.okB r0.2.n undefA) (
  kB (AV.okB r0.2.n undefA) (
  kB (AV.okB r0.2.n undefA) (
  kB (AV.okB r0.2.n undefA) (
  kB (AV.okB r0.2.n undefA) (
  kB (AV.okB r0.2.n undefA) (
  kB (AV.okB r0.2.n undefA) (
  kB (AV.okB r0.2.n undefA) (
  evK C D c ⟨[(6, .v (.bool false))], [], r0.2⟩ k))))))))))))))
  (kB (AV.okB r0.2.n undefA) (
  kB (AV.okB r0.2.n undefA) (
  kB (AV.okB r0.2.n undefA) (
  kB (AV.okB r0.2.n undefA) (
  kB (AV.okB r0.2.n undefA) (
  kB (AV.okB r0.2.n undefA) (
  kB (AV.okB r0.2.n undefA) (
  kB (AV.okB r0.2.n undefA) (
  kB (AV.okB r0.2.n undefA) (
  kB (AV.okB r0.2.n undefA) (
  kB (AV.okB r0.2.n undefA) (
  kB (AV.okB r0.2.n undefA) (
  evK C D c ⟨[(6, .v (.bool false))], [], r0.2⟩ k))))))))))))))
  (kB (AV.okB r0.2.n undefA) (
  kB (AV.okB r0.2.n undefA) (
  kB (AV.okB r0.2.n undefA) (
  kB (AV.okB r0.2.n undefA) (
  kB (AV.okB r0.2.n undefA) (
  kB (AV.okB r0.2.n undefA) (
  kB (AV.okB r0.2.n undefA) (
  kB (AV.okB r0.2.n undefA) (
  kB (AV.okB r0.2.n undefA) (
  kB (AV.okB r0.2.n undefA) (
  kB (AV.okB r0.2.n undefA) (
  kB (AV.okB r0.2.n undefA) (
  evK C D c ⟨[(6, .v (.bool false))], [], r0.2⟩ k))))))))))))))))
  (kB (AV.okB r0.2.n undefA) (
  kB (AV.okB r0.2.n undefA) (
  kB (AV.okB r0.2.n undefA) (
  kB (AV.okB r0.2.n undefA) (
  kB (AV.okB r0.2.n undefA) (
  kB (AV.okB r0.2.n undefA) (
  kB (AV.okB r0.2.n undefA) (
  kB (AV.okB r0.2.n undefA) (
  kB (AV.okB r0.2.n undefA) (
  kB (AV.okB r0.2.n undefA) (
  kB (AV.okB r0.2.n undefA) (
  kB (AV.okB r0.2.n undefA) (
  kB (AV.okB r0.2.n undefA) (
  kB (AV.okB r0.2.n undefA) (
  evK C D c ⟨[(6, .v (.bool false))], [], r0.2⟩ k))))))))))))))))
  (kB (AV.okB r0.2.n undefA) (
  kB (AV.okB r0.2.n undefA) (
  kB (AV.okB r0.2.n undefA) (
  kB (AV.okB r0.2.n undefA) (
  kB (AV.okB r0.2.n undefA) (
  kB (AV.okB r0.2.n undefA) (
  kB (AV.okB r0.2.n undefA) (
  kB (AV.okB r0.2.n undefA) (
  kB (AV.okB r0.2.n undefA) (
  kB (AV.okB r0.2.n undefA) (
  kB (AV.okB r0.2.n undefA) (
  kB (AV.okB r0.2.n undefA) (
  kB (AV.okB r0.2.n undefA) (
  kB (AV.okB r0.2.n undefA) (
  evK C D c ⟨[(6, .v (.bool false))], [], r0.2⟩ k))))))))))))))))))
  (kB (AV.okB r0.2.n undefA) (
  kB (AV.okB r0.2.n undefA) (
  kB (AV.okB r0.2.n undefA) (
  kB (AV.okB r0.2.n undefA) (
  kB (AV.okB r0.2.n undefA) (
  kB (AV.okB r0.2.n undefA) (
  kB (AV.okB r0.2.n undefA) (
  kB (AV.okB r0.2.n undefA) (
  kB (AV.okB r0.2.n undefA) (
  kB (AV.okB r0.2.n undefA) (
  kB (AV.okB r0.2.n undefA) (
  kB (AV.okB r0.2.n undefA) (
  kB (AV.okB r0.2.n undefA) (
  kB (AV.okB r0.2.n undefA) (
  kB (AV.okB r0.2.n undefA) (
  kB (AV.okB r0.2.n undefA) (
  evK C D c ⟨[(6, .v (.bool false))], [], r0.2⟩ k))))))))))))))))) := by kernel_rfl
def F6 : FnIR := ⟨131, 3, [.tmp 6], [3, 4, 5, 8, 10, 12, 14, 16, 18],
  .seq (.region O6_0)
  (.keep [3, 4, 5] [3, 4, 5] (.seq (.region O6_1)
  (.keep [3, 4, 5, 7] [3, 4, 5] (.seq (.seq (.region O6_2)
   (.keep [3, 4, 5, 23] [3, 4, 5] (.cond (.tmp 23)
    (.seq (.region O6_3)
    (.keep [6] [] (.ret)))
    (.skip))))
  (.keep [3, 4, 5] [3, 4, 5] (.seq (.region O6_4)
  (.keep [3, 4, 5, 8, 9, 10, 11] [3, 4, 5, 8, 10] (.seq (.region O6_5)
  (.keep [3, 4, 5, 8, 9, 10, 11, 12, 13, 14, 15] [3, 4, 5, 8, 10, 12, 14] (.seq (.region O6_6)
  (.keep [3, 4, 5, 8, 9, 10, 11, 12, 13, 14, 15, 16, 17] [3, 4, 5, 8, 10, 12, 14, 16] (.seq (.region O6_7)
  (.keep [3, 4, 5, 8, 9, 10, 11, 12, 13, 14, 15, 16, 17, 18, 19] [3, 4, 5, 8, 10, 12, 14, 16, 18] (.seq (.regionD O6_8 [(42, 1), (44, 1), (46, 1), (48, 1), (50, 1)])
  (.keep [6] [] (.ret))))))))))))))))⟩
/-- wampum/wampumref08.Read -/
def O23_0 : List IOper :=
  [⟨some 5, .box true 12 (.tmp 0), none⟩,
   ⟨some 6, .box true 2 (.tmp 1), none⟩,
   ⟨some 7, .box true 2 (.tmp 2), none⟩,
   ⟨some 10, .alloc true 5 [(.int .i64 0), (.int .i64 0), (.str []), (.bool false), (.int .i64 0)], none⟩,
   ⟨some 11, .move (.const (.bool false)), none⟩,
   ⟨some 12, .alloc true 5 [(.int .i64 0), (.int .i64 0), (.str []), (.int .i64 0), (.int .i64 0)], none⟩,
   ⟨some 13, .move (.const (.int .i64 0)), none⟩]
@[simp] theorem R23_0 (x0 x1 x2 x3 x4 : AV) :
  evK C D (.seq (.region O23_0) (.keep [3, 4, 5, 6, 7, 10, 12] [5, 6, 7, 10, 12] c)) ⟨[(0, .v x0), (1, .v x1), (2, .v x2), (3, .v x3), (4, .v x4)], [], H⟩ k =
  (boxC x0).bind fun m0 =>
  (boxC x1).bind fun m1 =>
  (boxC x2).bind fun m2 =>
  evK C D c ⟨[(3, .v x3), (4, .v x4), (5, .l 5 0), (6, .l 6 0), (7, .l 7 0), (10, .l 10 0), (12, .l 12 0)], [(5, m0), (6, m1), (7, m2), (10, [(.int .i64 0), (.int .i64 0), (.str []), (.bool false), (.int .i64 0)]), (12, [(.int .i64 0), (.int .i64 0), (.str []), (.int .i64 0), (.int .i64 0)])], H⟩ k := by kernel_rfl
def O23_1 : List IOper :=
  [⟨some 21, .fieldAddr 2 (.tmp 5), none⟩,
   ⟨some 22, .load true 10 (.tmp 21), none⟩,
   ⟨some 14, .alloc true 10 [(.int .i64 0), (.int .i64 0), (.str []), (.int .i64 0), (.int .i64 0), (.int .i64 0), (.int .i64 0), (.int .i64 0), (.str []), (.bool false)], none⟩,
   ⟨none, .store 10 (.tmp 14) (.tmp 22), none⟩]
@[simp] theorem R23_1 (x3 x4 : AV) (l5 l6 l7 l10 l12 : List AV) :
  evK C D (.seq (.region O23_1) (.keep [3, 4, 5, 6, 7, 10, 12, 14] [5, 6, 7, 10, 12, 14] c)) ⟨[(3, .v x3), (4, .v x4), (5, .l 5 0), (6, .l 6 0), (7, .l 7 0), (10, .l 10 0), (12, .l 12 0)], [(5, l5), (6, l6), (7, l7), (10, l10), (12, l12)], H⟩ k =
  (nl (rd true 10 2 l5)).bind fun t1 =>
  (stL 10 0 t1 [(.int .i64 0), (.int .i64 0), (.str []), (.int .i64 0), (.int .i64 0), (.int .i64 0), (.int .i64 0), (.int .i64 0), (.str []), (.bool false)]).bind fun m3 =>
  evK C D c ⟨[(3, .v x3), (4, .v x4), (5, .l 5 0), (6, .l 6 0), (7, .l 7 0), (10, .l 10 0), (12, .l 12 0), (14, .l 14 0)], [(5, l5), (6, l6), (7, l7), (10, l10), (12, l12), (14, m3)], H⟩ k := by kernel_rfl
def O23_2 : List IOper :=
  [⟨some 23, .fieldAddr 1 (.tmp 5), none⟩,
   ⟨some 24, .load false 1 (.tmp 23), none⟩,
   ⟨some 25, .move (.tmp 24), none⟩,
   ⟨some 26, .fieldAddr 0 (.tmp 14), some (25, true)⟩,
   ⟨some 27, .fieldAddr 0 (.tmp 26), some (25, true)⟩,
   ⟨some 28, .load false 1 (.tmp 27), some (25, true)⟩,
   ⟨some 29, .move (.tmp 3), some (25, true)⟩,
   ⟨some 30, .bin .eql .int (.tmp 28) (.tmp 29), some (25, true)⟩,
   ⟨some 31, .pick (.tmp 25) (.tmp 30) (.const (.bool false)), none⟩,
   ⟨some 32, .move (.tmp 31), none⟩,
   ⟨some 33, .fieldAddr 0 (.tmp 14), some (32, true)⟩,
   ⟨some 34, .fieldAddr 1 (.tmp 33), some (32, true)⟩,
   ⟨some 35, .load false 1 (.tmp 34), some (32, true)⟩,
   ⟨some 36, .move (.tmp 4), some (32, true)⟩,
   ⟨some 37, .bin .eql .int (.tmp 35) (.tmp 36), some (32, true)⟩,
   ⟨some 38, .pick (.tmp 32) (.tmp 37) (.const (.bool false)), none⟩]
@[simp] theorem R23_2 (x3 x4 : AV) (l5 l6 l7 l10 l12 l14 : List AV) :
  evK C D (.seq (.region O23_2) (.keep [3, 5, 6, 7, 10, 12, 14, 38] [5, 6, 7, 10, 12, 14] c)) ⟨[(3, .v x3), (4, .v x4), (5, .l 5 0), (6, .l 6 0), (7, .l 7 0), (10, .l 10 0), (12, .l 12 0), (14, .l 14 0)], [(5, l5), (6, l6), (7, l7), (10, l10), (12, l12), (14, l14)], H⟩ k =
  (nl (rd false 1 1 l5)).bind fun t1 =>
  guardK t1 true (
  (nl (rd false 1 0 l14)).bind fun t5 =>
  (nl (binA .eql .int t5 x3)).bind fun t7 =>
  guardK t7 true (
  (nl (rd false 1 1 l14)).bind fun t12 =>
  (nl (binA .eql .int t12 x4)).bind fun t14 =>
  evK C D c ⟨[(3, .v x3), (5, .l 5 0), (6, .l 6 0), (7, .l 7 0), (10, .l 10 0), (12, .l 12 0), (14, .l 14 0), (38, .v t14)], [(5, l5), (6, l6), (7, l7), (10, l10), (12, l12), (14, l14)], H⟩ k)
  (evK C D c ⟨[(3, .v x3), (5, .l 5 0), (6, .l 6 0), (7, .l 7 0), (10, .l 10 0), (12, .l 12 0), (14, .l 14 0), (38, .v (.bool false))], [(5, l5), (6, l6), (7, l7), (10, l10), (12, l12), (14, l14)], H⟩ k))
  (evK C D c ⟨[(3, .v x3), (5, .l 5 0), (6, .l 6 0), (7, .l 7 0), (10, .l 10 0), (12, .l 12 0), (14, .l 14 0), (38, .v (.bool false))], [(5, l5), (6, l6), (7, l7), (10, l10), (12, l12), (14, l14)], H⟩ k) := by kernel_rfl
def O23_3 : List IOper :=
  [⟨some 39, .fieldAddr 9 (.tmp 14), none⟩,
   ⟨some 40, .load false 1 (.tmp 39), none⟩]
@[simp] theorem R23_3 (x3 x38 : AV) (l5 l6 l7 l10 l12 l14 : List AV) :
  evK C D (.seq (.region O23_3) (.keep [3, 10, 12, 14, 40] [10, 12, 14] c)) ⟨[(3, .v x3), (5, .l 5 0), (6, .l 6 0), (7, .l 7 0), (10, .l 10 0), (12, .l 12 0), (14, .l 14 0), (38, .v x38)], [(5, l5), (6, l6), (7, l7), (10, l10), (12, l12), (14, l14)], H⟩ k =
  (nl (rd false 1 9 l14)).bind fun t1 =>
  evK C D c ⟨[(3, .v x3), (10, .l 10 0), (12, .l 12 0), (14, .l 14 0), (40, .v t1)], [(10, l10), (12, l12), (14, l14)], H⟩ k := by kernel_rfl
def O23_4 : List IOper :=
  [⟨some 41, .build [(.int .i64 0), (.int .i64 0), (.str []), (.bool false), (.int .i64 0)] [], none⟩,
   ⟨some 42, .build [(.int .i64 0), (.int .i64 0), (.str []), (.int .i64 0), (.int .i64 0)] [], none⟩,
   ⟨none, .store 5 (.tmp 10) (.tmp 41), none⟩,
   ⟨some 11, .move (.const (.bool false)), none⟩,
   ⟨none, .store 5 (.tmp 12) (.tmp 42), none⟩,
   ⟨some 13, .move (.const (.int .i64 0)), none⟩]
@[simp] theorem R23_4 (x3 x40 : AV) (l10 l12 l14 : List AV) :
  evK C D (.seq (.region O23_4) (.keep [10, 11, 12, 13] [10, 12] c)) ⟨[(3, .v x3), (10, .l 10 0), (12, .l 12 0), (14, .l 14 0), (40, .v x40)], [(10, l10), (12, l12), (14, l14)], H⟩ k =
  ((fillC [] [(.int .i64 0), (.int .i64 0), (.str []), (.bool false), (.int .i64 0)]).map AV.agg).bind fun t0 =>
  ((fillC [] [(.int .i64 0), (.int .i64 0), (.str []), (.int .i64 0), (.int .i64 0)]).map AV.agg).bind fun t1 =>
  (stL 5 0 t0 l10).bind fun m2 =>
  (stL 5 0 t1 l12).bind fun m4 =>
  evK C D c ⟨[(10, .l 10 0), (11, .v (.bool false)), (12, .l 12 0), (13, .v (.int .i64 0))], [(10, m2), (12, m4)], H⟩ k := by kernel_rfl
def O23_5 : List IOper :=
  [⟨some 43, .fieldAddr 6 (.tmp 14), none⟩,
   ⟨some 44, .load true 2 (.tmp 43), none⟩,
   ⟨some 45, .fieldAddr 8 (.tmp 14), none⟩,
   ⟨some 46, .load false 1 (.tmp 45), none⟩,
   ⟨some 47, .move (.tmp 3), none⟩,
   ⟨some 48, .build [(.int .i64 0), (.int .i64 0), (.str []), (.bool false), (.int .i64 0)] [(0, 2, (.tmp 44)), (2, 1, (.tmp 46)), (4, 1, (.tmp 47))], none⟩,
   ⟨some 49, .build [(.int .i64 0), (.int .i64 0), (.str []), (.int .i64 0), (.int .i64 0)] [], none⟩,
   ⟨none, .store 5 (.tmp 10) (.tmp 48), none⟩,
   ⟨some 11, .move (.const (.bool true)), none⟩,
   ⟨none, .store 5 (.tmp 12) (.tmp 49), none⟩,
   ⟨some 13, .move (.const (.int .i64 0)), none⟩]
@[simp] theorem R23_5 (x3 : AV) (l10 l12 l14 : List AV) :
  evK C D (.seq (.region O23_5) (.keep [10, 11, 12, 13] [10, 12] c)) ⟨[(3, .v x3), (10, .l 10 0), (12, .l 12 0), (14, .l 14 0)], [(10, l10), (12, l12), (14, l14)], H⟩ k =
  (nl (rd true 2 6 l14)).bind fun t1 =>
  (nl (rd false 1 8 l14)).bind fun t3 =>
  ((fillC [(0, 2, t1), (2, 1, t3), (4, 1, x3)] [(.int .i64 0), (.int .i64 0), (.str []), (.bool false), (.int .i64 0)]).map AV.agg).bind fun t5 =>
  ((fillC [] [(.int .i64 0), (.int .i64 0), (.str []), (.int .i64 0), (.int .i64 0)]).map AV.agg).bind fun t6 =>
  (stL 5 0 t5 l10).bind fun m7 =>
  (stL 5 0 t6 l12).bind fun m9 =>
  evK C D c ⟨[(10, .l 10 0), (11, .v (.bool true)), (12, .l 12 0), (13, .v (.int .i64 0))], [(10, m7), (12, m9)], H⟩ k := by kernel_rfl
def O23_6 : List IOper :=
  [⟨some 50, .fieldAddr 1 (.tmp 5), none⟩,
   ⟨some 51, .load false 1 (.tmp 50), none⟩,
   ⟨some 52, .move (.tmp 51), none⟩,
   ⟨some 53, .fieldAddr 0 (.tmp 14), some (52, true)⟩,
   ⟨some 54, .fieldAddr 0 (.tmp 53), some (52, true)⟩,
   ⟨some 55, .load false 1 (.tmp 54), some (52, true)⟩,
   ⟨some 56, .move (.tmp 3), some (52, true)⟩,
   ⟨some 57, .bin .neq .int (.tmp 55) (.tmp 56), some (52, true)⟩,
   ⟨some 58, .pick (.tmp 52) (.tmp 57) (.const (.bool false)), none⟩,
   ⟨some 59, .move (.tmp 58), none⟩,
   ⟨some 60, .fieldAddr 6 (.tmp 14), some (59, true)⟩,
   ⟨some 61, .load true 2 (.tmp 60), some (59, true)⟩,
   ⟨some 62, .load true 2 (.tmp 7), some (59, true)⟩,
   ⟨some 63, .call (.func 42) [(.tmp 61), (.tmp 62)], some (59, true)⟩,
   ⟨some 64, .pick (.tmp 59) (.tmp 63) (.const (.bool false)), none⟩]
@[simp] theorem R23_6 (x3 : AV) (l5 l6 l7 l10 l12 l14 : List AV) :
  evK C D (.seq (.region O23_6) (.keep [5, 6, 7, 10, 12, 14, 64] [5, 6, 7, 10, 12, 14] c)) ⟨[(3, .v x3), (5, .l 5 0), (6, .l 6 0), (7, .l 7 0), (10, .l 10 0), (12, .l 12 0), (14, .l 14 0)], [(5, l5), (6, l6), (7, l7), (10, l10), (12, l12), (14, l14)], H⟩ k =
  (nl (rd false 1 1 l5)).bind fun t1 =>
  guardK t1 true (
  (nl (rd false 1 0 l14)).bind fun t5 =>
  (nl (binA .neq .int t5 x3)).bind fun t7 =>
  guardK t7 true (
  (nl (rd true 2 6 l14)).bind fun t11 =>
  (nl (rd true 2 0 l7)).bind fun t12 =>
  (callN C (.func (.func 42) [] []) [t11, t12] H).bind fun r13 =>
  evK C D c ⟨[(5, .l 5 0), (6, .l 6 0), (7, .l 7 0), (10, .l 10 0), (12, .l 12 0), (14, .l 14 0), (64, .v r13.1)], [(5, l5), (6, l6), (7, l7), (10, l10), (12, l12), (14, l14)], r13.2⟩ k)
  (evK C D c ⟨[(5, .l 5 0), (6, .l 6 0), (7, .l 7 0), (10, .l 10 0), (12, .l 12 0), (14, .l 14 0), (64, .v (.bool false))], [(5, l5), (6, l6), (7, l7), (10, l10), (12, l12), (14, l14)], H⟩ k))
  (evK C D c ⟨[(5, .l 5 0), (6, .l 6 0), (7, .l 7 0), (10, .l 10 0), (12, .l 12 0), (14, .l 14 0), (64, .v (.bool false))], [(5, l5), (6, l6), (7, l7), (10, l10), (12, l12), (14, l14)], H⟩ k) := by kernel_rfl
def O23_7 : List IOper :=
  [⟨some 65, .build [(.int .i64 0), (.int .i64 0), (.str []), (.bool false), (.int .i64 0)] [], none⟩,
   ⟨none, .store 5 (.tmp 10) (.tmp 65), none⟩,
   ⟨some 66, .fieldAddr 0 (.tmp 14), none⟩,
   ⟨some 67, .load true 5 (.tmp 66), none⟩,
   ⟨some 11, .move (.const (.bool false)), none⟩,
   ⟨none, .store 5 (.tmp 12) (.tmp 67), none⟩,
   ⟨some 13, .move (.const (.int .i64 81)), none⟩]
@[simp] theorem R23_7 (x64 : AV) (l5 l6 l7 l10 l12 l14 : List AV) :
  evK C D (.seq (.regionD O23_7 [(3, 0)]) (.keep [10, 11, 12, 13] [10, 12] c)) ⟨[(5, .l 5 0), (6, .l 6 0), (7, .l 7 0), (10, .l 10 0), (12, .l 12 0), (14, .l 14 0), (64, .v x64)], [(5, l5), (6, l6), (7, l7), (10, l10), (12, l12), (14, l14)], H⟩ k =
  ((fillC [] [(.int .i64 0), (.int .i64 0), (.str []), (.bool false), (.int .i64 0)]).map AV.agg).bind fun t0 =>
  (stL 5 0 t0 l10).bind fun m1 =>
  (nl (rd true 5 0 l14)).bind fun t3 =>
  kB (AV.okB H.n t3) (
  (stL 5 0 t3 l12).bind fun m5 =>
  kB (chk (rd true 5 0 l14) t3) (
  evK C D c ⟨[(10, .l 10 0), (11, .v (.bool false)), (12, .l 12 0), (13, .v (.int .i64 81))], [(10, m1), (12, m5)], H⟩ k)) := by kernel_rfl
def O23_8 : List IOper :=
  [⟨some 15, .alloc true 5 [(.int .i64 0), (.int .i64 0), (.str []), (.bool false), (.int .i64 0)], none⟩,
   ⟨some 16, .alloc true 5 [(.int .i64 0), (.int .i64 0), (.str []), (.bool false), (.int .i64 0)], none⟩]
@[simp] theorem R23_8 (l5 l6 l7 l10 l12 : List AV) :
  evK C D (.seq (.region O23_8) (.keep [5, 6, 7, 10, 12, 15, 16] [5, 6, 7, 10, 12, 15, 16] c)) ⟨[(5, .l 5 0), (6, .l 6 0), (7, .l 7 0), (10, .l 10 0), (12, .l 12 0)], [(5, l5), (6, l6), (7, l7), (10, l10), (12, l12)], H⟩ k =
  evK C D c ⟨[(5, .l 5 0), (6, .l 6 0), (7, .l 7 0), (10, .l 10 0), (12, .l 12 0), (15, .l 15 0), (16, .l 16 0)], [(5, l5), (6, l6), (7, l7), (10, l10), (12, l12), (15, [(.int .i64 0), (.int .i64 0), (.str []), (.bool false), (.int .i64 0)]), (16, [(.int .i64 0), (.int .i64 0), (.str []), (.bool false), (.int .i64 0)])], H⟩ k := by kernel_rfl
def O23_9 : List IOper :=
  [⟨some 17, .move (.const (.bool false)), none⟩]
@[simp] theorem R23_9 (l5 l6 l7 l10 l12 l15 l16 : List AV) :
  evK C D (.seq (.region O23_9) (.keep [5, 6, 7, 10, 12, 15, 16, 17] [5, 6, 7, 10, 12, 15, 16] c)) ⟨[(5, .l 5 0), (6, .l 6 0), (7, .l 7 0), (10, .l 10 0), (12, .l 12 0), (15, .l 15 0), (16, .l 16 0)], [(5, l5), (6, l6), (7, l7), (10, l10), (12, l12), (15, l15), (16, l16)], H⟩ k =
  evK C D c ⟨[(5, .l 5 0), (6, .l 6 0), (7, .l 7 0), (10, .l 10 0), (12, .l 12 0), (15, .l 15 0), (16, .l 16 0), (17, .v (.bool false))], [(5, l5), (6, l6), (7, l7), (10, l10), (12, l12), (15, l15), (16, l16)], H⟩ k := by kernel_rfl
def O23_10 : List IOper :=
  [⟨some 18, .move (.const (.bool false)), none⟩]
@[simp] theorem R23_10 (x17 : AV) (l5 l6 l7 l10 l12 l15 l16 : List AV) :
  evK C D (.seq (.region O23_10) (.keep [5, 6, 7, 10, 12, 15, 16, 17, 18] [5, 6, 7, 10, 12, 15, 16] c)) ⟨[(5, .l 5 0), (6, .l 6 0), (7, .l 7 0), (10, .l 10 0), (12, .l 12 0), (15, .l 15 0), (16, .l 16 0), (17, .v x17)], [(5, l5), (6, l6), (7, l7), (10, l10), (12, l12), (15, l15), (16, l16)], H⟩ k =
  evK C D c ⟨[(5, .l 5 0), (6, .l 6 0), (7, .l 7 0), (10, .l 10 0), (12, .l 12 0), (15, .l 15 0), (16, .l 16 0), (17, .v x17), (18, .v (.bool false))], [(5, l5), (6, l6), (7, l7), (10, l10), (12, l12), (15, l15), (16, l16)], H⟩ k := by kernel_rfl
def O23_11 : List IOper :=
  [⟨some 19, .move (.const (.int .i64 0)), none⟩]
@[simp] theorem R23_11 (x17 x18 : AV) (l5 l6 l7 l10 l12 l15 l16 : List AV) :
  evK C D (.seq (.region O23_11) (.keep [5, 6, 7, 10, 12, 15, 16, 17, 18, 19] [5, 6, 7, 10, 12, 15, 16] c)) ⟨[(5, .l 5 0), (6, .l 6 0), (7, .l 7 0), (10, .l 10 0), (12, .l 12 0), (15, .l 15 0), (16, .l 16 0), (17, .v x17), (18, .v x18)], [(5, l5), (6, l6), (7, l7), (10, l10), (12, l12), (15, l15), (16, l16)], H⟩ k =
  evK C D c ⟨[(5, .l 5 0), (6, .l 6 0), (7, .l 7 0), (10, .l 10 0), (12, .l 12 0), (15, .l 15 0), (16, .l 16 0), (17, .v x17), (18, .v x18), (19, .v (.int .i64 0))], [(5, l5), (6, l6), (7, l7), (10, l10), (12, l12), (15, l15), (16, l16)], H⟩ k := by kernel_rfl
def O23_12 : List IOper :=
  [⟨some 68, .move (.tmp 19), none⟩,
   ⟨some 69, .fieldAddr 0 (.tmp 5), none⟩,
   ⟨some 70, .load false 1 (.tmp 69), none⟩,
   ⟨some 71, .len .slice (.tmp 70), none⟩,
   ⟨some 72, .bin .lss .none (.tmp 68) (.tmp 71), none⟩]
@[simp] theorem R23_12 (x17 x18 x19 : AV) (l5 l6 l7 l10 l12 l15 l16 : List AV) :
  evK C D (.seq (.region O23_12) (.keep [5, 6, 7, 10, 12, 15, 16, 17, 18, 19, 72] [5, 6, 7, 10, 12, 15, 16] c)) ⟨[(5, .l 5 0), (6, .l 6 0), (7, .l 7 0), (10, .l 10 0), (12, .l 12 0), (15, .l 15 0), (16, .l 16 0), (17, .v x17), (18, .v x18), (19, .v x19)], [(5, l5), (6, l6), (7, l7), (10, l10), (12, l12), (15, l15), (16, l16)], H⟩ k =
  (nl (rd false 1 0 l5)).bind fun t2 =>
  (lenS t2).bind fun t3 =>
  (nl (binA .lss .none x19 t3)).bind fun t4 =>
  evK C D c ⟨[(5, .l 5 0), (6, .l 6 0), (7, .l 7 0), (10, .l 10 0), (12, .l 12 0), (15, .l 15 0), (16, .l 16 0), (17, .v x17), (18, .v x18), (19, .v x19), (72, .v t4)], [(5, l5), (6, l6), (7, l7), (10, l10), (12, l12), (15, l15), (16, l16)], H⟩ k := by kernel_rfl
def O23_13 : List IOper :=
  [⟨some 75, .fieldAddr 0 (.tmp 5), none⟩,
   ⟨some 76, .load false 1 (.tmp 75), none⟩,
   ⟨some 77, .move (.tmp 19), none⟩,
   ⟨some 78, .indexAddr none 5 (.tmp 76) (.tmp 77), none⟩,
   ⟨some 79, .load true 5 (.tmp 78), none⟩,
   ⟨some 20, .alloc true 5 [(.int .i64 0), (.int .i64 0), (.str []), (.bool false), (.int .i64 0)], none⟩,
   ⟨none, .store 5 (.tmp 20) (.tmp 79), none⟩]
@[simp] theorem R23_13 (x17 x18 x19 : AV) (l5 l6 l7 l10 l12 l15 l16 : List AV) :
  evK C D (.seq (.region O23_13) (.keep [5, 6, 7, 10, 12, 15, 16, 17, 18, 19, 20] [5, 6, 7, 10, 12, 15, 16, 20] c)) ⟨[(5, .l 5 0), (6, .l 6 0), (7, .l 7 0), (10, .l 10 0), (12, .l 12 0), (15, .l 15 0), (16, .l 16 0), (17, .v x17), (18, .v x18), (19, .v x19)], [(5, l5), (6, l6), (7, l7), (10, l10), (12, l12), (15, l15), (16, l16)], H⟩ k =
  (nl (rd false 1 0 l5)).bind fun t1 =>
  (nl (idxS 5 t1 x19)).bind fun t3 =>
  (nl (loadP H true 5 t3)).bind fun t4 =>
  (stL 5 0 t4 [(.int .i64 0), (.int .i64 0), (.str []), (.bool false), (.int .i64 0)]).bind fun m6 =>
  evK C D c ⟨[(5, .l 5 0), (6, .l 6 0), (7, .l 7 0), (10, .l 10 0), (12, .l 12 0), (15, .l 15 0), (16, .l 16 0), (17, .v x17), (18, .v x18), (19, .v x19), (20, .l 20 0)], [(5, l5), (6, l6), (7, l7), (10, l10), (12, l12), (15, l15), (16, l16), (20, m6)], H⟩ k := by kernel_rfl
def O23_14 : List IOper :=
  [⟨some 80, .fieldAddr 0 (.tmp 20), none⟩,
   ⟨some 81, .load true 2 (.tmp 80), none⟩,
   ⟨some 82, .load true 2 (.tmp 6), none⟩,
   ⟨some 83, .call (.func 42) [(.tmp 81), (.tmp 82)], none⟩]
@[simp] theorem R23_14 (x17 x18 x19 : AV) (l5 l6 l7 l10 l12 l15 l16 l20 : List AV) :
  evK C D (.seq (.region O23_14) (.keep [5, 6, 7, 10, 12, 15, 16, 17, 18, 19, 20, 83] [5, 6, 7, 10, 12, 15, 16, 20] c)) ⟨[(5, .l 5 0), (6, .l 6 0), (7, .l 7 0), (10, .l 10 0), (12, .l 12 0), (15, .l 15 0), (16, .l 16 0), (17, .v x17), (18, .v x18), (19, .v x19), (20, .l 20 0)], [(5, l5), (6, l6), (7, l7), (10, l10), (12, l12), (15, l15), (16, l16), (20, l20)], H⟩ k =
  (nl (rd true 2 0 l20)).bind fun t1 =>
  (nl (rd true 2 0 l6)).bind fun t2 =>
  (callN C (.func (.func 42) [] []) [t1, t2] H).bind fun r3 =>
  evK C D c ⟨[(5, .l 5 0), (6, .l 6 0), (7, .l 7 0), (10, .l 10 0), (12, .l 12 0), (15, .l 15 0), (16, .l 16 0), (17, .v x17), (18, .v x18), (19, .v x19), (20, .l 20 0), (83, .v r3.1)], [(5, l5), (6, l6), (7, l7), (10, l10), (12, l12), (15, l15), (16, l16), (20, l20)], r3.2⟩ k := by kernel_rfl
def O23_15 : List IOper :=
  [⟨some 84, .load true 5 (.tmp 20), none⟩,
   ⟨none, .store 5 (.tmp 15) (.tmp 84), none⟩]
@[simp] theorem R23_15 (x17 x18 x19 x83 : AV) (l5 l6 l7 l10 l12 l15 l16 l20 : List AV) :
  evK C D (.seq (.region O23_15) (.keep [5, 6, 7, 10, 12, 15, 16, 18, 19] [5, 6, 7, 10, 12, 15, 16] c)) ⟨[(5, .l 5 0), (6, .l 6 0), (7, .l 7 0), (10, .l 10 0), (12, .l 12 0), (15, .l 15 0), (16, .l 16 0), (17, .v x17), (18, .v x18), (19, .v x19), (20, .l 20 0), (83, .v x83)], [(5, l5), (6, l6), (7, l7), (10, l10), (12, l12), (15, l15), (16, l16), (20, l20)], H⟩ k =
  (nl (rd true 5 0 l20)).bind fun t0 =>
  (stL 5 0 t0 l15).bind fun m1 =>
  evK C D c ⟨[(5, .l 5 0), (6, .l 6 0), (7, .l 7 0), (10, .l 10 0), (12, .l 12 0), (15, .l 15 0), (16, .l 16 0), (18, .v x18), (19, .v x19)], [(5, l5), (6, l6), (7, l7), (10, l10), (12, l12), (15, m1), (16, l16)], H⟩ k := by kernel_rfl
def O23_16 : List IOper :=
  [⟨some 17, .move (.const (.bool true)), none⟩]
@[simp] theorem R23_16 (x18 x19 : AV) (l5 l6 l7 l10 l12 l15 l16 : List AV) :
  evK C D (.region O23_16) ⟨[(5, .l 5 0), (6, .l 6 0), (7, .l 7 0), (10, .l 10 0), (12, .l 12 0), (15, .l 15 0), (16, .l 16 0), (18, .v x18), (19, .v x19)], [(5, l5), (6, l6), (7, l7), (10, l10), (12, l12), (15, l15), (16, l16)], H⟩ k =
  k .normal ⟨[(17, .v (.bool true)), (5, .l 5 0), (6, .l 6 0), (7, .l 7 0), (10, .l 10 0), (12, .l 12 0), (15, .l 15 0), (16, .l 16 0), (18, .v x18), (19, .v x19)], [(5, l5), (6, l6), (7, l7), (10, l10), (12, l12), (15, l15), (16, l16)], H⟩ := by kernel_rfl
def O23_17 : List IOper :=
  [⟨some 85, .fieldAddr 0 (.tmp 20), none⟩,
   ⟨some 86, .load true 2 (.tmp 85), none⟩,
   ⟨some 87, .load true 2 (.tmp 7), none⟩,
   ⟨some 88, .call (.func 42) [(.tmp 86), (.tmp 87)], none⟩]
@[simp] theorem R23_17 (x17 x18 x19 x83 : AV) (l5 l6 l7 l10 l12 l15 l16 l20 : List AV) :
  evK C D (.seq (.region O23_17) (.keep [5, 6, 7, 10, 12, 15, 16, 17, 18, 19, 20, 88] [5, 6, 7, 10, 12, 15, 16, 20] c)) ⟨[(5, .l 5 0), (6, .l 6 0), (7, .l 7 0), (10, .l 10 0), (12, .l 12 0), (15, .l 15 0), (16, .l 16 0), (17, .v x17), (18, .v x18), (19, .v x19), (20, .l 20 0), (83, .v x83)], [(5, l5), (6, l6), (7, l7), (10, l10), (12, l12), (15, l15), (16, l16), (20, l20)], H⟩ k =
  (nl (rd true 2 0 l20)).bind fun t1 =>
  (nl (rd true 2 0 l7)).bind fun t2 =>
  (callN C (.func (.func 42) [] []) [t1, t2] H).bind fun r3 =>
  evK C D c ⟨[(5, .l 5 0), (6, .l 6 0), (7, .l 7 0), (10, .l 10 0), (12, .l 12 0), (15, .l 15 0), (16, .l 16 0), (17, .v x17), (18, .v x18), (19, .v x19), (20, .l 20 0), (88, .v r3.1)], [(5, l5), (6, l6), (7, l7), (10, l10), (12, l12), (15, l15), (16, l16), (20, l20)], r3.2⟩ k := by kernel_rfl
def O23_18 : List IOper :=
  [⟨some 89, .fieldAddr 0 (.tmp 20), none⟩,
   ⟨some 90, .load true 2 (.tmp 89), none⟩,
   ⟨some 91, .build [(.int .i64 0), (.int .i64 0), (.str []), (.bool false), (.int .i64 0)] [(0, 2, (.tmp 90))], none⟩,
   ⟨none, .store 5 (.tmp 16) (.tmp 91), none⟩]
@[simp] theorem R23_18 (x17 x18 x19 x88 : AV) (l5 l6 l7 l10 l12 l15 l16 l20 : List AV) :
  evK C D (.seq (.region O23_18) (.keep [5, 6, 7, 10, 12, 15, 16, 17, 19] [5, 6, 7, 10, 12, 15, 16] c)) ⟨[(5, .l 5 0), (6, .l 6 0), (7, .l 7 0), (10, .l 10 0), (12, .l 12 0), (15, .l 15 0), (16, .l 16 0), (17, .v x17), (18, .v x18), (19, .v x19), (20, .l 20 0), (88, .v x88)], [(5, l5), (6, l6), (7, l7), (10, l10), (12, l12), (15, l15), (16, l16), (20, l20)], H⟩ k =
  (nl (rd true 2 0 l20)).bind fun t1 =>
  ((fillC [(0, 2, t1)] [(.int .i64 0), (.int .i64 0), (.str []), (.bool false), (.int .i64 0)]).map AV.agg).bind fun t2 =>
  (stL 5 0 t2 l16).bind fun m3 =>
  evK C D c ⟨[(5, .l 5 0), (6, .l 6 0), (7, .l 7 0), (10, .l 10 0), (12, .l 12 0), (15, .l 15 0), (16, .l 16 0), (17, .v x17), (19, .v x19)], [(5, l5), (6, l6), (7, l7), (10, l10), (12, l12), (15, l15), (16, m3)], H⟩ k := by kernel_rfl
def O23_19 : List IOper :=
  [⟨some 18, .move (.const (.bool true)), none⟩]
@[simp] theorem R23_19 (x17 x19 : AV) (l5 l6 l7 l10 l12 l15 l16 : List AV) :
  evK C D (.region O23_19) ⟨[(5, .l 5 0), (6, .l 6 0), (7, .l 7 0), (10, .l 10 0), (12, .l 12 0), (15, .l 15 0), (16, .l 16 0), (17, .v x17), (19, .v x19)], [(5, l5), (6, l6), (7, l7), (10, l10), (12, l12), (15, l15), (16, l16)], H⟩ k =
  k .normal ⟨[(18, .v (.bool true)), (5, .l 5 0), (6, .l 6 0), (7, .l 7 0), (10, .l 10 0), (12, .l 12 0), (15, .l 15 0), (16, .l 16 0), (17, .v x17), (19, .v x19)], [(5, l5), (6, l6), (7, l7), (10, l10), (12, l12), (15, l15), (16, l16)], H⟩ := by kernel_rfl
def O23_20 : List IOper :=
  [⟨some 73, .move (.tmp 19), none⟩,
   ⟨some 74, .bin .add .none (.tmp 73) (.const (.int .i64 1)), none⟩,
   ⟨some 19, .move (.tmp 74), none⟩]
@[simp] theorem R23_20 (x17 x18 x19 : AV) (l5 l6 l7 l10 l12 l15 l16 : List AV) :
  evK C D (.region O23_20) ⟨[(5, .l 5 0), (6, .l 6 0), (7, .l 7 0), (10, .l 10 0), (12, .l 12 0), (15, .l 15 0), (16, .l 16 0), (17, .v x17), (18, .v x18), (19, .v x19)], [(5, l5), (6, l6), (7, l7), (10, l10), (12, l12), (15, l15), (16, l16)], H⟩ k =
  (nl (binA .add .none x19 (.int .i64 1))).bind fun t1 =>
  k .normal ⟨[(19, .v t1), (74, .v t1), (73, .v x19), (5, .l 5 0), (6, .l 6 0), (7, .l 7 0), (10, .l 10 0), (12, .l 12 0), (15, .l 15 0), (16, .l 16 0), (17, .v x17), (18, .v x18), (19, .v x19)], [(5, l5), (6, l6), (7, l7), (10, l10), (12, l12), (15, l15), (16, l16)], H⟩ := by kernel_rfl
def B23_0 : IC :=
  .seq (.seq (.region O23_12)
   (.keep [5, 6, 7, 10, 12, 15, 16, 17, 18, 19, 72] [5, 6, 7, 10, 12, 15, 16] (.cond (.tmp 72)
    (.skip)
    (.exit 0))))
  (.keep [5, 6, 7, 10, 12, 15, 16, 17, 18, 19] [5, 6, 7, 10, 12, 15, 16] (.seq (.block 1 (.seq (.region O23_13)
    (.keep [5, 6, 7, 10, 12, 15, 16, 17, 18, 19, 20] [5, 6, 7, 10, 12, 15, 16, 20] (.seq (.region O23_14)
    (.keep [5, 6, 7, 10, 12, 15, 16, 17, 18, 19, 20, 83] [5, 6, 7, 10, 12, 15, 16, 20] (.cond (.tmp 83)
     (.seq (.region O23_15)
     (.keep [5, 6, 7, 10, 12, 15, 16, 18, 19] [5, 6, 7, 10, 12, 15, 16] (.region O23_16)))
     (.seq (.region O23_17)
     (.keep [5, 6, 7, 10, 12, 15, 16, 17, 18, 19, 20, 88] [5, 6, 7, 10, 12, 15, 16, 20] (.cond (.tmp 88)
      (.seq (.region O23_18)
      (.keep [5, 6, 7, 10, 12, 15, 16, 17, 19] [5, 6, 7, 10, 12, 15, 16] (.region O23_19)))
      (.skip))))))))))
  (.keep [5, 6, 7, 10, 12, 15, 16, 17, 18, 19] [5, 6, 7, 10, 12, 15, 16] (.region O23_20))))
def L23_0 : IC := .keep [5, 6, 7, 10, 12, 15, 16, 17, 18, 19] [5, 6, 7, 10, 12, 15, 16] B23_0
@[simp] theorem LK23_0 (s : SK) (k : AExit → SK → Option R) : evK C D (.loop L23_0) s k = (D (.loop L23_0) (prK [5, 6, 7, 10, 12, 15, 16, 17, 18, 19] [5, 6, 7, 10, 12, 15, 16] s).toSt).bind fun r => k r.1 (ofSt r.2) := by kernel_rfl
def O23_21 : List IOper :=
  [⟨some 92, .move (.tmp 18), none⟩]
@[simp] theorem R23_21 (x17 x18 : AV) (l10 l12 l15 l16 : List AV) :
  evK C D (.seq (.region O23_21) (.keep [10, 12, 15, 16, 17, 92] [10, 12, 15, 16] c)) ⟨[(10, .l 10 0), (12, .l 12 0), (15, .l 15 0), (16, .l 16 0), (17, .v x17), (18, .v x18)], [(10, l10), (12, l12), (15, l15), (16, l16)], H⟩ k =
  evK C D c ⟨[(10, .l 10 0), (12, .l 12 0), (15, .l 15 0), (16, .l 16 0), (17, .v x17), (92, .v x18)], [(10, l10), (12, l12), (15, l15), (16, l16)], H⟩ k := by kernel_rfl
def O23_22 : List IOper :=
  [⟨some 93, .load true 5 (.tmp 16), none⟩,
   ⟨some 94, .build [(.int .i64 0), (.int .i64 0), (.str []), (.int .i64 0), (.int .i64 0)] [], none⟩,
   ⟨none, .store 5 (.tmp 10) (.tmp 93), none⟩,
   ⟨some 11, .move (.const (.bool false)), none⟩,
   ⟨none, .store 5 (.tmp 12) (.tmp 94), none⟩,
   ⟨some 13, .move (.const (.int .i64 82)), none⟩]
@[simp] theorem R23_22 (x17 x92 : AV) (l10 l12 l15 l16 : List AV) :
  evK C D (.seq (.region O23_22) (.keep [10, 11, 12, 13] [10, 12] c)) ⟨[(10, .l 10 0), (12, .l 12 0), (15, .l 15 0), (16, .l 16 0), (17, .v x17), (92, .v x92)], [(10, l10), (12, l12), (15, l15), (16, l16)], H⟩ k =
  (nl (rd true 5 0 l16)).bind fun t0 =>
  ((fillC [] [(.int .i64 0), (.int .i64 0), (.str []), (.int .i64 0), (.int .i64 0)]).map AV.agg).bind fun t1 =>
  (stL 5 0 t0 l10).bind fun m2 =>
  (stL 5 0 t1 l12).bind fun m4 =>
  evK C D c ⟨[(10, .l 10 0), (11, .v (.bool false)), (12, .l 12 0), (13, .v (.int .i64 82))], [(10, m2), (12, m4)], H⟩ k := by kernel_rfl
def O23_23 : List IOper :=
  [⟨some 95, .move (.tmp 17), none⟩,
   ⟨some 96, .un .not (.tmp 95), none⟩,
   ⟨some 97, .move (.tmp 96), none⟩,
   ⟨some 98, .fieldAddr 3 (.tmp 15), some (97, false)⟩,
   ⟨some 99, .load false 1 (.tmp 98), some (97, false)⟩,
   ⟨some 100, .pick (.tmp 97) (.const (.bool true)) (.tmp 99), none⟩]
@[simp] theorem R23_23 (x17 : AV) (l10 l12 l15 : List AV) :
  evK C D (.seq (.region O23_23) (.keep [10, 12, 15, 100] [10, 12, 15] c)) ⟨[(10, .l 10 0), (12, .l 12 0), (15, .l 15 0), (17, .v x17)], [(10, l10), (12, l12), (15, l15)], H⟩ k =
  (nl (unA .not x17)).bind fun t1 =>
  guardK t1 false (
  (nl (rd false 1 3 l15)).bind fun t4 =>
  evK C D c ⟨[(10, .l 10 0), (12, .l 12 0), (15, .l 15 0), (100, .v t4)], [(10, l10), (12, l12), (15, l15)], H⟩ k)
  (evK C D c ⟨[(10, .l 10 0), (12, .l 12 0), (15, .l 15 0), (100, .v (.bool true))], [(10, l10), (12, l12), (15, l15)], H⟩ k) := by kernel_rfl
def O23_24 : List IOper :=
  [⟨some 101, .build [(.int .i64 0), (.int .i64 0), (.str []), (.bool false), (.int .i64 0)] [], none⟩,
   ⟨some 102, .build [(.int .i64 0), (.int .i64 0), (.str []), (.int .i64 0), (.int .i64 0)] [], none⟩,
   ⟨none, .store 5 (.tmp 10) (.tmp 101), none⟩,
   ⟨some 11, .move (.const (.bool false)), none⟩,
   ⟨none, .store 5 (.tmp 12) (.tmp 102), none⟩,
   ⟨some 13, .move (.const (.int .i64 0)), none⟩]
@[simp] theorem R23_24 (x100 : AV) (l10 l12 l15 : List AV) :
  evK C D (.seq (.region O23_24) (.keep [10, 11, 12, 13] [10, 12] c)) ⟨[(10, .l 10 0), (12, .l 12 0), (15, .l 15 0), (100, .v x100)], [(10, l10), (12, l12), (15, l15)], H⟩ k =
  ((fillC [] [(.int .i64 0), (.int .i64 0), (.str []), (.bool false), (.int .i64 0)]).map AV.agg).bind fun t0 =>
  ((fillC [] [(.int .i64 0), (.int .i64 0), (.str []), (.int .i64 0), (.int .i64 0)]).map AV.agg).bind fun t1 =>
  (stL 5 0 t0 l10).bind fun m2 =>
  (stL 5 0 t1 l12).bind fun m4 =>
  evK C D c ⟨[(10, .l 10 0), (11, .v (.bool false)), (12, .l 12 0), (13, .v (.int .i64 0))], [(10, m2), (12, m4)], H⟩ k := by kernel_rfl
def O23_25 : List IOper :=
  [⟨some 103, .load true 5 (.tmp 15), none⟩,
   ⟨some 104, .build [(.int .i64 0), (.int .i64 0), (.str []), (.int .i64 0), (.int .i64 0)] [], none⟩,
   ⟨none, .store 5 (.tmp 10) (.tmp 103), none⟩,
   ⟨some 11, .move (.const (.bool true)), none⟩,
   ⟨none, .store 5 (.tmp 12) (.tmp 104), none⟩,
   ⟨some 13, .move (.const (.int .i64 0)), none⟩]
@[simp] theorem R23_25 (l10 l12 l15 : List AV) :
  evK C D (.seq (.region O23_25) (.keep [10, 11, 12, 13] [10, 12] c)) ⟨[(10, .l 10 0), (12, .l 12 0), (15, .l 15 0)], [(10, l10), (12, l12), (15, l15)], H⟩ k =
  (nl (rd true 5 0 l15)).bind fun t0 =>
  ((fillC [] [(.int .i64 0), (.int .i64 0), (.str []), (.int .i64 0), (.int .i64 0)]).map AV.agg).bind fun t1 =>
  (stL 5 0 t0 l10).bind fun m2 =>
  (stL 5 0 t1 l12).bind fun m4 =>
  evK C D c ⟨[(10, .l 10 0), (11, .v (.bool true)), (12, .l 12 0), (13, .v (.int .i64 0))], [(10, m2), (12, m4)], H⟩ k := by kernel_rfl
def F23 : FnIR := ⟨105, 5, [.cell 10 true 5, .tmp 11, .cell 12 true 5, .tmp 13], [5, 6, 7, 10, 12, 14, 15, 16, 20],
  .seq (.region O23_0)
  (.keep [3, 4, 5, 6, 7, 10, 12] [5, 6, 7, 10, 12] (.seq (.region O23_1)
  (.keep [3, 4, 5, 6, 7, 10, 12, 14] [5, 6, 7, 10, 12, 14] (.seq (.seq (.region O23_2)
   (.keep [3, 5, 6, 7, 10, 12, 14, 38] [5, 6, 7, 10, 12, 14] (.cond (.tmp 38)
    (.seq (.seq (.region O23_3)
     (.keep [3, 10, 12, 14, 40] [10, 12, 14] (.cond (.tmp 40)
      (.seq (.region O23_4)
      (.keep [10, 11, 12, 13] [10, 12] (.ret)))
      (.skip))))
    (.keep [3, 10, 12, 14] [10, 12, 14] (.seq (.region O23_5)
    (.keep [10, 11, 12, 13] [10, 12] (.ret)))))
    (.skip))))
  (.keep [3, 5, 6, 7, 10, 12, 14] [5, 6, 7, 10, 12, 14] (.seq (.seq (.region O23_6)
   (.keep [5, 6, 7, 10, 12, 14, 64] [5, 6, 7, 10, 12, 14] (.cond (.tmp 64)
    (.seq (.regionD O23_7 [(3, 0)])
    (.keep [10, 11, 12, 13] [10, 12] (.ret)))
    (.skip))))
  (.keep [5, 6, 7, 10, 12] [5, 6, 7, 10, 12] (.seq (.region O23_8)
  (.keep [5, 6, 7, 10, 12, 15, 16] [5, 6, 7, 10, 12, 15, 16] (.seq (.region O23_9)
  (.keep [5, 6, 7, 10, 12, 15, 16, 17] [5, 6, 7, 10, 12, 15, 16] (.seq (.region O23_10)
  (.keep [5, 6, 7, 10, 12, 15, 16, 17, 18] [5, 6, 7, 10, 12, 15, 16] (.seq (.seq (.region O23_11)
   (.keep [5, 6, 7, 10, 12, 15, 16, 17, 18, 19] [5, 6, 7, 10, 12, 15, 16] (.block 0 (.loop L23_0))))
  (.keep [10, 12, 15, 16, 17, 18] [10, 12, 15, 16] (.seq (.seq (.region O23_21)
   (.keep [10, 12, 15, 16, 17, 92] [10, 12, 15, 16] (.cond (.tmp 92)
    (.seq (.region O23_22)
    (.keep [10, 11, 12, 13] [10, 12] (.ret)))
    (.skip))))
  (.keep [10, 12, 15, 17] [10, 12, 15] (.seq (.seq (.region O23_23)
   (.keep [10, 12, 15, 100] [10, 12, 15] (.cond (.tmp 100)
    (.seq (.region O23_24)
    (.keep [10, 11, 12, 13] [10, 12] (.ret)))
    (.skip))))
  (.keep [10, 12, 15] [10, 12, 15] (.seq (.region O23_25)
  (.keep [10, 11, 12, 13] [10, 12] (.ret))))))))))))))))))))))⟩
/-- wampum/wampumref08.Refresh -/
def O24_0 : List IOper :=
  [⟨some 4, .box true 12 (.tmp 0), none⟩,
   ⟨some 6, .box true 2 (.tmp 2), none⟩,
   ⟨some 7, .box true 2 (.tmp 3), none⟩,
   ⟨some 8, .alloc true 5 [(.int .i64 0), (.int .i64 0), (.str []), (.int .i64 0), (.int .i64 0)], none⟩,
   ⟨some 9, .move (.const (.int .i64 0)), none⟩]
@[simp] theorem R24_0 (x0 x1 x2 x3 : AV) :
  evK C D (.seq (.region O24_0) (.keep [1, 4, 6, 7, 8] [4, 6, 7, 8] c)) ⟨[(0, .v x0), (1, .v x1), (2, .v x2), (3, .v x3)], [], H⟩ k =
  (boxC x0).bind fun m0 =>
  (boxC x2).bind fun m1 =>
  (boxC x3).bind fun m2 =>
  evK C D c ⟨[(1, .v x1), (4, .l 4 0), (6, .l 6 0), (7, .l 7 0), (8, .l 8 0)], [(4, m0), (6, m1), (7, m2), (8, [(.int .i64 0), (.int .i64 0), (.str []), (.int .i64 0), (.int .i64 0)])], H⟩ k := by kernel_rfl
def O24_1 : List IOper :=
  [⟨some 11, .fieldAddr 1 (.tmp 4), none⟩,
   ⟨some 12, .load false 1 (.tmp 11), none⟩,
   ⟨some 13, .move (.tmp 12), none⟩,
   ⟨some 14, .fieldAddr 2 (.tmp 4), some (13, true)⟩,
   ⟨some 15, .fieldAddr 0 (.tmp 14), some (13, true)⟩,
   ⟨some 16, .fieldAddr 0 (.tmp 15), some (13, true)⟩,
   ⟨some 17, .load false 1 (.tmp 16), some (13, true)⟩,
   ⟨some 18, .move (.tmp 1), some (13, true)⟩,
   ⟨some 19, .bin .neq .int (.tmp 17) (.tmp 18), some (13, true)⟩,
   ⟨some 20, .pick (.tmp 13) (.tmp 19) (.const (.bool false)), none⟩,
   ⟨some 21, .move (.tmp 20), none⟩,
   ⟨some 22, .fieldAddr 2 (.tmp 4), some (21, true)⟩,
   ⟨some 23, .fieldAddr 6 (.tmp 22), some (21, true)⟩,
   ⟨some 24, .load true 2 (.tmp 23), some (21, true)⟩,
   ⟨some 25, .load true 2 (.tmp 7), some (21, true)⟩,
   ⟨some 26, .call (.func 42) [(.tmp 24), (.tmp 25)], some (21, true)⟩,
   ⟨some 27, .pick (.tmp 21) (.tmp 26) (.const (.bool false)), none⟩]
@[simp] theorem R24_1 (x1 : AV) (l4 l6 l7 l8 : List AV) :
  evK C D (.seq (.region O24_1) (.keep [4, 6, 7, 8, 27] [4, 6, 7, 8] c)) ⟨[(1, .v x1), (4, .l 4 0), (6, .l 6 0), (7, .l 7 0), (8, .l 8 0)], [(4, l4), (6, l6), (7, l7), (8, l8)], H⟩ k =
  (nl (rd false 1 1 l4)).bind fun t1 =>
  guardK t1 true (
  (nl (rd false 1 2 l4)).bind fun t6 =>
  (nl (binA .neq .int t6 x1)).bind fun t8 =>
  guardK t8 true (
  (nl (rd true 2 8 l4)).bind fun t13 =>
  (nl (rd true 2 0 l7)).bind fun t14 =>
  (callN C (.func (.func 42) [] []) [t13, t14] H).bind fun r15 =>
  evK C D c ⟨[(4, .l 4 0), (6, .l 6 0), (7, .l 7 0), (8, .l 8 0), (27, .v r15.1)], [(4, l4), (6, l6), (7, l7), (8, l8)], r15.2⟩ k)
  (evK C D c ⟨[(4, .l 4 0), (6, .l 6 0), (7, .l 7 0), (8, .l 8 0), (27, .v (.bool false))], [(4, l4), (6, l6), (7, l7), (8, l8)], H⟩ k))
  (evK C D c ⟨[(4, .l 4 0), (6, .l 6 0), (7, .l 7 0), (8, .l 8 0), (27, .v (.bool false))], [(4, l4), (6, l6), (7, l7), (8, l8)], H⟩ k) := by kernel_rfl
def O24_2 : List IOper :=
  [⟨some 28, .fieldAddr 2 (.tmp 4), none⟩,
   ⟨some 29, .fieldAddr 0 (.tmp 28), none⟩,
   ⟨some 30, .load true 5 (.tmp 29), none⟩,
   ⟨none, .store 5 (.tmp 8) (.tmp 30), none⟩,
   ⟨some 9, .move (.const (.int .i64 81)), none⟩]
@[simp] theorem R24_2 (x27 : AV) (l4 l6 l7 l8 : List AV) :
  evK C D (.seq (.region O24_2) (.keep [8, 9] [8] c)) ⟨[(4, .l 4 0), (6, .l 6 0), (7, .l 7 0), (8, .l 8 0), (27, .v x27)], [(4, l4), (6, l6), (7, l7), (8, l8)], H⟩ k =
  (nl (rd true 5 2 l4)).bind fun t2 =>
  (stL 5 0 t2 l8).bind fun m3 =>
  evK C D c ⟨[(8, .l 8 0), (9, .v (.int .i64 81))], [(8, m3)], H⟩ k := by kernel_rfl
def O24_3 : List IOper :=
  [⟨some 10, .move (.const (.int .i64 0)), none⟩]
@[simp] theorem R24_3 (l4 l6 l7 l8 : List AV) :
  evK C D (.seq (.region O24_3) (.keep [4, 6, 7, 8, 10] [4, 6, 7, 8] c)) ⟨[(4, .l 4 0), (6, .l 6 0), (7, .l 7 0), (8, .l 8 0)], [(4, l4), (6, l6), (7, l7), (8, l8)], H⟩ k =
  evK C D c ⟨[(4, .l 4 0), (6, .l 6 0), (7, .l 7 0), (8, .l 8 0), (10, .v (.int .i64 0))], [(4, l4), (6, l6), (7, l7), (8, l8)], H⟩ k := by kernel_rfl
def O24_4 : List IOper :=
  [⟨some 31, .move (.tmp 10), none⟩,
   ⟨some 32, .fieldAddr 0 (.tmp 4), none⟩,
   ⟨some 33, .load false 1 (.tmp 32), none⟩,
   ⟨some 34, .len .slice (.tmp 33), none⟩,
   ⟨some 35, .bin .lss .none (.tmp 31) (.tmp 34), none⟩]
@[simp] theorem R24_4 (x10 : AV) (l4 l6 l7 l8 : List AV) :
  evK C D (.seq (.region O24_4) (.keep [4, 6, 7, 8, 10, 35] [4, 6, 7, 8] c)) ⟨[(4, .l 4 0), (6, .l 6 0), (7, .l 7 0), (8, .l 8 0), (10, .v x10)], [(4, l4), (6, l6), (7, l7), (8, l8)], H⟩ k =
  (nl (rd false 1 0 l4)).bind fun t2 =>
  (lenS t2).bind fun t3 =>
  (nl (binA .lss .none x10 t3)).bind fun t4 =>
  evK C D c ⟨[(4, .l 4 0), (6, .l 6 0), (7, .l 7 0), (8, .l 8 0), (10, .v x10), (35, .v t4)], [(4, l4), (6, l6), (7, l7), (8, l8)], H⟩ k := by kernel_rfl
def O24_5 : List IOper :=
  [⟨some 38, .fieldAddr 0 (.tmp 4), none⟩,
   ⟨some 39, .load false 1 (.tmp 38), none⟩,
   ⟨some 40, .move (.tmp 10), none⟩,
   ⟨some 41, .indexAddr none 5 (.tmp 39) (.tmp 40), none⟩,
   ⟨some 42, .fieldAddr 0 (.tmp 41), none⟩,
   ⟨some 43, .load true 2 (.tmp 42), none⟩,
   ⟨some 44, .load true 2 (.tmp 6), none⟩,
   ⟨some 45, .call (.func 42) [(.tmp 43), (.tmp 44)], none⟩,
   ⟨some 46, .un .not (.tmp 45), none⟩,
   ⟨some 47, .move (.tmp 46), none⟩,
   ⟨some 48, .fieldAddr 0 (.tmp 4), some (47, true)⟩,
   ⟨some 49, .load false 1 (.tmp 48), some (47, true)⟩,
   ⟨some 50, .move (.tmp 10), some (47, true)⟩,
   ⟨some 51, .indexAddr none 5 (.tmp 49) (.tmp 50), some (47, true)⟩,
   ⟨some 52, .fieldAddr 0 (.tmp 51), some (47, true)⟩,
   ⟨some 53, .load true 2 (.tmp 52), some (47, true)⟩,
   ⟨some 54, .load true 2 (.tmp 7), some (47, true)⟩,
   ⟨some 55, .call (.func 42) [(.tmp 53), (.tmp 54)], some (47, true)⟩,
   ⟨some 56, .pick (.tmp 47) (.tmp 55) (.const (.bool false)), none⟩]
@[simp] theorem R24_5 (x10 : AV) (l4 l6 l7 l8 : List AV) :
  evK C D (.seq (.regionD O24_5 []) (.keep [4, 6, 7, 8, 10, 56] [4, 6, 7, 8] c)) ⟨[(4, .l 4 0), (6, .l 6 0), (7, .l 7 0), (8, .l 8 0), (10, .v x10)], [(4, l4), (6, l6), (7, l7), (8, l8)], H⟩ k =
  (nl (rd false 1 0 l4)).bind fun t1 =>
  kB (AV.okB H.n t1) (
  (nl (idxS 5 t1 x10)).bind fun t3 =>
  (fldP 0 t3).bind fun t4 =>
  (nl (loadP H true 2 t4)).bind fun t5 =>
  kB (AV.okB H.n t5) (
  (nl (rd true 2 0 l6)).bind fun t6 =>
  kB (AV.okB H.n t6) (
  (callN C (.func (.func 42) [] []) [t5, t6] H).bind fun r7 =>
  (nl (unA .not r7.1)).bind fun t8 =>
  guardK t8 true (
  (nl (rd false 1 0 l4)).bind fun t11 =>
  kB (AV.okB r7.2.n t11) (
  (nl (idxS 5 t11 x10)).bind fun t13 =>
  (fldP 0 t13).bind fun t14 =>
  (nl (loadP r7.2 true 2 t14)).bind fun t15 =>
  kB (AV.okB r7.2.n t15) (
  (nl (rd true 2 0 l7)).bind fun t16 =>
  kB (AV.okB r7.2.n t16) (
  (callN C (.func (.func 42) [] []) [t15, t16] r7.2).bind fun r17 =>
  evK C D c ⟨[(4, .l 4 0), (6, .l 6 0), (7, .l 7 0), (8, .l 8 0), (10, .v x10), (56, .v r17.1)], [(4, l4), (6, l6), (7, l7), (8, l8)], r17.2⟩ k))))
  (kB (AV.okB r7.2.n undefA) (
  kB (AV.okB r7.2.n undefA) (
  kB (AV.okB r7.2.n undefA) (
  evK C D c ⟨[(4, .l 4 0), (6, .l 6 0), (7, .l 7 0), (8, .l 8 0), (10, .v x10), (56, .v (.bool false))], [(4, l4), (6, l6), (7, l7), (8, l8)], r7.2⟩ k))))))) := by kernel_rfl
def O24_6 : List IOper :=
  [⟨some 57, .build [(.int .i64 0), (.int .i64 0), (.str []), (.int .i64 0), (.int .i64 0)] [], none⟩,
   ⟨none, .store 5 (.tmp 8) (.tmp 57), none⟩,
   ⟨some 9, .move (.const (.int .i64 221)), none⟩]
@[simp] theorem R24_6 (x10 x56 : AV) (l4 l6 l7 l8 : List AV) :
  evK C D (.seq (.region O24_6) (.keep [8, 9] [8] c)) ⟨[(4, .l 4 0), (6, .l 6 0), (7, .l 7 0), (8, .l 8 0), (10, .v x10), (56, .v x56)], [(4, l4), (6, l6), (7, l7), (8, l8)], H⟩ k =
  ((fillC [] [(.int .i64 0), (.int .i64 0), (.str []), (.int .i64 0), (.int .i64 0)]).map AV.agg).bind fun t0 =>
  (stL 5 0 t0 l8).bind fun m1 =>
  evK C D c ⟨[(8, .l 8 0), (9, .v (.int .i64 221))], [(8, m1)], H⟩ k := by kernel_rfl
def O24_7 : List IOper :=
  [⟨some 36, .move (.tmp 10), none⟩,
   ⟨some 37, .bin .add .none (.tmp 36) (.const (.int .i64 1)), none⟩,
   ⟨some 10, .move (.tmp 37), none⟩]
@[simp] theorem R24_7 (x10 : AV) (l4 l6 l7 l8 : List AV) :
  evK C D (.region O24_7) ⟨[(4, .l 4 0), (6, .l 6 0), (7, .l 7 0), (8, .l 8 0), (10, .v x10)], [(4, l4), (6, l6), (7, l7), (8, l8)], H⟩ k =
  (nl (binA .add .none x10 (.int .i64 1))).bind fun t1 =>
  k .normal ⟨[(10, .v t1), (37, .v t1), (36, .v x10), (4, .l 4 0), (6, .l 6 0), (7, .l 7 0), (8, .l 8 0), (10, .v x10)], [(4, l4), (6, l6), (7, l7), (8, l8)], H⟩ := by kernel_rfl
def B24_0 : IC :=
  .seq (.seq (.region O24_4)
   (.keep [4, 6, 7, 8, 10, 35] [4, 6, 7, 8] (.cond (.tmp 35)
    (.skip)
    (.exit 0))))
  (.keep [4, 6, 7, 8, 10] [4, 6, 7, 8] (.seq (.block 1 (.seq (.regionD O24_5 [])
    (.keep [4, 6, 7, 8, 10, 56] [4, 6, 7, 8] (.cond (.tmp 56)
     (.seq (.region O24_6)
     (.keep [8, 9] [8] (.ret)))
     (.skip)))))
  (.keep [4, 6, 7, 8, 10] [4, 6, 7, 8] (.region O24_7))))
def L24_0 : IC := .keep [4, 6, 7, 8, 10] [4, 6, 7, 8] B24_0
@[simp] theorem LK24_0 (s : SK) (k : AExit → SK → Option R) : evK C D (.loop L24_0) s k = (D (.loop L24_0) (prK [4, 6, 7, 8, 10] [4, 6, 7, 8] s).toSt).bind fun r => k r.1 (ofSt r.2) := by kernel_rfl
def O24_8 : List IOper :=
  [⟨some 58, .build [(.int .i64 0), (.int .i64 0), (.str []), (.int .i64 0), (.int .i64 0)] [], none⟩,
   ⟨none, .store 5 (.tmp 8) (.tmp 58), none⟩,
   ⟨some 9, .move (.const (.int .i64 0)), none⟩]
@[simp] theorem R24_8 (l8 : List AV) :
  evK C D (.seq (.region O24_8) (.keep [8, 9] [8] c)) ⟨[(8, .l 8 0)], [(8, l8)], H⟩ k =
  ((fillC [] [(.int .i64 0), (.int .i64 0), (.str []), (.int .i64 0), (.int .i64 0)]).map AV.agg).bind fun t0 =>
  (stL 5 0 t0 l8).bind fun m1 =>
  evK C D c ⟨[(8, .l 8 0), (9, .v (.int .i64 0))], [(8, m1)], H⟩ k := by kernel_rfl
def F24 : FnIR := ⟨59, 4, [.cell 8 true 5, .tmp 9], [4, 6, 7, 8],
  .seq (.region O24_0)
  (.keep [1, 4, 6, 7, 8] [4, 6, 7, 8] (.seq (.seq (.region O24_1)
   (.keep [4, 6, 7, 8, 27] [4, 6, 7, 8] (.cond (.tmp 27)
    (.seq (.region O24_2)
    (.keep [8, 9] [8] (.ret)))
    (.skip))))
  (.keep [4, 6, 7, 8] [4, 6, 7, 8] (.seq (.seq (.region O24_3)
   (.keep [4, 6, 7, 8, 10] [4, 6, 7, 8] (.block 0 (.loop L24_0))))
  (.keep [8] [8] (.seq (.region O24_8)
  (.keep [8, 9] [8] (.ret))))))))⟩
/-- wampum/version.Query -/
def O25_0 : List IOper :=
  [⟨some 5, .box true 12 (.tmp 0), none⟩,
   ⟨some 9, .box true 2 (.tmp 4), none⟩,
   ⟨some 10, .move (.const (.bool false)), none⟩]
@[simp] theorem R25_0 (x0 x1 x2 x3 x4 : AV) :
  evK C D (.seq (.region O25_0) (.keep [1, 2, 3, 5, 9] [5, 9] c)) ⟨[(0, .v x0), (1, .v x1), (2, .v x2), (3, .v x3), (4, .v x4)], [], H⟩ k =
  (boxC x0).bind fun m0 =>
  (boxC x4).bind fun m1 =>
  evK C D c ⟨[(1, .v x1), (2, .v x2), (3, .v x3), (5, .l 5 0), (9, .l 9 0)], [(5, m0), (9, m1)], H⟩ k := by kernel_rfl
def O25_1 : List IOper :=
  [⟨some 12, .fieldAddr 2 (.tmp 5), none⟩,
   ⟨some 13, .load true 10 (.tmp 12), none⟩,
   ⟨some 11, .alloc true 10 [(.int .i64 0), (.int .i64 0), (.str []), (.int .i64 0), (.int .i64 0), (.int .i64 0), (.int .i64 0), (.int .i64 0), (.str []), (.bool false)], none⟩,
   ⟨none, .store 10 (.tmp 11) (.tmp 13), none⟩]
@[simp] theorem R25_1 (x1 x2 x3 : AV) (l5 l9 : List AV) :
  evK C D (.seq (.region O25_1) (.keep [1, 2, 3, 5, 9, 11] [5, 9, 11] c)) ⟨[(1, .v x1), (2, .v x2), (3, .v x3), (5, .l 5 0), (9, .l 9 0)], [(5, l5), (9, l9)], H⟩ k =
  (nl (rd true 10 2 l5)).bind fun t1 =>
  (stL 10 0 t1 [(.int .i64 0), (.int .i64 0), (.str []), (.int .i64 0), (.int .i64 0), (.int .i64 0), (.int .i64 0), (.int .i64 0), (.str []), (.bool false)]).bind fun m3 =>
  evK C D c ⟨[(1, .v x1), (2, .v x2), (3, .v x3), (5, .l 5 0), (9, .l 9 0), (11, .l 11 0)], [(5, l5), (9, l9), (11, m3)], H⟩ k := by kernel_rfl
def O25_2 : List IOper :=
  [⟨some 14, .fieldAddr 1 (.tmp 5), none⟩,
   ⟨some 15, .load false 1 (.tmp 14), none⟩,
   ⟨some 16, .move (.tmp 15), none⟩,
   ⟨some 17, .fieldAddr 0 (.tmp 11), some (16, true)⟩,
   ⟨some 18, .fieldAddr 0 (.tmp 17), some (16, true)⟩,
   ⟨some 19, .load false 1 (.tmp 18), some (16, true)⟩,
   ⟨some 20, .move (.tmp 1), some (16, true)⟩,
   ⟨some 21, .bin .eql .int (.tmp 19) (.tmp 20), some (16, true)⟩,
   ⟨some 22, .pick (.tmp 16) (.tmp 21) (.const (.bool false)), none⟩,
   ⟨some 23, .move (.tmp 22), none⟩,
   ⟨some 24, .fieldAddr 0 (.tmp 11), some (23, true)⟩,
   ⟨some 25, .fieldAddr 1 (.tmp 24), some (23, true)⟩,
   ⟨some 26, .load false 1 (.tmp 25), some (23, true)⟩,
   ⟨some 27, .move (.tmp 2), some (23, true)⟩,
   ⟨some 28, .bin .eql .int (.tmp 26) (.tmp 27), some (23, true)⟩,
   ⟨some 29, .pick (.tmp 23) (.tmp 28) (.const (.bool false)), none⟩,
   ⟨some 30, .move (.tmp 29), none⟩,
   ⟨some 31, .fieldAddr 5 (.tmp 11), some (30, true)⟩,
   ⟨some 32, .load false 1 (.tmp 31), some (30, true)⟩,
   ⟨some 33, .move (.tmp 3), some (30, true)⟩,
   ⟨some 34, .bin .geq .none (.tmp 32) (.tmp 33), some (30, true)⟩,
   ⟨some 35, .pick (.tmp 30) (.tmp 34) (.const (.bool false)), none⟩,
   ⟨some 36, .move (.tmp 35), none⟩,
   ⟨some 37, .fieldAddr 6 (.tmp 11), some (36, true)⟩,
   ⟨some 38, .load true 2 (.tmp 37), some (36, true)⟩,
   ⟨some 39, .load true 2 (.tmp 9), some (36, true)⟩,
   ⟨some 40, .call (.func 41) [(.tmp 38), (.tmp 39)], some (36, true)⟩,
   ⟨some 41, .pick (.tmp 36) (.tmp 40) (.const (.bool false)), none⟩,
   ⟨some 10, .move (.tmp 41), none⟩]
@[simp] theorem R25_2 (x1 x2 x3 : AV) (l5 l9 l11 : List AV) :
  evK C D (.seq (.region O25_2) (.keep [10] [] c)) ⟨[(1, .v x1), (2, .v x2), (3, .v x3), (5, .l 5 0), (9, .l 9 0), (11, .l 11 0)], [(5, l5), (9, l9), (11, l11)], H⟩ k =
  (nl (rd false 1 1 l5)).bind fun t1 =>
  guardK t1 true (
  (nl (rd false 1 0 l11)).bind fun t5 =>
  (nl (binA .eql .int t5 x1)).bind fun t7 =>
  guardK t7 true (
  (nl (rd false 1 1 l11)).bind fun t12 =>
  (nl (binA .eql .int t12 x2)).bind fun t14 =>
  guardK t14 true (
  (nl (rd false 1 5 l11)).bind fun t18 =>
  (nl (binA .geq .none t18 x3)).bind fun t20 =>
  guardK t20 true (
  (nl (rd true 2 6 l11)).bind fun t24 =>
  (nl (rd true 2 0 l9)).bind fun t25 =>
  (callN C (.func (.func 41) [] []) [t24, t25] H).bind fun r26 =>
  evK C D c ⟨[(10, .v r26.1)], [], r26.2⟩ k)
  (evK C D c ⟨[(10, .v (.bool false))], [], H⟩ k))
  (evK C D c ⟨[(10, .v (.bool false))], [], H⟩ k))
  (evK C D c ⟨[(10, .v (.bool false))], [], H⟩ k))
  (evK C D c ⟨[(10, .v (.bool false))], [], H⟩ k) := by kernel_rfl
def F25 : FnIR := ⟨42, 5, [.tmp 10], [5, 9, 11],
  .seq (.region O25_0)
  (.keep [1, 2, 3, 5, 9] [5, 9] (.seq (.region O25_1)
  (.keep [1, 2, 3, 5, 9, 11] [5, 9, 11] (.seq (.region O25_2)
  (.keep [10] [] (.ret))))))⟩
/-- wampum/wampumref08.Query -/
def O26_0 : List IOper :=
  [⟨some 5, .box true 12 (.tmp 0), none⟩,
   ⟨some 9, .box true 2 (.tmp 4), none⟩,
   ⟨some 10, .move (.const (.bool false)), none⟩]
@[simp] theorem R26_0 (x0 x1 x2 x3 x4 : AV) :
  evK C D (.seq (.region O26_0) (.keep [1, 2, 3, 5, 9] [5, 9] c)) ⟨[(0, .v x0), (1, .v x1), (2, .v x2), (3, .v x3), (4, .v x4)], [], H⟩ k =
  (boxC x0).bind fun m0 =>
  (boxC x4).bind fun m1 =>
  evK C D c ⟨[(1, .v x1), (2, .v x2), (3, .v x3), (5, .l 5 0), (9, .l 9 0)], [(5, m0), (9, m1)], H⟩ k := by kernel_rfl
def O26_1 : List IOper :=
  [⟨some 12, .fieldAddr 2 (.tmp 5), none⟩,
   ⟨some 13, .load true 10 (.tmp 12), none⟩,
   ⟨some 11, .alloc true 10 [(.int .i64 0), (.int .i64 0), (.str []), (.int .i64 0), (.int .i64 0), (.int .i64 0), (.int .i64 0), (.int .i64 0), (.str []), (.bool false)], none⟩,
   ⟨none, .store 10 (.tmp 11) (.tmp 13), none⟩]
@[simp] theorem R26_1 (x1 x2 x3 : AV) (l5 l9 : List AV) :
  evK C D (.seq (.region O26_1) (.keep [1, 2, 3, 5, 9, 11] [5, 9, 11] c)) ⟨[(1, .v x1), (2, .v x2), (3, .v x3), (5, .l 5 0), (9, .l 9 0)], [(5, l5), (9, l9)], H⟩ k =
  (nl (rd true 10 2 l5)).bind fun t1 =>
  (stL 10 0 t1 [(.int .i64 0), (.int .i64 0), (.str []), (.int .i64 0), (.int .i64 0), (.int .i64 0), (.int .i64 0), (.int .i64 0), (.str []), (.bool false)]).bind fun m3 =>
  evK C D c ⟨[(1, .v x1), (2, .v x2), (3, .v x3), (5, .l 5 0), (9, .l 9 0), (11, .l 11 0)], [(5, l5), (9, l9), (11, m3)], H⟩ k := by kernel_rfl
def O26_2 : List IOper :=
  [⟨some 14, .fieldAddr 1 (.tmp 5), none⟩,
   ⟨some 15, .load false 1 (.tmp 14), none⟩,
   ⟨some 16, .move (.tmp 15), none⟩,
   ⟨some 17, .fieldAddr 0 (.tmp 11), some (16, true)⟩,
   ⟨some 18, .fieldAddr 0 (.tmp 17), some (16, true)⟩,
   ⟨some 19, .load false 1 (.tmp 18), some (16, true)⟩,
   ⟨some 20, .move (.tmp 1), some (16, true)⟩,
   ⟨some 21, .bin .eql .int (.tmp 19) (.tmp 20), some (16, true)⟩,
   ⟨some 22, .pick (.tmp 16) (.tmp 21) (.const (.bool false)), none⟩,
   ⟨some 23, .move (.tmp 22), none⟩,
   ⟨some 24, .fieldAddr 0 (.tmp 11), some (23, true)⟩,
   ⟨some 25, .fieldAddr 1 (.tmp 24), some (23, true)⟩,
   ⟨some 26, .load false 1 (.tmp 25), some (23, true)⟩,
   ⟨some 27, .move (.tmp 2), some (23, true)⟩,
   ⟨some 28, .bin .eql .int (.tmp 26) (.tmp 27), some (23, true)⟩,
   ⟨some 29, .pick (.tmp 23) (.tmp 28) (.const (.bool false)), none⟩,
   ⟨some 30, .move (.tmp 29), none⟩,
   ⟨some 31, .fieldAddr 5 (.tmp 11), some (30, true)⟩,
   ⟨some 32, .load false 1 (.tmp 31), some (30, true)⟩,
   ⟨some 33, .move (.tmp 3), some (30, true)⟩,
   ⟨some 34, .bin .geq .none (.tmp 32) (.tmp 33), some (30, true)⟩,
   ⟨some 35, .pick (.tmp 30) (.tmp 34) (.const (.bool false)), none⟩,
   ⟨some 36, .move (.tmp 35), none⟩,
   ⟨some 37, .fieldAddr 6 (.tmp 11), some (36, true)⟩,
   ⟨some 38, .load true 2 (.tmp 37), some (36, true)⟩,
   ⟨some 39, .load true 2 (.tmp 9), some (36, true)⟩,
   ⟨some 40, .call (.func 42) [(.tmp 38), (.tmp 39)], some (36, true)⟩,
   ⟨some 41, .pick (.tmp 36) (.tmp 40) (.const (.bool false)), none⟩,
   ⟨some 10, .move (.tmp 41), none⟩]
@[simp] theorem R26_2 (x1 x2 x3 : AV) (l5 l9 l11 : List AV) :
  evK C D (.seq (.region O26_2) (.keep [10] [] c)) ⟨[(1, .v x1), (2, .v x2), (3, .v x3), (5, .l 5 0), (9, .l 9 0), (11, .l 11 0)], [(5, l5), (9, l9), (11, l11)], H⟩ k =
  (nl (rd false 1 1 l5)).bind fun t1 =>
  guardK t1 true (
  (nl (rd false 1 0 l11)).bind fun t5 =>
  (nl (binA .eql .int t5 x1)).bind fun t7 =>
  guardK t7 true (
  (nl (rd false 1 1 l11)).bind fun t12 =>
  (nl (binA .eql .int t12 x2)).bind fun t14 =>
  guardK t14 true (
  (nl (rd false 1 5 l11)).bind fun t18 =>
  (nl (binA .geq .none t18 x3)).bind fun t20 =>
  guardK t20 true (
  (nl (rd true 2 6 l11)).bind fun t24 =>
  (nl (rd true 2 0 l9)).bind fun t25 =>
  (callN C (.func (.func 42) [] []) [t24, t25] H).bind fun r26 =>
  evK C D c ⟨[(10, .v r26.1)], [], r26.2⟩ k)
  (evK C D c ⟨[(10, .v (.bool false))], [], H⟩ k))
  (evK C D c ⟨[(10, .v (.bool false))], [], H⟩ k))
  (evK C D c ⟨[(10, .v (.bool false))], [], H⟩ k))
  (evK C D c ⟨[(10, .v (.bool false))], [], H⟩ k) := by kernel_rfl
def F26 : FnIR := ⟨42, 5, [.tmp 10], [5, 9, 11],
  .seq (.region O26_0)
  (.keep [1, 2, 3, 5, 9] [5, 9] (.seq (.region O26_1)
  (.keep [1, 2, 3, 5, 9, 11] [5, 9, 11] (.seq (.region O26_2)
  (.keep [10] [] (.ret))))))⟩
/-- wampum/wampumlaw08.VersionOnce -/
def O7_0 : List IOper :=
  [⟨some 3, .box true 12 (.tmp 0), none⟩,
   ⟨some 4, .box true 10 (.tmp 1), none⟩,
   ⟨some 6, .move (.const (.bool false)), none⟩]
@[simp] theorem R7_0 (x0 x1 x2 : AV) :
  evK C D (.seq (.region O7_0) (.keep [2, 3, 4] [3, 4] c)) ⟨[(0, .v x0), (1, .v x1), (2, .v x2)], [], H⟩ k =
  (boxC x0).bind fun m0 =>
  (boxC x1).bind fun m1 =>
  evK C D c ⟨[(2, .v x2), (3, .l 3 0), (4, .l 4 0)], [(3, m0), (4, m1)], H⟩ k := by kernel_rfl
def O7_1 : List IOper :=
  [⟨some 24, .load true 12 (.tmp 3), none⟩,
   ⟨some 25, .call (.func 11) [(.tmp 24)], none⟩,
   ⟨some 7, .move (.tmp 25), none⟩]
@[simp] theorem R7_1 (x2 : AV) (l3 l4 : List AV) :
  evK C D (.seq (.region O7_1) (.keep [2, 3, 4, 7] [3, 4] c)) ⟨[(2, .v x2), (3, .l 3 0), (4, .l 4 0)], [(3, l3), (4, l4)], H⟩ k =
  (nl (rd true 12 0 l3)).bind fun t0 =>
  (callN C (.func (.func 11) [] []) [t0] H).bind fun r1 =>
  evK C D c ⟨[(2, .v x2), (3, .l 3 0), (4, .l 4 0), (7, .v r1.1)], [(3, l3), (4, l4)], r1.2⟩ k := by kernel_rfl
def O7_2 : List IOper :=
  [⟨some 27, .load true 12 (.tmp 3), none⟩,
   ⟨some 28, .load true 10 (.tmp 4), none⟩,
   ⟨some 29, .call (.func 14) [(.tmp 27), (.tmp 28)], none⟩,
   ⟨some 26, .move (.tmp 29), none⟩,
   ⟨some 30, .extract (.tmp 26) 0, none⟩,
   ⟨some 31, .extract (.tmp 26) 1, none⟩,
   ⟨some 32, .extract (.tmp 26) 2, none⟩,
   ⟨some 33, .extract (.tmp 26) 3, none⟩,
   ⟨some 8, .alloc true 12 [.nils, (.bool false), (.int .i64 0), (.int .i64 0), (.str []), (.int .i64 0), (.int .i64 0), (.int .i64 0), (.int .i64 0), (.int .i64 0), (.str []), (.bool false)], none⟩,
   ⟨some 9, .alloc true 2 [(.int .i64 0), (.int .i64 0)], none⟩,
   ⟨some 10, .alloc true 5 [(.int .i64 0), (.int .i64 0), (.str []), (.int .i64 0), (.int .i64 0)], none⟩,
   ⟨none, .store 12 (.tmp 8) (.tmp 30), none⟩,
   ⟨none, .store 2 (.tmp 9) (.tmp 31), none⟩,
   ⟨none, .store 5 (.tmp 10) (.tmp 32), none⟩,
   ⟨some 11, .move (.tmp 33), none⟩]
@[simp] theorem R7_2 (x2 x7 : AV) (l3 l4 : List AV) :
  evK C D (.seq (.region O7_2) (.keep [2, 3, 4, 7, 8, 9, 11] [3, 4, 8, 9] c)) ⟨[(2, .v x2), (3, .l 3 0), (4, .l 4 0), (7, .v x7)], [(3, l3), (4, l4)], H⟩ k =
  (nl (rd true 12 0 l3)).bind fun t0 =>
  (nl (rd true 10 0 l4)).bind fun t1 =>
  (callN C (.func (.func 14) [] []) [t0, t1] H).bind fun r2 =>
  (nl (extA 0 r2.1)).bind fun t4 =>
  (nl (extA 1 r2.1)).bind fun t5 =>
  (nl (extA 2 r2.1)).bind fun t6 =>
  (nl (extA 3 r2.1)).bind fun t7 =>
  (stL 12 0 t4 [.nils, (.bool false), (.int .i64 0), (.int .i64 0), (.str []), (.int .i64 0), (.int .i64 0), (.int .i64 0), (.int .i64 0), (.int .i64 0), (.str []), (.bool false)]).bind fun m11 =>
  (stL 2 0 t5 [(.int .i64 0), (.int .i64 0)]).bind fun m12 =>
  (stL 5 0 t6 [(.int .i64 0), (.int .i64 0), (.str []), (.int .i64 0), (.int .i64 0)]).bind fun m13 =>
  evK C D c ⟨[(2, .v x2), (3, .l 3 0), (4, .l 4 0), (7, .v x7), (8, .l 8 0), (9, .l 9 0), (11, .v t7)], [(3, l3), (4, l4), (8, m11), (9, m12)], r2.2⟩ k := by kernel_rfl
def O7_3 : List IOper :=
  [⟨some 34, .move (.tmp 7), none⟩,
   ⟨some 35, .un .not (.tmp 34), none⟩,
   ⟨some 36, .move (.tmp 35), none⟩,
   ⟨some 37, .move (.tmp 11), some (36, false)⟩,
   ⟨some 38, .bin .neq .int (.tmp 37) (.const (.int .i64 0)), some (36, false)⟩,
   ⟨some 39, .pick (.tmp 36) (.const (.bool true)) (.tmp 38), none⟩]
@[simp] theorem R7_3 (x2 x7 x11 : AV) (l3 l4 l8 l9 : List AV) :
  evK C D (.seq (.region O7_3) (.keep [2, 3, 4, 8, 9, 39] [3, 4, 8, 9] c)) ⟨[(2, .v x2), (3, .l 3 0), (4, .l 4 0), (7, .v x7), (8, .l 8 0), (9, .l 9 0), (11, .v x11)], [(3, l3), (4, l4), (8, l8), (9, l9)], H⟩ k =
  (nl (unA .not x7)).bind fun t1 =>
  guardK t1 false (
  (nl (binA .neq .int x11 (.int .i64 0))).bind fun t4 =>
  evK C D c ⟨[(2, .v x2), (3, .l 3 0), (4, .l 4 0), (8, .l 8 0), (9, .l 9 0), (39, .v t4)], [(3, l3), (4, l4), (8, l8), (9, l9)], H⟩ k)
  (evK C D c ⟨[(2, .v x2), (3, .l 3 0), (4, .l 4 0), (8, .l 8 0), (9, .l 9 0), (39, .v (.bool true))], [(3, l3), (4, l4), (8, l8), (9, l9)], H⟩ k) := by kernel_rfl
def O7_4 : List IOper :=
  [⟨some 40, .call (.func 12) [], none⟩,
   ⟨some 6, .move (.tmp 40), none⟩]
@[simp] theorem R7_4 (x2 x39 : AV) (l3 l4 l8 l9 : List AV) :
  evK C D (.seq (.region O7_4) (.keep [6] [] c)) ⟨[(2, .v x2), (3, .l 3 0), (4, .l 4 0), (8, .l 8 0), (9, .l 9 0), (39, .v x39)], [(3, l3), (4, l4), (8, l8), (9, l9)], H⟩ k =
  (callN C (.func (.func 12) [] []) [] H).bind fun r0 =>
  evK C D c ⟨[(6, .v r0.1)], [], r0.2⟩ k := by kernel_rfl
def O7_5 : List IOper :=
  [⟨some 42, .load true 12 (.tmp 8), none⟩,
   ⟨some 43, .load true 10 (.tmp 4), none⟩,
   ⟨some 44, .call (.func 14) [(.tmp 42), (.tmp 43)], none⟩,
   ⟨some 41, .move (.tmp 44), none⟩,
   ⟨some 45, .extract (.tmp 41) 0, none⟩,
   ⟨some 46, .extract (.tmp 41) 1, none⟩,
   ⟨some 47, .extract (.tmp 41) 2, none⟩,
   ⟨some 48, .extract (.tmp 41) 3, none⟩,
   ⟨some 12, .alloc true 12 [.nils, (.bool false), (.int .i64 0), (.int .i64 0), (.str []), (.int .i64 0), (.int .i64 0), (.int .i64 0), (.int .i64 0), (.int .i64 0), (.str []), (.bool false)], none⟩,
   ⟨some 13, .alloc true 2 [(.int .i64 0), (.int .i64 0)], none⟩,
   ⟨some 14, .alloc true 5 [(.int .i64 0), (.int .i64 0), (.str []), (.int .i64 0), (.int .i64 0)], none⟩,
   ⟨none, .store 12 (.tmp 12) (.tmp 45), none⟩,
   ⟨none, .store 2 (.tmp 13) (.tmp 46), none⟩,
   ⟨none, .store 5 (.tmp 14) (.tmp 47), none⟩,
   ⟨some 15, .move (.tmp 48), none⟩]
@[simp] theorem R7_5 (x2 : AV) (l3 l4 l8 l9 : List AV) :
  evK C D (.seq (.region O7_5) (.keep [2, 3, 4, 8, 9, 12, 13, 15] [3, 4, 8, 9, 12, 13] c)) ⟨[(2, .v x2), (3, .l 3 0), (4, .l 4 0), (8, .l 8 0), (9, .l 9 0)], [(3, l3), (4, l4), (8, l8), (9, l9)], H⟩ k =
  (nl (rd true 12 0 l8)).bind fun t0 =>
  (nl (rd true 10 0 l4)).bind fun t1 =>
  (callN C (.func (.func 14) [] []) [t0, t1] H).bind fun r2 =>
  (nl (extA 0 r2.1)).bind fun t4 =>
  (nl (extA 1 r2.1)).bind fun t5 =>
  (nl (extA 2 r2.1)).bind fun t6 =>
  (nl (extA 3 r2.1)).bind fun t7 =>
  (stL 12 0 t4 [.nils, (.bool false), (.int .i64 0), (.int .i64 0), (.str []), (.int .i64 0), (.int .i64 0), (.int .i64 0), (.int .i64 0), (.int .i64 0), (.str []), (.bool false)]).bind fun m11 =>
  (stL 2 0 t5 [(.int .i64 0), (.int .i64 0)]).bind fun m12 =>
  (stL 5 0 t6 [(.int .i64 0), (.int .i64 0), (.str []), (.int .i64 0), (.int .i64 0)]).bind fun m13 =>
  evK C D c ⟨[(2, .v x2), (3, .l 3 0), (4, .l 4 0), (8, .l 8 0), (9, .l 9 0), (12, .l 12 0), (13, .l 13 0), (15, .v t7)], [(3, l3), (4, l4), (8, l8), (9, l9), (12, m11), (13, m12)], r2.2⟩ k := by kernel_rfl
def O7_6 : List IOper :=
  [⟨some 49, .move (.tmp 15), none⟩,
   ⟨some 50, .bin .neq .int (.tmp 49) (.const (.int .i64 0)), none⟩,
   ⟨some 51, .move (.tmp 50), none⟩,
   ⟨some 52, .load true 2 (.tmp 13), some (51, false)⟩,
   ⟨some 53, .load true 2 (.tmp 9), some (51, false)⟩,
   ⟨some 54, .bin .neq (.struct [(0, false, 1, .int), (1, false, 1, .int)]) (.tmp 52) (.tmp 53), some (51, false)⟩,
   ⟨some 55, .pick (.tmp 51) (.const (.bool true)) (.tmp 54), none⟩,
   ⟨some 56, .move (.tmp 55), none⟩,
   ⟨some 57, .load true 12 (.tmp 8), some (56, false)⟩,
   ⟨some 58, .load true 12 (.tmp 12), some (56, false)⟩,
   ⟨some 59, .call (.func 27) [(.tmp 57), (.tmp 58)], some (56, false)⟩,
   ⟨some 60, .un .not (.tmp 59), some (56, false)⟩,
   ⟨some 61, .pick (.tmp 56) (.const (.bool true)) (.tmp 60), none⟩]
@[simp] theorem R7_6 (x2 x15 : AV) (l3 l4 l8 l9 l12 l13 : List AV) :
  evK C D (.seq (.region O7_6) (.keep [2, 3, 4, 8, 9, 61] [3, 4, 8, 9] c)) ⟨[(2, .v x2), (3, .l 3 0), (4, .l 4 0), (8, .l 8 0), (9, .l 9 0), (12, .l 12 0), (13, .l 13 0), (15, .v x15)], [(3, l3), (4, l4), (8, l8), (9, l9), (12, l12), (13, l13)], H⟩ k =
  (nl (binA .neq .int x15 (.int .i64 0))).bind fun t1 =>
  guardK t1 false (
  (nl (rd true 2 0 l13)).bind fun t3 =>
  (nl (rd true 2 0 l9)).bind fun t4 =>
  (nl (binA .neq (.struct [(0, false, 1, .int), (1, false, 1, .int)]) t3 t4)).bind fun t5 =>
  guardK t5 false (
  (nl (rd true 12 0 l8)).bind fun t8 =>
  (nl (rd true 12 0 l12)).bind fun t9 =>
  (callN C (.func (.func 27) [] []) [t8, t9] H).bind fun r10 =>
  (nl (unA .not r10.1)).bind fun t11 =>
  evK C D c ⟨[(2, .v x2), (3, .l 3 0), (4, .l 4 0), (8, .l 8 0), (9, .l 9 0), (61, .v t11)], [(3, l3), (4, l4), (8, l8), (9, l9)], r10.2⟩ k)
  (evK C D c ⟨[(2, .v x2), (3, .l 3 0), (4, .l 4 0), (8, .l 8 0), (9, .l 9 0), (61, .v (.bool true))], [(3, l3), (4, l4), (8, l8), (9, l9)], H⟩ k))
  (evK C D c ⟨[(2, .v x2), (3, .l 3 0), (4, .l 4 0), (8, .l 8 0), (9, .l 9 0), (61, .v (.bool true))], [(3, l3), (4, l4), (8, l8), (9, l9)], H⟩ k) := by kernel_rfl
def O7_7 : List IOper :=
  [⟨some 6, .move (.const (.bool false)), none⟩]
@[simp] theorem R7_7 (x2 x61 : AV) (l3 l4 l8 l9 : List AV) :
  evK C D (.seq (.region O7_7) (.keep [6] [] c)) ⟨[(2, .v x2), (3, .l 3 0), (4, .l 4 0), (8, .l 8 0), (9, .l 9 0), (61, .v x61)], [(3, l3), (4, l4), (8, l8), (9, l9)], H⟩ k =
  evK C D c ⟨[(6, .v (.bool false))], [], H⟩ k := by kernel_rfl
def O7_8 : List IOper :=
  [⟨some 63, .load true 12 (.tmp 8), none⟩,
   ⟨some 64, .fieldAddr 0 (.tmp 4), none⟩,
   ⟨some 65, .fieldAddr 0 (.tmp 64), none⟩,
   ⟨some 66, .load false 1 (.tmp 65), none⟩,
   ⟨some 67, .fieldAddr 0 (.tmp 4), none⟩,
   ⟨some 68, .fieldAddr 1 (.tmp 67), none⟩,
   ⟨some 69, .load false 1 (.tmp 68), none⟩,
   ⟨some 70, .move (.tmp 2), none⟩,
   ⟨some 71, .load true 2 (.tmp 9), none⟩,
   ⟨some 72, .call (.func 16) [(.tmp 63), (.tmp 66), (.tmp 69), (.tmp 70), (.tmp 71)], none⟩,
   ⟨some 62, .move (.tmp 72), none⟩,
   ⟨some 73, .extract (.tmp 62) 0, none⟩,
   ⟨some 74, .extract (.tmp 62) 1, none⟩,
   ⟨some 16, .alloc true 12 [.nils, (.bool false), (.int .i64 0), (.int .i64 0), (.str []), (.int .i64 0), (.int .i64 0), (.int .i64 0), (.int .i64 0), (.int .i64 0), (.str []), (.bool false)], none⟩,
   ⟨none, .store 12 (.tmp 16) (.tmp 73), none⟩,
   ⟨some 17, .move (.tmp 74), none⟩]
@[simp] theorem R7_8 (x2 : AV) (l3 l4 l8 l9 : List AV) :
  evK C D (.seq (.region O7_8) (.keep [2, 3, 4, 9, 16, 17] [3, 4, 9, 16] c)) ⟨[(2, .v x2), (3, .l 3 0), (4, .l 4 0), (8, .l 8 0), (9, .l 9 0)], [(3, l3), (4, l4), (8, l8), (9, l9)], H⟩ k =
  (nl (rd true 12 0 l8)).bind fun t0 =>
  (nl (rd false 1 0 l4)).bind fun t3 =>
  (nl (rd false 1 1 l4)).bind fun t6 =>
  (nl (rd true 2 0 l9)).bind fun t8 =>
  (callN C (.func (.func 16) [] []) [t0, t3, t6, x2, t8] H).bind fun r9 =>
  (nl (extA 0 r9.1)).bind fun t11 =>
  (nl (extA 1 r9.1)).bind fun t12 =>
  (stL 12 0 t11 [.nils, (.bool false), (.int .i64 0), (.int .i64 0), (.str []), (.int .i64 0), (.int .i64 0), (.int .i64 0), (.int .i64 0), (.int .i64 0), (.str []), (.bool false)]).bind fun m14 =>
  evK C D c ⟨[(2, .v x2), (3, .l 3 0), (4, .l 4 0), (9, .l 9 0), (16, .l 16 0), (17, .v t12)], [(3, l3), (4, l4), (9, l9), (16, m14)], r9.2⟩ k := by kernel_rfl
def O7_9 : List IOper :=
  [⟨some 75, .fieldAddr 1 (.tmp 3), none⟩,
   ⟨some 76, .load false 1 (.tmp 75), none⟩,
   ⟨some 77, .move (.tmp 76), none⟩,
   ⟨some 78, .fieldAddr 2 (.tmp 3), some (77, true)⟩,
   ⟨some 79, .fieldAddr 0 (.tmp 78), some (77, true)⟩,
   ⟨some 80, .load true 5 (.tmp 79), some (77, true)⟩,
   ⟨some 81, .fieldAddr 0 (.tmp 4), some (77, true)⟩,
   ⟨some 82, .load true 5 (.tmp 81), some (77, true)⟩,
   ⟨some 83, .bin .eql (.struct [(0, false, 1, .int), (1, false, 1, .int), (2, false, 1, .str), (3, true, 2, (.struct [(0, false, 1, .int), (1, false, 1, .int)]))]) (.tmp 80) (.tmp 82), some (77, true)⟩,
   ⟨some 84, .pick (.tmp 77) (.tmp 83) (.const (.bool false)), none⟩,
   ⟨some 85, .move (.tmp 84), none⟩,
   ⟨some 86, .fieldAddr 2 (.tmp 3), some (85, true)⟩,
   ⟨some 87, .fieldAddr 5 (.tmp 86), some (85, true)⟩,
   ⟨some 88, .load false 1 (.tmp 87), some (85, true)⟩,
   ⟨some 89, .fieldAddr 5 (.tmp 4), some (85, true)⟩,
   ⟨some 90, .load false 1 (.tmp 89), some (85, true)⟩,
   ⟨some 91, .bin .geq .none (.tmp 88) (.tmp 90), some (85, true)⟩,
   ⟨some 92, .pick (.tmp 85) (.tmp 91) (.const (.bool false)), none⟩]
@[simp] theorem R7_9 (x2 x17 : AV) (l3 l4 l9 l16 : List AV) :
  evK C D (.seq (.region O7_9) (.keep [2, 4, 9, 16, 17, 92] [4, 9, 16] c)) ⟨[(2, .v x2), (3, .l 3 0), (4, .l 4 0), (9, .l 9 0), (16, .l 16 0), (17, .v x17)], [(3, l3), (4, l4), (9, l9), (16, l16)], H⟩ k =
  (nl (rd false 1 1 l3)).bind fun t1 =>
  guardK t1 true (
  (nl (rd true 5 2 l3)).bind fun t5 =>
  (nl (rd true 5 0 l4)).bind fun t7 =>
  (nl (binA .eql (.struct [(0, false, 1, .int), (1, false, 1, .int), (2, false, 1, .str), (3, true, 2, (.struct [(0, false, 1, .int), (1, false, 1, .int)]))]) t5 t7)).bind fun t8 =>
  guardK t8 true (
  (nl (rd false 1 7 l3)).bind fun t13 =>
  (nl (rd false 1 5 l4)).bind fun t15 =>
  (nl (binA .geq .none t13 t15)).bind fun t16 =>
  evK C D c ⟨[(2, .v x2), (4, .l 4 0), (9, .l 9 0), (16, .l 16 0), (17, .v x17), (92, .v t16)], [(4, l4), (9, l9), (16, l16)], H⟩ k)
  (evK C D c ⟨[(2, .v x2), (4, .l 4 0), (9, .l 9 0), (16, .l 16 0), (17, .v x17), (92, .v (.bool false))], [(4, l4), (9, l9), (16, l16)], H⟩ k))
  (evK C D c ⟨[(2, .v x2), (4, .l 4 0), (9, .l 9 0), (16, .l 16 0), (17, .v x17), (92, .v (.bool false))], [(4, l4), (9, l9), (16, l16)], H⟩ k) := by kernel_rfl
def O7_10 : List IOper :=
  [⟨some 93, .call (.func 12) [], none⟩,
   ⟨some 94, .move (.tmp 93), none⟩,
   ⟨some 95, .move (.tmp 17), some (94, true)⟩,
   ⟨some 96, .bin .eql .int (.tmp 95) (.const (.int .i64 0)), some (94, true)⟩,
   ⟨some 97, .pick (.tmp 94) (.tmp 96) (.const (.bool false)), none⟩,
   ⟨some 6, .move (.tmp 97), none⟩]
@[simp] theorem R7_10 (x2 x17 x92 : AV) (l4 l9 l16 : List AV) :
  evK C D (.seq (.region O7_10) (.keep [6] [] c)) ⟨[(2, .v x2), (4, .l 4 0), (9, .l 9 0), (16, .l 16 0), (17, .v x17), (92, .v x92)], [(4, l4), (9, l9), (16, l16)], H⟩ k =
  (callN C (.func (.func 12) [] []) [] H).bind fun r0 =>
  guardK r0.1 true (
  (nl (binA .eql .int x17 (.int .i64 0))).bind fun t3 =>
  evK C D c ⟨[(6, .v t3)], [], r0.2⟩ k)
  (evK C D c ⟨[(6, .v (.bool false))], [], r0.2⟩ k) := by kernel_rfl
def O7_11 : List IOper :=
  [⟨some 99, .load true 12 (.tmp 16), none⟩,
   ⟨some 100, .fieldAddr 0 (.tmp 4), none⟩,
   ⟨some 101, .fieldAddr 0 (.tmp 100), none⟩,
   ⟨some 102, .load false 1 (.tmp 101), none⟩,
   ⟨some 103, .fieldAddr 0 (.tmp 4), none⟩,
   ⟨some 104, .fieldAddr 1 (.tmp 103), none⟩,
   ⟨some 105, .load false 1 (.tmp 104), none⟩,
   ⟨some 106, .move (.tmp 2), none⟩,
   ⟨some 107, .load true 2 (.tmp 9), none⟩,
   ⟨some 108, .call (.func 16) [(.tmp 99), (.tmp 102), (.tmp 105), (.tmp 106), (.tmp 107)], none⟩,
   ⟨some 98, .move (.tmp 108), none⟩,
   ⟨some 109, .extract (.tmp 98) 0, none⟩,
   ⟨some 110, .extract (.tmp 98) 1, none⟩,
   ⟨some 18, .alloc true 12 [.nils, (.bool false), (.int .i64 0), (.int .i64 0), (.str []), (.int .i64 0), (.int .i64 0), (.int .i64 0), (.int .i64 0), (.int .i64 0), (.str []), (.bool false)], none⟩,
   ⟨none, .store 12 (.tmp 18) (.tmp 109), none⟩,
   ⟨some 19, .move (.tmp 110), none⟩]
@[simp] theorem R7_11 (x2 x17 : AV) (l4 l9 l16 : List AV) :
  evK C D (.seq (.region O7_11) (.keep [2, 4, 16, 17, 18, 19] [4, 16, 18] c)) ⟨[(2, .v x2), (4, .l 4 0), (9, .l 9 0), (16, .l 16 0), (17, .v x17)], [(4, l4), (9, l9), (16, l16)], H⟩ k =
  (nl (rd true 12 0 l16)).bind fun t0 =>
  (nl (rd false 1 0 l4)).bind fun t3 =>
  (nl (rd false 1 1 l4)).bind fun t6 =>
  (nl (rd true 2 0 l9)).bind fun t8 =>
  (callN C (.func (.func 16) [] []) [t0, t3, t6, x2, t8] H).bind fun r9 =>
  (nl (extA 0 r9.1)).bind fun t11 =>
  (nl (extA 1 r9.1)).bind fun t12 =>
  (stL 12 0 t11 [.nils, (.bool false), (.int .i64 0), (.int .i64 0), (.str []), (.int .i64 0), (.int .i64 0), (.int .i64 0), (.int .i64 0), (.int .i64 0), (.str []), (.bool false)]).bind fun m14 =>
  evK C D c ⟨[(2, .v x2), (4, .l 4 0), (16, .l 16 0), (17, .v x17), (18, .l 18 0), (19, .v t12)], [(4, l4), (16, l16), (18, m14)], r9.2⟩ k := by kernel_rfl
def O7_12 : List IOper :=
  [⟨some 112, .load true 12 (.tmp 16), none⟩,
   ⟨some 113, .load true 10 (.tmp 4), none⟩,
   ⟨some 114, .call (.func 14) [(.tmp 112), (.tmp 113)], none⟩,
   ⟨some 111, .move (.tmp 114), none⟩,
   ⟨some 115, .extract (.tmp 111) 0, none⟩,
   ⟨some 116, .extract (.tmp 111) 1, none⟩,
   ⟨some 117, .extract (.tmp 111) 2, none⟩,
   ⟨some 118, .extract (.tmp 111) 3, none⟩,
   ⟨some 20, .alloc true 12 [.nils, (.bool false), (.int .i64 0), (.int .i64 0), (.str []), (.int .i64 0), (.int .i64 0), (.int .i64 0), (.int .i64 0), (.int .i64 0), (.str []), (.bool false)], none⟩,
   ⟨some 21, .alloc true 2 [(.int .i64 0), (.int .i64 0)], none⟩,
   ⟨some 22, .alloc true 5 [(.int .i64 0), (.int .i64 0), (.str []), (.int .i64 0), (.int .i64 0)], none⟩,
   ⟨none, .store 12 (.tmp 20) (.tmp 115), none⟩,
   ⟨none, .store 2 (.tmp 21) (.tmp 116), none⟩,
   ⟨none, .store 5 (.tmp 22) (.tmp 117), none⟩,
   ⟨some 23, .move (.tmp 118), none⟩]
@[simp] theorem R7_12 (x2 x17 x19 : AV) (l4 l16 l18 : List AV) :
  evK C D (.seq (.region O7_12) (.keep [2, 16, 17, 18, 19, 23] [16, 18] c)) ⟨[(2, .v x2), (4, .l 4 0), (16, .l 16 0), (17, .v x17), (18, .l 18 0), (19, .v x19)], [(4, l4), (16, l16), (18, l18)], H⟩ k =
  (nl (rd true 12 0 l16)).bind fun t0 =>
  (nl (rd true 10 0 l4)).bind fun t1 =>
  (callN C (.func (.func 14) [] []) [t0, t1] H).bind fun r2 =>
  (nl (extA 0 r2.1)).bind fun t4 =>
  (nl (extA 1 r2.1)).bind fun t5 =>
  (nl (extA 2 r2.1)).bind fun t6 =>
  (nl (extA 3 r2.1)).bind fun t7 =>
  (stL 12 0 t4 [.nils, (.bool false), (.int .i64 0), (.int .i64 0), (.str []), (.int .i64 0), (.int .i64 0), (.int .i64 0), (.int .i64 0), (.int .i64 0), (.str []), (.bool false)]).bind fun m11 =>
  (stL 2 0 t5 [(.int .i64 0), (.int .i64 0)]).bind fun m12 =>
  (stL 5 0 t6 [(.int .i64 0), (.int .i64 0), (.str []), (.int .i64 0), (.int .i64 0)]).bind fun m13 =>
  evK C D c ⟨[(2, .v x2), (16, .l 16 0), (17, .v x17), (18, .l 18 0), (19, .v x19), (23, .v t7)], [(16, l16), (18, l18)], r2.2⟩ k := by kernel_rfl
def O7_13 : List IOper :=
  [⟨some 119, .call (.func 12) [], none⟩,
   ⟨some 120, .move (.tmp 119), none⟩,
   ⟨some 121, .move (.tmp 17), some (120, true)⟩,
   ⟨some 122, .bin .eql .int (.tmp 121) (.const (.int .i64 0)), some (120, true)⟩,
   ⟨some 123, .pick (.tmp 120) (.tmp 122) (.const (.bool false)), none⟩,
   ⟨some 124, .move (.tmp 123), none⟩,
   ⟨some 125, .move (.tmp 19), some (124, true)⟩,
   ⟨some 126, .bin .eql .int (.tmp 125) (.const (.int .i64 0)), some (124, true)⟩,
   ⟨some 127, .pick (.tmp 124) (.tmp 126) (.const (.bool false)), none⟩,
   ⟨some 128, .move (.tmp 127), none⟩,
   ⟨some 129, .load true 12 (.tmp 16), some (128, true)⟩,
   ⟨some 130, .load true 12 (.tmp 18), some (128, true)⟩,
   ⟨some 131, .call (.func 27) [(.tmp 129), (.tmp 130)], some (128, true)⟩,
   ⟨some 132, .pick (.tmp 128) (.tmp 131) (.const (.bool false)), none⟩,
   ⟨some 133, .move (.tmp 132), none⟩,
   ⟨some 134, .fieldAddr 1 (.tmp 16), some (133, true)⟩,
   ⟨some 135, .load false 1 (.tmp 134), some (133, true)⟩,
   ⟨some 136, .un .not (.tmp 135), some (133, true)⟩,
   ⟨some 137, .pick (.tmp 133) (.tmp 136) (.const (.bool false)), none⟩,
   ⟨some 138, .move (.tmp 137), none⟩,
   ⟨some 139, .move (.tmp 2), some (138, true)⟩,
   ⟨some 140, .un .not (.tmp 139), some (138, true)⟩,
   ⟨some 141, .move (.tmp 140), some (138, true)⟩,
   ⟨some 142, .move (.tmp 23), some (141, false)⟩,
   ⟨some 143, .bin .eql .int (.tmp 142) (.const (.int .i64 83)), some (141, false)⟩,
   ⟨some 144, .pick (.tmp 141) (.const (.bool true)) (.tmp 143), some (138, true)⟩,
   ⟨some 145, .pick (.tmp 138) (.tmp 144) (.const (.bool false)), none⟩,
   ⟨some 6, .move (.tmp 145), none⟩]
@[simp] theorem R7_13 (x2 x17 x19 x23 : AV) (l16 l18 : List AV) :
  evK C D (.seq (.region O7_13) (.keep [6] [] c)) ⟨[(2, .v x2), (16, .l 16 0), (17, .v x17), (18, .l 18 0), (19, .v x19), (23, .v x23)], [(16, l16), (18, l18)], H⟩ k =
  (callN C (.func (.func 12) [] []) [] H).bind fun r0 =>
  guardK r0.1 true (
  (nl (binA .eql .int x17 (.int .i64 0))).bind fun t3 =>
  guardK t3 true (
  (nl (binA .eql .int x19 (.int .i64 0))).bind fun t7 =>
  guardK t7 true (
  (nl (rd true 12 0 l16)).bind fun t10 =>
  (nl (rd true 12 0 l18)).bind fun t11 =>
  (callN C (.func (.func 27) [] []) [t10, t11] r0.2).bind fun r12 =>
  guardK r12.1 true (
  (nl (rd false 1 1 l16)).bind fun t16 =>
  (nl (unA .not t16)).bind fun t17 =>
  guardK t17 true (
  (nl (unA .not x2)).bind fun t21 =>
  guardK t21 false (
  (nl (binA .eql .int x23 (.int .i64 83))).bind fun t24 =>
  evK C D c ⟨[(6, .v t24)], [], r12.2⟩ k)
  (evK C D c ⟨[(6, .v (.bool true))], [], r12.2⟩ k))
  (evK C D c ⟨[(6, .v (.bool false))], [], r12.2⟩ k))
  (evK C D c ⟨[(6, .v (.bool false))], [], r12.2⟩ k))
  (evK C D c ⟨[(6, .v (.bool false))], [], r0.2⟩ k))
  (evK C D c ⟨[(6, .v (.bool false))], [], r0.2⟩ k))
  (evK C D c ⟨[(6, .v (.bool false))], [], r0.2⟩ k) := by kernel_rfl
def F7 : FnIR := ⟨146, 3, [.tmp 6], [3, 4, 8, 9, 10, 12, 13, 14, 16, 18, 20, 21, 22],
  .seq (.region O7_0)
  (.keep [2, 3, 4] [3, 4] (.seq (.region O7_1)
  (.keep [2, 3, 4, 7] [3, 4] (.seq (.region O7_2)
  (.keep [2, 3, 4, 7, 8, 9, 11] [3, 4, 8, 9] (.seq (.seq (.region O7_3)
   (.keep [2, 3, 4, 8, 9, 39] [3, 4, 8, 9] (.cond (.tmp 39)
    (.seq (.region O7_4)
    (.keep [6] [] (.ret)))
    (.skip))))
  (.keep [2, 3, 4, 8, 9] [3, 4, 8, 9] (.seq (.region O7_5)
  (.keep [2, 3, 4, 8, 9, 12, 13, 15] [3, 4, 8, 9, 12, 13] (.seq (.seq (.region O7_6)
   (.keep [2, 3, 4, 8, 9, 61] [3, 4, 8, 9] (.cond (.tmp 61)
    (.seq (.region O7_7)
    (.keep [6] [] (.ret)))
    (.skip))))
  (.keep [2, 3, 4, 8, 9] [3, 4, 8, 9] (.seq (.region O7_8)
  (.keep [2, 3, 4, 9, 16, 17] [3, 4, 9, 16] (.seq (.seq (.region O7_9)
   (.keep [2, 4, 9, 16, 17, 92] [4, 9, 16] (.cond (.tmp 92)
    (.seq (.region O7_10)
    (.keep [6] [] (.ret)))
    (.skip))))
  (.keep [2, 4, 9, 16, 17] [4, 9, 16] (.seq (.region O7_11)
  (.keep [2, 4, 16, 17, 18, 19] [4, 16, 18] (.seq (.region O7_12)
  (.keep [2, 16, 17, 18, 19, 23] [16, 18] (.seq (.region O7_13)
  (.keep [6] [] (.ret))))))))))))))))))))))⟩
/-- wampum/version.Same -/
def O27_0 : List IOper :=
  [⟨some 2, .box true 12 (.tmp 0), none⟩,
   ⟨some 3, .box true 12 (.tmp 1), none⟩,
   ⟨some 4, .move (.const (.bool false)), none⟩]
@[simp] theorem R27_0 (x0 x1 : AV) :
  evK C D (.seq (.region O27_0) (.keep [2, 3] [2, 3] c)) ⟨[(0, .v x0), (1, .v x1)], [], H⟩ k =
  (boxC x0).bind fun m0 =>
  (boxC x1).bind fun m1 =>
  evK C D c ⟨[(2, .l 2 0), (3, .l 3 0)], [(2, m0), (3, m1)], H⟩ k := by kernel_rfl
def O27_1 : List IOper :=
  [⟨some 5, .fieldAddr 1 (.tmp 2), none⟩,
   ⟨some 6, .load false 1 (.tmp 5), none⟩,
   ⟨some 7, .fieldAddr 1 (.tmp 3), none⟩,
   ⟨some 8, .load false 1 (.tmp 7), none⟩,
   ⟨some 9, .bin .eql .bool (.tmp 6) (.tmp 8), none⟩,
   ⟨some 10, .move (.tmp 9), none⟩,
   ⟨some 11, .fieldAddr 2 (.tmp 2), some (10, true)⟩,
   ⟨some 12, .load true 10 (.tmp 11), some (10, true)⟩,
   ⟨some 13, .fieldAddr 2 (.tmp 3), some (10, true)⟩,
   ⟨some 14, .load true 10 (.tmp 13), some (10, true)⟩,
   ⟨some 15, .bin .eql (.struct [(0, true, 5, (.struct [(0, false, 1, .int), (1, false, 1, .int), (2, false, 1, .str), (3, true, 2, (.struct [(0, false, 1, .int), (1, false, 1, .int)]))])), (5, false, 1, .int), (6, true, 2, (.struct [(0, false, 1, .int), (1, false, 1, .int)])), (8, false, 1, .str), (9, false, 1, .bool)]) (.tmp 12) (.tmp 14), some (10, true)⟩,
   ⟨some 16, .pick (.tmp 10) (.tmp 15) (.const (.bool false)), none⟩,
   ⟨some 17, .move (.tmp 16), none⟩,
   ⟨some 18, .fieldAddr 0 (.tmp 2), some (17, true)⟩,
   ⟨some 19, .load false 1 (.tmp 18), some (17, true)⟩,
   ⟨some 20, .fieldAddr 0 (.tmp 3), some (17, true)⟩,
   ⟨some 21, .load false 1 (.tmp 20), some (17, true)⟩,
   ⟨some 22, .call (.func 45) [(.tmp 19), (.tmp 21)], some (17, true)⟩,
   ⟨some 23, .pick (.tmp 17) (.tmp 22) (.const (.bool false)), none⟩,
   ⟨some 4, .move (.tmp 23), none⟩]
@[simp] theorem R27_1 (l2 l3 : List AV) :
  evK C D (.seq (.region O27_1) (.keep [4] [] c)) ⟨[(2, .l 2 0), (3, .l 3 0)], [(2, l2), (3, l3)], H⟩ k =
  (nl (rd false 1 1 l2)).bind fun t1 =>
  (nl (rd false 1 1 l3)).bind fun t3 =>
  (nl (binA .eql .bool t1 t3)).bind fun t4 =>
  guardK t4 true (
  (nl (rd true 10 2 l2)).bind fun t7 =>
  (nl (rd true 10 2 l3)).bind fun t9 =>
  (nl (binA .eql (.struct [(0, true, 5, (.struct [(0, false, 1, .int), (1, false, 1, .int), (2, false, 1, .str), (3, true, 2, (.struct [(0, false, 1, .int), (1, false, 1, .int)]))])), (5, false, 1, .int), (6, true, 2, (.struct [(0, false, 1, .int), (1, false, 1, .int)])), (8, false, 1, .str), (9, false, 1, .bool)]) t7 t9)).bind fun t10 =>
  guardK t10 true (
  (nl (rd false 1 0 l2)).bind fun t14 =>
  (nl (rd false 1 0 l3)).bind fun t16 =>
  (callN C (.func (.func 45) [] []) [t14, t16] H).bind fun r17 =>
  evK C D c ⟨[(4, .v r17.1)], [], r17.2⟩ k)
  (evK C D c ⟨[(4, .v (.bool false))], [], H⟩ k))
  (evK C D c ⟨[(4, .v (.bool false))], [], H⟩ k) := by kernel_rfl
def F27 : FnIR := ⟨24, 2, [.tmp 4], [2, 3],
  .seq (.region O27_0)
  (.keep [2, 3] [2, 3] (.seq (.region O27_1)
  (.keep [4] [] (.ret))))⟩
/-- slices.Equal[[]wampum/api.Version,wampum/api.Version] -/
def O45_0 : List IOper :=
  [⟨some 4, .move (.const (.bool false)), none⟩]
@[simp] theorem R45_0 (x0 x1 : AV) :
  evK C D (.seq (.region O45_0) (.keep [0, 1] [] c)) ⟨[(0, .v x0), (1, .v x1)], [], H⟩ k =
  evK C D c ⟨[(0, .v x0), (1, .v x1)], [], H⟩ k := by kernel_rfl
def O45_1 : List IOper :=
  [⟨some 6, .move (.tmp 0), none⟩,
   ⟨some 7, .len .slice (.tmp 6), none⟩,
   ⟨some 8, .move (.tmp 1), none⟩,
   ⟨some 9, .len .slice (.tmp 8), none⟩,
   ⟨some 10, .bin .neq .int (.tmp 7) (.tmp 9), none⟩]
@[simp] theorem R45_1 (x0 x1 : AV) :
  evK C D (.seq (.region O45_1) (.keep [0, 1, 10] [] c)) ⟨[(0, .v x0), (1, .v x1)], [], H⟩ k =
  (lenS x0).bind fun t1 =>
  (lenS x1).bind fun t3 =>
  (nl (binA .neq .int t1 t3)).bind fun t4 =>
  evK C D c ⟨[(0, .v x0), (1, .v x1), (10, .v t4)], [], H⟩ k := by kernel_rfl
def O45_2 : List IOper :=
  [⟨some 4, .move (.const (.bool false)), none⟩]
@[simp] theorem R45_2 (x0 x1 x10 : AV) :
  evK C D (.seq (.region O45_2) (.keep [4] [] c)) ⟨[(0, .v x0), (1, .v x1), (10, .v x10)], [], H⟩ k =
  evK C D c ⟨[(4, .v (.bool false))], [], H⟩ k := by kernel_rfl
def O45_3 : List IOper :=
  [⟨some 11, .move (.tmp 0), none⟩,
   ⟨some 12, .len .slice (.tmp 11), none⟩,
   ⟨some 13, .move (.const (.int .i64 0)), none⟩]
@[simp] theorem R45_3 (x0 x1 : AV) :
  evK C D (.seq (.region O45_3) (.keep [0, 1, 12, 13] [] c)) ⟨[(0, .v x0), (1, .v x1)], [], H⟩ k =
  (lenS x0).bind fun t1 =>
  evK C D c ⟨[(0, .v x0), (1, .v x1), (12, .v t1), (13, .v (.int .i64 0))], [], H⟩ k := by kernel_rfl
def O45_4 : List IOper :=
  [⟨some 14, .bin .lss .none (.tmp 13) (.tmp 12), none⟩]
@[simp] theorem R45_4 (x0 x1 x12 x13 : AV) :
  evK C D (.seq (.region O45_4) (.keep [0, 1, 12, 13, 14] [] c)) ⟨[(0, .v x0), (1, .v x1), (12, .v x12), (13, .v x13)], [], H⟩ k =
  (nl (binA .lss .none x13 x12)).bind fun t0 =>
  evK C D c ⟨[(0, .v x0), (1, .v x1), (12, .v x12), (13, .v x13), (14, .v t0)], [], H⟩ k := by kernel_rfl
def O45_5 : List IOper :=
  [⟨some 15, .move (.tmp 13), none⟩,
   ⟨some 5, .move (.tmp 15), none⟩]
@[simp] theorem R45_5 (x0 x1 x12 x13 : AV) :
  evK C D (.seq (.region O45_5) (.keep [0, 1, 5, 12, 13] [] c)) ⟨[(0, .v x0), (1, .v x1), (12, .v x12), (13, .v x13)], [], H⟩ k =
  evK C D c ⟨[(0, .v x0), (1, .v x1), (5, .v x13), (12, .v x12), (13, .v x13)], [], H⟩ k := by kernel_rfl
def O45_6 : List IOper :=
  [⟨some 16, .move (.tmp 0), none⟩,
   ⟨some 17, .move (.tmp 5), none⟩,
   ⟨some 18, .indexAddr none 5 (.tmp 16) (.tmp 17), none⟩,
   ⟨some 19, .load true 5 (.tmp 18), none⟩,
   ⟨some 20, .move (.tmp 1), none⟩,
   ⟨some 21, .move (.tmp 5), none⟩,
   ⟨some 22, .indexAddr none 5 (.tmp 20) (.tmp 21), none⟩,
   ⟨some 23, .load true 5 (.tmp 22), none⟩,
   ⟨some 24, .bin .neq (.struct [(0, true, 2, (.struct [(0, false, 1, .int), (1, false, 1, .int)])), (2, false, 1, .str), (3, false, 1, .bool), (4, false, 1, .int)]) (.tmp 19) (.tmp 23), none⟩]
@[simp] theorem R45_6 (x0 x1 x5 x12 x13 : AV) :
  evK C D (.seq (.regionD O45_6 []) (.keep [0, 1, 12, 13, 24] [] c)) ⟨[(0, .v x0), (1, .v x1), (5, .v x5), (12, .v x12), (13, .v x13)], [], H⟩ k =
  (nl (idxS 5 x0 x5)).bind fun t2 =>
  (nl (loadP H true 5 t2)).bind fun t3 =>
  kB (AV.okB H.n t3) (
  (nl (idxS 5 x1 x5)).bind fun t6 =>
  (nl (loadP H true 5 t6)).bind fun t7 =>
  kB (AV.okB H.n t7) (
  (nl (binA .neq (.struct [(0, true, 2, (.struct [(0, false, 1, .int), (1, false, 1, .int)])), (2, false, 1, .str), (3, false, 1, .bool), (4, false, 1, .int)]) t3 t7)).bind fun t8 =>
  evK C D c ⟨[(0, .v x0), (1, .v x1), (12, .v x12), (13, .v x13), (24, .v t8)], [], H⟩ k)) := by kernel_rfl
def O45_7 : List IOper :=
  [⟨some 4, .move (.const (.bool false)), none⟩]
@[simp] theorem R45_7 (x0 x1 x12 x13 x24 : AV) :
  evK C D (.seq (.region O45_7) (.keep [4] [] c)) ⟨[(0, .v x0), (1, .v x1), (12, .v x12), (13, .v x13), (24, .v x24)], [], H⟩ k =
  evK C D c ⟨[(4, .v (.bool false))], [], H⟩ k := by kernel_rfl
def O45_8 : List IOper :=
  [⟨some 25, .bin .add .none (.tmp 13) (.const (.int .i64 1)), none⟩,
   ⟨some 13, .move (.tmp 25), none⟩]
@[simp] theorem R45_8 (x0 x1 x12 x13 : AV) :
  evK C D (.region O45_8) ⟨[(0, .v x0), (1, .v x1), (12, .v x12), (13, .v x13)], [], H⟩ k =
  (nl (binA .add .none x13 (.int .i64 1))).bind fun t0 =>
  k .normal ⟨[(13, .v t0), (25, .v t0), (0, .v x0), (1, .v x1), (12, .v x12), (13, .v x13)], [], H⟩ := by kernel_rfl
def B45_0 : IC :=
  .seq (.region O45_4)
  (.keep [0, 1, 12, 13, 14] [] (.seq (.cond (.tmp 14)
    (.skip)
    (.exit 0))
  (.keep [0, 1, 12, 13] [] (.seq (.block 1 (.seq (.region O45_5)
    (.keep [0, 1, 5, 12, 13] [] (.seq (.regionD O45_6 [])
    (.keep [0, 1, 12, 13, 24] [] (.cond (.tmp 24)
     (.seq (.region O45_7)
     (.keep [4] [] (.ret)))
     (.skip)))))))
  (.keep [0, 1, 12, 13] [] (.region O45_8))))))
def L45_0 : IC := .keep [0, 1, 12, 13] [] B45_0
@[simp] theorem LK45_0 (s : SK) (k : AExit → SK → Option R) : evK C D (.loop L45_0) s k = (D (.loop L45_0) (prK [0, 1, 12, 13] [] s).toSt).bind fun r => k r.1 (ofSt r.2) := by kernel_rfl
def O45_9 : List IOper :=
  [⟨some 4, .move (.const (.bool true)), none⟩]
@[simp] theorem R45_9 :
  evK C D (.seq (.region O45_9) (.keep [4] [] c)) ⟨[], [], H⟩ k =
  evK C D c ⟨[(4, .v (.bool true))], [], H⟩ k := by kernel_rfl
def F45 : FnIR := ⟨26, 2, [.tmp 4], [],
  .seq (.region O45_0)
  (.keep [0, 1] [] (.seq (.seq (.region O45_1)
   (.keep [0, 1, 10] [] (.cond (.tmp 10)
    (.seq (.region O45_2)
    (.keep [4] [] (.ret)))
    (.skip))))
  (.keep [0, 1] [] (.seq (.seq (.region O45_3)
   (.keep [0, 1, 12, 13] [] (.block 0 (.loop L45_0))))
  (.keep [] [] (.seq (.region O45_9)
  (.keep [4] [] (.ret))))))))⟩
end Go.Proofs.Ytkahfmgdjoaiiaa
