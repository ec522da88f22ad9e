/- Functions of the program in our form (V08, a). No condition. -/
import Derived.Test.YtkahfmgdjoaiiaaAmZ
import Derived.Test.YtkahfmgdjoaiiaaRows
set_option linter.unusedVariables false
set_option linter.unusedSimpArgs false
namespace Go.Proofs.Ytkahfmgdjoaiiaa
open Go.Wam
variable {R : Type} (C : CallF) (D : IC → St → Option (AExit × St)) (c : IC) (H : AHeap) (k : AExit → SK → Option R)
/-- wampum/wampumlaw08.VersionWrites -/
def O3_0 : List IOper :=
  [⟨some 2, .box true 12 (.tmp 0), none⟩,
   ⟨some 3, .box true 16 (.tmp 1), none⟩,
   ⟨some 4, .move (.const (.bool false)), none⟩]
@[simp] theorem R3_0 (x0 x1 : AV) :
  evK C D (.seq (.region O3_0) (.keep [2, 3] [2, 3] c)) ⟨[(0, .v x0), (1, .v x1)], [], H⟩ k =
  (boxC x0).bind fun m0 =>
  (boxC x1).bind fun m1 =>
  evK C D c ⟨[(2, .l 2 0), (3, .l 3 0)], [(2, m0), (3, m1)], H⟩ k := by kernel_rfl
def O3_1 : List IOper :=
  [⟨some 19, .load true 12 (.tmp 2), none⟩,
   ⟨some 20, .call (.func 11) [(.tmp 19)], none⟩,
   ⟨some 5, .move (.tmp 20), none⟩]
@[simp] theorem R3_1 (l2 l3 : List AV) :
  evK C D (.seq (.region O3_1) (.keep [2, 3, 5] [2, 3] c)) ⟨[(2, .l 2 0), (3, .l 3 0)], [(2, l2), (3, l3)], H⟩ k =
  (nl (rd true 12 0 l2)).bind fun t0 =>
  (callN C (.func (.func 11) [] []) [t0] H).bind fun r1 =>
  evK C D c ⟨[(2, .l 2 0), (3, .l 3 0), (5, .v r1.1)], [(2, l2), (3, l3)], r1.2⟩ k := by kernel_rfl
def O3_2 : List IOper :=
  [⟨some 21, .move (.tmp 5), none⟩,
   ⟨some 22, .un .not (.tmp 21), none⟩]
@[simp] theorem R3_2 (x5 : AV) (l2 l3 : List AV) :
  evK C D (.seq (.region O3_2) (.keep [2, 3, 22] [2, 3] c)) ⟨[(2, .l 2 0), (3, .l 3 0), (5, .v x5)], [(2, l2), (3, l3)], H⟩ k =
  (nl (unA .not x5)).bind fun t1 =>
  evK C D c ⟨[(2, .l 2 0), (3, .l 3 0), (22, .v t1)], [(2, l2), (3, l3)], H⟩ k := by kernel_rfl
def O3_3 : List IOper :=
  [⟨some 23, .call (.func 12) [], none⟩,
   ⟨some 4, .move (.tmp 23), none⟩]
@[simp] theorem R3_3 (x22 : AV) (l2 l3 : List AV) :
  evK C D (.seq (.region O3_3) (.keep [4] [] c)) ⟨[(2, .l 2 0), (3, .l 3 0), (22, .v x22)], [(2, l2), (3, l3)], H⟩ k =
  (callN C (.func (.func 12) [] []) [] H).bind fun r0 =>
  evK C D c ⟨[(4, .v r0.1)], [], r0.2⟩ k := by kernel_rfl
def O3_4 : List IOper :=
  [⟨some 24, .load true 12 (.tmp 2), none⟩,
   ⟨some 25, .call (.func 13) [(.tmp 24)], none⟩,
   ⟨some 6, .alloc true 12 [.nils, (.bool false), (.int .i64 0), (.int .i64 0), (.str []), (.int .i64 0), (.int .i64 0), (.int .i64 0), (.int .i64 0), (.int .i64 0), (.str []), (.bool false)], none⟩,
   ⟨none, .store 12 (.tmp 6) (.tmp 25), none⟩]
@[simp] theorem R3_4 (l2 l3 : List AV) :
  evK C D (.seq (.region O3_4) (.keep [2, 3, 6] [2, 3, 6] c)) ⟨[(2, .l 2 0), (3, .l 3 0)], [(2, l2), (3, l3)], H⟩ k =
  (nl (rd true 12 0 l2)).bind fun t0 =>
  (callN C (.func (.func 13) [] []) [t0] H).bind fun r1 =>
  (stL 12 0 r1.1 [.nils, (.bool false), (.int .i64 0), (.int .i64 0), (.str []), (.int .i64 0), (.int .i64 0), (.int .i64 0), (.int .i64 0), (.int .i64 0), (.str []), (.bool false)]).bind fun m3 =>
  evK C D c ⟨[(2, .l 2 0), (3, .l 3 0), (6, .l 6 0)], [(2, l2), (3, l3), (6, m3)], r1.2⟩ k := by kernel_rfl
def O3_5 : List IOper :=
  [⟨some 27, .load true 12 (.tmp 2), none⟩,
   ⟨some 28, .fieldAddr 3 (.tmp 3), none⟩,
   ⟨some 29, .load true 10 (.tmp 28), none⟩,
   ⟨some 30, .call (.func 14) [(.tmp 27), (.tmp 29)], none⟩,
   ⟨some 26, .move (.tmp 30), none⟩,
   ⟨some 31, .extract (.tmp 26) 0, none⟩,
   ⟨some 32, .extract (.tmp 26) 1, none⟩,
   ⟨some 33, .extract (.tmp 26) 2, none⟩,
   ⟨some 34, .extract (.tmp 26) 3, none⟩,
   ⟨some 7, .alloc true 12 [.nils, (.bool false), (.int .i64 0), (.int .i64 0), (.str []), (.int .i64 0), (.int .i64 0), (.int .i64 0), (.int .i64 0), (.int .i64 0), (.str []), (.bool false)], none⟩,
   ⟨some 8, .alloc true 2 [(.int .i64 0), (.int .i64 0)], none⟩,
   ⟨some 9, .alloc true 5 [(.int .i64 0), (.int .i64 0), (.str []), (.int .i64 0), (.int .i64 0)], none⟩,
   ⟨none, .store 12 (.tmp 7) (.tmp 31), none⟩,
   ⟨none, .store 2 (.tmp 8) (.tmp 32), none⟩,
   ⟨none, .store 5 (.tmp 9) (.tmp 33), none⟩,
   ⟨some 10, .move (.tmp 34), none⟩]
@[simp] theorem R3_5 (l2 l3 l6 : List AV) :
  evK C D (.seq (.region O3_5) (.keep [2, 3, 6, 7, 8, 9, 10] [2, 3, 6, 7, 8, 9] c)) ⟨[(2, .l 2 0), (3, .l 3 0), (6, .l 6 0)], [(2, l2), (3, l3), (6, l6)], H⟩ k =
  (nl (rd true 12 0 l2)).bind fun t0 =>
  (nl (rd true 10 3 l3)).bind fun t2 =>
  (callN C (.func (.func 14) [] []) [t0, t2] H).bind fun r3 =>
  (nl (extA 0 r3.1)).bind fun t5 =>
  (nl (extA 1 r3.1)).bind fun t6 =>
  (nl (extA 2 r3.1)).bind fun t7 =>
  (nl (extA 3 r3.1)).bind fun t8 =>
  (stL 12 0 t5 [.nils, (.bool false), (.int .i64 0), (.int .i64 0), (.str []), (.int .i64 0), (.int .i64 0), (.int .i64 0), (.int .i64 0), (.int .i64 0), (.str []), (.bool false)]).bind fun m12 =>
  (stL 2 0 t6 [(.int .i64 0), (.int .i64 0)]).bind fun m13 =>
  (stL 5 0 t7 [(.int .i64 0), (.int .i64 0), (.str []), (.int .i64 0), (.int .i64 0)]).bind fun m14 =>
  evK C D c ⟨[(2, .l 2 0), (3, .l 3 0), (6, .l 6 0), (7, .l 7 0), (8, .l 8 0), (9, .l 9 0), (10, .v t8)], [(2, l2), (3, l3), (6, l6), (7, m12), (8, m13), (9, m14)], r3.2⟩ k := by kernel_rfl
def O3_6 : List IOper :=
  [⟨some 36, .load true 12 (.tmp 2), none⟩,
   ⟨some 37, .fieldAddr 3 (.tmp 3), none⟩,
   ⟨some 38, .load true 10 (.tmp 37), none⟩,
   ⟨some 39, .call (.func 15) [(.tmp 36), (.tmp 38)], none⟩,
   ⟨some 35, .move (.tmp 39), none⟩,
   ⟨some 40, .extract (.tmp 35) 0, none⟩,
   ⟨some 41, .extract (.tmp 35) 1, none⟩,
   ⟨some 42, .extract (.tmp 35) 2, none⟩,
   ⟨some 43, .extract (.tmp 35) 3, none⟩,
   ⟨some 11, .alloc true 12 [.nils, (.bool false), (.int .i64 0), (.int .i64 0), (.str []), (.int .i64 0), (.int .i64 0), (.int .i64 0), (.int .i64 0), (.int .i64 0), (.str []), (.bool false)], none⟩,
   ⟨some 12, .alloc true 2 [(.int .i64 0), (.int .i64 0)], none⟩,
   ⟨some 13, .alloc true 5 [(.int .i64 0), (.int .i64 0), (.str []), (.int .i64 0), (.int .i64 0)], none⟩,
   ⟨none, .store 12 (.tmp 11) (.tmp 40), none⟩,
   ⟨none, .store 2 (.tmp 12) (.tmp 41), none⟩,
   ⟨none, .store 5 (.tmp 13) (.tmp 42), none⟩,
   ⟨some 14, .move (.tmp 43), none⟩]
@[simp] theorem R3_6 (x10 : AV) (l2 l3 l6 l7 l8 l9 : List AV) :
  evK C D (.seq (.region O3_6) (.keep [2, 3, 6, 7, 8, 9, 10, 11, 12, 13, 14] [2, 3, 6, 7, 8, 9, 11, 12, 13] c)) ⟨[(2, .l 2 0), (3, .l 3 0), (6, .l 6 0), (7, .l 7 0), (8, .l 8 0), (9, .l 9 0), (10, .v x10)], [(2, l2), (3, l3), (6, l6), (7, l7), (8, l8), (9, l9)], H⟩ k =
  (nl (rd true 12 0 l2)).bind fun t0 =>
  (nl (rd true 10 3 l3)).bind fun t2 =>
  (callN C (.func (.func 15) [] []) [t0, t2] H).bind fun r3 =>
  (nl (extA 0 r3.1)).bind fun t5 =>
  (nl (extA 1 r3.1)).bind fun t6 =>
  (nl (extA 2 r3.1)).bind fun t7 =>
  (nl (extA 3 r3.1)).bind fun t8 =>
  (stL 12 0 t5 [.nils, (.bool false), (.int .i64 0), (.int .i64 0), (.str []), (.int .i64 0), (.int .i64 0), (.int .i64 0), (.int .i64 0), (.int .i64 0), (.str []), (.bool false)]).bind fun m12 =>
  (stL 2 0 t6 [(.int .i64 0), (.int .i64 0)]).bind fun m13 =>
  (stL 5 0 t7 [(.int .i64 0), (.int .i64 0), (.str []), (.int .i64 0), (.int .i64 0)]).bind fun m14 =>
  evK C D c ⟨[(2, .l 2 0), (3, .l 3 0), (6, .l 6 0), (7, .l 7 0), (8, .l 8 0), (9, .l 9 0), (10, .v x10), (11, .l 11 0), (12, .l 12 0), (13, .l 13 0), (14, .v t8)], [(2, l2), (3, l3), (6, l6), (7, l7), (8, l8), (9, l9), (11, m12), (12, m13), (13, m14)], r3.2⟩ k := by kernel_rfl
def O3_7 : List IOper :=
  [⟨some 45, .load true 12 (.tmp 2), none⟩,
   ⟨some 46, .fieldAddr 1 (.tmp 3), none⟩,
   ⟨some 47, .load false 1 (.tmp 46), none⟩,
   ⟨some 48, .fieldAddr 2 (.tmp 3), none⟩,
   ⟨some 49, .load false 1 (.tmp 48), none⟩,
   ⟨some 50, .fieldAddr 13 (.tmp 3), none⟩,
   ⟨some 51, .load false 1 (.tmp 50), none⟩,
   ⟨some 52, .fieldAddr 14 (.tmp 3), none⟩,
   ⟨some 53, .load true 2 (.tmp 52), none⟩,
   ⟨some 54, .call (.func 16) [(.tmp 45), (.tmp 47), (.tmp 49), (.tmp 51), (.tmp 53)], none⟩,
   ⟨some 44, .move (.tmp 54), none⟩,
   ⟨some 55, .extract (.tmp 44) 0, none⟩,
   ⟨some 56, .extract (.tmp 44) 1, none⟩,
   ⟨some 15, .alloc true 12 [.nils, (.bool false), (.int .i64 0), (.int .i64 0), (.str []), (.int .i64 0), (.int .i64 0), (.int .i64 0), (.int .i64 0), (.int .i64 0), (.str []), (.bool false)], none⟩,
   ⟨none, .store 12 (.tmp 15) (.tmp 55), none⟩,
   ⟨some 16, .move (.tmp 56), none⟩]
@[simp] theorem R3_7 (x10 x14 : AV) (l2 l3 l6 l7 l8 l9 l11 l12 l13 : List AV) :
  evK C D (.seq (.region O3_7) (.keep [2, 3, 6, 7, 8, 9, 10, 11, 12, 13, 14, 15, 16] [2, 3, 6, 7, 8, 9, 11, 12, 13, 15] c)) ⟨[(2, .l 2 0), (3, .l 3 0), (6, .l 6 0), (7, .l 7 0), (8, .l 8 0), (9, .l 9 0), (10, .v x10), (11, .l 11 0), (12, .l 12 0), (13, .l 13 0), (14, .v x14)], [(2, l2), (3, l3), (6, l6), (7, l7), (8, l8), (9, l9), (11, l11), (12, l12), (13, l13)], H⟩ k =
  (nl (rd true 12 0 l2)).bind fun t0 =>
  (nl (rd false 1 1 l3)).bind fun t2 =>
  (nl (rd false 1 2 l3)).bind fun t4 =>
  (nl (rd false 1 13 l3)).bind fun t6 =>
  (nl (rd true 2 14 l3)).bind fun t8 =>
  (callN C (.func (.func 16) [] []) [t0, t2, t4, t6, t8] H).bind fun r9 =>
  (nl (extA 0 r9.1)).bind fun t11 =>
  (nl (extA 1 r9.1)).bind fun t12 =>
  (stL 12 0 t11 [.nils, (.bool false), (.int .i64 0), (.int .i64 0), (.str []), (.int .i64 0), (.int .i64 0), (.int .i64 0), (.int .i64 0), (.int .i64 0), (.str []), (.bool false)]).bind fun m14 =>
  evK C D c ⟨[(2, .l 2 0), (3, .l 3 0), (6, .l 6 0), (7, .l 7 0), (8, .l 8 0), (9, .l 9 0), (10, .v x10), (11, .l 11 0), (12, .l 12 0), (13, .l 13 0), (14, .v x14), (15, .l 15 0), (16, .v t12)], [(2, l2), (3, l3), (6, l6), (7, l7), (8, l8), (9, l9), (11, l11), (12, l12), (13, l13), (15, m14)], r9.2⟩ k := by kernel_rfl
def O3_8 : List IOper :=
  [⟨some 58, .load true 12 (.tmp 2), none⟩,
   ⟨some 59, .fieldAddr 1 (.tmp 3), none⟩,
   ⟨some 60, .load false 1 (.tmp 59), none⟩,
   ⟨some 61, .fieldAddr 2 (.tmp 3), none⟩,
   ⟨some 62, .load false 1 (.tmp 61), none⟩,
   ⟨some 63, .fieldAddr 13 (.tmp 3), none⟩,
   ⟨some 64, .load false 1 (.tmp 63), none⟩,
   ⟨some 65, .fieldAddr 14 (.tmp 3), none⟩,
   ⟨some 66, .load true 2 (.tmp 65), none⟩,
   ⟨some 67, .call (.func 17) [(.tmp 58), (.tmp 60), (.tmp 62), (.tmp 64), (.tmp 66)], none⟩,
   ⟨some 57, .move (.tmp 67), none⟩,
   ⟨some 68, .extract (.tmp 57) 0, none⟩,
   ⟨some 69, .extract (.tmp 57) 1, none⟩,
   ⟨some 17, .alloc true 12 [.nils, (.bool false), (.int .i64 0), (.int .i64 0), (.str []), (.int .i64 0), (.int .i64 0), (.int .i64 0), (.int .i64 0), (.int .i64 0), (.str []), (.bool false)], none⟩,
   ⟨none, .store 12 (.tmp 17) (.tmp 68), none⟩,
   ⟨some 18, .move (.tmp 69), none⟩]
@[simp] theorem R3_8 (x10 x14 x16 : AV) (l2 l3 l6 l7 l8 l9 l11 l12 l13 l15 : List AV) :
  evK C D (.seq (.region O3_8) (.keep [2, 6, 7, 8, 9, 10, 11, 12, 13, 14, 15, 16, 17, 18] [2, 6, 7, 8, 9, 11, 12, 13, 15, 17] c)) ⟨[(2, .l 2 0), (3, .l 3 0), (6, .l 6 0), (7, .l 7 0), (8, .l 8 0), (9, .l 9 0), (10, .v x10), (11, .l 11 0), (12, .l 12 0), (13, .l 13 0), (14, .v x14), (15, .l 15 0), (16, .v x16)], [(2, l2), (3, l3), (6, l6), (7, l7), (8, l8), (9, l9), (11, l11), (12, l12), (13, l13), (15, l15)], H⟩ k =
  (nl (rd true 12 0 l2)).bind fun t0 =>
  (nl (rd false 1 1 l3)).bind fun t2 =>
  (nl (rd false 1 2 l3)).bind fun t4 =>
  (nl (rd false 1 13 l3)).bind fun t6 =>
  (nl (rd true 2 14 l3)).bind fun t8 =>
  (callN C (.func (.func 17) [] []) [t0, t2, t4, t6, t8] H).bind fun r9 =>
  (nl (extA 0 r9.1)).bind fun t11 =>
  (nl (extA 1 r9.1)).bind fun t12 =>
  (stL 12 0 t11 [.nils, (.bool false), (.int .i64 0), (.int .i64 0), (.str []), (.int .i64 0), (.int .i64 0), (.int .i64 0), (.int .i64 0), (.int .i64 0), (.str []), (.bool false)]).bind fun m14 =>
  evK C D c ⟨[(2, .l 2 0), (6, .l 6 0), (7, .l 7 0), (8, .l 8 0), (9, .l 9 0), (10, .v x10), (11, .l 11 0), (12, .l 12 0), (13, .l 13 0), (14, .v x14), (15, .l 15 0), (16, .v x16), (17, .l 17 0), (18, .v t12)], [(2, l2), (6, l6), (7, l7), (8, l8), (9, l9), (11, l11), (12, l12), (13, l13), (15, l15), (17, m14)], r9.2⟩ k := by kernel_rfl
def O3_9 : List IOper :=
  [⟨some 70, .call (.func 12) [], none⟩,
   ⟨some 71, .move (.tmp 70), none⟩,
   ⟨some 72, .load true 12 (.tmp 7), some (71, true)⟩,
   ⟨some 73, .load true 12 (.tmp 11), some (71, true)⟩,
   ⟨some 74, .call (.func 18) [(.tmp 72), (.tmp 73)], some (71, true)⟩,
   ⟨some 75, .pick (.tmp 71) (.tmp 74) (.const (.bool false)), none⟩,
   ⟨some 76, .move (.tmp 75), none⟩,
   ⟨some 77, .load true 2 (.tmp 8), some (76, true)⟩,
   ⟨some 78, .load true 2 (.tmp 12), some (76, true)⟩,
   ⟨some 79, .bin .eql (.struct [(0, false, 1, .int), (1, false, 1, .int)]) (.tmp 77) (.tmp 78), some (76, true)⟩,
   ⟨some 80, .pick (.tmp 76) (.tmp 79) (.const (.bool false)), none⟩,
   ⟨some 81, .move (.tmp 80), none⟩,
   ⟨some 82, .load true 5 (.tmp 9), some (81, true)⟩,
   ⟨some 83, .load true 5 (.tmp 13), some (81, true)⟩,
   ⟨some 84, .bin .eql (.struct [(0, false, 1, .int), (1, false, 1, .int), (2, false, 1, .str), (3, true, 2, (.struct [(0, false, 1, .int), (1, false, 1, .int)]))]) (.tmp 82) (.tmp 83), some (81, true)⟩,
   ⟨some 85, .pick (.tmp 81) (.tmp 84) (.const (.bool false)), none⟩,
   ⟨some 86, .move (.tmp 85), none⟩,
   ⟨some 87, .move (.tmp 10), some (86, true)⟩,
   ⟨some 88, .move (.tmp 14), some (86, true)⟩,
   ⟨some 89, .bin .eql .int (.tmp 87) (.tmp 88), some (86, true)⟩,
   ⟨some 90, .pick (.tmp 86) (.tmp 89) (.const (.bool false)), none⟩,
   ⟨some 91, .move (.tmp 90), none⟩,
   ⟨some 92, .load true 12 (.tmp 15), some (91, true)⟩,
   ⟨some 93, .load true 12 (.tmp 17), some (91, true)⟩,
   ⟨some 94, .call (.func 18) [(.tmp 92), (.tmp 93)], some (91, true)⟩,
   ⟨some 95, .pick (.tmp 91) (.tmp 94) (.const (.bool false)), none⟩,
   ⟨some 96, .move (.tmp 95), none⟩,
   ⟨some 97, .move (.tmp 16), some (96, true)⟩,
   ⟨some 98, .move (.tmp 18), some (96, true)⟩,
   ⟨some 99, .bin .eql .int (.tmp 97) (.tmp 98), some (96, true)⟩,
   ⟨some 100, .pick (.tmp 96) (.tmp 99) (.const (.bool false)), none⟩,
   ⟨some 101, .move (.tmp 100), none⟩,
   ⟨some 102, .load true 12 (.tmp 2), some (101, true)⟩,
   ⟨some 103, .load true 12 (.tmp 6), some (101, true)⟩,
   ⟨some 104, .call (.func 18) [(.tmp 102), (.tmp 103)], some (101, true)⟩,
   ⟨some 105, .pick (.tmp 101) (.tmp 104) (.const (.bool false)), none⟩,
   ⟨some 4, .move (.tmp 105), none⟩]
@[simp] theorem R3_9 (x10 x14 x16 x18 : AV) (l2 l6 l7 l8 l9 l11 l12 l13 l15 l17 : List AV) :
  evK C D (.seq (.region O3_9) (.keep [4] [] c)) ⟨[(2, .l 2 0), (6, .l 6 0), (7, .l 7 0), (8, .l 8 0), (9, .l 9 0), (10, .v x10), (11, .l 11 0), (12, .l 12 0), (13, .l 13 0), (14, .v x14), (15, .l 15 0), (16, .v x16), (17, .l 17 0), (18, .v x18)], [(2, l2), (6, l6), (7, l7), (8, l8), (9, l9), (11, l11), (12, l12), (13, l13), (15, l15), (17, l17)], H⟩ k =
  (callN C (.func (.func 12) [] []) [] H).bind fun r0 =>
  guardK r0.1 true (
  (nl (rd true 12 0 l7)).bind fun t2 =>
  (nl (rd true 12 0 l11)).bind fun t3 =>
  (callN C (.func (.func 18) [] []) [t2, t3] r0.2).bind fun r4 =>
  guardK r4.1 true (
  (nl (rd true 2 0 l8)).bind fun t7 =>
  (nl (rd true 2 0 l12)).bind fun t8 =>
  (nl (binA .eql (.struct [(0, false, 1, .int), (1, false, 1, .int)]) t7 t8)).bind fun t9 =>
  guardK t9 true (
  (nl (rd true 5 0 l9)).bind fun t12 =>
  (nl (rd true 5 0 l13)).bind fun t13 =>
  (nl (binA .eql (.struct [(0, false, 1, .int), (1, false, 1, .int), (2, false, 1, .str), (3, true, 2, (.struct [(0, false, 1, .int), (1, false, 1, .int)]))]) t12 t13)).bind fun t14 =>
  guardK t14 true (
  (nl (binA .eql .int x10 x14)).bind fun t19 =>
  guardK t19 true (
  (nl (rd true 12 0 l15)).bind fun t22 =>
  (nl (rd true 12 0 l17)).bind fun t23 =>
  (callN C (.func (.func 18) [] []) [t22, t23] r4.2).bind fun r24 =>
  guardK r24.1 true (
  (nl (binA .eql .int x16 x18)).bind fun t29 =>
  guardK t29 true (
  (nl (rd true 12 0 l2)).bind fun t32 =>
  (nl (rd true 12 0 l6)).bind fun t33 =>
  (callN C (.func (.func 18) [] []) [t32, t33] r24.2).bind fun r34 =>
  evK C D c ⟨[(4, .v r34.1)], [], r34.2⟩ k)
  (evK C D c ⟨[(4, .v (.bool false))], [], r24.2⟩ k))
  (evK C D c ⟨[(4, .v (.bool false))], [], r24.2⟩ k))
  (evK C D c ⟨[(4, .v (.bool false))], [], r4.2⟩ k))
  (evK C D c ⟨[(4, .v (.bool false))], [], r4.2⟩ k))
  (evK C D c ⟨[(4, .v (.bool false))], [], r4.2⟩ k))
  (evK C D c ⟨[(4, .v (.bool false))], [], r4.2⟩ k))
  (evK C D c ⟨[(4, .v (.bool false))], [], r0.2⟩ k) := by kernel_rfl
def F3 : FnIR := ⟨106, 2, [.tmp 4], [2, 3, 6, 7, 8, 9, 11, 12, 13, 15, 17],
  .seq (.region O3_0)
  (.keep [2, 3] [2, 3] (.seq (.region O3_1)
  (.keep [2, 3, 5] [2, 3] (.seq (.seq (.region O3_2)
   (.keep [2, 3, 22] [2, 3] (.cond (.tmp 22)
    (.seq (.region O3_3)
    (.keep [4] [] (.ret)))
    (.skip))))
  (.keep [2, 3] [2, 3] (.seq (.region O3_4)
  (.keep [2, 3, 6] [2, 3, 6] (.seq (.region O3_5)
  (.keep [2, 3, 6, 7, 8, 9, 10] [2, 3, 6, 7, 8, 9] (.seq (.region O3_6)
  (.keep [2, 3, 6, 7, 8, 9, 10, 11, 12, 13, 14] [2, 3, 6, 7, 8, 9, 11, 12, 13] (.seq (.region O3_7)
  (.keep [2, 3, 6, 7, 8, 9, 10, 11, 12, 13, 14, 15, 16] [2, 3, 6, 7, 8, 9, 11, 12, 13, 15] (.seq (.region O3_8)
  (.keep [2, 6, 7, 8, 9, 10, 11, 12, 13, 14, 15, 16, 17, 18] [2, 6, 7, 8, 9, 11, 12, 13, 15, 17] (.seq (.region O3_9)
  (.keep [4] [] (.ret))))))))))))))))))⟩
/-- wampum/wampumlaw08.Fits -/
def O11_0 : List IOper :=
  [⟨some 1, .box true 12 (.tmp 0), none⟩,
   ⟨some 2, .move (.const (.bool false)), none⟩]
@[simp] theorem R11_0 (x0 : AV) :
  evK C D (.seq (.region O11_0) (.keep [1] [1] c)) ⟨[(0, .v x0)], [], H⟩ k =
  (boxC x0).bind fun m0 =>
  evK C D c ⟨[(1, .l 1 0)], [(1, m0)], H⟩ k := by kernel_rfl
def O11_1 : List IOper :=
  [⟨some 3, .fieldAddr 0 (.tmp 1), none⟩,
   ⟨some 4, .load false 1 (.tmp 3), none⟩,
   ⟨some 5, .len .slice (.tmp 4), none⟩,
   ⟨some 6, .bin .leq .none (.tmp 5) (.const (.int .i64 60)), none⟩,
   ⟨some 7, .move (.tmp 6), none⟩,
   ⟨some 8, .load true 12 (.tmp 1), some (7, true)⟩,
   ⟨some 9, .call (.func 30) [(.tmp 8)], some (7, true)⟩,
   ⟨some 10, .pick (.tmp 7) (.tmp 9) (.const (.bool false)), none⟩,
   ⟨some 2, .move (.tmp 10), none⟩]
@[simp] theorem R11_1 (l1 : List AV) :
  evK C D (.seq (.region O11_1) (.keep [2] [] c)) ⟨[(1, .l 1 0)], [(1, l1)], H⟩ k =
  (nl (rd false 1 0 l1)).bind fun t1 =>
  (lenS t1).bind fun t2 =>
  (nl (binA .leq .none t2 (.int .i64 60))).bind fun t3 =>
  guardK t3 true (
  (nl (rd true 12 0 l1)).bind fun t5 =>
  (callN C (.func (.func 30) [] []) [t5] H).bind fun r6 =>
  evK C D c ⟨[(2, .v r6.1)], [], r6.2⟩ k)
  (evK C D c ⟨[(2, .v (.bool false))], [], H⟩ k) := by kernel_rfl
def F11 : FnIR := ⟨11, 1, [.tmp 2], [1],
  .seq (.region O11_0)
  (.keep [1] [1] (.seq (.region O11_1)
  (.keep [2] [] (.ret))))⟩
/-- wampum/wampumref08.Right -/
def O30_0 : List IOper :=
  [⟨some 1, .box true 12 (.tmp 0), none⟩,
   ⟨some 2, .move (.const (.bool false)), none⟩]
@[simp] theorem R30_0 (x0 : AV) :
  evK C D (.seq (.region O30_0) (.keep [1] [1] c)) ⟨[(0, .v x0)], [], H⟩ k =
  (boxC x0).bind fun m0 =>
  evK C D c ⟨[(1, .l 1 0)], [(1, m0)], H⟩ k := by kernel_rfl
def O30_1 : List IOper :=
  [⟨some 3, .move (.const (.int .i64 0)), none⟩]
@[simp] theorem R30_1 (l1 : List AV) :
  evK C D (.seq (.region O30_1) (.keep [1, 3] [1] c)) ⟨[(1, .l 1 0)], [(1, l1)], H⟩ k =
  evK C D c ⟨[(1, .l 1 0), (3, .v (.int .i64 0))], [(1, l1)], H⟩ k := by kernel_rfl
def O30_2 : List IOper :=
  [⟨some 8, .move (.tmp 3), none⟩,
   ⟨some 9, .fieldAddr 0 (.tmp 1), none⟩,
   ⟨some 10, .load false 1 (.tmp 9), none⟩,
   ⟨some 11, .len .slice (.tmp 10), none⟩,
   ⟨some 12, .bin .lss .none (.tmp 8) (.tmp 11), none⟩]
@[simp] theorem R30_2 (x3 : AV) (l1 : List AV) :
  evK C D (.seq (.region O30_2) (.keep [1, 3, 12] [1] c)) ⟨[(1, .l 1 0), (3, .v x3)], [(1, l1)], H⟩ k =
  (nl (rd false 1 0 l1)).bind fun t2 =>
  (lenS t2).bind fun t3 =>
  (nl (binA .lss .none x3 t3)).bind fun t4 =>
  evK C D c ⟨[(1, .l 1 0), (3, .v x3), (12, .v t4)], [(1, l1)], H⟩ k := by kernel_rfl
def O30_3 : List IOper :=
  [⟨some 15, .fieldAddr 0 (.tmp 1), none⟩,
   ⟨some 16, .load false 1 (.tmp 15), none⟩,
   ⟨some 17, .move (.tmp 3), none⟩,
   ⟨some 18, .indexAddr none 5 (.tmp 16) (.tmp 17), none⟩,
   ⟨some 19, .fieldAddr 0 (.tmp 18), none⟩,
   ⟨some 20, .load true 2 (.tmp 19), none⟩,
   ⟨some 21, .call (.func 38) [(.tmp 20)], none⟩,
   ⟨some 4, .move (.tmp 21), none⟩]
@[simp] theorem R30_3 (x3 : AV) (l1 : List AV) :
  evK C D (.seq (.region O30_3) (.keep [1, 3, 4] [1] c)) ⟨[(1, .l 1 0), (3, .v x3)], [(1, l1)], H⟩ k =
  (nl (rd false 1 0 l1)).bind fun t1 =>
  (nl (idxS 5 t1 x3)).bind fun t3 =>
  (fldP 0 t3).bind fun t4 =>
  (nl (loadP H true 2 t4)).bind fun t5 =>
  (callN C (.func (.func 38) [] []) [t5] H).bind fun r6 =>
  evK C D c ⟨[(1, .l 1 0), (3, .v x3), (4, .v r6.1)], [(1, l1)], r6.2⟩ k := by kernel_rfl
def O30_4 : List IOper :=
  [⟨some 22, .move (.tmp 4), none⟩,
   ⟨some 23, .un .not (.tmp 22), none⟩,
   ⟨some 24, .move (.tmp 23), none⟩,
   ⟨some 25, .move (.tmp 3), some (24, false)⟩,
   ⟨some 26, .bin .gtr .none (.tmp 25) (.const (.int .i64 0)), some (24, false)⟩,
   ⟨some 27, .move (.tmp 26), some (24, false)⟩,
   ⟨some 28, .fieldAddr 0 (.tmp 1), some (27, true)⟩,
   ⟨some 29, .load false 1 (.tmp 28), some (27, true)⟩,
   ⟨some 30, .move (.tmp 3), some (27, true)⟩,
   ⟨some 31, .bin .sub .none (.tmp 30) (.const (.int .i64 1)), some (27, true)⟩,
   ⟨some 32, .indexAddr none 5 (.tmp 29) (.tmp 31), some (27, true)⟩,
   ⟨some 33, .fieldAddr 0 (.tmp 32), some (27, true)⟩,
   ⟨some 34, .load true 2 (.tmp 33), some (27, true)⟩,
   ⟨some 35, .fieldAddr 0 (.tmp 1), some (27, true)⟩,
   ⟨some 36, .load false 1 (.tmp 35), some (27, true)⟩,
   ⟨some 37, .move (.tmp 3), some (27, true)⟩,
   ⟨some 38, .indexAddr none 5 (.tmp 36) (.tmp 37), some (27, true)⟩,
   ⟨some 39, .fieldAddr 0 (.tmp 38), some (27, true)⟩,
   ⟨some 40, .load true 2 (.tmp 39), some (27, true)⟩,
   ⟨some 41, .call (.func 46) [(.tmp 34), (.tmp 40)], some (27, true)⟩,
   ⟨some 42, .un .not (.tmp 41), some (27, true)⟩,
   ⟨some 43, .pick (.tmp 27) (.tmp 42) (.const (.bool false)), some (24, false)⟩,
   ⟨some 44, .pick (.tmp 24) (.const (.bool true)) (.tmp 43), none⟩]
@[simp] theorem R30_4 (x3 x4 : AV) (l1 : List AV) :
  evK C D (.seq (.regionD O30_4 []) (.keep [1, 3, 44] [1] c)) ⟨[(1, .l 1 0), (3, .v x3), (4, .v x4)], [(1, l1)], H⟩ k =
  (nl (unA .not x4)).bind fun t1 =>
  guardK t1 false (
  (nl (binA .gtr .none x3 (.int .i64 0))).bind fun t4 =>
  guardK t4 true (
  (nl (rd false 1 0 l1)).bind fun t7 =>
  kB (AV.okB H.n t7) (
  (nl (binA .sub .none x3 (.int .i64 1))).bind fun t9 =>
  (nl (idxS 5 t7 t9)).bind fun t10 =>
  (fldP 0 t10).bind fun t11 =>
  (nl (loadP H true 2 t11)).bind fun t12 =>
  kB (AV.okB H.n t12) (
  (nl (rd false 1 0 l1)).bind fun t14 =>
  kB (AV.okB H.n t14) (
  (nl (idxS 5 t14 x3)).bind fun t16 =>
  (fldP 0 t16).bind fun t17 =>
  (nl (loadP H true 2 t17)).bind fun t18 =>
  kB (AV.okB H.n t18) (
  (callN C (.func (.func 46) [] []) [t12, t18] H).bind fun r19 =>
  (nl (unA .not r19.1)).bind fun t20 =>
  evK C D c ⟨[(1, .l 1 0), (3, .v x3), (44, .v t20)], [(1, l1)], r19.2⟩ k)))))
  (kB (AV.okB H.n undefA) (
  kB (AV.okB H.n undefA) (
  kB (AV.okB H.n undefA) (
  kB (AV.okB H.n undefA) (
  evK C D c ⟨[(1, .l 1 0), (3, .v x3), (44, .v (.bool false))], [(1, l1)], H⟩ k))))))
  (kB (AV.okB H.n undefA) (
  kB (AV.okB H.n undefA) (
  kB (AV.okB H.n undefA) (
  kB (AV.okB H.n undefA) (
  evK C D c ⟨[(1, .l 1 0), (3, .v x3), (44, .v (.bool true))], [(1, l1)], H⟩ k))))) := by kernel_rfl
def O30_5 : List IOper :=
  [⟨some 2, .move (.const (.bool false)), none⟩]
@[simp] theorem R30_5 (x3 x44 : AV) (l1 : List AV) :
  evK C D (.seq (.region O30_5) (.keep [2] [] c)) ⟨[(1, .l 1 0), (3, .v x3), (44, .v x44)], [(1, l1)], H⟩ k =
  evK C D c ⟨[(2, .v (.bool false))], [], H⟩ k := by kernel_rfl
def O30_6 : List IOper :=
  [⟨some 13, .move (.tmp 3), none⟩,
   ⟨some 14, .bin .add .none (.tmp 13) (.const (.int .i64 1)), none⟩,
   ⟨some 3, .move (.tmp 14), none⟩]
@[simp] theorem R30_6 (x3 : AV) (l1 : List AV) :
  evK C D (.region O30_6) ⟨[(1, .l 1 0), (3, .v x3)], [(1, l1)], H⟩ k =
  (nl (binA .add .none x3 (.int .i64 1))).bind fun t1 =>
  k .normal ⟨[(3, .v t1), (14, .v t1), (13, .v x3), (1, .l 1 0), (3, .v x3)], [(1, l1)], H⟩ := by kernel_rfl
def B30_0 : IC :=
  .seq (.seq (.region O30_2)
   (.keep [1, 3, 12] [1] (.cond (.tmp 12)
    (.skip)
    (.exit 0))))
  (.keep [1, 3] [1] (.seq (.block 1 (.seq (.region O30_3)
    (.keep [1, 3, 4] [1] (.seq (.regionD O30_4 [])
    (.keep [1, 3, 44] [1] (.cond (.tmp 44)
     (.seq (.region O30_5)
     (.keep [2] [] (.ret)))
     (.skip)))))))
  (.keep [1, 3] [1] (.region O30_6))))
def L30_0 : IC := .keep [1, 3] [1] B30_0
@[simp] theorem LK30_0 (s : SK) (k : AExit → SK → Option R) : evK C D (.loop L30_0) s k = (D (.loop L30_0) (prK [1, 3] [1] s).toSt).bind fun r => k r.1 (ofSt r.2) := by kernel_rfl
def O30_7 : List IOper :=
  [⟨some 45, .fieldAddr 1 (.tmp 1), none⟩,
   ⟨some 46, .load false 1 (.tmp 45), none⟩,
   ⟨some 47, .un .not (.tmp 46), none⟩]
@[simp] theorem R30_7 (l1 : List AV) :
  evK C D (.seq (.region O30_7) (.keep [1, 47] [1] c)) ⟨[(1, .l 1 0)], [(1, l1)], H⟩ k =
  (nl (rd false 1 1 l1)).bind fun t1 =>
  (nl (unA .not t1)).bind fun t2 =>
  evK C D c ⟨[(1, .l 1 0), (47, .v t2)], [(1, l1)], H⟩ k := by kernel_rfl
def O30_8 : List IOper :=
  [⟨some 48, .fieldAddr 2 (.tmp 1), none⟩,
   ⟨some 49, .load true 10 (.tmp 48), none⟩,
   ⟨some 50, .build [(.int .i64 0), (.int .i64 0), (.str []), (.int .i64 0), (.int .i64 0), (.int .i64 0), (.int .i64 0), (.int .i64 0), (.str []), (.bool false)] [], none⟩,
   ⟨some 51, .bin .eql (.struct [(0, true, 5, (.struct [(0, false, 1, .int), (1, false, 1, .int), (2, false, 1, .str), (3, true, 2, (.struct [(0, false, 1, .int), (1, false, 1, .int)]))])), (5, false, 1, .int), (6, true, 2, (.struct [(0, false, 1, .int), (1, false, 1, .int)])), (8, false, 1, .str), (9, false, 1, .bool)]) (.tmp 49) (.tmp 50), none⟩,
   ⟨some 2, .move (.tmp 51), none⟩]
@[simp] theorem R30_8 (x47 : AV) (l1 : List AV) :
  evK C D (.seq (.region O30_8) (.keep [2] [] c)) ⟨[(1, .l 1 0), (47, .v x47)], [(1, l1)], H⟩ k =
  (nl (rd true 10 2 l1)).bind fun t1 =>
  ((fillC [] [(.int .i64 0), (.int .i64 0), (.str []), (.int .i64 0), (.int .i64 0), (.int .i64 0), (.int .i64 0), (.int .i64 0), (.str []), (.bool false)]).map AV.agg).bind fun t2 =>
  (nl (binA .eql (.struct [(0, true, 5, (.struct [(0, false, 1, .int), (1, false, 1, .int), (2, false, 1, .str), (3, true, 2, (.struct [(0, false, 1, .int), (1, false, 1, .int)]))])), (5, false, 1, .int), (6, true, 2, (.struct [(0, false, 1, .int), (1, false, 1, .int)])), (8, false, 1, .str), (9, false, 1, .bool)]) t1 t2)).bind fun t3 =>
  evK C D c ⟨[(2, .v t3)], [], H⟩ k := by kernel_rfl
def O30_9 : List IOper :=
  [⟨some 53, .load true 12 (.tmp 1), none⟩,
   ⟨some 54, .call (.func 35) [(.tmp 53)], none⟩,
   ⟨some 52, .move (.tmp 54), none⟩,
   ⟨some 55, .extract (.tmp 52) 0, none⟩,
   ⟨some 56, .extract (.tmp 52) 1, none⟩,
   ⟨some 5, .alloc true 2 [(.int .i64 0), (.int .i64 0)], none⟩,
   ⟨none, .store 2 (.tmp 5) (.tmp 55), none⟩,
   ⟨some 6, .move (.tmp 56), none⟩]
@[simp] theorem R30_9 (l1 : List AV) :
  evK C D (.seq (.region O30_9) (.keep [1, 5, 6] [1, 5] c)) ⟨[(1, .l 1 0)], [(1, l1)], H⟩ k =
  (nl (rd true 12 0 l1)).bind fun t0 =>
  (callN C (.func (.func 35) [] []) [t0] H).bind fun r1 =>
  (nl (extA 0 r1.1)).bind fun t3 =>
  (nl (extA 1 r1.1)).bind fun t4 =>
  (stL 2 0 t3 [(.int .i64 0), (.int .i64 0)]).bind fun m6 =>
  evK C D c ⟨[(1, .l 1 0), (5, .l 5 0), (6, .v t4)], [(1, l1), (5, m6)], r1.2⟩ k := by kernel_rfl
def O30_10 : List IOper :=
  [⟨some 57, .fieldAddr 2 (.tmp 1), none⟩,
   ⟨some 58, .fieldAddr 6 (.tmp 57), none⟩,
   ⟨some 59, .load true 2 (.tmp 58), none⟩,
   ⟨some 60, .call (.func 38) [(.tmp 59)], none⟩,
   ⟨some 7, .move (.tmp 60), none⟩]
@[simp] theorem R30_10 (x6 : AV) (l1 l5 : List AV) :
  evK C D (.seq (.region O30_10) (.keep [1, 5, 6, 7] [1, 5] c)) ⟨[(1, .l 1 0), (5, .l 5 0), (6, .v x6)], [(1, l1), (5, l5)], H⟩ k =
  (nl (rd true 2 8 l1)).bind fun t2 =>
  (callN C (.func (.func 38) [] []) [t2] H).bind fun r3 =>
  evK C D c ⟨[(1, .l 1 0), (5, .l 5 0), (6, .v x6), (7, .v r3.1)], [(1, l1), (5, l5)], r3.2⟩ k := by kernel_rfl
def O30_11 : List IOper :=
  [⟨some 61, .move (.tmp 7), none⟩,
   ⟨some 62, .move (.tmp 61), none⟩,
   ⟨some 63, .move (.tmp 6), some (62, true)⟩,
   ⟨some 64, .un .not (.tmp 63), some (62, true)⟩,
   ⟨some 65, .move (.tmp 64), some (62, true)⟩,
   ⟨some 66, .load true 2 (.tmp 5), some (65, false)⟩,
   ⟨some 67, .fieldAddr 2 (.tmp 1), some (65, false)⟩,
   ⟨some 68, .fieldAddr 6 (.tmp 67), some (65, false)⟩,
   ⟨some 69, .load true 2 (.tmp 68), some (65, false)⟩,
   ⟨some 70, .call (.func 46) [(.tmp 66), (.tmp 69)], some (65, false)⟩,
   ⟨some 71, .pick (.tmp 65) (.const (.bool true)) (.tmp 70), some (62, true)⟩,
   ⟨some 72, .pick (.tmp 62) (.tmp 71) (.const (.bool false)), none⟩,
   ⟨some 2, .move (.tmp 72), none⟩]
@[simp] theorem R30_11 (x6 x7 : AV) (l1 l5 : List AV) :
  evK C D (.seq (.region O30_11) (.keep [2] [] c)) ⟨[(1, .l 1 0), (5, .l 5 0), (6, .v x6), (7, .v x7)], [(1, l1), (5, l5)], H⟩ k =
  guardK x7 true (
  (nl (unA .not x6)).bind fun t3 =>
  guardK t3 false (
  (nl (rd true 2 0 l5)).bind fun t5 =>
  (nl (rd true 2 8 l1)).bind fun t8 =>
  (callN C (.func (.func 46) [] []) [t5, t8] H).bind fun r9 =>
  evK C D c ⟨[(2, .v r9.1)], [], r9.2⟩ k)
  (evK C D c ⟨[(2, .v (.bool true))], [], H⟩ k))
  (evK C D c ⟨[(2, .v (.bool false))], [], H⟩ k) := by kernel_rfl
def F30 : FnIR := ⟨73, 1, [.tmp 2], [1, 5],
  .seq (.region O30_0)
  (.keep [1] [1] (.seq (.seq (.region O30_1)
   (.keep [1, 3] [1] (.block 0 (.loop L30_0))))
  (.keep [1] [1] (.seq (.seq (.region O30_7)
   (.keep [1, 47] [1] (.cond (.tmp 47)
    (.seq (.region O30_8)
    (.keep [2] [] (.ret)))
    (.skip))))
  (.keep [1] [1] (.seq (.region O30_9)
  (.keep [1, 5, 6] [1, 5] (.seq (.region O30_10)
  (.keep [1, 5, 6, 7] [1, 5] (.seq (.region O30_11)
  (.keep [2] [] (.ret))))))))))))⟩
/-- wampum/wampumref03.Right -/
def O38_0 : List IOper :=
  [⟨some 1, .box true 2 (.tmp 0), none⟩,
   ⟨some 2, .move (.const (.bool false)), none⟩]
@[simp] theorem R38_0 (x0 : AV) :
  evK C D (.seq (.region O38_0) (.keep [1] [1] c)) ⟨[(0, .v x0)], [], H⟩ k =
  (boxC x0).bind fun m0 =>
  evK C D c ⟨[(1, .l 1 0)], [(1, m0)], H⟩ k := by kernel_rfl
def O38_1 : List IOper :=
  [⟨some 3, .fieldAddr 0 (.tmp 1), none⟩,
   ⟨some 4, .load false 1 (.tmp 3), none⟩,
   ⟨some 5, .bin .geq .none (.tmp 4) (.const (.int .i64 0)), none⟩,
   ⟨some 6, .move (.tmp 5), none⟩,
   ⟨some 7, .fieldAddr 0 (.tmp 1), some (6, true)⟩,
   ⟨some 8, .load false 1 (.tmp 7), some (6, true)⟩,
   ⟨some 9, .bin .leq .none (.tmp 8) (.const (.int .i64 1099511627776)), some (6, true)⟩,
   ⟨some 10, .pick (.tmp 6) (.tmp 9) (.const (.bool false)), none⟩,
   ⟨some 11, .move (.tmp 10), none⟩,
   ⟨some 12, .fieldAddr 1 (.tmp 1), some (11, true)⟩,
   ⟨some 13, .load false 1 (.tmp 12), some (11, true)⟩,
   ⟨some 14, .bin .geq .none (.tmp 13) (.const (.int .i64 0)), some (11, true)⟩,
   ⟨some 15, .pick (.tmp 11) (.tmp 14) (.const (.bool false)), none⟩,
   ⟨some 16, .move (.tmp 15), none⟩,
   ⟨some 17, .fieldAddr 1 (.tmp 1), some (16, true)⟩,
   ⟨some 18, .load false 1 (.tmp 17), some (16, true)⟩,
   ⟨some 19, .bin .leq .none (.tmp 18) (.const (.int .i64 65535)), some (16, true)⟩,
   ⟨some 20, .pick (.tmp 16) (.tmp 19) (.const (.bool false)), none⟩,
   ⟨some 2, .move (.tmp 20), none⟩]
@[simp] theorem R38_1 (l1 : List AV) :
  evK C D (.seq (.region O38_1) (.keep [2] [] c)) ⟨[(1, .l 1 0)], [(1, l1)], H⟩ k =
  (nl (rd false 1 0 l1)).bind fun t1 =>
  (nl (binA .geq .none t1 (.int .i64 0))).bind fun t2 =>
  guardK t2 true (
  (nl (rd false 1 0 l1)).bind fun t5 =>
  (nl (binA .leq .none t5 (.int .i64 1099511627776))).bind fun t6 =>
  guardK t6 true (
  (nl (rd false 1 1 l1)).bind fun t10 =>
  (nl (binA .geq .none t10 (.int .i64 0))).bind fun t11 =>
  guardK t11 true (
  (nl (rd false 1 1 l1)).bind fun t15 =>
  (nl (binA .leq .none t15 (.int .i64 65535))).bind fun t16 =>
  evK C D c ⟨[(2, .v t16)], [], H⟩ k)
  (evK C D c ⟨[(2, .v (.bool false))], [], H⟩ k))
  (evK C D c ⟨[(2, .v (.bool false))], [], H⟩ k))
  (evK C D c ⟨[(2, .v (.bool false))], [], H⟩ k) := by kernel_rfl
def F38 : FnIR := ⟨21, 1, [.tmp 2], [1],
  .seq (.region O38_0)
  (.keep [1] [1] (.seq (.region O38_1)
  (.keep [2] [] (.ret))))⟩
/-- wampum/wampumref03.Less -/
def O46_0 : List IOper :=
  [⟨some 2, .box true 2 (.tmp 0), none⟩,
   ⟨some 3, .box true 2 (.tmp 1), none⟩,
   ⟨some 4, .move (.const (.bool false)), none⟩]
@[simp] theorem R46_0 (x0 x1 : AV) :
  evK C D (.seq (.region O46_0) (.keep [2, 3] [2, 3] c)) ⟨[(0, .v x0), (1, .v x1)], [], H⟩ k =
  (boxC x0).bind fun m0 =>
  (boxC x1).bind fun m1 =>
  evK C D c ⟨[(2, .l 2 0), (3, .l 3 0)], [(2, m0), (3, m1)], H⟩ k := by kernel_rfl
def O46_1 : List IOper :=
  [⟨some 5, .fieldAddr 0 (.tmp 2), none⟩,
   ⟨some 6, .load false 1 (.tmp 5), none⟩,
   ⟨some 7, .fieldAddr 0 (.tmp 3), none⟩,
   ⟨some 8, .load false 1 (.tmp 7), none⟩,
   ⟨some 9, .bin .lss .none (.tmp 6) (.tmp 8), none⟩,
   ⟨some 10, .move (.tmp 9), none⟩,
   ⟨some 11, .fieldAddr 0 (.tmp 2), some (10, false)⟩,
   ⟨some 12, .load false 1 (.tmp 11), some (10, false)⟩,
   ⟨some 13, .fieldAddr 0 (.tmp 3), some (10, false)⟩,
   ⟨some 14, .load false 1 (.tmp 13), some (10, false)⟩,
   ⟨some 15, .bin .eql .int (.tmp 12) (.tmp 14), some (10, false)⟩,
   ⟨some 16, .move (.tmp 15), some (10, false)⟩,
   ⟨some 17, .fieldAddr 1 (.tmp 2), some (16, true)⟩,
   ⟨some 18, .load false 1 (.tmp 17), some (16, true)⟩,
   ⟨some 19, .fieldAddr 1 (.tmp 3), some (16, true)⟩,
   ⟨some 20, .load false 1 (.tmp 19), some (16, true)⟩,
   ⟨some 21, .bin .lss .none (.tmp 18) (.tmp 20), some (16, true)⟩,
   ⟨some 22, .pick (.tmp 16) (.tmp 21) (.const (.bool false)), some (10, false)⟩,
   ⟨some 23, .pick (.tmp 10) (.const (.bool true)) (.tmp 22), none⟩,
   ⟨some 4, .move (.tmp 23), none⟩]
@[simp] theorem R46_1 (l2 l3 : List AV) :
  evK C D (.seq (.region O46_1) (.keep [4] [] c)) ⟨[(2, .l 2 0), (3, .l 3 0)], [(2, l2), (3, l3)], H⟩ k =
  (nl (rd false 1 0 l2)).bind fun t1 =>
  (nl (rd false 1 0 l3)).bind fun t3 =>
  (nl (binA .lss .none t1 t3)).bind fun t4 =>
  guardK t4 false (
  (nl (rd false 1 0 l2)).bind fun t7 =>
  (nl (rd false 1 0 l3)).bind fun t9 =>
  (nl (binA .eql .int t7 t9)).bind fun t10 =>
  guardK t10 true (
  (nl (rd false 1 1 l2)).bind fun t13 =>
  (nl (rd false 1 1 l3)).bind fun t15 =>
  (nl (binA .lss .none t13 t15)).bind fun t16 =>
  evK C D c ⟨[(4, .v t16)], [], H⟩ k)
  (evK C D c ⟨[(4, .v (.bool false))], [], H⟩ k))
  (evK C D c ⟨[(4, .v (.bool true))], [], H⟩ k) := by kernel_rfl
def F46 : FnIR := ⟨24, 2, [.tmp 4], [2, 3],
  .seq (.region O46_0)
  (.keep [2, 3] [2, 3] (.seq (.region O46_1)
  (.keep [4] [] (.ret))))⟩
/-- wampum/wampumref08.last -/
def O35_0 : List IOper :=
  [⟨some 1, .box true 12 (.tmp 0), none⟩,
   ⟨some 2, .alloc true 2 [(.int .i64 0), (.int .i64 0)], none⟩,
   ⟨some 3, .move (.const (.bool false)), none⟩]
@[simp] theorem R35_0 (x0 : AV) :
  evK C D (.seq (.region O35_0) (.keep [1, 2] [1, 2] c)) ⟨[(0, .v x0)], [], H⟩ k =
  (boxC x0).bind fun m0 =>
  evK C D c ⟨[(1, .l 1 0), (2, .l 2 0)], [(1, m0), (2, [(.int .i64 0), (.int .i64 0)])], H⟩ k := by kernel_rfl
def O35_1 : List IOper :=
  [⟨some 4, .fieldAddr 0 (.tmp 1), none⟩,
   ⟨some 5, .load false 1 (.tmp 4), none⟩,
   ⟨some 6, .len .slice (.tmp 5), none⟩,
   ⟨some 7, .bin .eql .int (.tmp 6) (.const (.int .i64 0)), none⟩]
@[simp] theorem R35_1 (l1 l2 : List AV) :
  evK C D (.seq (.region O35_1) (.keep [1, 2, 7] [1, 2] c)) ⟨[(1, .l 1 0), (2, .l 2 0)], [(1, l1), (2, l2)], H⟩ k =
  (nl (rd false 1 0 l1)).bind fun t1 =>
  (lenS t1).bind fun t2 =>
  (nl (binA .eql .int t2 (.int .i64 0))).bind fun t3 =>
  evK C D c ⟨[(1, .l 1 0), (2, .l 2 0), (7, .v t3)], [(1, l1), (2, l2)], H⟩ k := by kernel_rfl
def O35_2 : List IOper :=
  [⟨some 8, .build [(.int .i64 0), (.int .i64 0)] [], none⟩,
   ⟨none, .store 2 (.tmp 2) (.tmp 8), none⟩,
   ⟨some 3, .move (.const (.bool false)), none⟩]
@[simp] theorem R35_2 (x7 : AV) (l1 l2 : List AV) :
  evK C D (.seq (.region O35_2) (.keep [2, 3] [2] c)) ⟨[(1, .l 1 0), (2, .l 2 0), (7, .v x7)], [(1, l1), (2, l2)], H⟩ k =
  ((fillC [] [(.int .i64 0), (.int .i64 0)]).map AV.agg).bind fun t0 =>
  (stL 2 0 t0 l2).bind fun m1 =>
  evK C D c ⟨[(2, .l 2 0), (3, .v (.bool false))], [(2, m1)], H⟩ k := by kernel_rfl
def O35_3 : List IOper :=
  [⟨some 9, .fieldAddr 0 (.tmp 1), none⟩,
   ⟨some 10, .load false 1 (.tmp 9), none⟩,
   ⟨some 11, .fieldAddr 0 (.tmp 1), none⟩,
   ⟨some 12, .load false 1 (.tmp 11), none⟩,
   ⟨some 13, .len .slice (.tmp 12), none⟩,
   ⟨some 14, .bin .sub .none (.tmp 13) (.const (.int .i64 1)), none⟩,
   ⟨some 15, .indexAddr none 5 (.tmp 10) (.tmp 14), none⟩,
   ⟨some 16, .fieldAddr 0 (.tmp 15), none⟩,
   ⟨some 17, .load true 2 (.tmp 16), none⟩,
   ⟨none, .store 2 (.tmp 2) (.tmp 17), none⟩,
   ⟨some 3, .move (.const (.bool true)), none⟩]
@[simp] theorem R35_3 (l1 l2 : List AV) :
  evK C D (.seq (.region O35_3) (.keep [2, 3] [2] c)) ⟨[(1, .l 1 0), (2, .l 2 0)], [(1, l1), (2, l2)], H⟩ k =
  (nl (rd false 1 0 l1)).bind fun t1 =>
  (nl (rd false 1 0 l1)).bind fun t3 =>
  (lenS t3).bind fun t4 =>
  (nl (binA .sub .none t4 (.int .i64 1))).bind fun t5 =>
  (nl (idxS 5 t1 t5)).bind fun t6 =>
  (fldP 0 t6).bind fun t7 =>
  (nl (loadP H true 2 t7)).bind fun t8 =>
  (stL 2 0 t8 l2).bind fun m9 =>
  evK C D c ⟨[(2, .l 2 0), (3, .v (.bool true))], [(2, m9)], H⟩ k := by kernel_rfl
def F35 : FnIR := ⟨18, 1, [.cell 2 true 2, .tmp 3], [1, 2],
  .seq (.region O35_0)
  (.keep [1, 2] [1, 2] (.seq (.seq (.region O35_1)
   (.keep [1, 2, 7] [1, 2] (.cond (.tmp 7)
    (.seq (.region O35_2)
    (.keep [2, 3] [2] (.ret)))
    (.skip))))
  (.keep [1, 2] [1, 2] (.seq (.region O35_3)
  (.keep [2, 3] [2] (.ret))))))⟩
/-- wampum/wampumlaw08.alive -/
def O12_0 : List IOper :=
  [⟨some 0, .move (.const (.bool false)), none⟩]
@[simp] theorem R12_0 :
  evK C D (.seq (.region O12_0) (.keep [] [] c)) ⟨[], [], H⟩ k =
  evK C D c ⟨[], [], H⟩ k := by kernel_rfl
def O12_1 : List IOper :=
  [⟨some 16, .build [(.int .i64 0), (.int .i64 0), (.str []), (.int .i64 0), (.int .i64 0)] [(0, 1, (.const (.int .i64 7))), (2, 1, (.const (.str [107])))], none⟩,
   ⟨some 17, .build [(.int .i64 0), (.int .i64 0)] [(0, 1, (.const (.int .i64 5)))], none⟩,
   ⟨some 18, .build [(.int .i64 0), (.int .i64 0), (.str []), (.int .i64 0), (.int .i64 0), (.int .i64 0), (.int .i64 0), (.int .i64 0), (.str []), (.bool false)] [(0, 5, (.tmp 16)), (5, 1, (.const (.int .i64 1))), (6, 2, (.tmp 17)), (8, 1, (.const (.str [118])))], none⟩,
   ⟨some 1, .alloc true 10 [(.int .i64 0), (.int .i64 0), (.str []), (.int .i64 0), (.int .i64 0), (.int .i64 0), (.int .i64 0), (.int .i64 0), (.str []), (.bool false)], none⟩,
   ⟨none, .store 10 (.tmp 1) (.tmp 18), none⟩]
@[simp] theorem R12_1 :
  evK C D (.seq (.region O12_1) (.keep [1] [1] c)) ⟨[], [], H⟩ k =
  ((fillC [(0, 1, (.int .i64 7)), (2, 1, (.str [107]))] [(.int .i64 0), (.int .i64 0), (.str []), (.int .i64 0), (.int .i64 0)]).map AV.agg).bind fun t0 =>
  ((fillC [(0, 1, (.int .i64 5))] [(.int .i64 0), (.int .i64 0)]).map AV.agg).bind fun t1 =>
  ((fillC [(0, 5, t0), (5, 1, (.int .i64 1)), (6, 2, t1), (8, 1, (.str [118]))] [(.int .i64 0), (.int .i64 0), (.str []), (.int .i64 0), (.int .i64 0), (.int .i64 0), (.int .i64 0), (.int .i64 0), (.str []), (.bool false)]).map AV.agg).bind fun t2 =>
  (stL 10 0 t2 [(.int .i64 0), (.int .i64 0), (.str []), (.int .i64 0), (.int .i64 0), (.int .i64 0), (.int .i64 0), (.int .i64 0), (.str []), (.bool false)]).bind fun m4 =>
  evK C D c ⟨[(1, .l 1 0)], [(1, m4)], H⟩ k := by kernel_rfl
def O12_2 : List IOper :=
  [⟨some 20, .build [.nils, (.bool false), (.int .i64 0), (.int .i64 0), (.str []), (.int .i64 0), (.int .i64 0), (.int .i64 0), (.int .i64 0), (.int .i64 0), (.str []), (.bool false)] [], none⟩,
   ⟨some 21, .load true 10 (.tmp 1), none⟩,
   ⟨some 22, .call (.func 14) [(.tmp 20), (.tmp 21)], none⟩,
   ⟨some 19, .move (.tmp 22), none⟩,
   ⟨some 23, .extract (.tmp 19) 0, none⟩,
   ⟨some 24, .extract (.tmp 19) 1, none⟩,
   ⟨some 25, .extract (.tmp 19) 2, none⟩,
   ⟨some 26, .extract (.tmp 19) 3, none⟩,
   ⟨some 2, .alloc true 12 [.nils, (.bool false), (.int .i64 0), (.int .i64 0), (.str []), (.int .i64 0), (.int .i64 0), (.int .i64 0), (.int .i64 0), (.int .i64 0), (.str []), (.bool false)], none⟩,
   ⟨some 3, .alloc true 2 [(.int .i64 0), (.int .i64 0)], none⟩,
   ⟨some 4, .alloc true 5 [(.int .i64 0), (.int .i64 0), (.str []), (.int .i64 0), (.int .i64 0)], none⟩,
   ⟨none, .store 12 (.tmp 2) (.tmp 23), none⟩,
   ⟨none, .store 2 (.tmp 3) (.tmp 24), none⟩,
   ⟨none, .store 5 (.tmp 4) (.tmp 25), none⟩,
   ⟨some 5, .move (.tmp 26), none⟩]
@[simp] theorem R12_2 (l1 : List AV) :
  evK C D (.seq (.region O12_2) (.keep [2, 3, 5] [2, 3] c)) ⟨[(1, .l 1 0)], [(1, l1)], H⟩ k =
  ((fillC [] [.nils, (.bool false), (.int .i64 0), (.int .i64 0), (.str []), (.int .i64 0), (.int .i64 0), (.int .i64 0), (.int .i64 0), (.int .i64 0), (.str []), (.bool false)]).map AV.agg).bind fun t0 =>
  (nl (rd true 10 0 l1)).bind fun t1 =>
  (callN C (.func (.func 14) [] []) [t0, t1] H).bind fun r2 =>
  (nl (extA 0 r2.1)).bind fun t4 =>
  (nl (extA 1 r2.1)).bind fun t5 =>
  (nl (extA 2 r2.1)).bind fun t6 =>
  (nl (extA 3 r2.1)).bind fun t7 =>
  (stL 12 0 t4 [.nils, (.bool false), (.int .i64 0), (.int .i64 0), (.str []), (.int .i64 0), (.int .i64 0), (.int .i64 0), (.int .i64 0), (.int .i64 0), (.str []), (.bool false)]).bind fun m11 =>
  (stL 2 0 t5 [(.int .i64 0), (.int .i64 0)]).bind fun m12 =>
  (stL 5 0 t6 [(.int .i64 0), (.int .i64 0), (.str []), (.int .i64 0), (.int .i64 0)]).bind fun m13 =>
  evK C D c ⟨[(2, .l 2 0), (3, .l 3 0), (5, .v t7)], [(2, m11), (3, m12)], r2.2⟩ k := by kernel_rfl
def O12_3 : List IOper :=
  [⟨some 28, .load true 12 (.tmp 2), none⟩,
   ⟨some 29, .build [(.int .i64 0), (.int .i64 0)] [(0, 1, (.const (.int .i64 6)))], none⟩,
   ⟨some 30, .call (.func 16) [(.tmp 28), (.const (.int .i64 7)), (.const (.int .i64 0)), (.const (.bool true)), (.tmp 29)], none⟩,
   ⟨some 27, .move (.tmp 30), none⟩,
   ⟨some 31, .extract (.tmp 27) 0, none⟩,
   ⟨some 32, .extract (.tmp 27) 1, none⟩,
   ⟨some 6, .alloc true 12 [.nils, (.bool false), (.int .i64 0), (.int .i64 0), (.str []), (.int .i64 0), (.int .i64 0), (.int .i64 0), (.int .i64 0), (.int .i64 0), (.str []), (.bool false)], none⟩,
   ⟨none, .store 12 (.tmp 6) (.tmp 31), none⟩,
   ⟨some 7, .move (.tmp 32), none⟩]
@[simp] theorem R12_3 (x5 : AV) (l2 l3 : List AV) :
  evK C D (.seq (.region O12_3) (.keep [3, 5, 6, 7] [3, 6] c)) ⟨[(2, .l 2 0), (3, .l 3 0), (5, .v x5)], [(2, l2), (3, l3)], H⟩ k =
  (nl (rd true 12 0 l2)).bind fun t0 =>
  ((fillC [(0, 1, (.int .i64 6))] [(.int .i64 0), (.int .i64 0)]).map AV.agg).bind fun t1 =>
  (callN C (.func (.func 16) [] []) [t0, (.int .i64 7), (.int .i64 0), (.bool true), t1] H).bind fun r2 =>
  (nl (extA 0 r2.1)).bind fun t4 =>
  (nl (extA 1 r2.1)).bind fun t5 =>
  (stL 12 0 t4 [.nils, (.bool false), (.int .i64 0), (.int .i64 0), (.str []), (.int .i64 0), (.int .i64 0), (.int .i64 0), (.int .i64 0), (.int .i64 0), (.str []), (.bool false)]).bind fun m7 =>
  evK C D c ⟨[(3, .l 3 0), (5, .v x5), (6, .l 6 0), (7, .v t5)], [(3, l3), (6, m7)], r2.2⟩ k := by kernel_rfl
def O12_4 : List IOper :=
  [⟨some 34, .load true 12 (.tmp 6), none⟩,
   ⟨some 35, .build [(.int .i64 0), (.int .i64 0)] [(0, 1, (.const (.int .i64 6)))], none⟩,
   ⟨some 36, .build [(.int .i64 0), (.int .i64 0)] [(0, 1, (.const (.int .i64 6)))], none⟩,
   ⟨some 37, .call (.func 19) [(.tmp 34), (.tmp 35), (.tmp 36), (.const (.int .i64 0)), (.const (.int .i64 0))], none⟩,
   ⟨some 33, .move (.tmp 37), none⟩,
   ⟨some 38, .extract (.tmp 33) 0, none⟩,
   ⟨some 39, .extract (.tmp 33) 1, none⟩,
   ⟨some 40, .extract (.tmp 33) 2, none⟩,
   ⟨some 41, .extract (.tmp 33) 3, none⟩,
   ⟨some 8, .alloc true 5 [(.int .i64 0), (.int .i64 0), (.str []), (.bool false), (.int .i64 0)], none⟩,
   ⟨some 10, .alloc true 5 [(.int .i64 0), (.int .i64 0), (.str []), (.int .i64 0), (.int .i64 0)], none⟩,
   ⟨none, .store 5 (.tmp 8) (.tmp 38), none⟩,
   ⟨some 9, .move (.tmp 39), none⟩,
   ⟨none, .store 5 (.tmp 10) (.tmp 40), none⟩,
   ⟨some 11, .move (.tmp 41), none⟩]
@[simp] theorem R12_4 (x5 x7 : AV) (l3 l6 : List AV) :
  evK C D (.seq (.region O12_4) (.keep [3, 5, 6, 7, 8, 9, 11] [3, 6, 8] c)) ⟨[(3, .l 3 0), (5, .v x5), (6, .l 6 0), (7, .v x7)], [(3, l3), (6, l6)], H⟩ k =
  (nl (rd true 12 0 l6)).bind fun t0 =>
  ((fillC [(0, 1, (.int .i64 6))] [(.int .i64 0), (.int .i64 0)]).map AV.agg).bind fun t1 =>
  ((fillC [(0, 1, (.int .i64 6))] [(.int .i64 0), (.int .i64 0)]).map AV.agg).bind fun t2 =>
  (callN C (.func (.func 19) [] []) [t0, t1, t2, (.int .i64 0), (.int .i64 0)] H).bind fun r3 =>
  (nl (extA 0 r3.1)).bind fun t5 =>
  (nl (extA 1 r3.1)).bind fun t6 =>
  (nl (extA 2 r3.1)).bind fun t7 =>
  (nl (extA 3 r3.1)).bind fun t8 =>
  (stL 5 0 t5 [(.int .i64 0), (.int .i64 0), (.str []), (.bool false), (.int .i64 0)]).bind fun m11 =>
  (stL 5 0 t7 [(.int .i64 0), (.int .i64 0), (.str []), (.int .i64 0), (.int .i64 0)]).bind fun m13 =>
  evK C D c ⟨[(3, .l 3 0), (5, .v x5), (6, .l 6 0), (7, .v x7), (8, .l 8 0), (9, .v t6), (11, .v t8)], [(3, l3), (6, l6), (8, m11)], r3.2⟩ k := by kernel_rfl
def O12_5 : List IOper :=
  [⟨some 43, .load true 12 (.tmp 6), none⟩,
   ⟨some 44, .build [(.int .i64 0), (.int .i64 0)] [(0, 1, (.const (.int .i64 5)))], none⟩,
   ⟨some 45, .build [(.int .i64 0), (.int .i64 0)] [(0, 1, (.const (.int .i64 9)))], none⟩,
   ⟨some 46, .call (.func 19) [(.tmp 43), (.tmp 44), (.tmp 45), (.const (.int .i64 0)), (.const (.int .i64 0))], none⟩,
   ⟨some 42, .move (.tmp 46), none⟩,
   ⟨some 47, .extract (.tmp 42) 0, none⟩,
   ⟨some 48, .extract (.tmp 42) 1, none⟩,
   ⟨some 49, .extract (.tmp 42) 2, none⟩,
   ⟨some 50, .extract (.tmp 42) 3, none⟩,
   ⟨some 12, .alloc true 5 [(.int .i64 0), (.int .i64 0), (.str []), (.bool false), (.int .i64 0)], none⟩,
   ⟨some 14, .alloc true 5 [(.int .i64 0), (.int .i64 0), (.str []), (.int .i64 0), (.int .i64 0)], none⟩,
   ⟨none, .store 5 (.tmp 12) (.tmp 47), none⟩,
   ⟨some 13, .move (.tmp 48), none⟩,
   ⟨none, .store 5 (.tmp 14) (.tmp 49), none⟩,
   ⟨some 15, .move (.tmp 50), none⟩]
@[simp] theorem R12_5 (x5 x7 x9 x11 : AV) (l3 l6 l8 : List AV) :
  evK C D (.seq (.region O12_5) (.keep [3, 5, 7, 8, 9, 11, 15] [3, 8] c)) ⟨[(3, .l 3 0), (5, .v x5), (6, .l 6 0), (7, .v x7), (8, .l 8 0), (9, .v x9), (11, .v x11)], [(3, l3), (6, l6), (8, l8)], H⟩ k =
  (nl (rd true 12 0 l6)).bind fun t0 =>
  ((fillC [(0, 1, (.int .i64 5))] [(.int .i64 0), (.int .i64 0)]).map AV.agg).bind fun t1 =>
  ((fillC [(0, 1, (.int .i64 9))] [(.int .i64 0), (.int .i64 0)]).map AV.agg).bind fun t2 =>
  (callN C (.func (.func 19) [] []) [t0, t1, t2, (.int .i64 0), (.int .i64 0)] H).bind fun r3 =>
  (nl (extA 0 r3.1)).bind fun t5 =>
  (nl (extA 1 r3.1)).bind fun t6 =>
  (nl (extA 2 r3.1)).bind fun t7 =>
  (nl (extA 3 r3.1)).bind fun t8 =>
  (stL 5 0 t5 [(.int .i64 0), (.int .i64 0), (.str []), (.bool false), (.int .i64 0)]).bind fun m11 =>
  (stL 5 0 t7 [(.int .i64 0), (.int .i64 0), (.str []), (.int .i64 0), (.int .i64 0)]).bind fun m13 =>
  evK C D c ⟨[(3, .l 3 0), (5, .v x5), (7, .v x7), (8, .l 8 0), (9, .v x9), (11, .v x11), (15, .v t8)], [(3, l3), (8, l8)], r3.2⟩ k := by kernel_rfl
def O12_6 : List IOper :=
  [⟨some 51, .move (.tmp 5), none⟩,
   ⟨some 52, .bin .eql .int (.tmp 51) (.const (.int .i64 0)), none⟩,
   ⟨some 53, .move (.tmp 52), none⟩,
   ⟨some 54, .move (.tmp 7), some (53, true)⟩,
   ⟨some 55, .bin .eql .int (.tmp 54) (.const (.int .i64 0)), some (53, true)⟩,
   ⟨some 56, .pick (.tmp 53) (.tmp 55) (.const (.bool false)), none⟩,
   ⟨some 57, .move (.tmp 56), none⟩,
   ⟨some 58, .move (.tmp 11), some (57, true)⟩,
   ⟨some 59, .bin .eql .int (.tmp 58) (.const (.int .i64 0)), some (57, true)⟩,
   ⟨some 60, .pick (.tmp 57) (.tmp 59) (.const (.bool false)), none⟩,
   ⟨some 61, .move (.tmp 60), none⟩,
   ⟨some 62, .load true 2 (.tmp 3), some (61, true)⟩,
   ⟨some 63, .build [(.int .i64 0), (.int .i64 0)] [(0, 1, (.const (.int .i64 5)))], some (61, true)⟩,
   ⟨some 64, .bin .eql (.struct [(0, false, 1, .int), (1, false, 1, .int)]) (.tmp 62) (.tmp 63), some (61, true)⟩,
   ⟨some 65, .pick (.tmp 61) (.tmp 64) (.const (.bool false)), none⟩,
   ⟨some 66, .move (.tmp 65), none⟩,
   ⟨some 67, .move (.tmp 9), some (66, true)⟩,
   ⟨some 68, .pick (.tmp 66) (.tmp 67) (.const (.bool false)), none⟩,
   ⟨some 69, .move (.tmp 68), none⟩,
   ⟨some 70, .fieldAddr 2 (.tmp 8), some (69, true)⟩,
   ⟨some 71, .load false 1 (.tmp 70), some (69, true)⟩,
   ⟨some 72, .bin .eql .str (.tmp 71) (.const (.str [118])), some (69, true)⟩,
   ⟨some 73, .pick (.tmp 69) (.tmp 72) (.const (.bool false)), none⟩,
   ⟨some 74, .move (.tmp 73), none⟩,
   ⟨some 75, .move (.tmp 15), some (74, true)⟩,
   ⟨some 76, .bin .eql .int (.tmp 75) (.const (.int .i64 82)), some (74, true)⟩,
   ⟨some 77, .pick (.tmp 74) (.tmp 76) (.const (.bool false)), none⟩,
   ⟨some 0, .move (.tmp 77), none⟩]
@[simp] theorem R12_6 (x5 x7 x9 x11 x15 : AV) (l3 l8 : List AV) :
  evK C D (.seq (.region O12_6) (.keep [0] [] c)) ⟨[(3, .l 3 0), (5, .v x5), (7, .v x7), (8, .l 8 0), (9, .v x9), (11, .v x11), (15, .v x15)], [(3, l3), (8, l8)], H⟩ k =
  (nl (binA .eql .int x5 (.int .i64 0))).bind fun t1 =>
  guardK t1 true (
  (nl (binA .eql .int x7 (.int .i64 0))).bind fun t4 =>
  guardK t4 true (
  (nl (binA .eql .int x11 (.int .i64 0))).bind fun t8 =>
  guardK t8 true (
  (nl (rd true 2 0 l3)).bind fun t11 =>
  ((fillC [(0, 1, (.int .i64 5))] [(.int .i64 0), (.int .i64 0)]).map AV.agg).bind fun t12 =>
  (nl (binA .eql (.struct [(0, false, 1, .int), (1, false, 1, .int)]) t11 t12)).bind fun t13 =>
  guardK t13 true (
  guardK x9 true (
  (nl (rd false 1 2 l8)).bind fun t20 =>
  (nl (binA .eql .str t20 (.str [118]))).bind fun t21 =>
  guardK t21 true (
  (nl (binA .eql .int x15 (.int .i64 82))).bind fun t25 =>
  evK C D c ⟨[(0, .v t25)], [], H⟩ k)
  (evK C D c ⟨[(0, .v (.bool false))], [], H⟩ k))
  (evK C D c ⟨[(0, .v (.bool false))], [], H⟩ k))
  (evK C D c ⟨[(0, .v (.bool false))], [], H⟩ k))
  (evK C D c ⟨[(0, .v (.bool false))], [], H⟩ k))
  (evK C D c ⟨[(0, .v (.bool false))], [], H⟩ k))
  (evK C D c ⟨[(0, .v (.bool false))], [], H⟩ k) := by kernel_rfl
def F12 : FnIR := ⟨78, 0, [.tmp 0], [1, 2, 3, 4, 6, 8, 10, 12, 14],
  .seq (.region O12_0)
  (.keep [] [] (.seq (.region O12_1)
  (.keep [1] [1] (.seq (.region O12_2)
  (.keep [2, 3, 5] [2, 3] (.seq (.region O12_3)
  (.keep [3, 5, 6, 7] [3, 6] (.seq (.region O12_4)
  (.keep [3, 5, 6, 7, 8, 9, 11] [3, 6, 8] (.seq (.region O12_5)
  (.keep [3, 5, 7, 8, 9, 11, 15] [3, 8] (.seq (.region O12_6)
  (.keep [0] [] (.ret))))))))))))))⟩
/-- wampum/version.Write -/
def O14_0 : List IOper :=
  [⟨some 2, .box true 12 (.tmp 0), none⟩,
   ⟨some 3, .box false 10 (.tmp 1), none⟩,
   ⟨some 4, .alloc true 12 [.nils, (.bool false), (.int .i64 0), (.int .i64 0), (.str []), (.int .i64 0), (.int .i64 0), (.int .i64 0), (.int .i64 0), (.int .i64 0), (.str []), (.bool false)], none⟩,
   ⟨some 5, .alloc true 2 [(.int .i64 0), (.int .i64 0)], none⟩,
   ⟨some 6, .alloc true 5 [(.int .i64 0), (.int .i64 0), (.str []), (.int .i64 0), (.int .i64 0)], none⟩,
   ⟨some 7, .move (.const (.int .i64 0)), none⟩]
@[simp] theorem R14_0 (x0 x1 : AV) :
  evK C D (.seq (.region O14_0) (.keep [2, 3, 4, 5, 6] [2, 4, 5, 6] c)) ⟨[(0, .v x0), (1, .v x1)], [], H⟩ k =
  (boxC x0).bind fun m0 =>
  ((boxC x1).map fun cs => (AV.ptr H.n 0, H.alloc (.row false 10 cs))).bind fun r1 =>
  evK C D c ⟨[(2, .l 2 0), (3, .v r1.1), (4, .l 4 0), (5, .l 5 0), (6, .l 6 0)], [(2, m0), (4, [.nils, (.bool false), (.int .i64 0), (.int .i64 0), (.str []), (.int .i64 0), (.int .i64 0), (.int .i64 0), (.int .i64 0), (.int .i64 0), (.str []), (.bool false)]), (5, [(.int .i64 0), (.int .i64 0)]), (6, [(.int .i64 0), (.int .i64 0), (.str []), (.int .i64 0), (.int .i64 0)])], r1.2⟩ k := by kernel_rfl
def O14_1 : List IOper :=
  [⟨some 8, .alloc true 5 [(.int .i64 0), (.int .i64 0), (.str []), (.int .i64 0), (.int .i64 0)], none⟩]
@[simp] theorem R14_1 (x3 : AV) (l2 l4 l5 l6 : List AV) :
  evK C D (.seq (.region O14_1) (.keep [2, 3, 4, 5, 6, 8] [2, 4, 5, 6, 8] c)) ⟨[(2, .l 2 0), (3, .v x3), (4, .l 4 0), (5, .l 5 0), (6, .l 6 0)], [(2, l2), (4, l4), (5, l5), (6, l6)], H⟩ k =
  evK C D c ⟨[(2, .l 2 0), (3, .v x3), (4, .l 4 0), (5, .l 5 0), (6, .l 6 0), (8, .l 8 0)], [(2, l2), (4, l4), (5, l5), (6, l6), (8, [(.int .i64 0), (.int .i64 0), (.str []), (.int .i64 0), (.int .i64 0)])], H⟩ k := by kernel_rfl
def O14_2 : List IOper :=
  [⟨some 12, .fieldAddr 2 (.tmp 2), none⟩,
   ⟨some 13, .load true 10 (.tmp 12), none⟩,
   ⟨some 9, .alloc true 10 [(.int .i64 0), (.int .i64 0), (.str []), (.int .i64 0), (.int .i64 0), (.int .i64 0), (.int .i64 0), (.int .i64 0), (.str []), (.bool false)], none⟩,
   ⟨none, .store 10 (.tmp 9) (.tmp 13), none⟩]
@[simp] theorem R14_2 (x3 : AV) (l2 l4 l5 l6 l8 : List AV) :
  evK C D (.seq (.region O14_2) (.keep [2, 3, 4, 5, 6, 8, 9] [2, 4, 5, 6, 8, 9] c)) ⟨[(2, .l 2 0), (3, .v x3), (4, .l 4 0), (5, .l 5 0), (6, .l 6 0), (8, .l 8 0)], [(2, l2), (4, l4), (5, l5), (6, l6), (8, l8)], H⟩ k =
  (nl (rd true 10 2 l2)).bind fun t1 =>
  (stL 10 0 t1 [(.int .i64 0), (.int .i64 0), (.str []), (.int .i64 0), (.int .i64 0), (.int .i64 0), (.int .i64 0), (.int .i64 0), (.str []), (.bool false)]).bind fun m3 =>
  evK C D c ⟨[(2, .l 2 0), (3, .v x3), (4, .l 4 0), (5, .l 5 0), (6, .l 6 0), (8, .l 8 0), (9, .l 9 0)], [(2, l2), (4, l4), (5, l5), (6, l6), (8, l8), (9, m3)], H⟩ k := by kernel_rfl
def O14_3 : List IOper :=
  [⟨some 15, .fieldAddr 1 (.tmp 2), none⟩,
   ⟨some 16, .load false 1 (.tmp 15), none⟩,
   ⟨some 17, .move (.tmp 16), none⟩,
   ⟨some 18, .fieldAddr 0 (.tmp 9), some (17, true)⟩,
   ⟨some 19, .fieldAddr 0 (.tmp 18), some (17, true)⟩,
   ⟨some 20, .load false 1 (.tmp 19), some (17, true)⟩,
   ⟨some 21, .fieldAddr 0 (.tmp 3), some (17, true)⟩,
   ⟨some 22, .fieldAddr 0 (.tmp 21), some (17, true)⟩,
   ⟨some 23, .load false 1 (.tmp 22), some (17, true)⟩,
   ⟨some 24, .bin .neq .int (.tmp 20) (.tmp 23), some (17, true)⟩,
   ⟨some 25, .pick (.tmp 17) (.tmp 24) (.const (.bool false)), none⟩,
   ⟨some 14, .move (.tmp 25), none⟩]
@[simp] theorem R14_3 (x3 : AV) (l2 l4 l5 l6 l8 l9 : List AV) :
  evK C D (.seq (.region O14_3) (.keep [2, 3, 4, 5, 6, 8, 9, 14] [2, 4, 5, 6, 8, 9] c)) ⟨[(2, .l 2 0), (3, .v x3), (4, .l 4 0), (5, .l 5 0), (6, .l 6 0), (8, .l 8 0), (9, .l 9 0)], [(2, l2), (4, l4), (5, l5), (6, l6), (8, l8), (9, l9)], H⟩ k =
  (nl (rd false 1 1 l2)).bind fun t1 =>
  guardK t1 true (
  (nl (rd false 1 0 l9)).bind fun t5 =>
  (fldP 0 x3).bind fun t6 =>
  (fldP 0 t6).bind fun t7 =>
  (nl (loadP H false 1 t7)).bind fun t8 =>
  (nl (binA .neq .int t5 t8)).bind fun t9 =>
  evK C D c ⟨[(2, .l 2 0), (3, .v x3), (4, .l 4 0), (5, .l 5 0), (6, .l 6 0), (8, .l 8 0), (9, .l 9 0), (14, .v t9)], [(2, l2), (4, l4), (5, l5), (6, l6), (8, l8), (9, l9)], H⟩ k)
  (evK C D c ⟨[(2, .l 2 0), (3, .v x3), (4, .l 4 0), (5, .l 5 0), (6, .l 6 0), (8, .l 8 0), (9, .l 9 0), (14, .v (.bool false))], [(2, l2), (4, l4), (5, l5), (6, l6), (8, l8), (9, l9)], H⟩ k) := by kernel_rfl
def O14_4 : List IOper :=
  [⟨some 26, .build [.nils, (.bool false), (.int .i64 0), (.int .i64 0), (.str []), (.int .i64 0), (.int .i64 0), (.int .i64 0), (.int .i64 0), (.int .i64 0), (.str []), (.bool false)] [], none⟩,
   ⟨none, .store 12 (.tmp 4) (.tmp 26), none⟩,
   ⟨some 27, .build [(.int .i64 0), (.int .i64 0)] [], none⟩,
   ⟨none, .store 2 (.tmp 5) (.tmp 27), none⟩,
   ⟨some 28, .fieldAddr 0 (.tmp 9), none⟩,
   ⟨some 29, .load true 5 (.tmp 28), none⟩,
   ⟨none, .store 5 (.tmp 6) (.tmp 29), none⟩,
   ⟨some 7, .move (.const (.int .i64 81)), none⟩]
@[simp] theorem R14_4 (x3 x14 : AV) (l2 l4 l5 l6 l8 l9 : List AV) :
  evK C D (.seq (.regionD O14_4 [(5, 0), (5, 2)]) (.keep [4, 5, 6, 7] [4, 5, 6] c)) ⟨[(2, .l 2 0), (3, .v x3), (4, .l 4 0), (5, .l 5 0), (6, .l 6 0), (8, .l 8 0), (9, .l 9 0), (14, .v x14)], [(2, l2), (4, l4), (5, l5), (6, l6), (8, l8), (9, l9)], H⟩ k =
  ((fillC [] [.nils, (.bool false), (.int .i64 0), (.int .i64 0), (.str []), (.int .i64 0), (.int .i64 0), (.int .i64 0), (.int .i64 0), (.int .i64 0), (.str []), (.bool false)]).map AV.agg).bind fun t0 =>
  (stL 12 0 t0 l4).bind fun m1 =>
  ((fillC [] [(.int .i64 0), (.int .i64 0)]).map AV.agg).bind fun t2 =>
  (stL 2 0 t2 l5).bind fun m3 =>
  (nl (rd true 5 0 l9)).bind fun t5 =>
  kB (AV.okB H.n t5) (
  (stL 5 0 t5 l6).bind fun m6 =>
  kB (chk (rd true 5 0 l9) t5) (
  kB (chk (rd true 5 0 l9) t5) (
  evK C D c ⟨[(4, .l 4 0), (5, .l 5 0), (6, .l 6 0), (7, .v (.int .i64 81))], [(4, m1), (5, m3), (6, m6)], H⟩ k))) := by kernel_rfl
def O14_5 : List IOper :=
  [⟨some 31, .fieldAddr 0 (.tmp 2), none⟩,
   ⟨some 32, .load false 1 (.tmp 31), none⟩,
   ⟨some 33, .mkFunc (.func 32) [] [(.tmp 3)], none⟩,
   ⟨some 34, .call (.func 31) [(.tmp 32), (.tmp 33)], none⟩,
   ⟨some 30, .move (.tmp 34), none⟩]
@[simp] theorem R14_5 (x3 x14 : AV) (l2 l4 l5 l6 l8 l9 : List AV) :
  evK C D (.seq (.region O14_5) (.keep [2, 3, 4, 5, 6, 8, 9, 30] [2, 4, 5, 6, 8, 9] c)) ⟨[(2, .l 2 0), (3, .v x3), (4, .l 4 0), (5, .l 5 0), (6, .l 6 0), (8, .l 8 0), (9, .l 9 0), (14, .v x14)], [(2, l2), (4, l4), (5, l5), (6, l6), (8, l8), (9, l9)], H⟩ k =
  (nl (rd false 1 0 l2)).bind fun t1 =>
  (funcV (.func 32) [] [x3]).bind fun t2 =>
  (callN C (.func (.func 31) [] []) [t1, t2] H).bind fun r3 =>
  evK C D c ⟨[(2, .l 2 0), (3, .v x3), (4, .l 4 0), (5, .l 5 0), (6, .l 6 0), (8, .l 8 0), (9, .l 9 0), (30, .v r3.1)], [(2, l2), (4, l4), (5, l5), (6, l6), (8, l8), (9, l9)], r3.2⟩ k := by kernel_rfl
def O14_6 : List IOper :=
  [⟨some 35, .build [.nils, (.bool false), (.int .i64 0), (.int .i64 0), (.str []), (.int .i64 0), (.int .i64 0), (.int .i64 0), (.int .i64 0), (.int .i64 0), (.str []), (.bool false)] [], none⟩,
   ⟨none, .store 12 (.tmp 4) (.tmp 35), none⟩,
   ⟨some 36, .build [(.int .i64 0), (.int .i64 0)] [], none⟩,
   ⟨none, .store 2 (.tmp 5) (.tmp 36), none⟩,
   ⟨some 37, .load true 5 (.tmp 8), none⟩,
   ⟨none, .store 5 (.tmp 6) (.tmp 37), none⟩,
   ⟨some 7, .move (.const (.int .i64 83)), none⟩]
@[simp] theorem R14_6 (x3 x30 : AV) (l2 l4 l5 l6 l8 l9 : List AV) :
  evK C D (.seq (.regionD O14_6 [(4, 0), (4, 2)]) (.keep [4, 5, 6, 7] [4, 5, 6] c)) ⟨[(2, .l 2 0), (3, .v x3), (4, .l 4 0), (5, .l 5 0), (6, .l 6 0), (8, .l 8 0), (9, .l 9 0), (30, .v x30)], [(2, l2), (4, l4), (5, l5), (6, l6), (8, l8), (9, l9)], H⟩ k =
  ((fillC [] [.nils, (.bool false), (.int .i64 0), (.int .i64 0), (.str []), (.int .i64 0), (.int .i64 0), (.int .i64 0), (.int .i64 0), (.int .i64 0), (.str []), (.bool false)]).map AV.agg).bind fun t0 =>
  (stL 12 0 t0 l4).bind fun m1 =>
  ((fillC [] [(.int .i64 0), (.int .i64 0)]).map AV.agg).bind fun t2 =>
  (stL 2 0 t2 l5).bind fun m3 =>
  (nl (rd true 5 0 l8)).bind fun t4 =>
  kB (AV.okB H.n t4) (
  (stL 5 0 t4 l6).bind fun m5 =>
  kB (chk (rd true 5 0 l8) t4) (
  kB (chk (rd true 5 0 l8) t4) (
  evK C D c ⟨[(4, .l 4 0), (5, .l 5 0), (6, .l 6 0), (7, .v (.int .i64 83))], [(4, m1), (5, m3), (6, m5)], H⟩ k))) := by kernel_rfl
def O14_7 : List IOper :=
  [⟨some 39, .fieldAddr 1 (.tmp 2), none⟩,
   ⟨some 40, .load false 1 (.tmp 39), none⟩,
   ⟨some 41, .move (.tmp 40), none⟩,
   ⟨some 42, .fieldAddr 0 (.tmp 9), some (41, true)⟩,
   ⟨some 43, .fieldAddr 1 (.tmp 42), some (41, true)⟩,
   ⟨some 44, .load false 1 (.tmp 43), some (41, true)⟩,
   ⟨some 45, .fieldAddr 0 (.tmp 3), some (41, true)⟩,
   ⟨some 46, .fieldAddr 1 (.tmp 45), some (41, true)⟩,
   ⟨some 47, .load false 1 (.tmp 46), some (41, true)⟩,
   ⟨some 48, .bin .gtr .none (.tmp 44) (.tmp 47), some (41, true)⟩,
   ⟨some 49, .pick (.tmp 41) (.tmp 48) (.const (.bool false)), none⟩,
   ⟨some 38, .move (.tmp 49), none⟩]
@[simp] theorem R14_7 (x3 x30 : AV) (l2 l4 l5 l6 l8 l9 : List AV) :
  evK C D (.seq (.region O14_7) (.keep [2, 3, 4, 5, 6, 8, 9, 38] [2, 4, 5, 6, 8, 9] c)) ⟨[(2, .l 2 0), (3, .v x3), (4, .l 4 0), (5, .l 5 0), (6, .l 6 0), (8, .l 8 0), (9, .l 9 0), (30, .v x30)], [(2, l2), (4, l4), (5, l5), (6, l6), (8, l8), (9, l9)], H⟩ k =
  (nl (rd false 1 1 l2)).bind fun t1 =>
  guardK t1 true (
  (nl (rd false 1 1 l9)).bind fun t5 =>
  (fldP 0 x3).bind fun t6 =>
  (fldP 1 t6).bind fun t7 =>
  (nl (loadP H false 1 t7)).bind fun t8 =>
  (nl (binA .gtr .none t5 t8)).bind fun t9 =>
  evK C D c ⟨[(2, .l 2 0), (3, .v x3), (4, .l 4 0), (5, .l 5 0), (6, .l 6 0), (8, .l 8 0), (9, .l 9 0), (38, .v t9)], [(2, l2), (4, l4), (5, l5), (6, l6), (8, l8), (9, l9)], H⟩ k)
  (evK C D c ⟨[(2, .l 2 0), (3, .v x3), (4, .l 4 0), (5, .l 5 0), (6, .l 6 0), (8, .l 8 0), (9, .l 9 0), (38, .v (.bool false))], [(2, l2), (4, l4), (5, l5), (6, l6), (8, l8), (9, l9)], H⟩ k) := by kernel_rfl
def O14_8 : List IOper :=
  [⟨some 50, .build [.nils, (.bool false), (.int .i64 0), (.int .i64 0), (.str []), (.int .i64 0), (.int .i64 0), (.int .i64 0), (.int .i64 0), (.int .i64 0), (.str []), (.bool false)] [], none⟩,
   ⟨none, .store 12 (.tmp 4) (.tmp 50), none⟩,
   ⟨some 51, .build [(.int .i64 0), (.int .i64 0)] [], none⟩,
   ⟨none, .store 2 (.tmp 5) (.tmp 51), none⟩,
   ⟨some 52, .load true 5 (.tmp 8), none⟩,
   ⟨none, .store 5 (.tmp 6) (.tmp 52), none⟩,
   ⟨some 7, .move (.const (.int .i64 84)), none⟩]
@[simp] theorem R14_8 (x3 x38 : AV) (l2 l4 l5 l6 l8 l9 : List AV) :
  evK C D (.seq (.regionD O14_8 [(4, 0), (4, 2)]) (.keep [4, 5, 6, 7] [4, 5, 6] c)) ⟨[(2, .l 2 0), (3, .v x3), (4, .l 4 0), (5, .l 5 0), (6, .l 6 0), (8, .l 8 0), (9, .l 9 0), (38, .v x38)], [(2, l2), (4, l4), (5, l5), (6, l6), (8, l8), (9, l9)], H⟩ k =
  ((fillC [] [.nils, (.bool false), (.int .i64 0), (.int .i64 0), (.str []), (.int .i64 0), (.int .i64 0), (.int .i64 0), (.int .i64 0), (.int .i64 0), (.str []), (.bool false)]).map AV.agg).bind fun t0 =>
  (stL 12 0 t0 l4).bind fun m1 =>
  ((fillC [] [(.int .i64 0), (.int .i64 0)]).map AV.agg).bind fun t2 =>
  (stL 2 0 t2 l5).bind fun m3 =>
  (nl (rd true 5 0 l8)).bind fun t4 =>
  kB (AV.okB H.n t4) (
  (stL 5 0 t4 l6).bind fun m5 =>
  kB (chk (rd true 5 0 l8) t4) (
  kB (chk (rd true 5 0 l8) t4) (
  evK C D c ⟨[(4, .l 4 0), (5, .l 5 0), (6, .l 6 0), (7, .v (.int .i64 84))], [(4, m1), (5, m3), (6, m5)], H⟩ k))) := by kernel_rfl
def O14_9 : List IOper :=
  [⟨some 54, .fieldAddr 1 (.tmp 2), none⟩,
   ⟨some 55, .load false 1 (.tmp 54), none⟩,
   ⟨some 56, .move (.tmp 55), none⟩,
   ⟨some 57, .fieldAddr 0 (.tmp 9), some (56, true)⟩,
   ⟨some 58, .fieldAddr 1 (.tmp 57), some (56, true)⟩,
   ⟨some 59, .load false 1 (.tmp 58), some (56, true)⟩,
   ⟨some 60, .fieldAddr 0 (.tmp 3), some (56, true)⟩,
   ⟨some 61, .fieldAddr 1 (.tmp 60), some (56, true)⟩,
   ⟨some 62, .load false 1 (.tmp 61), some (56, true)⟩,
   ⟨some 63, .bin .eql .int (.tmp 59) (.tmp 62), some (56, true)⟩,
   ⟨some 64, .pick (.tmp 56) (.tmp 63) (.const (.bool false)), none⟩,
   ⟨some 65, .move (.tmp 64), none⟩,
   ⟨some 66, .fieldAddr 5 (.tmp 9), some (65, true)⟩,
   ⟨some 67, .load false 1 (.tmp 66), some (65, true)⟩,
   ⟨some 68, .fieldAddr 5 (.tmp 3), some (65, true)⟩,
   ⟨some 69, .load false 1 (.tmp 68), some (65, true)⟩,
   ⟨some 70, .bin .geq .none (.tmp 67) (.tmp 69), some (65, true)⟩,
   ⟨some 71, .pick (.tmp 65) (.tmp 70) (.const (.bool false)), none⟩,
   ⟨some 53, .move (.tmp 71), none⟩]
@[simp] theorem R14_9 (x3 x38 : AV) (l2 l4 l5 l6 l8 l9 : List AV) :
  evK C D (.seq (.region O14_9) (.keep [2, 3, 4, 5, 6, 8, 9, 53] [2, 4, 5, 6, 8, 9] c)) ⟨[(2, .l 2 0), (3, .v x3), (4, .l 4 0), (5, .l 5 0), (6, .l 6 0), (8, .l 8 0), (9, .l 9 0), (38, .v x38)], [(2, l2), (4, l4), (5, l5), (6, l6), (8, l8), (9, l9)], H⟩ k =
  (nl (rd false 1 1 l2)).bind fun t1 =>
  guardK t1 true (
  (nl (rd false 1 1 l9)).bind fun t5 =>
  (fldP 0 x3).bind fun t6 =>
  (fldP 1 t6).bind fun t7 =>
  (nl (loadP H false 1 t7)).bind fun t8 =>
  (nl (binA .eql .int t5 t8)).bind fun t9 =>
  guardK t9 true (
  (nl (rd false 1 5 l9)).bind fun t13 =>
  (fldP 5 x3).bind fun t14 =>
  (nl (loadP H false 1 t14)).bind fun t15 =>
  (nl (binA .geq .none t13 t15)).bind fun t16 =>
  evK C D c ⟨[(2, .l 2 0), (3, .v x3), (4, .l 4 0), (5, .l 5 0), (6, .l 6 0), (8, .l 8 0), (9, .l 9 0), (53, .v t16)], [(2, l2), (4, l4), (5, l5), (6, l6), (8, l8), (9, l9)], H⟩ k)
  (evK C D c ⟨[(2, .l 2 0), (3, .v x3), (4, .l 4 0), (5, .l 5 0), (6, .l 6 0), (8, .l 8 0), (9, .l 9 0), (53, .v (.bool false))], [(2, l2), (4, l4), (5, l5), (6, l6), (8, l8), (9, l9)], H⟩ k))
  (evK C D c ⟨[(2, .l 2 0), (3, .v x3), (4, .l 4 0), (5, .l 5 0), (6, .l 6 0), (8, .l 8 0), (9, .l 9 0), (53, .v (.bool false))], [(2, l2), (4, l4), (5, l5), (6, l6), (8, l8), (9, l9)], H⟩ k) := by kernel_rfl
def O14_10 : List IOper :=
  [⟨some 72, .load true 12 (.tmp 2), none⟩,
   ⟨some 73, .call (.func 33) [(.tmp 72)], none⟩,
   ⟨none, .store 12 (.tmp 4) (.tmp 73), none⟩,
   ⟨some 74, .fieldAddr 6 (.tmp 9), none⟩,
   ⟨some 75, .load true 2 (.tmp 74), none⟩,
   ⟨none, .store 2 (.tmp 5) (.tmp 75), none⟩,
   ⟨some 76, .load true 5 (.tmp 8), none⟩,
   ⟨none, .store 5 (.tmp 6) (.tmp 76), none⟩,
   ⟨some 7, .move (.const (.int .i64 0)), none⟩]
@[simp] theorem R14_10 (x3 x53 : AV) (l2 l4 l5 l6 l8 l9 : List AV) :
  evK C D (.seq (.regionD O14_10 [(4, 0), (4, 2), (6, 0), (6, 2), (6, 3)]) (.keep [4, 5, 6, 7] [4, 5, 6] c)) ⟨[(2, .l 2 0), (3, .v x3), (4, .l 4 0), (5, .l 5 0), (6, .l 6 0), (8, .l 8 0), (9, .l 9 0), (53, .v x53)], [(2, l2), (4, l4), (5, l5), (6, l6), (8, l8), (9, l9)], H⟩ k =
  (nl (rd true 12 0 l2)).bind fun t0 =>
  kB (AV.okB H.n t0) (
  (callN C (.func (.func 33) [] []) [t0] H).bind fun r1 =>
  (stL 12 0 r1.1 l4).bind fun m2 =>
  (nl (rd true 2 6 l9)).bind fun t4 =>
  kB (AV.okB r1.2.n t4) (
  (stL 2 0 t4 l5).bind fun m5 =>
  (nl (rd true 5 0 l8)).bind fun t6 =>
  kB (AV.okB r1.2.n t6) (
  (stL 5 0 t6 l6).bind fun m7 =>
  kB (chk (rd true 2 6 l9) t4) (
  kB (chk (rd true 2 6 l9) t4) (
  kB (chk (rd true 5 0 l8) t6) (
  kB (chk (rd true 5 0 l8) t6) (
  kB (chk (rd true 5 0 l8) t6) (
  evK C D c ⟨[(4, .l 4 0), (5, .l 5 0), (6, .l 6 0), (7, .v (.int .i64 0))], [(4, m2), (5, m5), (6, m7)], r1.2⟩ k)))))))) := by kernel_rfl
def O14_11 : List IOper :=
  [⟨some 78, .load true 12 (.tmp 2), none⟩,
   ⟨some 79, .fieldAddr 6 (.tmp 3), none⟩,
   ⟨some 80, .load true 2 (.tmp 79), none⟩,
   ⟨some 81, .call (.func 34) [(.tmp 78), (.tmp 80)], none⟩,
   ⟨some 77, .move (.tmp 81), none⟩,
   ⟨some 82, .extract (.tmp 77) 0, none⟩,
   ⟨some 83, .extract (.tmp 77) 1, none⟩,
   ⟨some 10, .alloc true 2 [(.int .i64 0), (.int .i64 0)], none⟩,
   ⟨none, .store 2 (.tmp 10) (.tmp 82), none⟩,
   ⟨some 11, .move (.tmp 83), none⟩]
@[simp] theorem R14_11 (x3 : AV) (l2 l4 l5 l6 l8 : List AV) :
  evK C D (.seq (.region O14_11) (.keep [2, 3, 4, 5, 6, 8, 10, 11] [2, 4, 5, 6, 8, 10] c)) ⟨[(2, .l 2 0), (3, .v x3), (4, .l 4 0), (5, .l 5 0), (6, .l 6 0), (8, .l 8 0)], [(2, l2), (4, l4), (5, l5), (6, l6), (8, l8)], H⟩ k =
  (nl (rd true 12 0 l2)).bind fun t0 =>
  (fldP 6 x3).bind fun t1 =>
  (nl (loadP H true 2 t1)).bind fun t2 =>
  (callN C (.func (.func 34) [] []) [t0, t2] H).bind fun r3 =>
  (nl (extA 0 r3.1)).bind fun t5 =>
  (nl (extA 1 r3.1)).bind fun t6 =>
  (stL 2 0 t5 [(.int .i64 0), (.int .i64 0)]).bind fun m8 =>
  evK C D c ⟨[(2, .l 2 0), (3, .v x3), (4, .l 4 0), (5, .l 5 0), (6, .l 6 0), (8, .l 8 0), (10, .l 10 0), (11, .v t6)], [(2, l2), (4, l4), (5, l5), (6, l6), (8, l8), (10, m8)], r3.2⟩ k := by kernel_rfl
def O14_12 : List IOper :=
  [⟨some 84, .move (.tmp 11), none⟩,
   ⟨some 85, .bin .neq .int (.tmp 84) (.const (.int .i64 0)), none⟩]
@[simp] theorem R14_12 (x3 x11 : AV) (l2 l4 l5 l6 l8 l10 : List AV) :
  evK C D (.seq (.region O14_12) (.keep [2, 3, 4, 5, 6, 8, 10, 85] [2, 4, 5, 6, 8, 10] c)) ⟨[(2, .l 2 0), (3, .v x3), (4, .l 4 0), (5, .l 5 0), (6, .l 6 0), (8, .l 8 0), (10, .l 10 0), (11, .v x11)], [(2, l2), (4, l4), (5, l5), (6, l6), (8, l8), (10, l10)], H⟩ k =
  (nl (binA .neq .int x11 (.int .i64 0))).bind fun t1 =>
  evK C D c ⟨[(2, .l 2 0), (3, .v x3), (4, .l 4 0), (5, .l 5 0), (6, .l 6 0), (8, .l 8 0), (10, .l 10 0), (85, .v t1)], [(2, l2), (4, l4), (5, l5), (6, l6), (8, l8), (10, l10)], H⟩ k := by kernel_rfl
def O14_13 : List IOper :=
  [⟨some 86, .build [.nils, (.bool false), (.int .i64 0), (.int .i64 0), (.str []), (.int .i64 0), (.int .i64 0), (.int .i64 0), (.int .i64 0), (.int .i64 0), (.str []), (.bool false)] [], none⟩,
   ⟨none, .store 12 (.tmp 4) (.tmp 86), none⟩,
   ⟨some 87, .build [(.int .i64 0), (.int .i64 0)] [], none⟩,
   ⟨none, .store 2 (.tmp 5) (.tmp 87), none⟩,
   ⟨some 88, .load true 5 (.tmp 8), none⟩,
   ⟨none, .store 5 (.tmp 6) (.tmp 88), none⟩,
   ⟨some 7, .move (.const (.int .i64 31)), none⟩]
@[simp] theorem R14_13 (x3 x85 : AV) (l2 l4 l5 l6 l8 l10 : List AV) :
  evK C D (.seq (.regionD O14_13 [(4, 0), (4, 2)]) (.keep [4, 5, 6, 7] [4, 5, 6] c)) ⟨[(2, .l 2 0), (3, .v x3), (4, .l 4 0), (5, .l 5 0), (6, .l 6 0), (8, .l 8 0), (10, .l 10 0), (85, .v x85)], [(2, l2), (4, l4), (5, l5), (6, l6), (8, l8), (10, l10)], H⟩ k =
  ((fillC [] [.nils, (.bool false), (.int .i64 0), (.int .i64 0), (.str []), (.int .i64 0), (.int .i64 0), (.int .i64 0), (.int .i64 0), (.int .i64 0), (.str []), (.bool false)]).map AV.agg).bind fun t0 =>
  (stL 12 0 t0 l4).bind fun m1 =>
  ((fillC [] [(.int .i64 0), (.int .i64 0)]).map AV.agg).bind fun t2 =>
  (stL 2 0 t2 l5).bind fun m3 =>
  (nl (rd true 5 0 l8)).bind fun t4 =>
  kB (AV.okB H.n t4) (
  (stL 5 0 t4 l6).bind fun m5 =>
  kB (chk (rd true 5 0 l8) t4) (
  kB (chk (rd true 5 0 l8) t4) (
  evK C D c ⟨[(4, .l 4 0), (5, .l 5 0), (6, .l 6 0), (7, .v (.int .i64 31))], [(4, m1), (5, m3), (6, m5)], H⟩ k))) := by kernel_rfl
def O14_14 : List IOper :=
  [⟨some 89, .load true 12 (.tmp 2), none⟩,
   ⟨some 90, .call (.func 33) [(.tmp 89)], none⟩,
   ⟨none, .store 12 (.tmp 2) (.tmp 90), none⟩]
@[simp] theorem R14_14 (x3 : AV) (l2 l4 l5 l6 l8 l10 : List AV) :
  evK C D (.seq (.region O14_14) (.keep [2, 3, 4, 5, 6, 8, 10] [2, 4, 5, 6, 8, 10] c)) ⟨[(2, .l 2 0), (3, .v x3), (4, .l 4 0), (5, .l 5 0), (6, .l 6 0), (8, .l 8 0), (10, .l 10 0)], [(2, l2), (4, l4), (5, l5), (6, l6), (8, l8), (10, l10)], H⟩ k =
  (nl (rd true 12 0 l2)).bind fun t0 =>
  (callN C (.func (.func 33) [] []) [t0] H).bind fun r1 =>
  (stL 12 0 r1.1 l2).bind fun m2 =>
  evK C D c ⟨[(2, .l 2 0), (3, .v x3), (4, .l 4 0), (5, .l 5 0), (6, .l 6 0), (8, .l 8 0), (10, .l 10 0)], [(2, m2), (4, l4), (5, l5), (6, l6), (8, l8), (10, l10)], r1.2⟩ k := by kernel_rfl
def O14_15 : List IOper :=
  [⟨some 92, .fieldAddr 1 (.tmp 2), none⟩,
   ⟨none, .store 1 (.tmp 92) (.const (.bool true)), none⟩,
   ⟨some 91, .load true 10 (.tmp 3), none⟩,
   ⟨some 93, .fieldAddr 2 (.tmp 2), none⟩,
   ⟨none, .store 10 (.tmp 93) (.tmp 91), none⟩]
@[simp] theorem R14_15 (x3 : AV) (l2 l4 l5 l6 l8 l10 : List AV) :
  evK C D (.seq (.regionD O14_15 [(2, 0)]) (.keep [2, 4, 5, 6, 8, 10] [2, 4, 5, 6, 8, 10] c)) ⟨[(2, .l 2 0), (3, .v x3), (4, .l 4 0), (5, .l 5 0), (6, .l 6 0), (8, .l 8 0), (10, .l 10 0)], [(2, l2), (4, l4), (5, l5), (6, l6), (8, l8), (10, l10)], H⟩ k =
  (stL 1 1 (.bool true) l2).bind fun m1 =>
  (nl (loadP H true 10 x3)).bind fun t2 =>
  kB (AV.okB H.n t2) (
  (stL 10 2 t2 m1).bind fun m4 =>
  kB (chk (loadP H true 10 x3) t2) (
  evK C D c ⟨[(2, .l 2 0), (4, .l 4 0), (5, .l 5 0), (6, .l 6 0), (8, .l 8 0), (10, .l 10 0)], [(2, m4), (4, l4), (5, l5), (6, l6), (8, l8), (10, l10)], H⟩ k)) := by kernel_rfl
def O14_16 : List IOper :=
  [⟨some 94, .load true 2 (.tmp 10), none⟩,
   ⟨some 95, .fieldAddr 2 (.tmp 2), none⟩,
   ⟨some 96, .fieldAddr 6 (.tmp 95), none⟩,
   ⟨none, .store 2 (.tmp 96) (.tmp 94), none⟩]
@[simp] theorem R14_16 (l2 l4 l5 l6 l8 l10 : List AV) :
  evK C D (.seq (.region O14_16) (.keep [2, 4, 5, 6, 8, 10] [2, 4, 5, 6, 8, 10] c)) ⟨[(2, .l 2 0), (4, .l 4 0), (5, .l 5 0), (6, .l 6 0), (8, .l 8 0), (10, .l 10 0)], [(2, l2), (4, l4), (5, l5), (6, l6), (8, l8), (10, l10)], H⟩ k =
  (nl (rd true 2 0 l10)).bind fun t0 =>
  (stL 2 8 t0 l2).bind fun m3 =>
  evK C D c ⟨[(2, .l 2 0), (4, .l 4 0), (5, .l 5 0), (6, .l 6 0), (8, .l 8 0), (10, .l 10 0)], [(2, m3), (4, l4), (5, l5), (6, l6), (8, l8), (10, l10)], H⟩ k := by kernel_rfl
def O14_17 : List IOper :=
  [⟨some 97, .load true 12 (.tmp 2), none⟩,
   ⟨none, .store 12 (.tmp 4) (.tmp 97), none⟩,
   ⟨some 98, .load true 2 (.tmp 10), none⟩,
   ⟨none, .store 2 (.tmp 5) (.tmp 98), none⟩,
   ⟨some 99, .load true 5 (.tmp 8), none⟩,
   ⟨none, .store 5 (.tmp 6) (.tmp 99), none⟩,
   ⟨some 7, .move (.const (.int .i64 0)), none⟩]
@[simp] theorem R14_17 (l2 l4 l5 l6 l8 l10 : List AV) :
  evK C D (.seq (.regionD O14_17 [(2, 0), (4, 0), (4, 2)]) (.keep [4, 5, 6, 7] [4, 5, 6] c)) ⟨[(2, .l 2 0), (4, .l 4 0), (5, .l 5 0), (6, .l 6 0), (8, .l 8 0), (10, .l 10 0)], [(2, l2), (4, l4), (5, l5), (6, l6), (8, l8), (10, l10)], H⟩ k =
  (nl (rd true 12 0 l2)).bind fun t0 =>
  kB (AV.okB H.n t0) (
  (stL 12 0 t0 l4).bind fun m1 =>
  (nl (rd true 2 0 l10)).bind fun t2 =>
  kB (AV.okB H.n t2) (
  (stL 2 0 t2 l5).bind fun m3 =>
  (nl (rd true 5 0 l8)).bind fun t4 =>
  kB (AV.okB H.n t4) (
  (stL 5 0 t4 l6).bind fun m5 =>
  kB (chk (rd true 2 0 l10) t2) (
  kB (chk (rd true 5 0 l8) t4) (
  kB (chk (rd true 5 0 l8) t4) (
  evK C D c ⟨[(4, .l 4 0), (5, .l 5 0), (6, .l 6 0), (7, .v (.int .i64 0))], [(4, m1), (5, m3), (6, m5)], H⟩ k)))))) := by kernel_rfl
def F14 : FnIR := ⟨100, 2, [.cell 4 true 12, .cell 5 true 2, .cell 6 true 5, .tmp 7], [2, 4, 5, 6, 8, 9, 10],
  .seq (.region O14_0)
  (.keep [2, 3, 4, 5, 6] [2, 4, 5, 6] (.seq (.region O14_1)
  (.keep [2, 3, 4, 5, 6, 8] [2, 4, 5, 6, 8] (.seq (.region O14_2)
  (.keep [2, 3, 4, 5, 6, 8, 9] [2, 4, 5, 6, 8, 9] (.seq (.block 0 (.seq (.region O14_3)
    (.keep [2, 3, 4, 5, 6, 8, 9, 14] [2, 4, 5, 6, 8, 9] (.cond (.tmp 14)
     (.seq (.regionD O14_4 [(5, 0), (5, 2)])
     (.keep [4, 5, 6, 7] [4, 5, 6] (.ret)))
     (.seq (.region O14_5)
     (.keep [2, 3, 4, 5, 6, 8, 9, 30] [2, 4, 5, 6, 8, 9] (.cond (.tmp 30)
      (.seq (.regionD O14_6 [(4, 0), (4, 2)])
      (.keep [4, 5, 6, 7] [4, 5, 6] (.ret)))
      (.seq (.region O14_7)
      (.keep [2, 3, 4, 5, 6, 8, 9, 38] [2, 4, 5, 6, 8, 9] (.cond (.tmp 38)
       (.seq (.regionD O14_8 [(4, 0), (4, 2)])
       (.keep [4, 5, 6, 7] [4, 5, 6] (.ret)))
       (.seq (.region O14_9)
       (.keep [2, 3, 4, 5, 6, 8, 9, 53] [2, 4, 5, 6, 8, 9] (.cond (.tmp 53)
        (.seq (.regionD O14_10 [(4, 0), (4, 2), (6, 0), (6, 2), (6, 3)])
        (.keep [4, 5, 6, 7] [4, 5, 6] (.ret)))
        (.skip))))))))))))))
  (.keep [2, 3, 4, 5, 6, 8] [2, 4, 5, 6, 8] (.seq (.region O14_11)
  (.keep [2, 3, 4, 5, 6, 8, 10, 11] [2, 4, 5, 6, 8, 10] (.seq (.seq (.region O14_12)
   (.keep [2, 3, 4, 5, 6, 8, 10, 85] [2, 4, 5, 6, 8, 10] (.cond (.tmp 85)
    (.seq (.regionD O14_13 [(4, 0), (4, 2)])
    (.keep [4, 5, 6, 7] [4, 5, 6] (.ret)))
    (.skip))))
  (.keep [2, 3, 4, 5, 6, 8, 10] [2, 4, 5, 6, 8, 10] (.seq (.region O14_14)
  (.keep [2, 3, 4, 5, 6, 8, 10] [2, 4, 5, 6, 8, 10] (.seq (.regionD O14_15 [(2, 0)])
  (.keep [2, 4, 5, 6, 8, 10] [2, 4, 5, 6, 8, 10] (.seq (.region O14_16)
  (.keep [2, 4, 5, 6, 8, 10] [2, 4, 5, 6, 8, 10] (.seq (.regionD O14_17 [(2, 0), (4, 0), (4, 2)])
  (.keep [4, 5, 6, 7] [4, 5, 6] (.ret))))))))))))))))))))⟩
/-- wampum/version.Write$1 -/
def O32_0 : List IOper :=
  [⟨some 2, .box true 5 (.tmp 0), none⟩,
   ⟨some 3, .move (.const (.bool false)), none⟩]
@[simp] theorem R32_0 (x0 x1 : AV) :
  evK C D (.seq (.region O32_0) (.keep [1, 2] [2] c)) ⟨[(0, .v x0), (1, .v x1)], [], H⟩ k =
  (boxC x0).bind fun m0 =>
  evK C D c ⟨[(1, .v x1), (2, .l 2 0)], [(2, m0)], H⟩ k := by kernel_rfl
def O32_1 : List IOper :=
  [⟨some 4, .fieldAddr 4 (.tmp 2), none⟩,
   ⟨some 5, .load false 1 (.tmp 4), none⟩,
   ⟨some 6, .fieldAddr 0 (.tmp 1), none⟩,
   ⟨some 7, .fieldAddr 0 (.tmp 6), none⟩,
   ⟨some 8, .load false 1 (.tmp 7), none⟩,
   ⟨some 9, .bin .eql .int (.tmp 5) (.tmp 8), none⟩,
   ⟨some 3, .move (.tmp 9), none⟩]
@[simp] theorem R32_1 (x1 : AV) (l2 : List AV) :
  evK C D (.seq (.region O32_1) (.keep [3] [] c)) ⟨[(1, .v x1), (2, .l 2 0)], [(2, l2)], H⟩ k =
  (nl (rd false 1 4 l2)).bind fun t1 =>
  (fldP 0 x1).bind fun t2 =>
  (fldP 0 t2).bind fun t3 =>
  (nl (loadP H false 1 t3)).bind fun t4 =>
  (nl (binA .eql .int t1 t4)).bind fun t5 =>
  evK C D c ⟨[(3, .v t5)], [], H⟩ k := by kernel_rfl
def F32 : FnIR := ⟨10, 2, [.tmp 3], [2],
  .seq (.region O32_0)
  (.keep [1, 2] [2] (.seq (.region O32_1)
  (.keep [3] [] (.ret))))⟩
/-- slices.ContainsFunc[[]wampum/api.Version,wampum/api.Version] -/
def O31_0 : List IOper :=
  [⟨some 4, .move (.const (.bool false)), none⟩]
@[simp] theorem R31_0 (x0 x1 : AV) :
  evK C D (.seq (.region O31_0) (.keep [0, 1] [] c)) ⟨[(0, .v x0), (1, .v x1)], [], H⟩ k =
  evK C D c ⟨[(0, .v x0), (1, .v x1)], [], H⟩ k := by kernel_rfl
def O31_1 : List IOper :=
  [⟨some 5, .move (.tmp 0), none⟩,
   ⟨some 6, .move (.tmp 1), none⟩,
   ⟨some 7, .call (.func 47) [(.tmp 5), (.tmp 6)], none⟩,
   ⟨some 8, .bin .geq .none (.tmp 7) (.const (.int .i64 0)), none⟩,
   ⟨some 4, .move (.tmp 8), none⟩]
@[simp] theorem R31_1 (x0 x1 : AV) :
  evK C D (.seq (.region O31_1) (.keep [4] [] c)) ⟨[(0, .v x0), (1, .v x1)], [], H⟩ k =
  (callN C (.func (.func 47) [] []) [x0, x1] H).bind fun r2 =>
  (nl (binA .geq .none r2.1 (.int .i64 0))).bind fun t3 =>
  evK C D c ⟨[(4, .v t3)], [], r2.2⟩ k := by kernel_rfl
def F31 : FnIR := ⟨9, 2, [.tmp 4], [],
  .seq (.region O31_0)
  (.keep [0, 1] [] (.seq (.region O31_1)
  (.keep [4] [] (.ret))))⟩
/-- slices.IndexFunc[[]wampum/api.Version,wampum/api.Version] -/
def O47_0 : List IOper :=
  [⟨some 4, .move (.const (.int .i64 0)), none⟩]
@[simp] theorem R47_0 (x0 x1 : AV) :
  evK C D (.seq (.region O47_0) (.keep [0, 1] [] c)) ⟨[(0, .v x0), (1, .v x1)], [], H⟩ k =
  evK C D c ⟨[(0, .v x0), (1, .v x1)], [], H⟩ k := by kernel_rfl
def O47_1 : List IOper :=
  [⟨some 6, .move (.tmp 0), none⟩,
   ⟨some 7, .len .slice (.tmp 6), none⟩,
   ⟨some 8, .move (.const (.int .i64 0)), none⟩]
@[simp] theorem R47_1 (x0 x1 : AV) :
  evK C D (.seq (.region O47_1) (.keep [0, 1, 7, 8] [] c)) ⟨[(0, .v x0), (1, .v x1)], [], H⟩ k =
  (lenS x0).bind fun t1 =>
  evK C D c ⟨[(0, .v x0), (1, .v x1), (7, .v t1), (8, .v (.int .i64 0))], [], H⟩ k := by kernel_rfl
def O47_2 : List IOper :=
  [⟨some 9, .bin .lss .none (.tmp 8) (.tmp 7), none⟩]
@[simp] theorem R47_2 (x0 x1 x7 x8 : AV) :
  evK C D (.seq (.region O47_2) (.keep [0, 1, 7, 8, 9] [] c)) ⟨[(0, .v x0), (1, .v x1), (7, .v x7), (8, .v x8)], [], H⟩ k =
  (nl (binA .lss .none x8 x7)).bind fun t0 =>
  evK C D c ⟨[(0, .v x0), (1, .v x1), (7, .v x7), (8, .v x8), (9, .v t0)], [], H⟩ k := by kernel_rfl
def O47_3 : List IOper :=
  [⟨some 10, .move (.tmp 8), none⟩,
   ⟨some 5, .move (.tmp 10), none⟩]
@[simp] theorem R47_3 (x0 x1 x7 x8 : AV) :
  evK C D (.seq (.region O47_3) (.keep [0, 1, 5, 7, 8] [] c)) ⟨[(0, .v x0), (1, .v x1), (7, .v x7), (8, .v x8)], [], H⟩ k =
  evK C D c ⟨[(0, .v x0), (1, .v x1), (5, .v x8), (7, .v x7), (8, .v x8)], [], H⟩ k := by kernel_rfl
def O47_4 : List IOper :=
  [⟨some 11, .move (.tmp 1), none⟩,
   ⟨some 12, .move (.tmp 0), none⟩,
   ⟨some 13, .move (.tmp 5), none⟩,
   ⟨some 14, .indexAddr none 5 (.tmp 12) (.tmp 13), none⟩,
   ⟨some 15, .load true 5 (.tmp 14), none⟩,
   ⟨some 16, .call (.tmp 11) [(.tmp 15)], none⟩]
@[simp] theorem R47_4 (x0 x1 x5 x7 x8 : AV) :
  evK C D (.seq (.region O47_4) (.keep [0, 1, 5, 7, 8, 16] [] c)) ⟨[(0, .v x0), (1, .v x1), (5, .v x5), (7, .v x7), (8, .v x8)], [], H⟩ k =
  (nl (idxS 5 x0 x5)).bind fun t3 =>
  (nl (loadP H true 5 t3)).bind fun t4 =>
  (callN C x1 [t4] H).bind fun r5 =>
  evK C D c ⟨[(0, .v x0), (1, .v x1), (5, .v x5), (7, .v x7), (8, .v x8), (16, .v r5.1)], [], r5.2⟩ k := by kernel_rfl
def O47_5 : List IOper :=
  [⟨some 17, .move (.tmp 5), none⟩,
   ⟨some 4, .move (.tmp 17), none⟩]
@[simp] theorem R47_5 (x0 x1 x5 x7 x8 x16 : AV) :
  evK C D (.seq (.region O47_5) (.keep [4] [] c)) ⟨[(0, .v x0), (1, .v x1), (5, .v x5), (7, .v x7), (8, .v x8), (16, .v x16)], [], H⟩ k =
  evK C D c ⟨[(4, .v x5)], [], H⟩ k := by kernel_rfl
def O47_6 : List IOper :=
  [⟨some 18, .bin .add .none (.tmp 8) (.const (.int .i64 1)), none⟩,
   ⟨some 8, .move (.tmp 18), none⟩]
@[simp] theorem R47_6 (x0 x1 x7 x8 : AV) :
  evK C D (.region O47_6) ⟨[(0, .v x0), (1, .v x1), (7, .v x7), (8, .v x8)], [], H⟩ k =
  (nl (binA .add .none x8 (.int .i64 1))).bind fun t0 =>
  k .normal ⟨[(8, .v t0), (18, .v t0), (0, .v x0), (1, .v x1), (7, .v x7), (8, .v x8)], [], H⟩ := by kernel_rfl
def B47_0 : IC :=
  .seq (.region O47_2)
  (.keep [0, 1, 7, 8, 9] [] (.seq (.cond (.tmp 9)
    (.skip)
    (.exit 0))
  (.keep [0, 1, 7, 8] [] (.seq (.block 1 (.seq (.region O47_3)
    (.keep [0, 1, 5, 7, 8] [] (.seq (.region O47_4)
    (.keep [0, 1, 5, 7, 8, 16] [] (.cond (.tmp 16)
     (.seq (.region O47_5)
     (.keep [4] [] (.ret)))
     (.skip)))))))
  (.keep [0, 1, 7, 8] [] (.region O47_6))))))
def L47_0 : IC := .keep [0, 1, 7, 8] [] B47_0
@[simp] theorem LK47_0 (s : SK) (k : AExit → SK → Option R) : evK C D (.loop L47_0) s k = (D (.loop L47_0) (prK [0, 1, 7, 8] [] s).toSt).bind fun r => k r.1 (ofSt r.2) := by kernel_rfl
def O47_7 : List IOper :=
  [⟨some 4, .move (.const (.int .i64 (-1))), none⟩]
@[simp] theorem R47_7 :
  evK C D (.seq (.region O47_7) (.keep [4] [] c)) ⟨[], [], H⟩ k =
  evK C D c ⟨[(4, .v (.int .i64 (-1)))], [], H⟩ k := by kernel_rfl
def F47 : FnIR := ⟨19, 2, [.tmp 4], [],
  .seq (.region O47_0)
  (.keep [0, 1] [] (.seq (.seq (.region O47_1)
   (.keep [0, 1, 7, 8] [] (.block 0 (.loop L47_0))))
  (.keep [] [] (.seq (.region O47_7)
  (.keep [4] [] (.ret))))))⟩
/-- wampum/version.copied -/
def O33_0 : List IOper :=
  [⟨some 1, .box true 12 (.tmp 0), none⟩,
   ⟨some 2, .alloc true 12 [.nils, (.bool false), (.int .i64 0), (.int .i64 0), (.str []), (.int .i64 0), (.int .i64 0), (.int .i64 0), (.int .i64 0), (.int .i64 0), (.str []), (.bool false)], none⟩]
@[simp] theorem R33_0 (x0 : AV) :
  evK C D (.seq (.region O33_0) (.keep [1, 2] [1, 2] c)) ⟨[(0, .v x0)], [], H⟩ k =
  (boxC x0).bind fun m0 =>
  evK C D c ⟨[(1, .l 1 0), (2, .l 2 0)], [(1, m0), (2, [.nils, (.bool false), (.int .i64 0), (.int .i64 0), (.str []), (.int .i64 0), (.int .i64 0), (.int .i64 0), (.int .i64 0), (.int .i64 0), (.str []), (.bool false)])], H⟩ k := by kernel_rfl
def O33_1 : List IOper :=
  [⟨some 3, .fieldAddr 0 (.tmp 1), none⟩,
   ⟨some 4, .load false 1 (.tmp 3), none⟩,
   ⟨some 5, .call (.func 48) [(.tmp 4)], none⟩,
   ⟨some 6, .fieldAddr 0 (.tmp 1), none⟩,
   ⟨none, .store 1 (.tmp 6) (.tmp 5), none⟩]
@[simp] theorem R33_1 (l1 l2 : List AV) :
  evK C D (.seq (.region O33_1) (.keep [1, 2] [1, 2] c)) ⟨[(1, .l 1 0), (2, .l 2 0)], [(1, l1), (2, l2)], H⟩ k =
  (nl (rd false 1 0 l1)).bind fun t1 =>
  (callN C (.func (.func 48) [] []) [t1] H).bind fun r2 =>
  (stL 1 0 r2.1 l1).bind fun m4 =>
  evK C D c ⟨[(1, .l 1 0), (2, .l 2 0)], [(1, m4), (2, l2)], r2.2⟩ k := by kernel_rfl
def O33_2 : List IOper :=
  [⟨some 7, .load true 12 (.tmp 1), none⟩,
   ⟨none, .store 12 (.tmp 2) (.tmp 7), none⟩]
@[simp] theorem R33_2 (l1 l2 : List AV) :
  evK C D (.seq (.region O33_2) (.keep [2] [2] c)) ⟨[(1, .l 1 0), (2, .l 2 0)], [(1, l1), (2, l2)], H⟩ k =
  (nl (rd true 12 0 l1)).bind fun t0 =>
  (stL 12 0 t0 l2).bind fun m1 =>
  evK C D c ⟨[(2, .l 2 0)], [(2, m1)], H⟩ k := by kernel_rfl
def F33 : FnIR := ⟨8, 1, [.cell 2 true 12], [1, 2],
  .seq (.region O33_0)
  (.keep [1, 2] [1, 2] (.seq (.region O33_1)
  (.keep [1, 2] [1, 2] (.seq (.region O33_2)
  (.keep [2] [2] (.ret))))))⟩
/-- slices.Clone[[]wampum/api.Version,wampum/api.Version] -/
def O48_0 : List IOper :=
  [⟨some 2, .move (.const .nils), none⟩]
@[simp] theorem R48_0 (x0 : AV) :
  evK C D (.seq (.region O48_0) (.keep [0] [] c)) ⟨[(0, .v x0)], [], H⟩ k =
  evK C D c ⟨[(0, .v x0)], [], H⟩ k := by kernel_rfl
def O48_1 : List IOper :=
  [⟨some 3, .move (.tmp 0), none⟩,
   ⟨some 4, .bin .eql .slice (.tmp 3) (.const .nils), none⟩]
@[simp] theorem R48_1 (x0 : AV) :
  evK C D (.seq (.region O48_1) (.keep [0, 4] [] c)) ⟨[(0, .v x0)], [], H⟩ k =
  (nl (binA .eql .slice x0 .nils)).bind fun t1 =>
  evK C D c ⟨[(0, .v x0), (4, .v t1)], [], H⟩ k := by kernel_rfl
def O48_2 : List IOper :=
  [⟨some 2, .move (.const .nils), none⟩]
@[simp] theorem R48_2 (x0 x4 : AV) :
  evK C D (.seq (.region O48_2) (.keep [2] [] c)) ⟨[(0, .v x0), (4, .v x4)], [], H⟩ k =
  evK C D c ⟨[(2, .v .nils)], [], H⟩ k := by kernel_rfl
def O48_3 : List IOper :=
  [⟨some 5, .buildSlice 5 0 [] [], none⟩,
   ⟨some 6, .move (.tmp 0), none⟩,
   ⟨some 7, .append 5 48 (.tmp 5) (.tmp 6), none⟩,
   ⟨some 2, .move (.tmp 7), none⟩]
@[simp] theorem R48_3 (x0 : AV) :
  evK C D (.seq (.region O48_3) (.keep [2] [] c)) ⟨[(0, .v x0)], [], H⟩ k =
  ((fillC [] []).map fun cs => (AV.slice H.n 0 0 0, H.alloc (.row false 5 cs))).bind fun r0 =>
  (nlR (appendA r0.2 5 48 r0.1 x0)).bind fun r2 =>
  evK C D c ⟨[(2, .v r2.1)], [], r2.2⟩ k := by kernel_rfl
def F48 : FnIR := ⟨8, 1, [.tmp 2], [],
  .seq (.region O48_0)
  (.keep [0] [] (.seq (.seq (.region O48_1)
   (.keep [0, 4] [] (.cond (.tmp 4)
    (.seq (.region O48_2)
    (.keep [2] [] (.ret)))
    (.skip))))
  (.keep [0] [] (.seq (.region O48_3)
  (.keep [2] [] (.ret))))))⟩
/-- wampum/version.least -/
def O34_0 : List IOper :=
  [⟨some 2, .box true 12 (.tmp 0), none⟩,
   ⟨some 3, .box true 2 (.tmp 1), none⟩,
   ⟨some 4, .alloc true 2 [(.int .i64 0), (.int .i64 0)], none⟩,
   ⟨some 5, .move (.const (.int .i64 0)), none⟩]
@[simp] theorem R34_0 (x0 x1 : AV) :
  evK C D (.seq (.region O34_0) (.keep [2, 3, 4] [2, 3, 4] c)) ⟨[(0, .v x0), (1, .v x1)], [], H⟩ k =
  (boxC x0).bind fun m0 =>
  (boxC x1).bind fun m1 =>
  evK C D c ⟨[(2, .l 2 0), (3, .l 3 0), (4, .l 4 0)], [(2, m0), (3, m1), (4, [(.int .i64 0), (.int .i64 0)])], H⟩ k := by kernel_rfl
def O34_1 : List IOper :=
  [⟨some 11, .load true 12 (.tmp 2), none⟩,
   ⟨some 12, .call (.func 39) [(.tmp 11)], none⟩,
   ⟨some 10, .move (.tmp 12), none⟩,
   ⟨some 13, .extract (.tmp 10) 0, none⟩,
   ⟨some 14, .extract (.tmp 10) 1, none⟩,
   ⟨some 6, .alloc true 2 [(.int .i64 0), (.int .i64 0)], none⟩,
   ⟨none, .store 2 (.tmp 6) (.tmp 13), none⟩,
   ⟨some 7, .move (.tmp 14), none⟩]
@[simp] theorem R34_1 (l2 l3 l4 : List AV) :
  evK C D (.seq (.region O34_1) (.keep [2, 3, 4, 6, 7] [2, 3, 4, 6] c)) ⟨[(2, .l 2 0), (3, .l 3 0), (4, .l 4 0)], [(2, l2), (3, l3), (4, l4)], H⟩ k =
  (nl (rd true 12 0 l2)).bind fun t0 =>
  (callN C (.func (.func 39) [] []) [t0] H).bind fun r1 =>
  (nl (extA 0 r1.1)).bind fun t3 =>
  (nl (extA 1 r1.1)).bind fun t4 =>
  (stL 2 0 t3 [(.int .i64 0), (.int .i64 0)]).bind fun m6 =>
  evK C D c ⟨[(2, .l 2 0), (3, .l 3 0), (4, .l 4 0), (6, .l 6 0), (7, .v t4)], [(2, l2), (3, l3), (4, l4), (6, m6)], r1.2⟩ k := by kernel_rfl
def O34_2 : List IOper :=
  [⟨some 15, .move (.tmp 7), none⟩]
@[simp] theorem R34_2 (x7 : AV) (l2 l3 l4 l6 : List AV) :
  evK C D (.seq (.region O34_2) (.keep [2, 3, 4, 6, 15] [2, 3, 4, 6] c)) ⟨[(2, .l 2 0), (3, .l 3 0), (4, .l 4 0), (6, .l 6 0), (7, .v x7)], [(2, l2), (3, l3), (4, l4), (6, l6)], H⟩ k =
  evK C D c ⟨[(2, .l 2 0), (3, .l 3 0), (4, .l 4 0), (6, .l 6 0), (15, .v x7)], [(2, l2), (3, l3), (4, l4), (6, l6)], H⟩ k := by kernel_rfl
def O34_3 : List IOper :=
  [⟨some 17, .load true 2 (.tmp 6), none⟩,
   ⟨some 18, .call (.func 29) [(.tmp 17)], none⟩,
   ⟨some 16, .move (.tmp 18), none⟩,
   ⟨some 19, .extract (.tmp 16) 0, none⟩,
   ⟨some 20, .extract (.tmp 16) 1, none⟩,
   ⟨some 8, .alloc true 2 [(.int .i64 0), (.int .i64 0)], none⟩,
   ⟨none, .store 2 (.tmp 8) (.tmp 19), none⟩,
   ⟨some 9, .move (.tmp 20), none⟩]
@[simp] theorem R34_3 (x15 : AV) (l2 l3 l4 l6 : List AV) :
  evK C D (.seq (.region O34_3) (.keep [2, 3, 4, 8, 9] [2, 3, 4, 8] c)) ⟨[(2, .l 2 0), (3, .l 3 0), (4, .l 4 0), (6, .l 6 0), (15, .v x15)], [(2, l2), (3, l3), (4, l4), (6, l6)], H⟩ k =
  (nl (rd true 2 0 l6)).bind fun t0 =>
  (callN C (.func (.func 29) [] []) [t0] H).bind fun r1 =>
  (nl (extA 0 r1.1)).bind fun t3 =>
  (nl (extA 1 r1.1)).bind fun t4 =>
  (stL 2 0 t3 [(.int .i64 0), (.int .i64 0)]).bind fun m6 =>
  evK C D c ⟨[(2, .l 2 0), (3, .l 3 0), (4, .l 4 0), (8, .l 8 0), (9, .v t4)], [(2, l2), (3, l3), (4, l4), (8, m6)], r1.2⟩ k := by kernel_rfl
def O34_4 : List IOper :=
  [⟨some 21, .move (.tmp 9), none⟩,
   ⟨some 22, .bin .neq .int (.tmp 21) (.const (.int .i64 0)), none⟩]
@[simp] theorem R34_4 (x9 : AV) (l2 l3 l4 l8 : List AV) :
  evK C D (.seq (.region O34_4) (.keep [2, 3, 4, 8, 9, 22] [2, 3, 4, 8] c)) ⟨[(2, .l 2 0), (3, .l 3 0), (4, .l 4 0), (8, .l 8 0), (9, .v x9)], [(2, l2), (3, l3), (4, l4), (8, l8)], H⟩ k =
  (nl (binA .neq .int x9 (.int .i64 0))).bind fun t1 =>
  evK C D c ⟨[(2, .l 2 0), (3, .l 3 0), (4, .l 4 0), (8, .l 8 0), (9, .v x9), (22, .v t1)], [(2, l2), (3, l3), (4, l4), (8, l8)], H⟩ k := by kernel_rfl
def O34_5 : List IOper :=
  [⟨some 23, .build [(.int .i64 0), (.int .i64 0)] [], none⟩,
   ⟨some 24, .move (.tmp 9), none⟩,
   ⟨none, .store 2 (.tmp 4) (.tmp 23), none⟩,
   ⟨some 5, .move (.tmp 24), none⟩]
@[simp] theorem R34_5 (x9 x22 : AV) (l2 l3 l4 l8 : List AV) :
  evK C D (.seq (.region O34_5) (.keep [4, 5] [4] c)) ⟨[(2, .l 2 0), (3, .l 3 0), (4, .l 4 0), (8, .l 8 0), (9, .v x9), (22, .v x22)], [(2, l2), (3, l3), (4, l4), (8, l8)], H⟩ k =
  ((fillC [] [(.int .i64 0), (.int .i64 0)]).map AV.agg).bind fun t0 =>
  (stL 2 0 t0 l4).bind fun m2 =>
  evK C D c ⟨[(4, .l 4 0), (5, .v x9)], [(4, m2)], H⟩ k := by kernel_rfl
def O34_6 : List IOper :=
  [⟨some 25, .load true 2 (.tmp 3), none⟩,
   ⟨some 26, .load true 2 (.tmp 8), none⟩,
   ⟨some 27, .call (.func 49) [(.tmp 25), (.tmp 26)], none⟩,
   ⟨none, .store 2 (.tmp 3) (.tmp 27), none⟩]
@[simp] theorem R34_6 (l2 l3 l4 l8 : List AV) :
  evK C D (.region O34_6) ⟨[(2, .l 2 0), (3, .l 3 0), (4, .l 4 0), (8, .l 8 0)], [(2, l2), (3, l3), (4, l4), (8, l8)], H⟩ k =
  (nl (rd true 2 0 l3)).bind fun t0 =>
  (nl (rd true 2 0 l8)).bind fun t1 =>
  (callN C (.func (.func 49) [] []) [t0, t1] H).bind fun r2 =>
  (stL 2 0 r2.1 l3).bind fun m3 =>
  k .normal ⟨[(27, .v r2.1), (26, .v t1), (25, .v t0), (2, .l 2 0), (3, .l 3 0), (4, .l 4 0), (8, .l 8 0)], [(3, m3), (2, l2), (3, l3), (4, l4), (8, l8)], r2.2⟩ := by kernel_rfl
def O34_7 : List IOper :=
  [⟨some 28, .fieldAddr 1 (.tmp 2), none⟩,
   ⟨some 29, .load false 1 (.tmp 28), none⟩]
@[simp] theorem R34_7 (l2 l3 l4 : List AV) :
  evK C D (.seq (.region O34_7) (.keep [2, 3, 4, 29] [2, 3, 4] c)) ⟨[(2, .l 2 0), (3, .l 3 0), (4, .l 4 0)], [(2, l2), (3, l3), (4, l4)], H⟩ k =
  (nl (rd false 1 1 l2)).bind fun t1 =>
  evK C D c ⟨[(2, .l 2 0), (3, .l 3 0), (4, .l 4 0), (29, .v t1)], [(2, l2), (3, l3), (4, l4)], H⟩ k := by kernel_rfl
def O34_8 : List IOper :=
  [⟨some 30, .load true 2 (.tmp 3), none⟩,
   ⟨some 31, .fieldAddr 2 (.tmp 2), none⟩,
   ⟨some 32, .fieldAddr 6 (.tmp 31), none⟩,
   ⟨some 33, .load true 2 (.tmp 32), none⟩,
   ⟨some 34, .call (.func 49) [(.tmp 30), (.tmp 33)], none⟩,
   ⟨none, .store 2 (.tmp 3) (.tmp 34), none⟩]
@[simp] theorem R34_8 (x29 : AV) (l2 l3 l4 : List AV) :
  evK C D (.region O34_8) ⟨[(2, .l 2 0), (3, .l 3 0), (4, .l 4 0), (29, .v x29)], [(2, l2), (3, l3), (4, l4)], H⟩ k =
  (nl (rd true 2 0 l3)).bind fun t0 =>
  (nl (rd true 2 8 l2)).bind fun t3 =>
  (callN C (.func (.func 49) [] []) [t0, t3] H).bind fun r4 =>
  (stL 2 0 r4.1 l3).bind fun m5 =>
  k .normal ⟨[(34, .v r4.1), (33, .v t3), (32, .l 2 8), (31, .l 2 2), (30, .v t0), (2, .l 2 0), (3, .l 3 0), (4, .l 4 0), (29, .v x29)], [(3, m5), (2, l2), (3, l3), (4, l4)], r4.2⟩ := by kernel_rfl
def O34_9 : List IOper :=
  [⟨some 35, .load true 2 (.tmp 3), none⟩,
   ⟨some 36, .call (.func 40) [(.tmp 35)], none⟩,
   ⟨some 37, .un .not (.tmp 36), none⟩]
@[simp] theorem R34_9 (l3 l4 : List AV) :
  evK C D (.seq (.region O34_9) (.keep [3, 4, 37] [3, 4] c)) ⟨[(3, .l 3 0), (4, .l 4 0)], [(3, l3), (4, l4)], H⟩ k =
  (nl (rd true 2 0 l3)).bind fun t0 =>
  (callN C (.func (.func 40) [] []) [t0] H).bind fun r1 =>
  (nl (unA .not r1.1)).bind fun t2 =>
  evK C D c ⟨[(3, .l 3 0), (4, .l 4 0), (37, .v t2)], [(3, l3), (4, l4)], r1.2⟩ k := by kernel_rfl
def O34_10 : List IOper :=
  [⟨some 38, .build [(.int .i64 0), (.int .i64 0)] [], none⟩,
   ⟨none, .store 2 (.tmp 4) (.tmp 38), none⟩,
   ⟨some 5, .move (.const (.int .i64 31)), none⟩]
@[simp] theorem R34_10 (x37 : AV) (l3 l4 : List AV) :
  evK C D (.seq (.region O34_10) (.keep [4, 5] [4] c)) ⟨[(3, .l 3 0), (4, .l 4 0), (37, .v x37)], [(3, l3), (4, l4)], H⟩ k =
  ((fillC [] [(.int .i64 0), (.int .i64 0)]).map AV.agg).bind fun t0 =>
  (stL 2 0 t0 l4).bind fun m1 =>
  evK C D c ⟨[(4, .l 4 0), (5, .v (.int .i64 31))], [(4, m1)], H⟩ k := by kernel_rfl
def O34_11 : List IOper :=
  [⟨some 39, .load true 2 (.tmp 3), none⟩,
   ⟨none, .store 2 (.tmp 4) (.tmp 39), none⟩,
   ⟨some 5, .move (.const (.int .i64 0)), none⟩]
@[simp] theorem R34_11 (l3 l4 : List AV) :
  evK C D (.seq (.region O34_11) (.keep [4, 5] [4] c)) ⟨[(3, .l 3 0), (4, .l 4 0)], [(3, l3), (4, l4)], H⟩ k =
  (nl (rd true 2 0 l3)).bind fun t0 =>
  (stL 2 0 t0 l4).bind fun m1 =>
  evK C D c ⟨[(4, .l 4 0), (5, .v (.int .i64 0))], [(4, m1)], H⟩ k := by kernel_rfl
def F34 : FnIR := ⟨40, 2, [.cell 4 true 2, .tmp 5], [2, 3, 4, 6, 8],
  .seq (.region O34_0)
  (.keep [2, 3, 4] [2, 3, 4] (.seq (.seq (.region O34_1)
   (.keep [2, 3, 4, 6, 7] [2, 3, 4, 6] (.seq (.region O34_2)
   (.keep [2, 3, 4, 6, 15] [2, 3, 4, 6] (.cond (.tmp 15)
    (.seq (.region O34_3)
    (.keep [2, 3, 4, 8, 9] [2, 3, 4, 8] (.seq (.seq (.region O34_4)
     (.keep [2, 3, 4, 8, 9, 22] [2, 3, 4, 8] (.cond (.tmp 22)
      (.seq (.region O34_5)
      (.keep [4, 5] [4] (.ret)))
      (.skip))))
    (.keep [2, 3, 4, 8] [2, 3, 4, 8] (.region O34_6)))))
    (.skip))))))
  (.keep [2, 3, 4] [2, 3, 4] (.seq (.seq (.region O34_7)
   (.keep [2, 3, 4, 29] [2, 3, 4] (.cond (.tmp 29)
    (.region O34_8)
    (.skip))))
  (.keep [3, 4] [3, 4] (.seq (.seq (.region O34_9)
   (.keep [3, 4, 37] [3, 4] (.cond (.tmp 37)
    (.seq (.region O34_10)
    (.keep [4, 5] [4] (.ret)))
    (.skip))))
  (.keep [3, 4] [3, 4] (.seq (.region O34_11)
  (.keep [4, 5] [4] (.ret))))))))))⟩
/-- wampum/version.last -/
def O39_0 : List IOper :=
  [⟨some 1, .box true 12 (.tmp 0), none⟩,
   ⟨some 2, .alloc true 2 [(.int .i64 0), (.int .i64 0)], none⟩,
   ⟨some 3, .move (.const (.bool false)), none⟩]
@[simp] theorem R39_0 (x0 : AV) :
  evK C D (.seq (.region O39_0) (.keep [1, 2] [1, 2] c)) ⟨[(0, .v x0)], [], H⟩ k =
  (boxC x0).bind fun m0 =>
  evK C D c ⟨[(1, .l 1 0), (2, .l 2 0)], [(1, m0), (2, [(.int .i64 0), (.int .i64 0)])], H⟩ k := by kernel_rfl
def O39_1 : List IOper :=
  [⟨some 4, .fieldAddr 0 (.tmp 1), none⟩,
   ⟨some 5, .load false 1 (.tmp 4), none⟩,
   ⟨some 6, .len .slice (.tmp 5), none⟩,
   ⟨some 7, .bin .eql .int (.tmp 6) (.const (.int .i64 0)), none⟩]
@[simp] theorem R39_1 (l1 l2 : List AV) :
  evK C D (.seq (.region O39_1) (.keep [1, 2, 7] [1, 2] c)) ⟨[(1, .l 1 0), (2, .l 2 0)], [(1, l1), (2, l2)], H⟩ k =
  (nl (rd false 1 0 l1)).bind fun t1 =>
  (lenS t1).bind fun t2 =>
  (nl (binA .eql .int t2 (.int .i64 0))).bind fun t3 =>
  evK C D c ⟨[(1, .l 1 0), (2, .l 2 0), (7, .v t3)], [(1, l1), (2, l2)], H⟩ k := by kernel_rfl
def O39_2 : List IOper :=
  [⟨some 8, .build [(.int .i64 0), (.int .i64 0)] [], none⟩,
   ⟨none, .store 2 (.tmp 2) (.tmp 8), none⟩,
   ⟨some 3, .move (.const (.bool false)), none⟩]
@[simp] theorem R39_2 (x7 : AV) (l1 l2 : List AV) :
  evK C D (.seq (.region O39_2) (.keep [2, 3] [2] c)) ⟨[(1, .l 1 0), (2, .l 2 0), (7, .v x7)], [(1, l1), (2, l2)], H⟩ k =
  ((fillC [] [(.int .i64 0), (.int .i64 0)]).map AV.agg).bind fun t0 =>
  (stL 2 0 t0 l2).bind fun m1 =>
  evK C D c ⟨[(2, .l 2 0), (3, .v (.bool false))], [(2, m1)], H⟩ k := by kernel_rfl
def O39_3 : List IOper :=
  [⟨some 9, .fieldAddr 0 (.tmp 1), none⟩,
   ⟨some 10, .load false 1 (.tmp 9), none⟩,
   ⟨some 11, .fieldAddr 0 (.tmp 1), none⟩,
   ⟨some 12, .load false 1 (.tmp 11), none⟩,
   ⟨some 13, .len .slice (.tmp 12), none⟩,
   ⟨some 14, .bin .sub .none (.tmp 13) (.const (.int .i64 1)), none⟩,
   ⟨some 15, .indexAddr none 5 (.tmp 10) (.tmp 14), none⟩,
   ⟨some 16, .fieldAddr 0 (.tmp 15), none⟩,
   ⟨some 17, .load true 2 (.tmp 16), none⟩,
   ⟨none, .store 2 (.tmp 2) (.tmp 17), none⟩,
   ⟨some 3, .move (.const (.bool true)), none⟩]
@[simp] theorem R39_3 (l1 l2 : List AV) :
  evK C D (.seq (.region O39_3) (.keep [2, 3] [2] c)) ⟨[(1, .l 1 0), (2, .l 2 0)], [(1, l1), (2, l2)], H⟩ k =
  (nl (rd false 1 0 l1)).bind fun t1 =>
  (nl (rd false 1 0 l1)).bind fun t3 =>
  (lenS t3).bind fun t4 =>
  (nl (binA .sub .none t4 (.int .i64 1))).bind fun t5 =>
  (nl (idxS 5 t1 t5)).bind fun t6 =>
  (fldP 0 t6).bind fun t7 =>
  (nl (loadP H true 2 t7)).bind fun t8 =>
  (stL 2 0 t8 l2).bind fun m9 =>
  evK C D c ⟨[(2, .l 2 0), (3, .v (.bool true))], [(2, m9)], H⟩ k := by kernel_rfl
def F39 : FnIR := ⟨18, 1, [.cell 2 true 2, .tmp 3], [1, 2],
  .seq (.region O39_0)
  (.keep [1, 2] [1, 2] (.seq (.seq (.region O39_1)
   (.keep [1, 2, 7] [1, 2] (.cond (.tmp 7)
    (.seq (.region O39_2)
    (.keep [2, 3] [2] (.ret)))
    (.skip))))
  (.keep [1, 2] [1, 2] (.seq (.region O39_3)
  (.keep [2, 3] [2] (.ret))))))⟩
/-- wampum/stamp.Next -/
def O29_0 : List IOper :=
  [⟨some 1, .box true 2 (.tmp 0), none⟩,
   ⟨some 2, .alloc true 2 [(.int .i64 0), (.int .i64 0)], none⟩,
   ⟨some 3, .move (.const (.int .i64 0)), none⟩]
@[simp] theorem R29_0 (x0 : AV) :
  evK C D (.seq (.region O29_0) (.keep [1, 2] [1, 2] c)) ⟨[(0, .v x0)], [], H⟩ k =
  (boxC x0).bind fun m0 =>
  evK C D c ⟨[(1, .l 1 0), (2, .l 2 0)], [(1, m0), (2, [(.int .i64 0), (.int .i64 0)])], H⟩ k := by kernel_rfl
def O29_1 : List IOper :=
  [⟨some 5, .build [(.int .i64 0), (.int .i64 0)] [(0, 1, (.const (.int .i64 1099511627776))), (1, 1, (.const (.int .i64 65535)))], none⟩,
   ⟨some 4, .alloc true 2 [(.int .i64 0), (.int .i64 0)], none⟩,
   ⟨none, .store 2 (.tmp 4) (.tmp 5), none⟩]
@[simp] theorem R29_1 (l1 l2 : List AV) :
  evK C D (.seq (.region O29_1) (.keep [1, 2, 4] [1, 2, 4] c)) ⟨[(1, .l 1 0), (2, .l 2 0)], [(1, l1), (2, l2)], H⟩ k =
  ((fillC [(0, 1, (.int .i64 1099511627776)), (1, 1, (.int .i64 65535))] [(.int .i64 0), (.int .i64 0)]).map AV.agg).bind fun t0 =>
  (stL 2 0 t0 [(.int .i64 0), (.int .i64 0)]).bind fun m2 =>
  evK C D c ⟨[(1, .l 1 0), (2, .l 2 0), (4, .l 4 0)], [(1, l1), (2, l2), (4, m2)], H⟩ k := by kernel_rfl
def O29_2 : List IOper :=
  [⟨some 7, .load true 2 (.tmp 1), none⟩,
   ⟨some 8, .call (.func 40) [(.tmp 7)], none⟩,
   ⟨some 9, .un .not (.tmp 8), none⟩,
   ⟨some 10, .move (.tmp 9), none⟩,
   ⟨some 11, .load true 2 (.tmp 1), some (10, false)⟩,
   ⟨some 12, .load true 2 (.tmp 4), some (10, false)⟩,
   ⟨some 13, .bin .eql (.struct [(0, false, 1, .int), (1, false, 1, .int)]) (.tmp 11) (.tmp 12), some (10, false)⟩,
   ⟨some 14, .pick (.tmp 10) (.const (.bool true)) (.tmp 13), none⟩,
   ⟨some 6, .move (.tmp 14), none⟩]
@[simp] theorem R29_2 (l1 l2 l4 : List AV) :
  evK C D (.seq (.region O29_2) (.keep [1, 2, 6] [1, 2] c)) ⟨[(1, .l 1 0), (2, .l 2 0), (4, .l 4 0)], [(1, l1), (2, l2), (4, l4)], H⟩ k =
  (nl (rd true 2 0 l1)).bind fun t0 =>
  (callN C (.func (.func 40) [] []) [t0] H).bind fun r1 =>
  (nl (unA .not r1.1)).bind fun t2 =>
  guardK t2 false (
  (nl (rd true 2 0 l1)).bind fun t4 =>
  (nl (rd true 2 0 l4)).bind fun t5 =>
  (nl (binA .eql (.struct [(0, false, 1, .int), (1, false, 1, .int)]) t4 t5)).bind fun t6 =>
  evK C D c ⟨[(1, .l 1 0), (2, .l 2 0), (6, .v t6)], [(1, l1), (2, l2)], r1.2⟩ k)
  (evK C D c ⟨[(1, .l 1 0), (2, .l 2 0), (6, .v (.bool true))], [(1, l1), (2, l2)], r1.2⟩ k) := by kernel_rfl
def O29_3 : List IOper :=
  [⟨some 15, .build [(.int .i64 0), (.int .i64 0)] [], none⟩,
   ⟨none, .store 2 (.tmp 2) (.tmp 15), none⟩,
   ⟨some 3, .move (.const (.int .i64 31)), none⟩]
@[simp] theorem R29_3 (x6 : AV) (l1 l2 : List AV) :
  evK C D (.seq (.region O29_3) (.keep [2, 3] [2] c)) ⟨[(1, .l 1 0), (2, .l 2 0), (6, .v x6)], [(1, l1), (2, l2)], H⟩ k =
  ((fillC [] [(.int .i64 0), (.int .i64 0)]).map AV.agg).bind fun t0 =>
  (stL 2 0 t0 l2).bind fun m1 =>
  evK C D c ⟨[(2, .l 2 0), (3, .v (.int .i64 31))], [(2, m1)], H⟩ k := by kernel_rfl
def O29_4 : List IOper :=
  [⟨some 17, .fieldAddr 1 (.tmp 1), none⟩,
   ⟨some 18, .load false 1 (.tmp 17), none⟩,
   ⟨some 19, .bin .eql .int (.tmp 18) (.const (.int .i64 65535)), none⟩,
   ⟨some 16, .move (.tmp 19), none⟩]
@[simp] theorem R29_4 (x6 : AV) (l1 l2 : List AV) :
  evK C D (.seq (.region O29_4) (.keep [1, 2, 16] [1, 2] c)) ⟨[(1, .l 1 0), (2, .l 2 0), (6, .v x6)], [(1, l1), (2, l2)], H⟩ k =
  (nl (rd false 1 1 l1)).bind fun t1 =>
  (nl (binA .eql .int t1 (.int .i64 65535))).bind fun t2 =>
  evK C D c ⟨[(1, .l 1 0), (2, .l 2 0), (16, .v t2)], [(1, l1), (2, l2)], H⟩ k := by kernel_rfl
def O29_5 : List IOper :=
  [⟨some 20, .fieldAddr 0 (.tmp 1), none⟩,
   ⟨some 21, .load false 1 (.tmp 20), none⟩,
   ⟨some 22, .bin .add .none (.tmp 21) (.const (.int .i64 1)), none⟩,
   ⟨some 23, .build [(.int .i64 0), (.int .i64 0)] [(0, 1, (.tmp 22))], none⟩,
   ⟨none, .store 2 (.tmp 2) (.tmp 23), none⟩,
   ⟨some 3, .move (.const (.int .i64 0)), none⟩]
@[simp] theorem R29_5 (x16 : AV) (l1 l2 : List AV) :
  evK C D (.seq (.region O29_5) (.keep [2, 3] [2] c)) ⟨[(1, .l 1 0), (2, .l 2 0), (16, .v x16)], [(1, l1), (2, l2)], H⟩ k =
  (nl (rd false 1 0 l1)).bind fun t1 =>
  (nl (binA .add .none t1 (.int .i64 1))).bind fun t2 =>
  ((fillC [(0, 1, t2)] [(.int .i64 0), (.int .i64 0)]).map AV.agg).bind fun t3 =>
  (stL 2 0 t3 l2).bind fun m4 =>
  evK C D c ⟨[(2, .l 2 0), (3, .v (.int .i64 0))], [(2, m4)], H⟩ k := by kernel_rfl
def O29_6 : List IOper :=
  [⟨some 24, .fieldAddr 1 (.tmp 1), none⟩,
   ⟨some 25, .load false 1 (.tmp 24), none⟩,
   ⟨some 26, .bin .add .none (.tmp 25) (.const (.int .i64 1)), none⟩,
   ⟨some 27, .fieldAddr 1 (.tmp 1), none⟩,
   ⟨none, .store 1 (.tmp 27) (.tmp 26), none⟩]
@[simp] theorem R29_6 (l1 l2 : List AV) :
  evK C D (.seq (.region O29_6) (.keep [1, 2] [1, 2] c)) ⟨[(1, .l 1 0), (2, .l 2 0)], [(1, l1), (2, l2)], H⟩ k =
  (nl (rd false 1 1 l1)).bind fun t1 =>
  (nl (binA .add .none t1 (.int .i64 1))).bind fun t2 =>
  (stL 1 1 t2 l1).bind fun m4 =>
  evK C D c ⟨[(1, .l 1 0), (2, .l 2 0)], [(1, m4), (2, l2)], H⟩ k := by kernel_rfl
def O29_7 : List IOper :=
  [⟨some 28, .load true 2 (.tmp 1), none⟩,
   ⟨none, .store 2 (.tmp 2) (.tmp 28), none⟩,
   ⟨some 3, .move (.const (.int .i64 0)), none⟩]
@[simp] theorem R29_7 (l1 l2 : List AV) :
  evK C D (.seq (.region O29_7) (.keep [2, 3] [2] c)) ⟨[(1, .l 1 0), (2, .l 2 0)], [(1, l1), (2, l2)], H⟩ k =
  (nl (rd true 2 0 l1)).bind fun t0 =>
  (stL 2 0 t0 l2).bind fun m1 =>
  evK C D c ⟨[(2, .l 2 0), (3, .v (.int .i64 0))], [(2, m1)], H⟩ k := by kernel_rfl
def F29 : FnIR := ⟨29, 1, [.cell 2 true 2, .tmp 3], [1, 2, 4],
  .seq (.region O29_0)
  (.keep [1, 2] [1, 2] (.seq (.region O29_1)
  (.keep [1, 2, 4] [1, 2, 4] (.seq (.block 0 (.seq (.region O29_2)
    (.keep [1, 2, 6] [1, 2] (.cond (.tmp 6)
     (.seq (.region O29_3)
     (.keep [2, 3] [2] (.ret)))
     (.seq (.region O29_4)
     (.keep [1, 2, 16] [1, 2] (.cond (.tmp 16)
      (.seq (.region O29_5)
      (.keep [2, 3] [2] (.ret)))
      (.skip))))))))
  (.keep [1, 2] [1, 2] (.seq (.region O29_6)
  (.keep [1, 2] [1, 2] (.seq (.region O29_7)
  (.keep [2, 3] [2] (.ret))))))))))⟩
/-- wampum/stamp.Right -/
def O40_0 : List IOper :=
  [⟨some 1, .box true 2 (.tmp 0), none⟩,
   ⟨some 2, .move (.const (.bool false)), none⟩]
@[simp] theorem R40_0 (x0 : AV) :
  evK C D (.seq (.region O40_0) (.keep [1] [1] c)) ⟨[(0, .v x0)], [], H⟩ k =
  (boxC x0).bind fun m0 =>
  evK C D c ⟨[(1, .l 1 0)], [(1, m0)], H⟩ k := by kernel_rfl
def O40_1 : List IOper :=
  [⟨some 3, .fieldAddr 0 (.tmp 1), none⟩,
   ⟨some 4, .load false 1 (.tmp 3), none⟩,
   ⟨some 5, .call (.func 50) [(.tmp 4), (.const (.int .i64 0)), (.const (.int .i64 1099511627776))], none⟩,
   ⟨some 6, .move (.tmp 5), none⟩,
   ⟨some 7, .fieldAddr 1 (.tmp 1), some (6, true)⟩,
   ⟨some 8, .load false 1 (.tmp 7), some (6, true)⟩,
   ⟨some 9, .call (.func 50) [(.tmp 8), (.const (.int .i64 0)), (.const (.int .i64 65535))], some (6, true)⟩,
   ⟨some 10, .pick (.tmp 6) (.tmp 9) (.const (.bool false)), none⟩,
   ⟨some 2, .move (.tmp 10), none⟩]
@[simp] theorem R40_1 (l1 : List AV) :
  evK C D (.seq (.region O40_1) (.keep [2] [] c)) ⟨[(1, .l 1 0)], [(1, l1)], H⟩ k =
  (nl (rd false 1 0 l1)).bind fun t1 =>
  (callN C (.func (.func 50) [] []) [t1, (.int .i64 0), (.int .i64 1099511627776)] H).bind fun r2 =>
  guardK r2.1 true (
  (nl (rd false 1 1 l1)).bind fun t5 =>
  (callN C (.func (.func 50) [] []) [t5, (.int .i64 0), (.int .i64 65535)] r2.2).bind fun r6 =>
  evK C D c ⟨[(2, .v r6.1)], [], r6.2⟩ k)
  (evK C D c ⟨[(2, .v (.bool false))], [], r2.2⟩ k) := by kernel_rfl
def F40 : FnIR := ⟨11, 1, [.tmp 2], [1],
  .seq (.region O40_0)
  (.keep [1] [1] (.seq (.region O40_1)
  (.keep [2] [] (.ret))))⟩
/-- wampum/stamp.within[int] -/
def O50_0 : List IOper :=
  [⟨some 6, .move (.const (.bool false)), none⟩]
@[simp] theorem R50_0 (x0 x1 x2 : AV) :
  evK C D (.seq (.region O50_0) (.keep [0, 1, 2] [] c)) ⟨[(0, .v x0), (1, .v x1), (2, .v x2)], [], H⟩ k =
  evK C D c ⟨[(0, .v x0), (1, .v x1), (2, .v x2)], [], H⟩ k := by kernel_rfl
def O50_1 : List IOper :=
  [⟨some 7, .move (.tmp 0), none⟩,
   ⟨some 8, .move (.tmp 1), none⟩,
   ⟨some 9, .bin .geq .none (.tmp 7) (.tmp 8), none⟩,
   ⟨some 10, .move (.tmp 9), none⟩,
   ⟨some 11, .move (.tmp 0), some (10, true)⟩,
   ⟨some 12, .move (.tmp 2), some (10, true)⟩,
   ⟨some 13, .bin .leq .none (.tmp 11) (.tmp 12), some (10, true)⟩,
   ⟨some 14, .pick (.tmp 10) (.tmp 13) (.const (.bool false)), none⟩,
   ⟨some 6, .move (.tmp 14), none⟩]
@[simp] theorem R50_1 (x0 x1 x2 : AV) :
  evK C D (.seq (.region O50_1) (.keep [6] [] c)) ⟨[(0, .v x0), (1, .v x1), (2, .v x2)], [], H⟩ k =
  (nl (binA .geq .none x0 x1)).bind fun t2 =>
  guardK t2 true (
  (nl (binA .leq .none x0 x2)).bind fun t6 =>
  evK C D c ⟨[(6, .v t6)], [], H⟩ k)
  (evK C D c ⟨[(6, .v (.bool false))], [], H⟩ k) := by kernel_rfl
def F50 : FnIR := ⟨15, 3, [.tmp 6], [],
  .seq (.region O50_0)
  (.keep [0, 1, 2] [] (.seq (.region O50_1)
  (.keep [6] [] (.ret))))⟩
/-- wampum/stamp.Max -/
def O49_0 : List IOper :=
  [⟨some 2, .box true 2 (.tmp 0), none⟩,
   ⟨some 3, .box true 2 (.tmp 1), none⟩,
   ⟨some 4, .alloc true 2 [(.int .i64 0), (.int .i64 0)], none⟩]
@[simp] theorem R49_0 (x0 x1 : AV) :
  evK C D (.seq (.region O49_0) (.keep [2, 3, 4] [2, 3, 4] c)) ⟨[(0, .v x0), (1, .v x1)], [], H⟩ k =
  (boxC x0).bind fun m0 =>
  (boxC x1).bind fun m1 =>
  evK C D c ⟨[(2, .l 2 0), (3, .l 3 0), (4, .l 4 0)], [(2, m0), (3, m1), (4, [(.int .i64 0), (.int .i64 0)])], H⟩ k := by kernel_rfl
def O49_1 : List IOper :=
  [⟨some 5, .load true 2 (.tmp 2), none⟩,
   ⟨some 6, .load true 2 (.tmp 3), none⟩,
   ⟨some 7, .call (.func 20) [(.tmp 5), (.tmp 6)], none⟩]
@[simp] theorem R49_1 (l2 l3 l4 : List AV) :
  evK C D (.seq (.region O49_1) (.keep [2, 3, 4, 7] [2, 3, 4] c)) ⟨[(2, .l 2 0), (3, .l 3 0), (4, .l 4 0)], [(2, l2), (3, l3), (4, l4)], H⟩ k =
  (nl (rd true 2 0 l2)).bind fun t0 =>
  (nl (rd true 2 0 l3)).bind fun t1 =>
  (callN C (.func (.func 20) [] []) [t0, t1] H).bind fun r2 =>
  evK C D c ⟨[(2, .l 2 0), (3, .l 3 0), (4, .l 4 0), (7, .v r2.1)], [(2, l2), (3, l3), (4, l4)], r2.2⟩ k := by kernel_rfl
def O49_2 : List IOper :=
  [⟨some 8, .load true 2 (.tmp 3), none⟩,
   ⟨none, .store 2 (.tmp 4) (.tmp 8), none⟩]
@[simp] theorem R49_2 (x7 : AV) (l2 l3 l4 : List AV) :
  evK C D (.seq (.region O49_2) (.keep [4] [4] c)) ⟨[(2, .l 2 0), (3, .l 3 0), (4, .l 4 0), (7, .v x7)], [(2, l2), (3, l3), (4, l4)], H⟩ k =
  (nl (rd true 2 0 l3)).bind fun t0 =>
  (stL 2 0 t0 l4).bind fun m1 =>
  evK C D c ⟨[(4, .l 4 0)], [(4, m1)], H⟩ k := by kernel_rfl
def O49_3 : List IOper :=
  [⟨some 9, .load true 2 (.tmp 2), none⟩,
   ⟨none, .store 2 (.tmp 4) (.tmp 9), none⟩]
@[simp] theorem R49_3 (l2 l4 : List AV) :
  evK C D (.seq (.region O49_3) (.keep [4] [4] c)) ⟨[(2, .l 2 0), (4, .l 4 0)], [(2, l2), (4, l4)], H⟩ k =
  (nl (rd true 2 0 l2)).bind fun t0 =>
  (stL 2 0 t0 l4).bind fun m1 =>
  evK C D c ⟨[(4, .l 4 0)], [(4, m1)], H⟩ k := by kernel_rfl
def F49 : FnIR := ⟨10, 2, [.cell 4 true 2], [2, 3, 4],
  .seq (.region O49_0)
  (.keep [2, 3, 4] [2, 3, 4] (.seq (.seq (.region O49_1)
   (.keep [2, 3, 4, 7] [2, 3, 4] (.cond (.tmp 7)
    (.seq (.region O49_2)
    (.keep [4] [4] (.ret)))
    (.skip))))
  (.keep [2, 4] [2, 4] (.seq (.region O49_3)
  (.keep [4] [4] (.ret))))))⟩
/-- wampum/stamp.Less -/
def O20_0 : List IOper :=
  [⟨some 2, .box true 2 (.tmp 0), none⟩,
   ⟨some 3, .box true 2 (.tmp 1), none⟩,
   ⟨some 4, .move (.const (.bool false)), none⟩]
@[simp] theorem R20_0 (x0 x1 : AV) :
  evK C D (.seq (.region O20_0) (.keep [2, 3] [2, 3] c)) ⟨[(0, .v x0), (1, .v x1)], [], H⟩ k =
  (boxC x0).bind fun m0 =>
  (boxC x1).bind fun m1 =>
  evK C D c ⟨[(2, .l 2 0), (3, .l 3 0)], [(2, m0), (3, m1)], H⟩ k := by kernel_rfl
def O20_1 : List IOper :=
  [⟨some 5, .load true 2 (.tmp 2), none⟩,
   ⟨some 6, .load true 2 (.tmp 3), none⟩,
   ⟨some 7, .call (.func 44) [(.tmp 5), (.tmp 6)], none⟩,
   ⟨some 8, .bin .lss .none (.tmp 7) (.const (.int .i64 0)), none⟩,
   ⟨some 4, .move (.tmp 8), none⟩]
@[simp] theorem R20_1 (l2 l3 : List AV) :
  evK C D (.seq (.region O20_1) (.keep [4] [] c)) ⟨[(2, .l 2 0), (3, .l 3 0)], [(2, l2), (3, l3)], H⟩ k =
  (nl (rd true 2 0 l2)).bind fun t0 =>
  (nl (rd true 2 0 l3)).bind fun t1 =>
  (callN C (.func (.func 44) [] []) [t0, t1] H).bind fun r2 =>
  (nl (binA .lss .none r2.1 (.int .i64 0))).bind fun t3 =>
  evK C D c ⟨[(4, .v t3)], [], r2.2⟩ k := by kernel_rfl
def F20 : FnIR := ⟨9, 2, [.tmp 4], [2, 3],
  .seq (.region O20_0)
  (.keep [2, 3] [2, 3] (.seq (.region O20_1)
  (.keep [4] [] (.ret))))⟩
/-- wampum/stamp.Compare -/
def O44_0 : List IOper :=
  [⟨some 2, .box true 2 (.tmp 0), none⟩,
   ⟨some 3, .box true 2 (.tmp 1), none⟩,
   ⟨some 4, .move (.const (.int .i64 0)), none⟩]
@[simp] theorem R44_0 (x0 x1 : AV) :
  evK C D (.seq (.region O44_0) (.keep [2, 3] [2, 3] c)) ⟨[(0, .v x0), (1, .v x1)], [], H⟩ k =
  (boxC x0).bind fun m0 =>
  (boxC x1).bind fun m1 =>
  evK C D c ⟨[(2, .l 2 0), (3, .l 3 0)], [(2, m0), (3, m1)], H⟩ k := by kernel_rfl
def O44_1 : List IOper :=
  [⟨some 5, .fieldAddr 0 (.tmp 2), none⟩,
   ⟨some 6, .load false 1 (.tmp 5), none⟩,
   ⟨some 7, .fieldAddr 0 (.tmp 3), none⟩,
   ⟨some 8, .load false 1 (.tmp 7), none⟩,
   ⟨some 9, .call (.func 54) [(.tmp 6), (.tmp 8)], none⟩,
   ⟨some 10, .fieldAddr 1 (.tmp 2), none⟩,
   ⟨some 11, .load false 1 (.tmp 10), none⟩,
   ⟨some 12, .fieldAddr 1 (.tmp 3), none⟩,
   ⟨some 13, .load false 1 (.tmp 12), none⟩,
   ⟨some 14, .call (.func 54) [(.tmp 11), (.tmp 13)], none⟩,
   ⟨some 15, .buildSlice 1 2 [(.int .i64 0), (.int .i64 0)] [(0, 1, (.tmp 9)), (1, 1, (.tmp 14))], none⟩,
   ⟨some 16, .call (.func 53) [(.tmp 15)], none⟩,
   ⟨some 4, .move (.tmp 16), none⟩]
@[simp] theorem R44_1 (l2 l3 : List AV) :
  evK C D (.seq (.regionD O44_1 [(6, 0), (8, 0)]) (.keep [4] [] c)) ⟨[(2, .l 2 0), (3, .l 3 0)], [(2, l2), (3, l3)], H⟩ k =
  (nl (rd false 1 0 l2)).bind fun t1 =>
  kB (AV.okB H.n t1) (
  (nl (rd false 1 0 l3)).bind fun t3 =>
  kB (AV.okB H.n t3) (
  (callN C (.func (.func 54) [] []) [t1, t3] H).bind fun r4 =>
  (nl (rd false 1 1 l2)).bind fun t6 =>
  kB (AV.okB r4.2.n t6) (
  (nl (rd false 1 1 l3)).bind fun t8 =>
  kB (AV.okB r4.2.n t8) (
  (callN C (.func (.func 54) [] []) [t6, t8] r4.2).bind fun r9 =>
  ((fillC [(0, 1, r4.1), (1, 1, r9.1)] [(.int .i64 0), (.int .i64 0)]).map fun cs => (AV.slice r9.2.n 0 2 2, r9.2.alloc (.row false 1 cs))).bind fun r10 =>
  (callN C (.func (.func 53) [] []) [r10.1] r10.2).bind fun r11 =>
  kB (chk (rd false 1 1 l2) t6) (
  kB (chk (rd false 1 1 l3) t8) (
  evK C D c ⟨[(4, .v r11.1)], [], r11.2⟩ k)))))) := by kernel_rfl
def F44 : FnIR := ⟨17, 2, [.tmp 4], [2, 3],
  .seq (.region O44_0)
  (.keep [2, 3] [2, 3] (.seq (.regionD O44_1 [(6, 0), (8, 0)])
  (.keep [4] [] (.ret))))⟩
/-- cmp.Compare[int] -/
def O54_0 : List IOper :=
  [⟨some 4, .move (.const (.int .i64 0)), none⟩]
@[simp] theorem R54_0 (x0 x1 : AV) :
  evK C D (.seq (.region O54_0) (.keep [0, 1] [] c)) ⟨[(0, .v x0), (1, .v x1)], [], H⟩ k =
  evK C D c ⟨[(0, .v x0), (1, .v x1)], [], H⟩ k := by kernel_rfl
def O54_1 : List IOper :=
  [⟨some 7, .move (.tmp 0), none⟩,
   ⟨some 8, .call (.func 55) [(.tmp 7)], none⟩,
   ⟨some 5, .move (.tmp 8), none⟩]
@[simp] theorem R54_1 (x0 x1 : AV) :
  evK C D (.seq (.region O54_1) (.keep [0, 1, 5] [] c)) ⟨[(0, .v x0), (1, .v x1)], [], H⟩ k =
  (callN C (.func (.func 55) [] []) [x0] H).bind fun r1 =>
  evK C D c ⟨[(0, .v x0), (1, .v x1), (5, .v r1.1)], [], r1.2⟩ k := by kernel_rfl
def O54_2 : List IOper :=
  [⟨some 9, .move (.tmp 1), none⟩,
   ⟨some 10, .call (.func 55) [(.tmp 9)], none⟩,
   ⟨some 6, .move (.tmp 10), none⟩]
@[simp] theorem R54_2 (x0 x1 x5 : AV) :
  evK C D (.seq (.region O54_2) (.keep [0, 1, 5, 6] [] c)) ⟨[(0, .v x0), (1, .v x1), (5, .v x5)], [], H⟩ k =
  (callN C (.func (.func 55) [] []) [x1] H).bind fun r1 =>
  evK C D c ⟨[(0, .v x0), (1, .v x1), (5, .v x5), (6, .v r1.1)], [], r1.2⟩ k := by kernel_rfl
def O54_3 : List IOper :=
  [⟨some 11, .move (.tmp 5), none⟩]
@[simp] theorem R54_3 (x0 x1 x5 x6 : AV) :
  evK C D (.seq (.region O54_3) (.keep [0, 1, 6, 11] [] c)) ⟨[(0, .v x0), (1, .v x1), (5, .v x5), (6, .v x6)], [], H⟩ k =
  evK C D c ⟨[(0, .v x0), (1, .v x1), (6, .v x6), (11, .v x5)], [], H⟩ k := by kernel_rfl
def O54_4 : List IOper :=
  [⟨some 12, .move (.tmp 6), none⟩]
@[simp] theorem R54_4 (x0 x1 x6 x11 : AV) :
  evK C D (.seq (.region O54_4) (.keep [12] [] c)) ⟨[(0, .v x0), (1, .v x1), (6, .v x6), (11, .v x11)], [], H⟩ k =
  evK C D c ⟨[(12, .v x6)], [], H⟩ k := by kernel_rfl
def O54_5 : List IOper :=
  [⟨some 4, .move (.const (.int .i64 0)), none⟩]
@[simp] theorem R54_5 (x12 : AV) :
  evK C D (.seq (.region O54_5) (.keep [4] [] c)) ⟨[(12, .v x12)], [], H⟩ k =
  evK C D c ⟨[(4, .v (.int .i64 0))], [], H⟩ k := by kernel_rfl
def O54_6 : List IOper :=
  [⟨some 4, .move (.const (.int .i64 (-1))), none⟩]
@[simp] theorem R54_6 :
  evK C D (.seq (.region O54_6) (.keep [4] [] c)) ⟨[], [], H⟩ k =
  evK C D c ⟨[(4, .v (.int .i64 (-1)))], [], H⟩ k := by kernel_rfl
def O54_7 : List IOper :=
  [⟨some 13, .move (.tmp 6), none⟩]
@[simp] theorem R54_7 (x0 x1 x6 : AV) :
  evK C D (.seq (.region O54_7) (.keep [0, 1, 13] [] c)) ⟨[(0, .v x0), (1, .v x1), (6, .v x6)], [], H⟩ k =
  evK C D c ⟨[(0, .v x0), (1, .v x1), (13, .v x6)], [], H⟩ k := by kernel_rfl
def O54_8 : List IOper :=
  [⟨some 4, .move (.const (.int .i64 1)), none⟩]
@[simp] theorem R54_8 (x0 x1 x13 : AV) :
  evK C D (.seq (.region O54_8) (.keep [4] [] c)) ⟨[(0, .v x0), (1, .v x1), (13, .v x13)], [], H⟩ k =
  evK C D c ⟨[(4, .v (.int .i64 1))], [], H⟩ k := by kernel_rfl
def O54_9 : List IOper :=
  [⟨some 14, .move (.tmp 0), none⟩,
   ⟨some 15, .move (.tmp 1), none⟩,
   ⟨some 16, .bin .lss .none (.tmp 14) (.tmp 15), none⟩]
@[simp] theorem R54_9 (x0 x1 : AV) :
  evK C D (.seq (.region O54_9) (.keep [0, 1, 16] [] c)) ⟨[(0, .v x0), (1, .v x1)], [], H⟩ k =
  (nl (binA .lss .none x0 x1)).bind fun t2 =>
  evK C D c ⟨[(0, .v x0), (1, .v x1), (16, .v t2)], [], H⟩ k := by kernel_rfl
def O54_10 : List IOper :=
  [⟨some 4, .move (.const (.int .i64 (-1))), none⟩]
@[simp] theorem R54_10 (x0 x1 x16 : AV) :
  evK C D (.seq (.region O54_10) (.keep [4] [] c)) ⟨[(0, .v x0), (1, .v x1), (16, .v x16)], [], H⟩ k =
  evK C D c ⟨[(4, .v (.int .i64 (-1)))], [], H⟩ k := by kernel_rfl
def O54_11 : List IOper :=
  [⟨some 17, .move (.tmp 0), none⟩,
   ⟨some 18, .move (.tmp 1), none⟩,
   ⟨some 19, .bin .gtr .none (.tmp 17) (.tmp 18), none⟩]
@[simp] theorem R54_11 (x0 x1 : AV) :
  evK C D (.seq (.region O54_11) (.keep [19] [] c)) ⟨[(0, .v x0), (1, .v x1)], [], H⟩ k =
  (nl (binA .gtr .none x0 x1)).bind fun t2 =>
  evK C D c ⟨[(19, .v t2)], [], H⟩ k := by kernel_rfl
def O54_12 : List IOper :=
  [⟨some 4, .move (.const (.int .i64 1)), none⟩]
@[simp] theorem R54_12 (x19 : AV) :
  evK C D (.seq (.region O54_12) (.keep [4] [] c)) ⟨[(19, .v x19)], [], H⟩ k =
  evK C D c ⟨[(4, .v (.int .i64 1))], [], H⟩ k := by kernel_rfl
def O54_13 : List IOper :=
  [⟨some 4, .move (.const (.int .i64 0)), none⟩]
@[simp] theorem R54_13 :
  evK C D (.seq (.region O54_13) (.keep [4] [] c)) ⟨[], [], H⟩ k =
  evK C D c ⟨[(4, .v (.int .i64 0))], [], H⟩ k := by kernel_rfl
def F54 : FnIR := ⟨20, 2, [.tmp 4], [],
  .seq (.region O54_0)
  (.keep [0, 1] [] (.seq (.region O54_1)
  (.keep [0, 1, 5] [] (.seq (.region O54_2)
  (.keep [0, 1, 5, 6] [] (.seq (.seq (.region O54_3)
   (.keep [0, 1, 6, 11] [] (.cond (.tmp 11)
    (.seq (.seq (.region O54_4)
     (.keep [12] [] (.cond (.tmp 12)
      (.seq (.region O54_5)
      (.keep [4] [] (.ret)))
      (.skip))))
    (.keep [] [] (.seq (.region O54_6)
    (.keep [4] [] (.ret)))))
    (.skip))))
  (.keep [0, 1, 6] [] (.seq (.seq (.region O54_7)
   (.keep [0, 1, 13] [] (.cond (.tmp 13)
    (.seq (.region O54_8)
    (.keep [4] [] (.ret)))
    (.skip))))
  (.keep [0, 1] [] (.seq (.seq (.region O54_9)
   (.keep [0, 1, 16] [] (.cond (.tmp 16)
    (.seq (.region O54_10)
    (.keep [4] [] (.ret)))
    (.skip))))
  (.keep [0, 1] [] (.seq (.seq (.region O54_11)
   (.keep [19] [] (.cond (.tmp 19)
    (.seq (.region O54_12)
    (.keep [4] [] (.ret)))
    (.skip))))
  (.keep [] [] (.seq (.region O54_13)
  (.keep [4] [] (.ret))))))))))))))))⟩
/-- cmp.isNaN[int] -/
def O55_0 : List IOper :=
  [⟨some 2, .move (.const (.bool false)), none⟩]
@[simp] theorem R55_0 (x0 : AV) :
  evK C D (.seq (.region O55_0) (.keep [0] [] c)) ⟨[(0, .v x0)], [], H⟩ k =
  evK C D c ⟨[(0, .v x0)], [], H⟩ k := by kernel_rfl
def O55_1 : List IOper :=
  [⟨some 3, .move (.tmp 0), none⟩,
   ⟨some 4, .move (.tmp 0), none⟩,
   ⟨some 5, .bin .neq .int (.tmp 3) (.tmp 4), none⟩,
   ⟨some 2, .move (.tmp 5), none⟩]
@[simp] theorem R55_1 (x0 : AV) :
  evK C D (.seq (.region O55_1) (.keep [2] [] c)) ⟨[(0, .v x0)], [], H⟩ k =
  (nl (binA .neq .int x0 x0)).bind fun t2 =>
  evK C D c ⟨[(2, .v t2)], [], H⟩ k := by kernel_rfl
def F55 : FnIR := ⟨6, 1, [.tmp 2], [],
  .seq (.region O55_0)
  (.keep [0] [] (.seq (.region O55_1)
  (.keep [2] [] (.ret))))⟩
/-- cmp.Or[int] -/
def O53_0 : List IOper :=
  [⟨some 2, .move (.const (.int .i64 0)), none⟩]
@[simp] theorem R53_0 (x0 : AV) :
  evK C D (.seq (.region O53_0) (.keep [0] [] c)) ⟨[(0, .v x0)], [], H⟩ k =
  evK C D c ⟨[(0, .v x0)], [], H⟩ k := by kernel_rfl
def O53_1 : List IOper :=
  [⟨some 3, .move (.const (.int .i64 0)), none⟩]
@[simp] theorem R53_1 (x0 : AV) :
  evK C D (.seq (.region O53_1) (.keep [0, 3] [] c)) ⟨[(0, .v x0)], [], H⟩ k =
  evK C D c ⟨[(0, .v x0), (3, .v (.int .i64 0))], [], H⟩ k := by kernel_rfl
def O53_2 : List IOper :=
  [⟨some 6, .move (.tmp 0), none⟩,
   ⟨some 7, .len .slice (.tmp 6), none⟩,
   ⟨some 8, .move (.const (.int .i64 0)), none⟩]
@[simp] theorem R53_2 (x0 x3 : AV) :
  evK C D (.seq (.region O53_2) (.keep [3, 6, 7, 8] [] c)) ⟨[(0, .v x0), (3, .v x3)], [], H⟩ k =
  (lenS x0).bind fun t1 =>
  evK C D c ⟨[(3, .v x3), (6, .v x0), (7, .v t1), (8, .v (.int .i64 0))], [], H⟩ k := by kernel_rfl
def O53_3 : List IOper :=
  [⟨some 9, .bin .lss .none (.tmp 8) (.tmp 7), none⟩]
@[simp] theorem R53_3 (x3 x6 x7 x8 : AV) :
  evK C D (.seq (.region O53_3) (.keep [3, 6, 7, 8, 9] [] c)) ⟨[(3, .v x3), (6, .v x6), (7, .v x7), (8, .v x8)], [], H⟩ k =
  (nl (binA .lss .none x8 x7)).bind fun t0 =>
  evK C D c ⟨[(3, .v x3), (6, .v x6), (7, .v x7), (8, .v x8), (9, .v t0)], [], H⟩ k := by kernel_rfl
def O53_4 : List IOper :=
  [⟨some 10, .indexAddr none 1 (.tmp 6) (.tmp 8), none⟩,
   ⟨some 11, .load false 1 (.tmp 10), none⟩,
   ⟨some 5, .move (.tmp 11), none⟩]
@[simp] theorem R53_4 (x3 x6 x7 x8 : AV) :
  evK C D (.seq (.region O53_4) (.keep [3, 5, 6, 7, 8] [] c)) ⟨[(3, .v x3), (6, .v x6), (7, .v x7), (8, .v x8)], [], H⟩ k =
  (nl (idxS 1 x6 x8)).bind fun t0 =>
  (nl (loadP H false 1 t0)).bind fun t1 =>
  evK C D c ⟨[(3, .v x3), (5, .v t1), (6, .v x6), (7, .v x7), (8, .v x8)], [], H⟩ k := by kernel_rfl
def O53_5 : List IOper :=
  [⟨some 12, .move (.tmp 5), none⟩,
   ⟨some 13, .move (.tmp 3), none⟩,
   ⟨some 14, .bin .neq .int (.tmp 12) (.tmp 13), none⟩]
@[simp] theorem R53_5 (x3 x5 x6 x7 x8 : AV) :
  evK C D (.seq (.region O53_5) (.keep [3, 5, 6, 7, 8, 14] [] c)) ⟨[(3, .v x3), (5, .v x5), (6, .v x6), (7, .v x7), (8, .v x8)], [], H⟩ k =
  (nl (binA .neq .int x5 x3)).bind fun t2 =>
  evK C D c ⟨[(3, .v x3), (5, .v x5), (6, .v x6), (7, .v x7), (8, .v x8), (14, .v t2)], [], H⟩ k := by kernel_rfl
def O53_6 : List IOper :=
  [⟨some 15, .move (.tmp 5), none⟩,
   ⟨some 2, .move (.tmp 15), none⟩]
@[simp] theorem R53_6 (x3 x5 x6 x7 x8 x14 : AV) :
  evK C D (.seq (.region O53_6) (.keep [2] [] c)) ⟨[(3, .v x3), (5, .v x5), (6, .v x6), (7, .v x7), (8, .v x8), (14, .v x14)], [], H⟩ k =
  evK C D c ⟨[(2, .v x5)], [], H⟩ k := by kernel_rfl
def O53_7 : List IOper :=
  [⟨some 16, .bin .add .none (.tmp 8) (.const (.int .i64 1)), none⟩,
   ⟨some 8, .move (.tmp 16), none⟩]
@[simp] theorem R53_7 (x3 x6 x7 x8 : AV) :
  evK C D (.region O53_7) ⟨[(3, .v x3), (6, .v x6), (7, .v x7), (8, .v x8)], [], H⟩ k =
  (nl (binA .add .none x8 (.int .i64 1))).bind fun t0 =>
  k .normal ⟨[(8, .v t0), (16, .v t0), (3, .v x3), (6, .v x6), (7, .v x7), (8, .v x8)], [], H⟩ := by kernel_rfl
def B53_0 : IC :=
  .seq (.region O53_3)
  (.keep [3, 6, 7, 8, 9] [] (.seq (.cond (.tmp 9)
    (.skip)
    (.exit 0))
  (.keep [3, 6, 7, 8] [] (.seq (.block 1 (.seq (.region O53_4)
    (.keep [3, 5, 6, 7, 8] [] (.seq (.region O53_5)
    (.keep [3, 5, 6, 7, 8, 14] [] (.cond (.tmp 14)
     (.seq (.region O53_6)
     (.keep [2] [] (.ret)))
     (.skip)))))))
  (.keep [3, 6, 7, 8] [] (.region O53_7))))))
def L53_0 : IC := .keep [3, 6, 7, 8] [] B53_0
@[simp] theorem LK53_0 (s : SK) (k : AExit → SK → Option R) : evK C D (.loop L53_0) s k = (D (.loop L53_0) (prK [3, 6, 7, 8] [] s).toSt).bind fun r => k r.1 (ofSt r.2) := by kernel_rfl
def O53_8 : List IOper :=
  [⟨some 17, .move (.tmp 3), none⟩,
   ⟨some 2, .move (.tmp 17), none⟩]
@[simp] theorem R53_8 (x3 : AV) :
  evK C D (.seq (.region O53_8) (.keep [2] [] c)) ⟨[(3, .v x3)], [], H⟩ k =
  evK C D c ⟨[(2, .v x3)], [], H⟩ k := by kernel_rfl
def F53 : FnIR := ⟨18, 1, [.tmp 2], [],
  .seq (.region O53_0)
  (.keep [0] [] (.seq (.region O53_1)
  (.keep [0, 3] [] (.seq (.seq (.region O53_2)
   (.keep [3, 6, 7, 8] [] (.block 0 (.loop L53_0))))
  (.keep [3] [] (.seq (.region O53_8)
  (.keep [2] [] (.ret))))))))⟩
/-- wampum/version.Resolve -/
def O16_0 : List IOper :=
  [⟨some 5, .box true 12 (.tmp 0), none⟩,
   ⟨some 9, .box true 2 (.tmp 4), none⟩,
   ⟨some 10, .alloc true 12 [.nils, (.bool false), (.int .i64 0), (.int .i64 0), (.str []), (.int .i64 0), (.int .i64 0), (.int .i64 0), (.int .i64 0), (.int .i64 0), (.str []), (.bool false)], none⟩,
   ⟨some 11, .move (.const (.int .i64 0)), none⟩]
@[simp] theorem R16_0 (x0 x1 x2 x3 x4 : AV) :
  evK C D (.seq (.region O16_0) (.keep [1, 2, 3, 5, 9, 10] [5, 9, 10] c)) ⟨[(0, .v x0), (1, .v x1), (2, .v x2), (3, .v x3), (4, .v x4)], [], H⟩ k =
  (boxC x0).bind fun m0 =>
  (boxC x4).bind fun m1 =>
  evK C D c ⟨[(1, .v x1), (2, .v x2), (3, .v x3), (5, .l 5 0), (9, .l 9 0), (10, .l 10 0)], [(5, m0), (9, m1), (10, [.nils, (.bool false), (.int .i64 0), (.int .i64 0), (.str []), (.int .i64 0), (.int .i64 0), (.int .i64 0), (.int .i64 0), (.int .i64 0), (.str []), (.bool false)])], H⟩ k := by kernel_rfl
def O16_1 : List IOper :=
  [⟨some 15, .fieldAddr 2 (.tmp 5), none⟩,
   ⟨some 16, .load true 10 (.tmp 15), none⟩,
   ⟨some 12, .alloc true 10 [(.int .i64 0), (.int .i64 0), (.str []), (.int .i64 0), (.int .i64 0), (.int .i64 0), (.int .i64 0), (.int .i64 0), (.str []), (.bool false)], none⟩,
   ⟨none, .store 10 (.tmp 12) (.tmp 16), none⟩]
@[simp] theorem R16_1 (x1 x2 x3 : AV) (l5 l9 l10 : List AV) :
  evK C D (.seq (.region O16_1) (.keep [1, 2, 3, 5, 9, 10, 12] [5, 9, 10, 12] c)) ⟨[(1, .v x1), (2, .v x2), (3, .v x3), (5, .l 5 0), (9, .l 9 0), (10, .l 10 0)], [(5, l5), (9, l9), (10, l10)], H⟩ k =
  (nl (rd true 10 2 l5)).bind fun t1 =>
  (stL 10 0 t1 [(.int .i64 0), (.int .i64 0), (.str []), (.int .i64 0), (.int .i64 0), (.int .i64 0), (.int .i64 0), (.int .i64 0), (.str []), (.bool false)]).bind fun m3 =>
  evK C D c ⟨[(1, .v x1), (2, .v x2), (3, .v x3), (5, .l 5 0), (9, .l 9 0), (10, .l 10 0), (12, .l 12 0)], [(5, l5), (9, l9), (10, l10), (12, m3)], H⟩ k := by kernel_rfl
def O16_2 : List IOper :=
  [⟨some 17, .load true 12 (.tmp 5), none⟩,
   ⟨some 18, .call (.func 33) [(.tmp 17)], none⟩,
   ⟨none, .store 12 (.tmp 5) (.tmp 18), none⟩]
@[simp] theorem R16_2 (x1 x2 x3 : AV) (l5 l9 l10 l12 : List AV) :
  evK C D (.seq (.region O16_2) (.keep [1, 2, 3, 5, 9, 10, 12] [5, 9, 10, 12] c)) ⟨[(1, .v x1), (2, .v x2), (3, .v x3), (5, .l 5 0), (9, .l 9 0), (10, .l 10 0), (12, .l 12 0)], [(5, l5), (9, l9), (10, l10), (12, l12)], H⟩ k =
  (nl (rd true 12 0 l5)).bind fun t0 =>
  (callN C (.func (.func 33) [] []) [t0] H).bind fun r1 =>
  (stL 12 0 r1.1 l5).bind fun m2 =>
  evK C D c ⟨[(1, .v x1), (2, .v x2), (3, .v x3), (5, .l 5 0), (9, .l 9 0), (10, .l 10 0), (12, .l 12 0)], [(5, m2), (9, l9), (10, l10), (12, l12)], r1.2⟩ k := by kernel_rfl
def O16_3 : List IOper :=
  [⟨some 19, .fieldAddr 1 (.tmp 5), none⟩,
   ⟨some 20, .load false 1 (.tmp 19), none⟩,
   ⟨some 21, .un .not (.tmp 20), none⟩,
   ⟨some 22, .move (.tmp 21), none⟩,
   ⟨some 23, .fieldAddr 0 (.tmp 12), some (22, false)⟩,
   ⟨some 24, .fieldAddr 0 (.tmp 23), some (22, false)⟩,
   ⟨some 25, .load false 1 (.tmp 24), some (22, false)⟩,
   ⟨some 26, .move (.tmp 1), some (22, false)⟩,
   ⟨some 27, .bin .neq .int (.tmp 25) (.tmp 26), some (22, false)⟩,
   ⟨some 28, .pick (.tmp 22) (.const (.bool true)) (.tmp 27), none⟩,
   ⟨some 29, .move (.tmp 28), none⟩,
   ⟨some 30, .move (.tmp 3), some (29, false)⟩,
   ⟨some 31, .un .not (.tmp 30), some (29, false)⟩,
   ⟨some 32, .move (.tmp 31), some (29, false)⟩,
   ⟨some 33, .fieldAddr 0 (.tmp 12), some (32, true)⟩,
   ⟨some 34, .fieldAddr 1 (.tmp 33), some (32, true)⟩,
   ⟨some 35, .load false 1 (.tmp 34), some (32, true)⟩,
   ⟨some 36, .move (.tmp 2), some (32, true)⟩,
   ⟨some 37, .bin .gtr .none (.tmp 35) (.tmp 36), some (32, true)⟩,
   ⟨some 38, .pick (.tmp 32) (.tmp 37) (.const (.bool false)), some (29, false)⟩,
   ⟨some 39, .pick (.tmp 29) (.const (.bool true)) (.tmp 38), none⟩]
@[simp] theorem R16_3 (x1 x2 x3 : AV) (l5 l9 l10 l12 : List AV) :
  evK C D (.seq (.region O16_3) (.keep [1, 2, 3, 5, 9, 10, 12, 39] [5, 9, 10, 12] c)) ⟨[(1, .v x1), (2, .v x2), (3, .v x3), (5, .l 5 0), (9, .l 9 0), (10, .l 10 0), (12, .l 12 0)], [(5, l5), (9, l9), (10, l10), (12, l12)], H⟩ k =
  (nl (rd false 1 1 l5)).bind fun t1 =>
  (nl (unA .not t1)).bind fun t2 =>
  guardK t2 false (
  (nl (rd false 1 0 l12)).bind fun t6 =>
  (nl (binA .neq .int t6 x1)).bind fun t8 =>
  guardK t8 false (
  (nl (unA .not x3)).bind fun t12 =>
  guardK t12 true (
  (nl (rd false 1 1 l12)).bind fun t16 =>
  (nl (binA .gtr .none t16 x2)).bind fun t18 =>
  evK C D c ⟨[(1, .v x1), (2, .v x2), (3, .v x3), (5, .l 5 0), (9, .l 9 0), (10, .l 10 0), (12, .l 12 0), (39, .v t18)], [(5, l5), (9, l9), (10, l10), (12, l12)], H⟩ k)
  (evK C D c ⟨[(1, .v x1), (2, .v x2), (3, .v x3), (5, .l 5 0), (9, .l 9 0), (10, .l 10 0), (12, .l 12 0), (39, .v (.bool false))], [(5, l5), (9, l9), (10, l10), (12, l12)], H⟩ k))
  (evK C D c ⟨[(1, .v x1), (2, .v x2), (3, .v x3), (5, .l 5 0), (9, .l 9 0), (10, .l 10 0), (12, .l 12 0), (39, .v (.bool true))], [(5, l5), (9, l9), (10, l10), (12, l12)], H⟩ k))
  (evK C D c ⟨[(1, .v x1), (2, .v x2), (3, .v x3), (5, .l 5 0), (9, .l 9 0), (10, .l 10 0), (12, .l 12 0), (39, .v (.bool true))], [(5, l5), (9, l9), (10, l10), (12, l12)], H⟩ k) := by kernel_rfl
def O16_4 : List IOper :=
  [⟨some 40, .load true 12 (.tmp 5), none⟩,
   ⟨none, .store 12 (.tmp 10) (.tmp 40), none⟩,
   ⟨some 11, .move (.const (.int .i64 0)), none⟩]
@[simp] theorem R16_4 (x1 x2 x3 x39 : AV) (l5 l9 l10 l12 : List AV) :
  evK C D (.seq (.region O16_4) (.keep [10, 11] [10] c)) ⟨[(1, .v x1), (2, .v x2), (3, .v x3), (5, .l 5 0), (9, .l 9 0), (10, .l 10 0), (12, .l 12 0), (39, .v x39)], [(5, l5), (9, l9), (10, l10), (12, l12)], H⟩ k =
  (nl (rd true 12 0 l5)).bind fun t0 =>
  (stL 12 0 t0 l10).bind fun m1 =>
  evK C D c ⟨[(10, .l 10 0), (11, .v (.int .i64 0))], [(10, m1)], H⟩ k := by kernel_rfl
def O16_5 : List IOper :=
  [⟨some 41, .move (.tmp 3), none⟩,
   ⟨some 42, .move (.tmp 41), none⟩,
   ⟨some 43, .fieldAddr 0 (.tmp 12), some (42, true)⟩,
   ⟨some 44, .fieldAddr 1 (.tmp 43), some (42, true)⟩,
   ⟨some 45, .load false 1 (.tmp 44), some (42, true)⟩,
   ⟨some 46, .move (.tmp 2), some (42, true)⟩,
   ⟨some 47, .bin .eql .int (.tmp 45) (.tmp 46), some (42, true)⟩,
   ⟨some 48, .pick (.tmp 42) (.tmp 47) (.const (.bool false)), none⟩]
@[simp] theorem R16_5 (x1 x2 x3 : AV) (l5 l9 l10 l12 : List AV) :
  evK C D (.seq (.region O16_5) (.keep [1, 5, 9, 10, 12, 48] [5, 9, 10, 12] c)) ⟨[(1, .v x1), (2, .v x2), (3, .v x3), (5, .l 5 0), (9, .l 9 0), (10, .l 10 0), (12, .l 12 0)], [(5, l5), (9, l9), (10, l10), (12, l12)], H⟩ k =
  guardK x3 true (
  (nl (rd false 1 1 l12)).bind fun t4 =>
  (nl (binA .eql .int t4 x2)).bind fun t6 =>
  evK C D c ⟨[(1, .v x1), (5, .l 5 0), (9, .l 9 0), (10, .l 10 0), (12, .l 12 0), (48, .v t6)], [(5, l5), (9, l9), (10, l10), (12, l12)], H⟩ k)
  (evK C D c ⟨[(1, .v x1), (5, .l 5 0), (9, .l 9 0), (10, .l 10 0), (12, .l 12 0), (48, .v (.bool false))], [(5, l5), (9, l9), (10, l10), (12, l12)], H⟩ k) := by kernel_rfl
def O16_6 : List IOper :=
  [⟨some 50, .load true 12 (.tmp 5), none⟩,
   ⟨some 51, .call (.func 39) [(.tmp 50)], none⟩,
   ⟨some 49, .move (.tmp 51), none⟩,
   ⟨some 52, .extract (.tmp 49) 0, none⟩,
   ⟨some 53, .extract (.tmp 49) 1, none⟩,
   ⟨some 13, .alloc true 2 [(.int .i64 0), (.int .i64 0)], none⟩,
   ⟨none, .store 2 (.tmp 13) (.tmp 52), none⟩,
   ⟨some 14, .move (.tmp 53), none⟩]
@[simp] theorem R16_6 (x1 x48 : AV) (l5 l9 l10 l12 : List AV) :
  evK C D (.seq (.region O16_6) (.keep [1, 5, 9, 10, 12, 13, 14] [5, 9, 10, 12, 13] c)) ⟨[(1, .v x1), (5, .l 5 0), (9, .l 9 0), (10, .l 10 0), (12, .l 12 0), (48, .v x48)], [(5, l5), (9, l9), (10, l10), (12, l12)], H⟩ k =
  (nl (rd true 12 0 l5)).bind fun t0 =>
  (callN C (.func (.func 39) [] []) [t0] H).bind fun r1 =>
  (nl (extA 0 r1.1)).bind fun t3 =>
  (nl (extA 1 r1.1)).bind fun t4 =>
  (stL 2 0 t3 [(.int .i64 0), (.int .i64 0)]).bind fun m6 =>
  evK C D c ⟨[(1, .v x1), (5, .l 5 0), (9, .l 9 0), (10, .l 10 0), (12, .l 12 0), (13, .l 13 0), (14, .v t4)], [(5, l5), (9, l9), (10, l10), (12, l12), (13, m6)], r1.2⟩ k := by kernel_rfl
def O16_7 : List IOper :=
  [⟨some 54, .load true 2 (.tmp 9), none⟩,
   ⟨some 55, .call (.func 40) [(.tmp 54)], none⟩,
   ⟨some 56, .un .not (.tmp 55), none⟩,
   ⟨some 57, .move (.tmp 56), none⟩,
   ⟨some 58, .move (.tmp 14), some (57, false)⟩,
   ⟨some 59, .move (.tmp 58), some (57, false)⟩,
   ⟨some 60, .load true 2 (.tmp 9), some (59, true)⟩,
   ⟨some 61, .load true 2 (.tmp 13), some (59, true)⟩,
   ⟨some 62, .call (.func 41) [(.tmp 60), (.tmp 61)], some (59, true)⟩,
   ⟨some 63, .pick (.tmp 59) (.tmp 62) (.const (.bool false)), some (57, false)⟩,
   ⟨some 64, .pick (.tmp 57) (.const (.bool true)) (.tmp 63), none⟩]
@[simp] theorem R16_7 (x1 x14 : AV) (l5 l9 l10 l12 l13 : List AV) :
  evK C D (.seq (.region O16_7) (.keep [1, 5, 9, 10, 12, 64] [5, 9, 10, 12] c)) ⟨[(1, .v x1), (5, .l 5 0), (9, .l 9 0), (10, .l 10 0), (12, .l 12 0), (13, .l 13 0), (14, .v x14)], [(5, l5), (9, l9), (10, l10), (12, l12), (13, l13)], H⟩ k =
  (nl (rd true 2 0 l9)).bind fun t0 =>
  (callN C (.func (.func 40) [] []) [t0] H).bind fun r1 =>
  (nl (unA .not r1.1)).bind fun t2 =>
  guardK t2 false (
  guardK x14 true (
  (nl (rd true 2 0 l9)).bind fun t6 =>
  (nl (rd true 2 0 l13)).bind fun t7 =>
  (callN C (.func (.func 41) [] []) [t6, t7] r1.2).bind fun r8 =>
  evK C D c ⟨[(1, .v x1), (5, .l 5 0), (9, .l 9 0), (10, .l 10 0), (12, .l 12 0), (64, .v r8.1)], [(5, l5), (9, l9), (10, l10), (12, l12)], r8.2⟩ k)
  (evK C D c ⟨[(1, .v x1), (5, .l 5 0), (9, .l 9 0), (10, .l 10 0), (12, .l 12 0), (64, .v (.bool false))], [(5, l5), (9, l9), (10, l10), (12, l12)], r1.2⟩ k))
  (evK C D c ⟨[(1, .v x1), (5, .l 5 0), (9, .l 9 0), (10, .l 10 0), (12, .l 12 0), (64, .v (.bool true))], [(5, l5), (9, l9), (10, l10), (12, l12)], r1.2⟩ k) := by kernel_rfl
def O16_8 : List IOper :=
  [⟨some 65, .build [.nils, (.bool false), (.int .i64 0), (.int .i64 0), (.str []), (.int .i64 0), (.int .i64 0), (.int .i64 0), (.int .i64 0), (.int .i64 0), (.str []), (.bool false)] [], none⟩,
   ⟨none, .store 12 (.tmp 10) (.tmp 65), none⟩,
   ⟨some 11, .move (.const (.int .i64 84)), none⟩]
@[simp] theorem R16_8 (x1 x64 : AV) (l5 l9 l10 l12 : List AV) :
  evK C D (.seq (.region O16_8) (.keep [10, 11] [10] c)) ⟨[(1, .v x1), (5, .l 5 0), (9, .l 9 0), (10, .l 10 0), (12, .l 12 0), (64, .v x64)], [(5, l5), (9, l9), (10, l10), (12, l12)], H⟩ k =
  ((fillC [] [.nils, (.bool false), (.int .i64 0), (.int .i64 0), (.str []), (.int .i64 0), (.int .i64 0), (.int .i64 0), (.int .i64 0), (.int .i64 0), (.str []), (.bool false)]).map AV.agg).bind fun t0 =>
  (stL 12 0 t0 l10).bind fun m1 =>
  evK C D c ⟨[(10, .l 10 0), (11, .v (.int .i64 84))], [(10, m1)], H⟩ k := by kernel_rfl
def O16_9 : List IOper :=
  [⟨some 66, .fieldAddr 0 (.tmp 5), none⟩,
   ⟨some 67, .load false 1 (.tmp 66), none⟩,
   ⟨some 68, .load true 2 (.tmp 9), none⟩,
   ⟨some 69, .fieldAddr 8 (.tmp 12), none⟩,
   ⟨some 70, .load false 1 (.tmp 69), none⟩,
   ⟨some 71, .fieldAddr 9 (.tmp 12), none⟩,
   ⟨some 72, .load false 1 (.tmp 71), none⟩,
   ⟨some 73, .move (.tmp 1), none⟩,
   ⟨some 74, .build [(.int .i64 0), (.int .i64 0), (.str []), (.bool false), (.int .i64 0)] [(0, 2, (.tmp 68)), (2, 1, (.tmp 70)), (3, 1, (.tmp 72)), (4, 1, (.tmp 73))], none⟩,
   ⟨some 75, .buildSlice 5 1 [(.int .i64 0), (.int .i64 0), (.str []), (.bool false), (.int .i64 0)] [(0, 5, (.tmp 74))], none⟩,
   ⟨some 76, .append 5 48 (.tmp 67) (.tmp 75), none⟩,
   ⟨some 77, .fieldAddr 0 (.tmp 5), none⟩,
   ⟨none, .store 1 (.tmp 77) (.tmp 76), none⟩]
@[simp] theorem R16_9 (x1 : AV) (l5 l9 l10 l12 : List AV) :
  evK C D (.region O16_9) ⟨[(1, .v x1), (5, .l 5 0), (9, .l 9 0), (10, .l 10 0), (12, .l 12 0)], [(5, l5), (9, l9), (10, l10), (12, l12)], H⟩ k =
  (nl (rd false 1 0 l5)).bind fun t1 =>
  (nl (rd true 2 0 l9)).bind fun t2 =>
  (nl (rd false 1 8 l12)).bind fun t4 =>
  (nl (rd false 1 9 l12)).bind fun t6 =>
  ((fillC [(0, 2, t2), (2, 1, t4), (3, 1, t6), (4, 1, x1)] [(.int .i64 0), (.int .i64 0), (.str []), (.bool false), (.int .i64 0)]).map AV.agg).bind fun t8 =>
  ((fillC [(0, 5, t8)] [(.int .i64 0), (.int .i64 0), (.str []), (.bool false), (.int .i64 0)]).map fun cs => (AV.slice H.n 0 1 1, H.alloc (.row false 5 cs))).bind fun r9 =>
  (nlR (appendA r9.2 5 48 t1 r9.1)).bind fun r10 =>
  (stL 1 0 r10.1 l5).bind fun m12 =>
  k .normal ⟨[(77, .l 5 0), (76, .v r10.1), (75, .v r9.1), (74, .v t8), (73, .v x1), (72, .v t6), (71, .l 12 9), (70, .v t4), (69, .l 12 8), (68, .v t2), (67, .v t1), (66, .l 5 0), (1, .v x1), (5, .l 5 0), (9, .l 9 0), (10, .l 10 0), (12, .l 12 0)], [(5, m12), (5, l5), (9, l9), (10, l10), (12, l12)], r10.2⟩ := by kernel_rfl
def O16_10 : List IOper :=
  [⟨some 78, .build [(.int .i64 0), (.int .i64 0), (.str []), (.int .i64 0), (.int .i64 0), (.int .i64 0), (.int .i64 0), (.int .i64 0), (.str []), (.bool false)] [], none⟩,
   ⟨some 79, .fieldAddr 1 (.tmp 5), none⟩,
   ⟨none, .store 1 (.tmp 79) (.const (.bool false)), none⟩,
   ⟨some 80, .fieldAddr 2 (.tmp 5), none⟩,
   ⟨none, .store 10 (.tmp 80) (.tmp 78), none⟩]
@[simp] theorem R16_10 (l5 l10 : List AV) :
  evK C D (.seq (.region O16_10) (.keep [5, 10] [5, 10] c)) ⟨[(5, .l 5 0), (10, .l 10 0)], [(5, l5), (10, l10)], H⟩ k =
  ((fillC [] [(.int .i64 0), (.int .i64 0), (.str []), (.int .i64 0), (.int .i64 0), (.int .i64 0), (.int .i64 0), (.int .i64 0), (.str []), (.bool false)]).map AV.agg).bind fun t0 =>
  (stL 1 1 (.bool false) l5).bind fun m2 =>
  (stL 10 2 t0 m2).bind fun m4 =>
  evK C D c ⟨[(5, .l 5 0), (10, .l 10 0)], [(5, m4), (10, l10)], H⟩ k := by kernel_rfl
def O16_11 : List IOper :=
  [⟨some 81, .load true 12 (.tmp 5), none⟩,
   ⟨none, .store 12 (.tmp 10) (.tmp 81), none⟩,
   ⟨some 11, .move (.const (.int .i64 0)), none⟩]
@[simp] theorem R16_11 (l5 l10 : List AV) :
  evK C D (.seq (.region O16_11) (.keep [10, 11] [10] c)) ⟨[(5, .l 5 0), (10, .l 10 0)], [(5, l5), (10, l10)], H⟩ k =
  (nl (rd true 12 0 l5)).bind fun t0 =>
  (stL 12 0 t0 l10).bind fun m1 =>
  evK C D c ⟨[(10, .l 10 0), (11, .v (.int .i64 0))], [(10, m1)], H⟩ k := by kernel_rfl
def F16 : FnIR := ⟨82, 5, [.cell 10 true 12, .tmp 11], [5, 9, 10, 12, 13],
  .seq (.region O16_0)
  (.keep [1, 2, 3, 5, 9, 10] [5, 9, 10] (.seq (.region O16_1)
  (.keep [1, 2, 3, 5, 9, 10, 12] [5, 9, 10, 12] (.seq (.region O16_2)
  (.keep [1, 2, 3, 5, 9, 10, 12] [5, 9, 10, 12] (.seq (.seq (.region O16_3)
   (.keep [1, 2, 3, 5, 9, 10, 12, 39] [5, 9, 10, 12] (.cond (.tmp 39)
    (.seq (.region O16_4)
    (.keep [10, 11] [10] (.ret)))
    (.skip))))
  (.keep [1, 2, 3, 5, 9, 10, 12] [5, 9, 10, 12] (.seq (.seq (.region O16_5)
   (.keep [1, 5, 9, 10, 12, 48] [5, 9, 10, 12] (.cond (.tmp 48)
    (.seq (.seq (.region O16_6)
     (.keep [1, 5, 9, 10, 12, 13, 14] [5, 9, 10, 12, 13] (.seq (.region O16_7)
     (.keep [1, 5, 9, 10, 12, 64] [5, 9, 10, 12] (.cond (.tmp 64)
      (.seq (.region O16_8)
      (.keep [10, 11] [10] (.ret)))
      (.skip))))))
    (.keep [1, 5, 9, 10, 12] [5, 9, 10, 12] (.region O16_9)))
    (.skip))))
  (.keep [5, 10] [5, 10] (.seq (.region O16_10)
  (.keep [5, 10] [5, 10] (.seq (.region O16_11)
  (.keep [10, 11] [10] (.ret))))))))))))))⟩
/-- wampum/version.upto -/
def O41_0 : List IOper :=
  [⟨some 2, .box true 2 (.tmp 0), none⟩,
   ⟨some 3, .box true 2 (.tmp 1), none⟩,
   ⟨some 4, .move (.const (.bool false)), none⟩]
@[simp] theorem R41_0 (x0 x1 : AV) :
  evK C D (.seq (.region O41_0) (.keep [2, 3] [2, 3] c)) ⟨[(0, .v x0), (1, .v x1)], [], H⟩ k =
  (boxC x0).bind fun m0 =>
  (boxC x1).bind fun m1 =>
  evK C D c ⟨[(2, .l 2 0), (3, .l 3 0)], [(2, m0), (3, m1)], H⟩ k := by kernel_rfl
def O41_1 : List IOper :=
  [⟨some 5, .load true 2 (.tmp 3), none⟩,
   ⟨some 6, .load true 2 (.tmp 2), none⟩,
   ⟨some 7, .call (.func 20) [(.tmp 5), (.tmp 6)], none⟩,
   ⟨some 8, .un .not (.tmp 7), none⟩,
   ⟨some 4, .move (.tmp 8), none⟩]
@[simp] theorem R41_1 (l2 l3 : List AV) :
  evK C D (.seq (.region O41_1) (.keep [4] [] c)) ⟨[(2, .l 2 0), (3, .l 3 0)], [(2, l2), (3, l3)], H⟩ k =
  (nl (rd true 2 0 l3)).bind fun t0 =>
  (nl (rd true 2 0 l2)).bind fun t1 =>
  (callN C (.func (.func 20) [] []) [t0, t1] H).bind fun r2 =>
  (nl (unA .not r2.1)).bind fun t3 =>
  evK C D c ⟨[(4, .v t3)], [], r2.2⟩ k := by kernel_rfl
def F41 : FnIR := ⟨9, 2, [.tmp 4], [2, 3],
  .seq (.region O41_0)
  (.keep [2, 3] [2, 3] (.seq (.region O41_1)
  (.keep [4] [] (.ret))))⟩
end Go.Proofs.Ytkahfmgdjoaiiaa
