/- Functions of the program in our form (V08, d). No condition. -/
import Derived.Test.YtkahfmgdjoaiiaaAmZ
import Derived.Test.YtkahfmgdjoaiiaaRows
set_option linter.unusedVariables false
set_option linter.unusedSimpArgs false
namespace Go.Proofs.Ytkahfmgdjoaiiaa
open Go.Wam
variable {R : Type} (C : CallF) (D : IC → St → Option (AExit × St)) (c : IC) (H : AHeap) (k : AExit → SK → Option R)
/-- wampum/wampumlaw08.VersionRight -/
def O8_0 : List IOper :=
  [⟨some 2, .move (.const (.bool false)), none⟩]
@[simp] theorem R8_0 (x0 : AV) :
  evK C D (.seq (.region O8_0) (.keep [0] [] c)) ⟨[(0, .v x0)], [], H⟩ k =
  evK C D c ⟨[(0, .v x0)], [], H⟩ k := by kernel_rfl
def O8_1 : List IOper :=
  [⟨some 3, .alloc true 12 [.nils, (.bool false), (.int .i64 0), (.int .i64 0), (.str []), (.int .i64 0), (.int .i64 0), (.int .i64 0), (.int .i64 0), (.int .i64 0), (.str []), (.bool false)], none⟩]
@[simp] theorem R8_1 (x0 : AV) :
  evK C D (.seq (.region O8_1) (.keep [0, 3] [3] c)) ⟨[(0, .v x0)], [], H⟩ k =
  evK C D c ⟨[(0, .v x0), (3, .l 3 0)], [(3, [.nils, (.bool false), (.int .i64 0), (.int .i64 0), (.str []), (.int .i64 0), (.int .i64 0), (.int .i64 0), (.int .i64 0), (.int .i64 0), (.str []), (.bool false)])], H⟩ k := by kernel_rfl
def O8_2 : List IOper :=
  [⟨some 4, .move (.const .nils), none⟩]
@[simp] theorem R8_2 (x0 : AV) (l3 : List AV) :
  evK C D (.seq (.region O8_2) (.keep [0, 3, 4] [3] c)) ⟨[(0, .v x0), (3, .l 3 0)], [(3, l3)], H⟩ k =
  evK C D c ⟨[(0, .v x0), (3, .l 3 0), (4, .v .nils)], [(3, l3)], H⟩ k := by kernel_rfl
def O8_3 : List IOper :=
  [⟨some 5, .move (.const (.int .i64 0)), none⟩]
@[simp] theorem R8_3 (x0 x4 : AV) (l3 : List AV) :
  evK C D (.seq (.region O8_3) (.keep [0, 3, 4, 5] [3] c)) ⟨[(0, .v x0), (3, .l 3 0), (4, .v x4)], [(3, l3)], H⟩ k =
  evK C D c ⟨[(0, .v x0), (3, .l 3 0), (4, .v x4), (5, .v (.int .i64 0))], [(3, l3)], H⟩ k := by kernel_rfl
def O8_4 : List IOper :=
  [⟨some 10, .move (.tmp 5), none⟩,
   ⟨some 11, .move (.tmp 0), none⟩,
   ⟨some 12, .len .slice (.tmp 11), none⟩,
   ⟨some 13, .bin .lss .none (.tmp 10) (.tmp 12), none⟩,
   ⟨some 14, .move (.tmp 13), none⟩,
   ⟨some 15, .move (.tmp 5), some (14, true)⟩,
   ⟨some 16, .bin .lss .none (.tmp 15) (.const (.int .i64 60)), some (14, true)⟩,
   ⟨some 17, .pick (.tmp 14) (.tmp 16) (.const (.bool false)), none⟩]
@[simp] theorem R8_4 (x0 x4 x5 : AV) (l3 : List AV) :
  evK C D (.seq (.region O8_4) (.keep [0, 3, 4, 5, 17] [3] c)) ⟨[(0, .v x0), (3, .l 3 0), (4, .v x4), (5, .v x5)], [(3, l3)], H⟩ k =
  (lenS x0).bind fun t2 =>
  (nl (binA .lss .none x5 t2)).bind fun t3 =>
  guardK t3 true (
  (nl (binA .lss .none x5 (.int .i64 60))).bind fun t6 =>
  evK C D c ⟨[(0, .v x0), (3, .l 3 0), (4, .v x4), (5, .v x5), (17, .v t6)], [(3, l3)], H⟩ k)
  (evK C D c ⟨[(0, .v x0), (3, .l 3 0), (4, .v x4), (5, .v x5), (17, .v (.bool false))], [(3, l3)], H⟩ k) := by kernel_rfl
def O8_5 : List IOper :=
  [⟨some 20, .load true 12 (.tmp 3), none⟩,
   ⟨some 6, .alloc true 12 [.nils, (.bool false), (.int .i64 0), (.int .i64 0), (.str []), (.int .i64 0), (.int .i64 0), (.int .i64 0), (.int .i64 0), (.int .i64 0), (.str []), (.bool false)], none⟩,
   ⟨none, .store 12 (.tmp 6) (.tmp 20), none⟩]
@[simp] theorem R8_5 (x0 x4 x5 : AV) (l3 : List AV) :
  evK C D (.seq (.region O8_5) (.keep [0, 3, 4, 5, 6] [3, 6] c)) ⟨[(0, .v x0), (3, .l 3 0), (4, .v x4), (5, .v x5)], [(3, l3)], H⟩ k =
  (nl (rd true 12 0 l3)).bind fun t0 =>
  (stL 12 0 t0 [.nils, (.bool false), (.int .i64 0), (.int .i64 0), (.str []), (.int .i64 0), (.int .i64 0), (.int .i64 0), (.int .i64 0), (.int .i64 0), (.str []), (.bool false)]).bind fun m2 =>
  evK C D c ⟨[(0, .v x0), (3, .l 3 0), (4, .v x4), (5, .v x5), (6, .l 6 0)], [(3, l3), (6, m2)], H⟩ k := by kernel_rfl
def O8_6 : List IOper :=
  [⟨some 21, .move (.tmp 0), none⟩,
   ⟨some 22, .move (.tmp 5), none⟩,
   ⟨some 23, .indexAddr none 16 (.tmp 21) (.tmp 22), none⟩,
   ⟨some 24, .load true 16 (.tmp 23), none⟩,
   ⟨some 25, .load true 12 (.tmp 3), none⟩,
   ⟨some 26, .call (.func 21) [(.tmp 24), (.tmp 25)], none⟩,
   ⟨none, .store 12 (.tmp 3) (.tmp 26), none⟩]
@[simp] theorem R8_6 (x0 x4 x5 : AV) (l3 l6 : List AV) :
  evK C D (.seq (.regionD O8_6 []) (.keep [0, 3, 4, 5, 6] [3, 6] c)) ⟨[(0, .v x0), (3, .l 3 0), (4, .v x4), (5, .v x5), (6, .l 6 0)], [(3, l3), (6, l6)], H⟩ k =
  (nl (idxS 16 x0 x5)).bind fun t2 =>
  (nl (loadP H true 16 t2)).bind fun t3 =>
  kB (AV.okB H.n t3) (
  (nl (rd true 12 0 l3)).bind fun t4 =>
  kB (AV.okB H.n t4) (
  (callN C (.func (.func 21) [] []) [t3, t4] H).bind fun r5 =>
  (stL 12 0 r5.1 l3).bind fun m6 =>
  evK C D c ⟨[(0, .v x0), (3, .l 3 0), (4, .v x4), (5, .v x5), (6, .l 6 0)], [(3, m6), (6, l6)], r5.2⟩ k)) := by kernel_rfl
def O8_7 : List IOper :=
  [⟨some 27, .load true 12 (.tmp 3), none⟩,
   ⟨some 28, .call (.func 28) [(.tmp 27)], none⟩,
   ⟨some 29, .un .not (.tmp 28), none⟩,
   ⟨some 30, .move (.tmp 29), none⟩,
   ⟨some 31, .fieldAddr 0 (.tmp 3), some (30, false)⟩,
   ⟨some 32, .load false 1 (.tmp 31), some (30, false)⟩,
   ⟨some 33, .len .slice (.tmp 32), some (30, false)⟩,
   ⟨some 34, .fieldAddr 0 (.tmp 6), some (30, false)⟩,
   ⟨some 35, .load false 1 (.tmp 34), some (30, false)⟩,
   ⟨some 36, .len .slice (.tmp 35), some (30, false)⟩,
   ⟨some 37, .bin .lss .none (.tmp 33) (.tmp 36), some (30, false)⟩,
   ⟨some 38, .pick (.tmp 30) (.const (.bool true)) (.tmp 37), none⟩,
   ⟨some 39, .move (.tmp 38), none⟩,
   ⟨some 40, .fieldAddr 0 (.tmp 3), some (39, false)⟩,
   ⟨some 41, .load false 1 (.tmp 40), some (39, false)⟩,
   ⟨some 42, .len .slice (.tmp 41), some (39, false)⟩,
   ⟨some 43, .fieldAddr 0 (.tmp 6), some (39, false)⟩,
   ⟨some 44, .load false 1 (.tmp 43), some (39, false)⟩,
   ⟨some 45, .len .slice (.tmp 44), some (39, false)⟩,
   ⟨some 46, .bin .add .none (.tmp 45) (.const (.int .i64 1)), some (39, false)⟩,
   ⟨some 47, .bin .gtr .none (.tmp 42) (.tmp 46), some (39, false)⟩,
   ⟨some 48, .pick (.tmp 39) (.const (.bool true)) (.tmp 47), none⟩]
@[simp] theorem R8_7 (x0 x4 x5 : AV) (l3 l6 : List AV) :
  evK C D (.seq (.region O8_7) (.keep [0, 3, 4, 5, 6, 48] [3, 6] c)) ⟨[(0, .v x0), (3, .l 3 0), (4, .v x4), (5, .v x5), (6, .l 6 0)], [(3, l3), (6, l6)], H⟩ k =
  (nl (rd true 12 0 l3)).bind fun t0 =>
  (callN C (.func (.func 28) [] []) [t0] H).bind fun r1 =>
  (nl (unA .not r1.1)).bind fun t2 =>
  guardK t2 false (
  (nl (rd false 1 0 l3)).bind fun t5 =>
  (lenS t5).bind fun t6 =>
  (nl (rd false 1 0 l6)).bind fun t8 =>
  (lenS t8).bind fun t9 =>
  (nl (binA .lss .none t6 t9)).bind fun t10 =>
  guardK t10 false (
  (nl (rd false 1 0 l3)).bind fun t14 =>
  (lenS t14).bind fun t15 =>
  (nl (rd false 1 0 l6)).bind fun t17 =>
  (lenS t17).bind fun t18 =>
  (nl (binA .add .none t18 (.int .i64 1))).bind fun t19 =>
  (nl (binA .gtr .none t15 t19)).bind fun t20 =>
  evK C D c ⟨[(0, .v x0), (3, .l 3 0), (4, .v x4), (5, .v x5), (6, .l 6 0), (48, .v t20)], [(3, l3), (6, l6)], r1.2⟩ k)
  (evK C D c ⟨[(0, .v x0), (3, .l 3 0), (4, .v x4), (5, .v x5), (6, .l 6 0), (48, .v (.bool true))], [(3, l3), (6, l6)], r1.2⟩ k))
  (evK C D c ⟨[(0, .v x0), (3, .l 3 0), (4, .v x4), (5, .v x5), (6, .l 6 0), (48, .v (.bool true))], [(3, l3), (6, l6)], r1.2⟩ k) := by kernel_rfl
def O8_8 : List IOper :=
  [⟨some 2, .move (.const (.bool false)), none⟩]
@[simp] theorem R8_8 (x0 x4 x5 x48 : AV) (l3 l6 : List AV) :
  evK C D (.seq (.region O8_8) (.keep [2] [] c)) ⟨[(0, .v x0), (3, .l 3 0), (4, .v x4), (5, .v x5), (6, .l 6 0), (48, .v x48)], [(3, l3), (6, l6)], H⟩ k =
  evK C D c ⟨[(2, .v (.bool false))], [], H⟩ k := by kernel_rfl
def O8_9 : List IOper :=
  [⟨some 7, .move (.const (.int .i64 0)), none⟩]
@[simp] theorem R8_9 (x0 x4 x5 : AV) (l3 l6 : List AV) :
  evK C D (.seq (.region O8_9) (.keep [0, 3, 4, 5, 6, 7] [3, 6] c)) ⟨[(0, .v x0), (3, .l 3 0), (4, .v x4), (5, .v x5), (6, .l 6 0)], [(3, l3), (6, l6)], H⟩ k =
  evK C D c ⟨[(0, .v x0), (3, .l 3 0), (4, .v x4), (5, .v x5), (6, .l 6 0), (7, .v (.int .i64 0))], [(3, l3), (6, l6)], H⟩ k := by kernel_rfl
def O8_10 : List IOper :=
  [⟨some 49, .move (.tmp 7), none⟩,
   ⟨some 50, .fieldAddr 0 (.tmp 6), none⟩,
   ⟨some 51, .load false 1 (.tmp 50), none⟩,
   ⟨some 52, .len .slice (.tmp 51), none⟩,
   ⟨some 53, .bin .lss .none (.tmp 49) (.tmp 52), none⟩]
@[simp] theorem R8_10 (x0 x4 x5 x7 : AV) (l3 l6 : List AV) :
  evK C D (.seq (.region O8_10) (.keep [0, 3, 4, 5, 6, 7, 53] [3, 6] c)) ⟨[(0, .v x0), (3, .l 3 0), (4, .v x4), (5, .v x5), (6, .l 6 0), (7, .v x7)], [(3, l3), (6, l6)], H⟩ k =
  (nl (rd false 1 0 l6)).bind fun t2 =>
  (lenS t2).bind fun t3 =>
  (nl (binA .lss .none x7 t3)).bind fun t4 =>
  evK C D c ⟨[(0, .v x0), (3, .l 3 0), (4, .v x4), (5, .v x5), (6, .l 6 0), (7, .v x7), (53, .v t4)], [(3, l3), (6, l6)], H⟩ k := by kernel_rfl
def O8_11 : List IOper :=
  [⟨some 56, .fieldAddr 0 (.tmp 3), none⟩,
   ⟨some 57, .load false 1 (.tmp 56), none⟩,
   ⟨some 58, .move (.tmp 7), none⟩,
   ⟨some 59, .indexAddr none 5 (.tmp 57) (.tmp 58), none⟩,
   ⟨some 60, .load true 5 (.tmp 59), none⟩,
   ⟨some 61, .fieldAddr 0 (.tmp 6), none⟩,
   ⟨some 62, .load false 1 (.tmp 61), none⟩,
   ⟨some 63, .move (.tmp 7), none⟩,
   ⟨some 64, .indexAddr none 5 (.tmp 62) (.tmp 63), none⟩,
   ⟨some 65, .load true 5 (.tmp 64), none⟩,
   ⟨some 66, .bin .neq (.struct [(0, true, 2, (.struct [(0, false, 1, .int), (1, false, 1, .int)])), (2, false, 1, .str), (3, false, 1, .bool), (4, false, 1, .int)]) (.tmp 60) (.tmp 65), none⟩]
@[simp] theorem R8_11 (x0 x4 x5 x7 : AV) (l3 l6 : List AV) :
  evK C D (.seq (.regionD O8_11 []) (.keep [0, 3, 4, 5, 6, 7, 66] [3, 6] c)) ⟨[(0, .v x0), (3, .l 3 0), (4, .v x4), (5, .v x5), (6, .l 6 0), (7, .v x7)], [(3, l3), (6, l6)], H⟩ k =
  (nl (rd false 1 0 l3)).bind fun t1 =>
  kB (AV.okB H.n t1) (
  (nl (idxS 5 t1 x7)).bind fun t3 =>
  (nl (loadP H true 5 t3)).bind fun t4 =>
  kB (AV.okB H.n t4) (
  (nl (rd false 1 0 l6)).bind fun t6 =>
  kB (AV.okB H.n t6) (
  (nl (idxS 5 t6 x7)).bind fun t8 =>
  (nl (loadP H true 5 t8)).bind fun t9 =>
  kB (AV.okB H.n t9) (
  (nl (binA .neq (.struct [(0, true, 2, (.struct [(0, false, 1, .int), (1, false, 1, .int)])), (2, false, 1, .str), (3, false, 1, .bool), (4, false, 1, .int)]) t4 t9)).bind fun t10 =>
  evK C D c ⟨[(0, .v x0), (3, .l 3 0), (4, .v x4), (5, .v x5), (6, .l 6 0), (7, .v x7), (66, .v t10)], [(3, l3), (6, l6)], H⟩ k)))) := by kernel_rfl
def O8_12 : List IOper :=
  [⟨some 2, .move (.const (.bool false)), none⟩]
@[simp] theorem R8_12 (x0 x4 x5 x7 x66 : AV) (l3 l6 : List AV) :
  evK C D (.seq (.region O8_12) (.keep [2] [] c)) ⟨[(0, .v x0), (3, .l 3 0), (4, .v x4), (5, .v x5), (6, .l 6 0), (7, .v x7), (66, .v x66)], [(3, l3), (6, l6)], H⟩ k =
  evK C D c ⟨[(2, .v (.bool false))], [], H⟩ k := by kernel_rfl
def O8_13 : List IOper :=
  [⟨some 54, .move (.tmp 7), none⟩,
   ⟨some 55, .bin .add .none (.tmp 54) (.const (.int .i64 1)), none⟩,
   ⟨some 7, .move (.tmp 55), none⟩]
@[simp] theorem R8_13 (x0 x4 x5 x7 : AV) (l3 l6 : List AV) :
  evK C D (.region O8_13) ⟨[(0, .v x0), (3, .l 3 0), (4, .v x4), (5, .v x5), (6, .l 6 0), (7, .v x7)], [(3, l3), (6, l6)], H⟩ k =
  (nl (binA .add .none x7 (.int .i64 1))).bind fun t1 =>
  k .normal ⟨[(7, .v t1), (55, .v t1), (54, .v x7), (0, .v x0), (3, .l 3 0), (4, .v x4), (5, .v x5), (6, .l 6 0), (7, .v x7)], [(3, l3), (6, l6)], H⟩ := by kernel_rfl
def B8_1 : IC :=
  .seq (.seq (.region O8_10)
   (.keep [0, 3, 4, 5, 6, 7, 53] [3, 6] (.cond (.tmp 53)
    (.skip)
    (.exit 2))))
  (.keep [0, 3, 4, 5, 6, 7] [3, 6] (.seq (.block 3 (.seq (.regionD O8_11 [])
    (.keep [0, 3, 4, 5, 6, 7, 66] [3, 6] (.cond (.tmp 66)
     (.seq (.region O8_12)
     (.keep [2] [] (.ret)))
     (.skip)))))
  (.keep [0, 3, 4, 5, 6, 7] [3, 6] (.region O8_13))))
def L8_1 : IC := .keep [0, 3, 4, 5, 6, 7] [3, 6] B8_1
@[simp] theorem LK8_1 (s : SK) (k : AExit → SK → Option R) : evK C D (.loop L8_1) s k = (D (.loop L8_1) (prK [0, 3, 4, 5, 6, 7] [3, 6] s).toSt).bind fun r => k r.1 (ofSt r.2) := by kernel_rfl
def O8_14 : List IOper :=
  [⟨some 67, .fieldAddr 1 (.tmp 3), none⟩,
   ⟨some 68, .load false 1 (.tmp 67), none⟩]
@[simp] theorem R8_14 (x0 x4 x5 : AV) (l3 l6 : List AV) :
  evK C D (.seq (.region O8_14) (.keep [0, 3, 4, 5, 6, 68] [3, 6] c)) ⟨[(0, .v x0), (3, .l 3 0), (4, .v x4), (5, .v x5), (6, .l 6 0)], [(3, l3), (6, l6)], H⟩ k =
  (nl (rd false 1 1 l3)).bind fun t1 =>
  evK C D c ⟨[(0, .v x0), (3, .l 3 0), (4, .v x4), (5, .v x5), (6, .l 6 0), (68, .v t1)], [(3, l3), (6, l6)], H⟩ k := by kernel_rfl
def O8_15 : List IOper :=
  [⟨some 69, .move (.tmp 4), none⟩,
   ⟨some 70, .fieldAddr 2 (.tmp 3), none⟩,
   ⟨some 71, .fieldAddr 0 (.tmp 70), none⟩,
   ⟨some 72, .fieldAddr 0 (.tmp 71), none⟩,
   ⟨some 73, .load false 1 (.tmp 72), none⟩,
   ⟨some 74, .buildSlice 1 1 [(.int .i64 0)] [(0, 1, (.tmp 73))], none⟩,
   ⟨some 75, .append 1 8 (.tmp 69) (.tmp 74), none⟩,
   ⟨some 4, .move (.tmp 75), none⟩]
@[simp] theorem R8_15 (x0 x4 x5 x68 : AV) (l3 l6 : List AV) :
  evK C D (.region O8_15) ⟨[(0, .v x0), (3, .l 3 0), (4, .v x4), (5, .v x5), (6, .l 6 0), (68, .v x68)], [(3, l3), (6, l6)], H⟩ k =
  (nl (rd false 1 2 l3)).bind fun t4 =>
  ((fillC [(0, 1, t4)] [(.int .i64 0)]).map fun cs => (AV.slice H.n 0 1 1, H.alloc (.row false 1 cs))).bind fun r5 =>
  (nlR (appendA r5.2 1 8 x4 r5.1)).bind fun r6 =>
  k .normal ⟨[(4, .v r6.1), (75, .v r6.1), (74, .v r5.1), (73, .v t4), (72, .l 3 2), (71, .l 3 2), (70, .l 3 2), (69, .v x4), (0, .v x0), (3, .l 3 0), (4, .v x4), (5, .v x5), (6, .l 6 0), (68, .v x68)], [(3, l3), (6, l6)], r6.2⟩ := by kernel_rfl
def O8_16 : List IOper :=
  [⟨some 76, .fieldAddr 0 (.tmp 3), none⟩,
   ⟨some 77, .load false 1 (.tmp 76), none⟩,
   ⟨some 78, .len .slice (.tmp 77), none⟩,
   ⟨some 79, .fieldAddr 0 (.tmp 6), none⟩,
   ⟨some 80, .load false 1 (.tmp 79), none⟩,
   ⟨some 81, .len .slice (.tmp 80), none⟩,
   ⟨some 82, .bin .gtr .none (.tmp 78) (.tmp 81), none⟩]
@[simp] theorem R8_16 (x0 x4 x5 : AV) (l3 l6 : List AV) :
  evK C D (.seq (.region O8_16) (.keep [0, 3, 4, 5, 6, 82] [3, 6] c)) ⟨[(0, .v x0), (3, .l 3 0), (4, .v x4), (5, .v x5), (6, .l 6 0)], [(3, l3), (6, l6)], H⟩ k =
  (nl (rd false 1 0 l3)).bind fun t1 =>
  (lenS t1).bind fun t2 =>
  (nl (rd false 1 0 l6)).bind fun t4 =>
  (lenS t4).bind fun t5 =>
  (nl (binA .gtr .none t2 t5)).bind fun t6 =>
  evK C D c ⟨[(0, .v x0), (3, .l 3 0), (4, .v x4), (5, .v x5), (6, .l 6 0), (82, .v t6)], [(3, l3), (6, l6)], H⟩ k := by kernel_rfl
def O8_17 : List IOper :=
  [⟨some 8, .move (.const (.bool false)), none⟩]
@[simp] theorem R8_17 (x0 x4 x5 x82 : AV) (l3 l6 : List AV) :
  evK C D (.seq (.region O8_17) (.keep [0, 3, 4, 5, 6, 8] [3, 6] c)) ⟨[(0, .v x0), (3, .l 3 0), (4, .v x4), (5, .v x5), (6, .l 6 0), (82, .v x82)], [(3, l3), (6, l6)], H⟩ k =
  evK C D c ⟨[(0, .v x0), (3, .l 3 0), (4, .v x4), (5, .v x5), (6, .l 6 0), (8, .v (.bool false))], [(3, l3), (6, l6)], H⟩ k := by kernel_rfl
def O8_18 : List IOper :=
  [⟨some 9, .move (.const (.int .i64 0)), none⟩]
@[simp] theorem R8_18 (x0 x4 x5 x8 : AV) (l3 l6 : List AV) :
  evK C D (.seq (.region O8_18) (.keep [0, 3, 4, 5, 6, 8, 9] [3, 6] c)) ⟨[(0, .v x0), (3, .l 3 0), (4, .v x4), (5, .v x5), (6, .l 6 0), (8, .v x8)], [(3, l3), (6, l6)], H⟩ k =
  evK C D c ⟨[(0, .v x0), (3, .l 3 0), (4, .v x4), (5, .v x5), (6, .l 6 0), (8, .v x8), (9, .v (.int .i64 0))], [(3, l3), (6, l6)], H⟩ k := by kernel_rfl
def O8_19 : List IOper :=
  [⟨some 83, .move (.tmp 9), none⟩,
   ⟨some 84, .move (.tmp 4), none⟩,
   ⟨some 85, .len .slice (.tmp 84), none⟩,
   ⟨some 86, .bin .lss .none (.tmp 83) (.tmp 85), none⟩]
@[simp] theorem R8_19 (x0 x4 x5 x8 x9 : AV) (l3 l6 : List AV) :
  evK C D (.seq (.region O8_19) (.keep [0, 3, 4, 5, 6, 8, 9, 86] [3, 6] c)) ⟨[(0, .v x0), (3, .l 3 0), (4, .v x4), (5, .v x5), (6, .l 6 0), (8, .v x8), (9, .v x9)], [(3, l3), (6, l6)], H⟩ k =
  (lenS x4).bind fun t2 =>
  (nl (binA .lss .none x9 t2)).bind fun t3 =>
  evK C D c ⟨[(0, .v x0), (3, .l 3 0), (4, .v x4), (5, .v x5), (6, .l 6 0), (8, .v x8), (9, .v x9), (86, .v t3)], [(3, l3), (6, l6)], H⟩ k := by kernel_rfl
def O8_20 : List IOper :=
  [⟨some 89, .move (.tmp 8), none⟩,
   ⟨some 90, .move (.tmp 89), none⟩,
   ⟨some 91, .move (.tmp 4), some (90, false)⟩,
   ⟨some 92, .move (.tmp 9), some (90, false)⟩,
   ⟨some 93, .indexAddr none 1 (.tmp 91) (.tmp 92), some (90, false)⟩,
   ⟨some 94, .load false 1 (.tmp 93), some (90, false)⟩,
   ⟨some 95, .fieldAddr 0 (.tmp 3), some (90, false)⟩,
   ⟨some 96, .load false 1 (.tmp 95), some (90, false)⟩,
   ⟨some 97, .fieldAddr 0 (.tmp 6), some (90, false)⟩,
   ⟨some 98, .load false 1 (.tmp 97), some (90, false)⟩,
   ⟨some 99, .len .slice (.tmp 98), some (90, false)⟩,
   ⟨some 100, .indexAddr none 5 (.tmp 96) (.tmp 99), some (90, false)⟩,
   ⟨some 101, .fieldAddr 4 (.tmp 100), some (90, false)⟩,
   ⟨some 102, .load false 1 (.tmp 101), some (90, false)⟩,
   ⟨some 103, .bin .eql .int (.tmp 94) (.tmp 102), some (90, false)⟩,
   ⟨some 104, .pick (.tmp 90) (.const (.bool true)) (.tmp 103), none⟩,
   ⟨some 8, .move (.tmp 104), none⟩]
@[simp] theorem R8_20 (x0 x4 x5 x8 x9 : AV) (l3 l6 : List AV) :
  evK C D (.regionD O8_20 []) ⟨[(0, .v x0), (3, .l 3 0), (4, .v x4), (5, .v x5), (6, .l 6 0), (8, .v x8), (9, .v x9)], [(3, l3), (6, l6)], H⟩ k =
  guardK x8 false (
  (nl (idxS 1 x4 x9)).bind fun t4 =>
  (nl (loadP H false 1 t4)).bind fun t5 =>
  kB (AV.okB H.n t5) (
  (nl (rd false 1 0 l3)).bind fun t7 =>
  kB (AV.okB H.n t7) (
  (nl (rd false 1 0 l6)).bind fun t9 =>
  kB (AV.okB H.n t9) (
  (lenS t9).bind fun t10 =>
  (nl (idxS 5 t7 t10)).bind fun t11 =>
  (fldP 4 t11).bind fun t12 =>
  (nl (loadP H false 1 t12)).bind fun t13 =>
  kB (AV.okB H.n t13) (
  (nl (binA .eql .int t5 t13)).bind fun t14 =>
  k .normal ⟨[(8, .v t14), (104, .v t14), (103, .v t14), (90, .v (.bool false)), (102, .v t13), (90, .v (.bool false)), (101, .v t12), (90, .v (.bool false)), (100, .v t11), (90, .v (.bool false)), (99, .v t10), (90, .v (.bool false)), (98, .v t9), (90, .v (.bool false)), (97, .l 6 0), (90, .v (.bool false)), (96, .v t7), (90, .v (.bool false)), (95, .l 3 0), (90, .v (.bool false)), (94, .v t5), (90, .v (.bool false)), (93, .v t4), (90, .v (.bool false)), (92, .v x9), (90, .v (.bool false)), (91, .v x4), (90, .v (.bool false)), (90, .v x8), (89, .v x8), (0, .v x0), (3, .l 3 0), (4, .v x4), (5, .v x5), (6, .l 6 0), (8, .v x8), (9, .v x9)], [(3, l3), (6, l6)], H⟩)))))
  (kB (AV.okB H.n undefA) (
  kB (AV.okB H.n undefA) (
  kB (AV.okB H.n undefA) (
  kB (AV.okB H.n undefA) (
  k .normal ⟨[(8, .v (.bool true)), (104, .v (.bool true)), (103, .u), (90, .v (.bool true)), (102, .u), (90, .v (.bool true)), (101, .u), (90, .v (.bool true)), (100, .u), (90, .v (.bool true)), (99, .u), (90, .v (.bool true)), (98, .u), (90, .v (.bool true)), (97, .u), (90, .v (.bool true)), (96, .u), (90, .v (.bool true)), (95, .u), (90, .v (.bool true)), (94, .u), (90, .v (.bool true)), (93, .u), (90, .v (.bool true)), (92, .u), (90, .v (.bool true)), (91, .u), (90, .v (.bool true)), (90, .v x8), (89, .v x8), (0, .v x0), (3, .l 3 0), (4, .v x4), (5, .v x5), (6, .l 6 0), (8, .v x8), (9, .v x9)], [(3, l3), (6, l6)], H⟩))))) := by kernel_rfl
def O8_21 : List IOper :=
  [⟨some 87, .move (.tmp 9), none⟩,
   ⟨some 88, .bin .add .none (.tmp 87) (.const (.int .i64 1)), none⟩,
   ⟨some 9, .move (.tmp 88), none⟩]
@[simp] theorem R8_21 (x0 x4 x5 x8 x9 : AV) (l3 l6 : List AV) :
  evK C D (.region O8_21) ⟨[(0, .v x0), (3, .l 3 0), (4, .v x4), (5, .v x5), (6, .l 6 0), (8, .v x8), (9, .v x9)], [(3, l3), (6, l6)], H⟩ k =
  (nl (binA .add .none x9 (.int .i64 1))).bind fun t1 =>
  k .normal ⟨[(9, .v t1), (88, .v t1), (87, .v x9), (0, .v x0), (3, .l 3 0), (4, .v x4), (5, .v x5), (6, .l 6 0), (8, .v x8), (9, .v x9)], [(3, l3), (6, l6)], H⟩ := by kernel_rfl
def B8_2 : IC :=
  .seq (.seq (.region O8_19)
   (.keep [0, 3, 4, 5, 6, 8, 9, 86] [3, 6] (.cond (.tmp 86)
    (.skip)
    (.exit 4))))
  (.keep [0, 3, 4, 5, 6, 8, 9] [3, 6] (.seq (.block 5 (.regionD O8_20 []))
  (.keep [0, 3, 4, 5, 6, 8, 9] [3, 6] (.region O8_21))))
def L8_2 : IC := .keep [0, 3, 4, 5, 6, 8, 9] [3, 6] B8_2
@[simp] theorem LK8_2 (s : SK) (k : AExit → SK → Option R) : evK C D (.loop L8_2) s k = (D (.loop L8_2) (prK [0, 3, 4, 5, 6, 8, 9] [3, 6] s).toSt).bind fun r => k r.1 (ofSt r.2) := by kernel_rfl
def O8_22 : List IOper :=
  [⟨some 105, .move (.tmp 8), none⟩,
   ⟨some 106, .un .not (.tmp 105), none⟩,
   ⟨some 107, .move (.tmp 106), none⟩,
   ⟨some 108, .fieldAddr 1 (.tmp 6), some (107, false)⟩,
   ⟨some 109, .load false 1 (.tmp 108), some (107, false)⟩,
   ⟨some 110, .un .not (.tmp 109), some (107, false)⟩,
   ⟨some 111, .pick (.tmp 107) (.const (.bool true)) (.tmp 110), none⟩,
   ⟨some 112, .move (.tmp 111), none⟩,
   ⟨some 113, .fieldAddr 1 (.tmp 3), some (112, false)⟩,
   ⟨some 114, .load false 1 (.tmp 113), some (112, false)⟩,
   ⟨some 115, .pick (.tmp 112) (.const (.bool true)) (.tmp 114), none⟩]
@[simp] theorem R8_22 (x0 x4 x5 x8 : AV) (l3 l6 : List AV) :
  evK C D (.seq (.region O8_22) (.keep [0, 3, 4, 5, 115] [3] c)) ⟨[(0, .v x0), (3, .l 3 0), (4, .v x4), (5, .v x5), (6, .l 6 0), (8, .v x8)], [(3, l3), (6, l6)], H⟩ k =
  (nl (unA .not x8)).bind fun t1 =>
  guardK t1 false (
  (nl (rd false 1 1 l6)).bind fun t4 =>
  (nl (unA .not t4)).bind fun t5 =>
  guardK t5 false (
  (nl (rd false 1 1 l3)).bind fun t9 =>
  evK C D c ⟨[(0, .v x0), (3, .l 3 0), (4, .v x4), (5, .v x5), (115, .v t9)], [(3, l3)], H⟩ k)
  (evK C D c ⟨[(0, .v x0), (3, .l 3 0), (4, .v x4), (5, .v x5), (115, .v (.bool true))], [(3, l3)], H⟩ k))
  (evK C D c ⟨[(0, .v x0), (3, .l 3 0), (4, .v x4), (5, .v x5), (115, .v (.bool true))], [(3, l3)], H⟩ k) := by kernel_rfl
def O8_23 : List IOper :=
  [⟨some 2, .move (.const (.bool false)), none⟩]
@[simp] theorem R8_23 (x0 x4 x5 x115 : AV) (l3 : List AV) :
  evK C D (.seq (.region O8_23) (.keep [2] [] c)) ⟨[(0, .v x0), (3, .l 3 0), (4, .v x4), (5, .v x5), (115, .v x115)], [(3, l3)], H⟩ k =
  evK C D c ⟨[(2, .v (.bool false))], [], H⟩ k := by kernel_rfl
def O8_24 : List IOper :=
  [⟨some 18, .move (.tmp 5), none⟩,
   ⟨some 19, .bin .add .none (.tmp 18) (.const (.int .i64 1)), none⟩,
   ⟨some 5, .move (.tmp 19), none⟩]
@[simp] theorem R8_24 (x0 x4 x5 : AV) (l3 : List AV) :
  evK C D (.region O8_24) ⟨[(0, .v x0), (3, .l 3 0), (4, .v x4), (5, .v x5)], [(3, l3)], H⟩ k =
  (nl (binA .add .none x5 (.int .i64 1))).bind fun t1 =>
  k .normal ⟨[(5, .v t1), (19, .v t1), (18, .v x5), (0, .v x0), (3, .l 3 0), (4, .v x4), (5, .v x5)], [(3, l3)], H⟩ := by kernel_rfl
def B8_0 : IC :=
  .seq (.seq (.region O8_4)
   (.keep [0, 3, 4, 5, 17] [3] (.cond (.tmp 17)
    (.skip)
    (.exit 0))))
  (.keep [0, 3, 4, 5] [3] (.seq (.block 1 (.seq (.region O8_5)
    (.keep [0, 3, 4, 5, 6] [3, 6] (.seq (.regionD O8_6 [])
    (.keep [0, 3, 4, 5, 6] [3, 6] (.seq (.seq (.region O8_7)
     (.keep [0, 3, 4, 5, 6, 48] [3, 6] (.cond (.tmp 48)
      (.seq (.region O8_8)
      (.keep [2] [] (.ret)))
      (.skip))))
    (.keep [0, 3, 4, 5, 6] [3, 6] (.seq (.seq (.region O8_9)
     (.keep [0, 3, 4, 5, 6, 7] [3, 6] (.block 2 (.loop L8_1))))
    (.keep [0, 3, 4, 5, 6] [3, 6] (.seq (.seq (.region O8_14)
     (.keep [0, 3, 4, 5, 6, 68] [3, 6] (.cond (.tmp 68)
      (.region O8_15)
      (.skip))))
    (.keep [0, 3, 4, 5, 6] [3, 6] (.seq (.region O8_16)
    (.keep [0, 3, 4, 5, 6, 82] [3, 6] (.cond (.tmp 82)
     (.seq (.region O8_17)
     (.keep [0, 3, 4, 5, 6, 8] [3, 6] (.seq (.seq (.region O8_18)
      (.keep [0, 3, 4, 5, 6, 8, 9] [3, 6] (.block 4 (.loop L8_2))))
     (.keep [0, 3, 4, 5, 6, 8] [3, 6] (.seq (.region O8_22)
     (.keep [0, 3, 4, 5, 115] [3] (.cond (.tmp 115)
      (.seq (.region O8_23)
      (.keep [2] [] (.ret)))
      (.skip))))))))
     (.skip)))))))))))))))
  (.keep [0, 3, 4, 5] [3] (.region O8_24))))
def L8_0 : IC := .keep [0, 3, 4, 5] [3] B8_0
@[simp] theorem LK8_0 (s : SK) (k : AExit → SK → Option R) : evK C D (.loop L8_0) s k = (D (.loop L8_0) (prK [0, 3, 4, 5] [3] s).toSt).bind fun r => k r.1 (ofSt r.2) := by kernel_rfl
def O8_25 : List IOper :=
  [⟨some 116, .call (.func 12) [], none⟩,
   ⟨some 2, .move (.tmp 116), none⟩]
@[simp] theorem R8_25 :
  evK C D (.seq (.region O8_25) (.keep [2] [] c)) ⟨[], [], H⟩ k =
  (callN C (.func (.func 12) [] []) [] H).bind fun r0 =>
  evK C D c ⟨[(2, .v r0.1)], [], r0.2⟩ k := by kernel_rfl
def F8 : FnIR := ⟨117, 1, [.tmp 2], [3, 6],
  .seq (.region O8_0)
  (.keep [0] [] (.seq (.region O8_1)
  (.keep [0, 3] [3] (.seq (.region O8_2)
  (.keep [0, 3, 4] [3] (.seq (.seq (.region O8_3)
   (.keep [0, 3, 4, 5] [3] (.block 0 (.loop L8_0))))
  (.keep [] [] (.seq (.region O8_25)
  (.keep [2] [] (.ret))))))))))⟩
/-- wampum/version.Right -/
def O28_0 : List IOper :=
  [⟨some 1, .box true 12 (.tmp 0), none⟩,
   ⟨some 2, .move (.const (.bool false)), none⟩]
@[simp] theorem R28_0 (x0 : AV) :
  evK C D (.seq (.region O28_0) (.keep [1] [1] c)) ⟨[(0, .v x0)], [], H⟩ k =
  (boxC x0).bind fun m0 =>
  evK C D c ⟨[(1, .l 1 0)], [(1, m0)], H⟩ k := by kernel_rfl
def O28_1 : List IOper :=
  [⟨some 8, .buildSlice 2 0 [] [], none⟩,
   ⟨some 3, .move (.tmp 8), none⟩]
@[simp] theorem R28_1 (l1 : List AV) :
  evK C D (.seq (.region O28_1) (.keep [1, 3] [1] c)) ⟨[(1, .l 1 0)], [(1, l1)], H⟩ k =
  ((fillC [] []).map fun cs => (AV.slice H.n 0 0 0, H.alloc (.row false 2 cs))).bind fun r0 =>
  evK C D c ⟨[(1, .l 1 0), (3, .v r0.1)], [(1, l1)], r0.2⟩ k := by kernel_rfl
def O28_2 : List IOper :=
  [⟨some 9, .fieldAddr 0 (.tmp 1), none⟩,
   ⟨some 10, .load false 1 (.tmp 9), none⟩,
   ⟨some 11, .len .slice (.tmp 10), none⟩,
   ⟨some 12, .move (.const (.int .i64 0)), none⟩]
@[simp] theorem R28_2 (x3 : AV) (l1 : List AV) :
  evK C D (.seq (.region O28_2) (.keep [1, 3, 10, 11, 12] [1] c)) ⟨[(1, .l 1 0), (3, .v x3)], [(1, l1)], H⟩ k =
  (nl (rd false 1 0 l1)).bind fun t1 =>
  (lenS t1).bind fun t2 =>
  evK C D c ⟨[(1, .l 1 0), (3, .v x3), (10, .v t1), (11, .v t2), (12, .v (.int .i64 0))], [(1, l1)], H⟩ k := by kernel_rfl
def O28_3 : List IOper :=
  [⟨some 13, .bin .lss .none (.tmp 12) (.tmp 11), none⟩]
@[simp] theorem R28_3 (x3 x10 x11 x12 : AV) (l1 : List AV) :
  evK C D (.seq (.region O28_3) (.keep [1, 3, 10, 11, 12, 13] [1] c)) ⟨[(1, .l 1 0), (3, .v x3), (10, .v x10), (11, .v x11), (12, .v x12)], [(1, l1)], H⟩ k =
  (nl (binA .lss .none x12 x11)).bind fun t0 =>
  evK C D c ⟨[(1, .l 1 0), (3, .v x3), (10, .v x10), (11, .v x11), (12, .v x12), (13, .v t0)], [(1, l1)], H⟩ k := by kernel_rfl
def O28_4 : List IOper :=
  [⟨some 14, .indexAddr none 5 (.tmp 10) (.tmp 12), none⟩,
   ⟨some 15, .load true 5 (.tmp 14), none⟩,
   ⟨some 5, .alloc true 5 [(.int .i64 0), (.int .i64 0), (.str []), (.bool false), (.int .i64 0)], none⟩,
   ⟨none, .store 5 (.tmp 5) (.tmp 15), none⟩]
@[simp] theorem R28_4 (x3 x10 x11 x12 : AV) (l1 : List AV) :
  evK C D (.seq (.region O28_4) (.keep [1, 3, 5, 10, 11, 12] [1, 5] c)) ⟨[(1, .l 1 0), (3, .v x3), (10, .v x10), (11, .v x11), (12, .v x12)], [(1, l1)], H⟩ k =
  (nl (idxS 5 x10 x12)).bind fun t0 =>
  (nl (loadP H true 5 t0)).bind fun t1 =>
  (stL 5 0 t1 [(.int .i64 0), (.int .i64 0), (.str []), (.bool false), (.int .i64 0)]).bind fun m3 =>
  evK C D c ⟨[(1, .l 1 0), (3, .v x3), (5, .l 5 0), (10, .v x10), (11, .v x11), (12, .v x12)], [(1, l1), (5, m3)], H⟩ k := by kernel_rfl
def O28_5 : List IOper :=
  [⟨some 16, .move (.tmp 3), none⟩,
   ⟨some 17, .fieldAddr 0 (.tmp 5), none⟩,
   ⟨some 18, .load true 2 (.tmp 17), none⟩,
   ⟨some 19, .buildSlice 2 1 [(.int .i64 0), (.int .i64 0)] [(0, 2, (.tmp 18))], none⟩,
   ⟨some 20, .append 2 16 (.tmp 16) (.tmp 19), none⟩,
   ⟨some 3, .move (.tmp 20), none⟩]
@[simp] theorem R28_5 (x3 x10 x11 x12 : AV) (l1 l5 : List AV) :
  evK C D (.region O28_5) ⟨[(1, .l 1 0), (3, .v x3), (5, .l 5 0), (10, .v x10), (11, .v x11), (12, .v x12)], [(1, l1), (5, l5)], H⟩ k =
  (nl (rd true 2 0 l5)).bind fun t2 =>
  ((fillC [(0, 2, t2)] [(.int .i64 0), (.int .i64 0)]).map fun cs => (AV.slice H.n 0 1 1, H.alloc (.row false 2 cs))).bind fun r3 =>
  (nlR (appendA r3.2 2 16 x3 r3.1)).bind fun r4 =>
  k .normal ⟨[(3, .v r4.1), (20, .v r4.1), (19, .v r3.1), (18, .v t2), (17, .l 5 0), (16, .v x3), (1, .l 1 0), (3, .v x3), (5, .l 5 0), (10, .v x10), (11, .v x11), (12, .v x12)], [(1, l1), (5, l5)], r4.2⟩ := by kernel_rfl
def O28_6 : List IOper :=
  [⟨some 21, .bin .add .none (.tmp 12) (.const (.int .i64 1)), none⟩,
   ⟨some 12, .move (.tmp 21), none⟩]
@[simp] theorem R28_6 (x3 x10 x11 x12 : AV) (l1 : List AV) :
  evK C D (.region O28_6) ⟨[(1, .l 1 0), (3, .v x3), (10, .v x10), (11, .v x11), (12, .v x12)], [(1, l1)], H⟩ k =
  (nl (binA .add .none x12 (.int .i64 1))).bind fun t0 =>
  k .normal ⟨[(12, .v t0), (21, .v t0), (1, .l 1 0), (3, .v x3), (10, .v x10), (11, .v x11), (12, .v x12)], [(1, l1)], H⟩ := by kernel_rfl
def B28_0 : IC :=
  .seq (.region O28_3)
  (.keep [1, 3, 10, 11, 12, 13] [1] (.seq (.cond (.tmp 13)
    (.skip)
    (.exit 0))
  (.keep [1, 3, 10, 11, 12] [1] (.seq (.block 1 (.seq (.region O28_4)
    (.keep [1, 3, 5, 10, 11, 12] [1, 5] (.region O28_5))))
  (.keep [1, 3, 10, 11, 12] [1] (.region O28_6))))))
def L28_0 : IC := .keep [1, 3, 10, 11, 12] [1] B28_0
@[simp] theorem LK28_0 (s : SK) (k : AExit → SK → Option R) : evK C D (.loop L28_0) s k = (D (.loop L28_0) (prK [1, 3, 10, 11, 12] [1] s).toSt).bind fun r => k r.1 (ofSt r.2) := by kernel_rfl
def O28_7 : List IOper :=
  [⟨some 22, .fieldAddr 1 (.tmp 1), none⟩,
   ⟨some 23, .load false 1 (.tmp 22), none⟩]
@[simp] theorem R28_7 (x3 : AV) (l1 : List AV) :
  evK C D (.seq (.region O28_7) (.keep [1, 3, 23] [1] c)) ⟨[(1, .l 1 0), (3, .v x3)], [(1, l1)], H⟩ k =
  (nl (rd false 1 1 l1)).bind fun t1 =>
  evK C D c ⟨[(1, .l 1 0), (3, .v x3), (23, .v t1)], [(1, l1)], H⟩ k := by kernel_rfl
def O28_8 : List IOper :=
  [⟨some 24, .move (.tmp 3), none⟩,
   ⟨some 25, .fieldAddr 2 (.tmp 1), none⟩,
   ⟨some 26, .fieldAddr 6 (.tmp 25), none⟩,
   ⟨some 27, .load true 2 (.tmp 26), none⟩,
   ⟨some 28, .buildSlice 2 1 [(.int .i64 0), (.int .i64 0)] [(0, 2, (.tmp 27))], none⟩,
   ⟨some 29, .append 2 16 (.tmp 24) (.tmp 28), none⟩,
   ⟨some 3, .move (.tmp 29), none⟩]
@[simp] theorem R28_8 (x3 x23 : AV) (l1 : List AV) :
  evK C D (.region O28_8) ⟨[(1, .l 1 0), (3, .v x3), (23, .v x23)], [(1, l1)], H⟩ k =
  (nl (rd true 2 8 l1)).bind fun t3 =>
  ((fillC [(0, 2, t3)] [(.int .i64 0), (.int .i64 0)]).map fun cs => (AV.slice H.n 0 1 1, H.alloc (.row false 2 cs))).bind fun r4 =>
  (nlR (appendA r4.2 2 16 x3 r4.1)).bind fun r5 =>
  k .normal ⟨[(3, .v r5.1), (29, .v r5.1), (28, .v r4.1), (27, .v t3), (26, .l 1 8), (25, .l 1 2), (24, .v x3), (1, .l 1 0), (3, .v x3), (23, .v x23)], [(1, l1)], r5.2⟩ := by kernel_rfl
def O28_9 : List IOper :=
  [⟨some 30, .move (.tmp 3), none⟩,
   ⟨some 31, .len .slice (.tmp 30), none⟩,
   ⟨some 32, .move (.const (.int .i64 0)), none⟩]
@[simp] theorem R28_9 (x3 : AV) (l1 : List AV) :
  evK C D (.seq (.region O28_9) (.keep [1, 3, 30, 31, 32] [1] c)) ⟨[(1, .l 1 0), (3, .v x3)], [(1, l1)], H⟩ k =
  (lenS x3).bind fun t1 =>
  evK C D c ⟨[(1, .l 1 0), (3, .v x3), (30, .v x3), (31, .v t1), (32, .v (.int .i64 0))], [(1, l1)], H⟩ k := by kernel_rfl
def O28_10 : List IOper :=
  [⟨some 33, .bin .lss .none (.tmp 32) (.tmp 31), none⟩]
@[simp] theorem R28_10 (x3 x30 x31 x32 : AV) (l1 : List AV) :
  evK C D (.seq (.region O28_10) (.keep [1, 3, 30, 31, 32, 33] [1] c)) ⟨[(1, .l 1 0), (3, .v x3), (30, .v x30), (31, .v x31), (32, .v x32)], [(1, l1)], H⟩ k =
  (nl (binA .lss .none x32 x31)).bind fun t0 =>
  evK C D c ⟨[(1, .l 1 0), (3, .v x3), (30, .v x30), (31, .v x31), (32, .v x32), (33, .v t0)], [(1, l1)], H⟩ k := by kernel_rfl
def O28_11 : List IOper :=
  [⟨some 34, .move (.tmp 32), none⟩,
   ⟨some 35, .indexAddr none 2 (.tmp 30) (.tmp 32), none⟩,
   ⟨some 36, .load true 2 (.tmp 35), none⟩,
   ⟨some 7, .alloc true 2 [(.int .i64 0), (.int .i64 0)], none⟩,
   ⟨some 6, .move (.tmp 34), none⟩,
   ⟨none, .store 2 (.tmp 7) (.tmp 36), none⟩]
@[simp] theorem R28_11 (x3 x30 x31 x32 : AV) (l1 : List AV) :
  evK C D (.seq (.region O28_11) (.keep [1, 3, 6, 7, 30, 31, 32] [1, 7] c)) ⟨[(1, .l 1 0), (3, .v x3), (30, .v x30), (31, .v x31), (32, .v x32)], [(1, l1)], H⟩ k =
  (nl (idxS 2 x30 x32)).bind fun t1 =>
  (nl (loadP H true 2 t1)).bind fun t2 =>
  (stL 2 0 t2 [(.int .i64 0), (.int .i64 0)]).bind fun m5 =>
  evK C D c ⟨[(1, .l 1 0), (3, .v x3), (6, .v x32), (7, .l 7 0), (30, .v x30), (31, .v x31), (32, .v x32)], [(1, l1), (7, m5)], H⟩ k := by kernel_rfl
def O28_12 : List IOper :=
  [⟨some 37, .load true 2 (.tmp 7), none⟩,
   ⟨some 38, .call (.func 40) [(.tmp 37)], none⟩,
   ⟨some 39, .un .not (.tmp 38), none⟩,
   ⟨some 40, .move (.tmp 39), none⟩,
   ⟨some 41, .move (.tmp 6), some (40, false)⟩,
   ⟨some 42, .bin .gtr .none (.tmp 41) (.const (.int .i64 0)), some (40, false)⟩,
   ⟨some 43, .move (.tmp 42), some (40, false)⟩,
   ⟨some 44, .move (.tmp 3), some (43, true)⟩,
   ⟨some 45, .move (.tmp 6), some (43, true)⟩,
   ⟨some 46, .bin .sub .none (.tmp 45) (.const (.int .i64 1)), some (43, true)⟩,
   ⟨some 47, .indexAddr none 2 (.tmp 44) (.tmp 46), some (43, true)⟩,
   ⟨some 48, .load true 2 (.tmp 47), some (43, true)⟩,
   ⟨some 49, .load true 2 (.tmp 7), some (43, true)⟩,
   ⟨some 50, .call (.func 20) [(.tmp 48), (.tmp 49)], some (43, true)⟩,
   ⟨some 51, .un .not (.tmp 50), some (43, true)⟩,
   ⟨some 52, .pick (.tmp 43) (.tmp 51) (.const (.bool false)), some (40, false)⟩,
   ⟨some 53, .pick (.tmp 40) (.const (.bool true)) (.tmp 52), none⟩]
@[simp] theorem R28_12 (x3 x6 x30 x31 x32 : AV) (l1 l7 : List AV) :
  evK C D (.seq (.regionD O28_12 []) (.keep [1, 3, 30, 31, 32, 53] [1] c)) ⟨[(1, .l 1 0), (3, .v x3), (6, .v x6), (7, .l 7 0), (30, .v x30), (31, .v x31), (32, .v x32)], [(1, l1), (7, l7)], H⟩ k =
  (nl (rd true 2 0 l7)).bind fun t0 =>
  kB (AV.okB H.n t0) (
  (callN C (.func (.func 40) [] []) [t0] H).bind fun r1 =>
  (nl (unA .not r1.1)).bind fun t2 =>
  guardK t2 false (
  (nl (binA .gtr .none x6 (.int .i64 0))).bind fun t5 =>
  guardK t5 true (
  (nl (binA .sub .none x6 (.int .i64 1))).bind fun t9 =>
  (nl (idxS 2 x3 t9)).bind fun t10 =>
  (nl (loadP r1.2 true 2 t10)).bind fun t11 =>
  kB (AV.okB r1.2.n t11) (
  (nl (rd true 2 0 l7)).bind fun t12 =>
  kB (AV.okB r1.2.n t12) (
  (callN C (.func (.func 20) [] []) [t11, t12] r1.2).bind fun r13 =>
  (nl (unA .not r13.1)).bind fun t14 =>
  evK C D c ⟨[(1, .l 1 0), (3, .v x3), (30, .v x30), (31, .v x31), (32, .v x32), (53, .v t14)], [(1, l1)], r13.2⟩ k)))
  (kB (AV.okB r1.2.n undefA) (
  kB (AV.okB r1.2.n undefA) (
  evK C D c ⟨[(1, .l 1 0), (3, .v x3), (30, .v x30), (31, .v x31), (32, .v x32), (53, .v (.bool false))], [(1, l1)], r1.2⟩ k))))
  (kB (AV.okB r1.2.n undefA) (
  kB (AV.okB r1.2.n undefA) (
  evK C D c ⟨[(1, .l 1 0), (3, .v x3), (30, .v x30), (31, .v x31), (32, .v x32), (53, .v (.bool true))], [(1, l1)], r1.2⟩ k)))) := by kernel_rfl
def O28_13 : List IOper :=
  [⟨some 2, .move (.const (.bool false)), none⟩]
@[simp] theorem R28_13 (x3 x30 x31 x32 x53 : AV) (l1 : List AV) :
  evK C D (.seq (.region O28_13) (.keep [2] [] c)) ⟨[(1, .l 1 0), (3, .v x3), (30, .v x30), (31, .v x31), (32, .v x32), (53, .v x53)], [(1, l1)], H⟩ k =
  evK C D c ⟨[(2, .v (.bool false))], [], H⟩ k := by kernel_rfl
def O28_14 : List IOper :=
  [⟨some 54, .bin .add .none (.tmp 32) (.const (.int .i64 1)), none⟩,
   ⟨some 32, .move (.tmp 54), none⟩]
@[simp] theorem R28_14 (x3 x30 x31 x32 : AV) (l1 : List AV) :
  evK C D (.region O28_14) ⟨[(1, .l 1 0), (3, .v x3), (30, .v x30), (31, .v x31), (32, .v x32)], [(1, l1)], H⟩ k =
  (nl (binA .add .none x32 (.int .i64 1))).bind fun t0 =>
  k .normal ⟨[(32, .v t0), (54, .v t0), (1, .l 1 0), (3, .v x3), (30, .v x30), (31, .v x31), (32, .v x32)], [(1, l1)], H⟩ := by kernel_rfl
def B28_1 : IC :=
  .seq (.region O28_10)
  (.keep [1, 3, 30, 31, 32, 33] [1] (.seq (.cond (.tmp 33)
    (.skip)
    (.exit 2))
  (.keep [1, 3, 30, 31, 32] [1] (.seq (.block 3 (.seq (.region O28_11)
    (.keep [1, 3, 6, 7, 30, 31, 32] [1, 7] (.seq (.regionD O28_12 [])
    (.keep [1, 3, 30, 31, 32, 53] [1] (.cond (.tmp 53)
     (.seq (.region O28_13)
     (.keep [2] [] (.ret)))
     (.skip)))))))
  (.keep [1, 3, 30, 31, 32] [1] (.region O28_14))))))
def L28_1 : IC := .keep [1, 3, 30, 31, 32] [1] B28_1
@[simp] theorem LK28_1 (s : SK) (k : AExit → SK → Option R) : evK C D (.loop L28_1) s k = (D (.loop L28_1) (prK [1, 3, 30, 31, 32] [1] s).toSt).bind fun r => k r.1 (ofSt r.2) := by kernel_rfl
def O28_15 : List IOper :=
  [⟨some 55, .fieldAddr 1 (.tmp 1), none⟩,
   ⟨some 56, .load false 1 (.tmp 55), none⟩,
   ⟨some 57, .move (.tmp 56), none⟩,
   ⟨some 58, .fieldAddr 2 (.tmp 1), some (57, false)⟩,
   ⟨some 59, .load true 10 (.tmp 58), some (57, false)⟩,
   ⟨some 60, .build [(.int .i64 0), (.int .i64 0), (.str []), (.int .i64 0), (.int .i64 0), (.int .i64 0), (.int .i64 0), (.int .i64 0), (.str []), (.bool false)] [], some (57, false)⟩,
   ⟨some 61, .bin .eql (.struct [(0, true, 5, (.struct [(0, false, 1, .int), (1, false, 1, .int), (2, false, 1, .str), (3, true, 2, (.struct [(0, false, 1, .int), (1, false, 1, .int)]))])), (5, false, 1, .int), (6, true, 2, (.struct [(0, false, 1, .int), (1, false, 1, .int)])), (8, false, 1, .str), (9, false, 1, .bool)]) (.tmp 59) (.tmp 60), some (57, false)⟩,
   ⟨some 62, .pick (.tmp 57) (.const (.bool true)) (.tmp 61), none⟩,
   ⟨some 2, .move (.tmp 62), none⟩]
@[simp] theorem R28_15 (l1 : List AV) :
  evK C D (.seq (.region O28_15) (.keep [2] [] c)) ⟨[(1, .l 1 0)], [(1, l1)], H⟩ k =
  (nl (rd false 1 1 l1)).bind fun t1 =>
  guardK t1 false (
  (nl (rd true 10 2 l1)).bind fun t4 =>
  ((fillC [] [(.int .i64 0), (.int .i64 0), (.str []), (.int .i64 0), (.int .i64 0), (.int .i64 0), (.int .i64 0), (.int .i64 0), (.str []), (.bool false)]).map AV.agg).bind fun t5 =>
  (nl (binA .eql (.struct [(0, true, 5, (.struct [(0, false, 1, .int), (1, false, 1, .int), (2, false, 1, .str), (3, true, 2, (.struct [(0, false, 1, .int), (1, false, 1, .int)]))])), (5, false, 1, .int), (6, true, 2, (.struct [(0, false, 1, .int), (1, false, 1, .int)])), (8, false, 1, .str), (9, false, 1, .bool)]) t4 t5)).bind fun t6 =>
  evK C D c ⟨[(2, .v t6)], [], H⟩ k)
  (evK C D c ⟨[(2, .v (.bool true))], [], H⟩ k) := by kernel_rfl
def F28 : FnIR := ⟨63, 1, [.tmp 2], [1, 5, 7],
  .seq (.region O28_0)
  (.keep [1] [1] (.seq (.region O28_1)
  (.keep [1, 3] [1] (.seq (.seq (.region O28_2)
   (.keep [1, 3, 10, 11, 12] [1] (.block 0 (.loop L28_0))))
  (.keep [1, 3] [1] (.seq (.seq (.region O28_7)
   (.keep [1, 3, 23] [1] (.cond (.tmp 23)
    (.region O28_8)
    (.skip))))
  (.keep [1, 3] [1] (.seq (.seq (.region O28_9)
   (.keep [1, 3, 30, 31, 32] [1] (.block 2 (.loop L28_1))))
  (.keep [1] [1] (.seq (.region O28_15)
  (.keep [2] [] (.ret))))))))))))⟩
/-- wampum/wampumlaw08.VersionSees -/
def O9_0 : List IOper :=
  [⟨some 3, .box true 12 (.tmp 0), none⟩,
   ⟨some 4, .box true 10 (.tmp 1), none⟩,
   ⟨some 6, .move (.const (.bool false)), none⟩]
@[simp] theorem R9_0 (x0 x1 x2 : AV) :
  evK C D (.seq (.region O9_0) (.keep [2, 3, 4] [3, 4] c)) ⟨[(0, .v x0), (1, .v x1), (2, .v x2)], [], H⟩ k =
  (boxC x0).bind fun m0 =>
  (boxC x1).bind fun m1 =>
  evK C D c ⟨[(2, .v x2), (3, .l 3 0), (4, .l 4 0)], [(3, m0), (4, m1)], H⟩ k := by kernel_rfl
def O9_1 : List IOper :=
  [⟨some 32, .load true 12 (.tmp 3), none⟩,
   ⟨some 33, .call (.func 11) [(.tmp 32)], none⟩,
   ⟨some 7, .move (.tmp 33), none⟩]
@[simp] theorem R9_1 (x2 : AV) (l3 l4 : List AV) :
  evK C D (.seq (.region O9_1) (.keep [2, 3, 4, 7] [3, 4] c)) ⟨[(2, .v x2), (3, .l 3 0), (4, .l 4 0)], [(3, l3), (4, l4)], H⟩ k =
  (nl (rd true 12 0 l3)).bind fun t0 =>
  (callN C (.func (.func 11) [] []) [t0] H).bind fun r1 =>
  evK C D c ⟨[(2, .v x2), (3, .l 3 0), (4, .l 4 0), (7, .v r1.1)], [(3, l3), (4, l4)], r1.2⟩ k := by kernel_rfl
def O9_2 : List IOper :=
  [⟨some 35, .load true 12 (.tmp 3), none⟩,
   ⟨some 36, .load true 10 (.tmp 4), none⟩,
   ⟨some 37, .call (.func 14) [(.tmp 35), (.tmp 36)], none⟩,
   ⟨some 34, .move (.tmp 37), none⟩,
   ⟨some 38, .extract (.tmp 34) 0, none⟩,
   ⟨some 39, .extract (.tmp 34) 1, none⟩,
   ⟨some 40, .extract (.tmp 34) 2, none⟩,
   ⟨some 41, .extract (.tmp 34) 3, none⟩,
   ⟨some 8, .alloc true 12 [.nils, (.bool false), (.int .i64 0), (.int .i64 0), (.str []), (.int .i64 0), (.int .i64 0), (.int .i64 0), (.int .i64 0), (.int .i64 0), (.str []), (.bool false)], none⟩,
   ⟨some 9, .alloc true 2 [(.int .i64 0), (.int .i64 0)], none⟩,
   ⟨some 10, .alloc true 5 [(.int .i64 0), (.int .i64 0), (.str []), (.int .i64 0), (.int .i64 0)], none⟩,
   ⟨none, .store 12 (.tmp 8) (.tmp 38), none⟩,
   ⟨none, .store 2 (.tmp 9) (.tmp 39), none⟩,
   ⟨none, .store 5 (.tmp 10) (.tmp 40), none⟩,
   ⟨some 11, .move (.tmp 41), none⟩]
@[simp] theorem R9_2 (x2 x7 : AV) (l3 l4 : List AV) :
  evK C D (.seq (.region O9_2) (.keep [2, 3, 4, 7, 8, 9, 11] [3, 4, 8, 9] c)) ⟨[(2, .v x2), (3, .l 3 0), (4, .l 4 0), (7, .v x7)], [(3, l3), (4, l4)], H⟩ k =
  (nl (rd true 12 0 l3)).bind fun t0 =>
  (nl (rd true 10 0 l4)).bind fun t1 =>
  (callN C (.func (.func 14) [] []) [t0, t1] H).bind fun r2 =>
  (nl (extA 0 r2.1)).bind fun t4 =>
  (nl (extA 1 r2.1)).bind fun t5 =>
  (nl (extA 2 r2.1)).bind fun t6 =>
  (nl (extA 3 r2.1)).bind fun t7 =>
  (stL 12 0 t4 [.nils, (.bool false), (.int .i64 0), (.int .i64 0), (.str []), (.int .i64 0), (.int .i64 0), (.int .i64 0), (.int .i64 0), (.int .i64 0), (.str []), (.bool false)]).bind fun m11 =>
  (stL 2 0 t5 [(.int .i64 0), (.int .i64 0)]).bind fun m12 =>
  (stL 5 0 t6 [(.int .i64 0), (.int .i64 0), (.str []), (.int .i64 0), (.int .i64 0)]).bind fun m13 =>
  evK C D c ⟨[(2, .v x2), (3, .l 3 0), (4, .l 4 0), (7, .v x7), (8, .l 8 0), (9, .l 9 0), (11, .v t7)], [(3, l3), (4, l4), (8, m11), (9, m12)], r2.2⟩ k := by kernel_rfl
def O9_3 : List IOper :=
  [⟨some 42, .move (.tmp 7), none⟩,
   ⟨some 43, .un .not (.tmp 42), none⟩,
   ⟨some 44, .move (.tmp 43), none⟩,
   ⟨some 45, .move (.tmp 11), some (44, false)⟩,
   ⟨some 46, .bin .neq .int (.tmp 45) (.const (.int .i64 0)), some (44, false)⟩,
   ⟨some 47, .pick (.tmp 44) (.const (.bool true)) (.tmp 46), none⟩,
   ⟨some 48, .move (.tmp 47), none⟩,
   ⟨some 49, .fieldAddr 9 (.tmp 4), some (48, false)⟩,
   ⟨some 50, .load false 1 (.tmp 49), some (48, false)⟩,
   ⟨some 51, .pick (.tmp 48) (.const (.bool true)) (.tmp 50), none⟩,
   ⟨some 52, .move (.tmp 51), none⟩,
   ⟨some 53, .fieldAddr 1 (.tmp 3), some (52, false)⟩,
   ⟨some 54, .load false 1 (.tmp 53), some (52, false)⟩,
   ⟨some 55, .pick (.tmp 52) (.const (.bool true)) (.tmp 54), none⟩,
   ⟨some 56, .move (.tmp 55), none⟩,
   ⟨some 57, .fieldAddr 0 (.tmp 4), some (56, false)⟩,
   ⟨some 58, .fieldAddr 0 (.tmp 57), some (56, false)⟩,
   ⟨some 59, .load false 1 (.tmp 58), some (56, false)⟩,
   ⟨some 60, .bin .lss .none (.tmp 59) (.const (.int .i64 0)), some (56, false)⟩,
   ⟨some 61, .pick (.tmp 56) (.const (.bool true)) (.tmp 60), none⟩]
@[simp] theorem R9_3 (x2 x7 x11 : AV) (l3 l4 l8 l9 : List AV) :
  evK C D (.seq (.region O9_3) (.keep [2, 3, 4, 8, 9, 61] [3, 4, 8, 9] c)) ⟨[(2, .v x2), (3, .l 3 0), (4, .l 4 0), (7, .v x7), (8, .l 8 0), (9, .l 9 0), (11, .v x11)], [(3, l3), (4, l4), (8, l8), (9, l9)], H⟩ k =
  (nl (unA .not x7)).bind fun t1 =>
  guardK t1 false (
  (nl (binA .neq .int x11 (.int .i64 0))).bind fun t4 =>
  guardK t4 false (
  (nl (rd false 1 9 l4)).bind fun t8 =>
  guardK t8 false (
  (nl (rd false 1 1 l3)).bind fun t12 =>
  guardK t12 false (
  (nl (rd false 1 0 l4)).bind fun t17 =>
  (nl (binA .lss .none t17 (.int .i64 0))).bind fun t18 =>
  evK C D c ⟨[(2, .v x2), (3, .l 3 0), (4, .l 4 0), (8, .l 8 0), (9, .l 9 0), (61, .v t18)], [(3, l3), (4, l4), (8, l8), (9, l9)], H⟩ k)
  (evK C D c ⟨[(2, .v x2), (3, .l 3 0), (4, .l 4 0), (8, .l 8 0), (9, .l 9 0), (61, .v (.bool true))], [(3, l3), (4, l4), (8, l8), (9, l9)], H⟩ k))
  (evK C D c ⟨[(2, .v x2), (3, .l 3 0), (4, .l 4 0), (8, .l 8 0), (9, .l 9 0), (61, .v (.bool true))], [(3, l3), (4, l4), (8, l8), (9, l9)], H⟩ k))
  (evK C D c ⟨[(2, .v x2), (3, .l 3 0), (4, .l 4 0), (8, .l 8 0), (9, .l 9 0), (61, .v (.bool true))], [(3, l3), (4, l4), (8, l8), (9, l9)], H⟩ k))
  (evK C D c ⟨[(2, .v x2), (3, .l 3 0), (4, .l 4 0), (8, .l 8 0), (9, .l 9 0), (61, .v (.bool true))], [(3, l3), (4, l4), (8, l8), (9, l9)], H⟩ k) := by kernel_rfl
def O9_4 : List IOper :=
  [⟨some 62, .call (.func 12) [], none⟩,
   ⟨some 6, .move (.tmp 62), none⟩]
@[simp] theorem R9_4 (x2 x61 : AV) (l3 l4 l8 l9 : List AV) :
  evK C D (.seq (.region O9_4) (.keep [6] [] c)) ⟨[(2, .v x2), (3, .l 3 0), (4, .l 4 0), (8, .l 8 0), (9, .l 9 0), (61, .v x61)], [(3, l3), (4, l4), (8, l8), (9, l9)], H⟩ k =
  (callN C (.func (.func 12) [] []) [] H).bind fun r0 =>
  evK C D c ⟨[(6, .v r0.1)], [], r0.2⟩ k := by kernel_rfl
def O9_5 : List IOper :=
  [⟨some 64, .load true 12 (.tmp 8), none⟩,
   ⟨some 65, .build [(.int .i64 0), (.int .i64 0)] [], none⟩,
   ⟨some 66, .build [(.int .i64 0), (.int .i64 0)] [], none⟩,
   ⟨some 67, .fieldAddr 0 (.tmp 4), none⟩,
   ⟨some 68, .fieldAddr 0 (.tmp 67), none⟩,
   ⟨some 69, .load false 1 (.tmp 68), none⟩,
   ⟨some 70, .fieldAddr 0 (.tmp 4), none⟩,
   ⟨some 71, .fieldAddr 1 (.tmp 70), none⟩,
   ⟨some 72, .load false 1 (.tmp 71), none⟩,
   ⟨some 73, .call (.func 19) [(.tmp 64), (.tmp 65), (.tmp 66), (.tmp 69), (.tmp 72)], none⟩,
   ⟨some 63, .move (.tmp 73), none⟩,
   ⟨some 74, .extract (.tmp 63) 0, none⟩,
   ⟨some 75, .extract (.tmp 63) 1, none⟩,
   ⟨some 76, .extract (.tmp 63) 2, none⟩,
   ⟨some 77, .extract (.tmp 63) 3, none⟩,
   ⟨some 12, .alloc true 5 [(.int .i64 0), (.int .i64 0), (.str []), (.bool false), (.int .i64 0)], none⟩,
   ⟨some 14, .alloc true 5 [(.int .i64 0), (.int .i64 0), (.str []), (.int .i64 0), (.int .i64 0)], none⟩,
   ⟨none, .store 5 (.tmp 12) (.tmp 74), none⟩,
   ⟨some 13, .move (.tmp 75), none⟩,
   ⟨none, .store 5 (.tmp 14) (.tmp 76), none⟩,
   ⟨some 15, .move (.tmp 77), none⟩]
@[simp] theorem R9_5 (x2 : AV) (l3 l4 l8 l9 : List AV) :
  evK C D (.seq (.region O9_5) (.keep [2, 3, 4, 8, 9, 12, 13, 15] [3, 4, 8, 9, 12] c)) ⟨[(2, .v x2), (3, .l 3 0), (4, .l 4 0), (8, .l 8 0), (9, .l 9 0)], [(3, l3), (4, l4), (8, l8), (9, l9)], H⟩ k =
  (nl (rd true 12 0 l8)).bind fun t0 =>
  ((fillC [] [(.int .i64 0), (.int .i64 0)]).map AV.agg).bind fun t1 =>
  ((fillC [] [(.int .i64 0), (.int .i64 0)]).map AV.agg).bind fun t2 =>
  (nl (rd false 1 0 l4)).bind fun t5 =>
  (nl (rd false 1 1 l4)).bind fun t8 =>
  (callN C (.func (.func 19) [] []) [t0, t1, t2, t5, t8] H).bind fun r9 =>
  (nl (extA 0 r9.1)).bind fun t11 =>
  (nl (extA 1 r9.1)).bind fun t12 =>
  (nl (extA 2 r9.1)).bind fun t13 =>
  (nl (extA 3 r9.1)).bind fun t14 =>
  (stL 5 0 t11 [(.int .i64 0), (.int .i64 0), (.str []), (.bool false), (.int .i64 0)]).bind fun m17 =>
  (stL 5 0 t13 [(.int .i64 0), (.int .i64 0), (.str []), (.int .i64 0), (.int .i64 0)]).bind fun m19 =>
  evK C D c ⟨[(2, .v x2), (3, .l 3 0), (4, .l 4 0), (8, .l 8 0), (9, .l 9 0), (12, .l 12 0), (13, .v t12), (15, .v t14)], [(3, l3), (4, l4), (8, l8), (9, l9), (12, m17)], r9.2⟩ k := by kernel_rfl
def O9_6 : List IOper :=
  [⟨some 79, .load true 12 (.tmp 8), none⟩,
   ⟨some 80, .load true 2 (.tmp 9), none⟩,
   ⟨some 81, .load true 2 (.tmp 9), none⟩,
   ⟨some 82, .call (.func 19) [(.tmp 79), (.tmp 80), (.tmp 81), (.const (.int .i64 (-1))), (.const (.int .i64 0))], none⟩,
   ⟨some 78, .move (.tmp 82), none⟩,
   ⟨some 83, .extract (.tmp 78) 0, none⟩,
   ⟨some 84, .extract (.tmp 78) 1, none⟩,
   ⟨some 85, .extract (.tmp 78) 2, none⟩,
   ⟨some 86, .extract (.tmp 78) 3, none⟩,
   ⟨some 16, .alloc true 5 [(.int .i64 0), (.int .i64 0), (.str []), (.bool false), (.int .i64 0)], none⟩,
   ⟨some 18, .alloc true 5 [(.int .i64 0), (.int .i64 0), (.str []), (.int .i64 0), (.int .i64 0)], none⟩,
   ⟨none, .store 5 (.tmp 16) (.tmp 83), none⟩,
   ⟨some 17, .move (.tmp 84), none⟩,
   ⟨none, .store 5 (.tmp 18) (.tmp 85), none⟩,
   ⟨some 19, .move (.tmp 86), none⟩]
@[simp] theorem R9_6 (x2 x13 x15 : AV) (l3 l4 l8 l9 l12 : List AV) :
  evK C D (.seq (.region O9_6) (.keep [2, 3, 4, 8, 9, 12, 13, 15, 18, 19] [3, 4, 8, 9, 12, 18] c)) ⟨[(2, .v x2), (3, .l 3 0), (4, .l 4 0), (8, .l 8 0), (9, .l 9 0), (12, .l 12 0), (13, .v x13), (15, .v x15)], [(3, l3), (4, l4), (8, l8), (9, l9), (12, l12)], H⟩ k =
  (nl (rd true 12 0 l8)).bind fun t0 =>
  (nl (rd true 2 0 l9)).bind fun t1 =>
  (nl (rd true 2 0 l9)).bind fun t2 =>
  (callN C (.func (.func 19) [] []) [t0, t1, t2, (.int .i64 (-1)), (.int .i64 0)] H).bind fun r3 =>
  (nl (extA 0 r3.1)).bind fun t5 =>
  (nl (extA 1 r3.1)).bind fun t6 =>
  (nl (extA 2 r3.1)).bind fun t7 =>
  (nl (extA 3 r3.1)).bind fun t8 =>
  (stL 5 0 t5 [(.int .i64 0), (.int .i64 0), (.str []), (.bool false), (.int .i64 0)]).bind fun m11 =>
  (stL 5 0 t7 [(.int .i64 0), (.int .i64 0), (.str []), (.int .i64 0), (.int .i64 0)]).bind fun m13 =>
  evK C D c ⟨[(2, .v x2), (3, .l 3 0), (4, .l 4 0), (8, .l 8 0), (9, .l 9 0), (12, .l 12 0), (13, .v x13), (15, .v x15), (18, .l 18 0), (19, .v t8)], [(3, l3), (4, l4), (8, l8), (9, l9), (12, l12), (18, m13)], r3.2⟩ k := by kernel_rfl
def O9_7 : List IOper :=
  [⟨some 87, .move (.tmp 15), none⟩,
   ⟨some 88, .bin .neq .int (.tmp 87) (.const (.int .i64 0)), none⟩,
   ⟨some 89, .move (.tmp 88), none⟩,
   ⟨some 90, .move (.tmp 13), some (89, false)⟩,
   ⟨some 91, .un .not (.tmp 90), some (89, false)⟩,
   ⟨some 92, .pick (.tmp 89) (.const (.bool true)) (.tmp 91), none⟩,
   ⟨some 93, .move (.tmp 92), none⟩,
   ⟨some 94, .fieldAddr 2 (.tmp 12), some (93, false)⟩,
   ⟨some 95, .load false 1 (.tmp 94), some (93, false)⟩,
   ⟨some 96, .fieldAddr 8 (.tmp 4), some (93, false)⟩,
   ⟨some 97, .load false 1 (.tmp 96), some (93, false)⟩,
   ⟨some 98, .bin .neq .str (.tmp 95) (.tmp 97), some (93, false)⟩,
   ⟨some 99, .pick (.tmp 93) (.const (.bool true)) (.tmp 98), none⟩,
   ⟨some 100, .move (.tmp 99), none⟩,
   ⟨some 101, .move (.tmp 19), some (100, false)⟩,
   ⟨some 102, .bin .neq .int (.tmp 101) (.const (.int .i64 81)), some (100, false)⟩,
   ⟨some 103, .pick (.tmp 100) (.const (.bool true)) (.tmp 102), none⟩,
   ⟨some 104, .move (.tmp 103), none⟩,
   ⟨some 105, .load true 5 (.tmp 18), some (104, false)⟩,
   ⟨some 106, .fieldAddr 0 (.tmp 4), some (104, false)⟩,
   ⟨some 107, .load true 5 (.tmp 106), some (104, false)⟩,
   ⟨some 108, .bin .neq (.struct [(0, false, 1, .int), (1, false, 1, .int), (2, false, 1, .str), (3, true, 2, (.struct [(0, false, 1, .int), (1, false, 1, .int)]))]) (.tmp 105) (.tmp 107), some (104, false)⟩,
   ⟨some 109, .pick (.tmp 104) (.const (.bool true)) (.tmp 108), none⟩,
   ⟨some 110, .move (.tmp 109), none⟩,
   ⟨some 111, .load true 12 (.tmp 8), some (110, false)⟩,
   ⟨some 112, .fieldAddr 0 (.tmp 4), some (110, false)⟩,
   ⟨some 113, .fieldAddr 0 (.tmp 112), some (110, false)⟩,
   ⟨some 114, .load false 1 (.tmp 113), some (110, false)⟩,
   ⟨some 115, .fieldAddr 0 (.tmp 4), some (110, false)⟩,
   ⟨some 116, .fieldAddr 1 (.tmp 115), some (110, false)⟩,
   ⟨some 117, .load false 1 (.tmp 116), some (110, false)⟩,
   ⟨some 118, .fieldAddr 5 (.tmp 4), some (110, false)⟩,
   ⟨some 119, .load false 1 (.tmp 118), some (110, false)⟩,
   ⟨some 120, .load true 2 (.tmp 9), some (110, false)⟩,
   ⟨some 121, .call (.func 25) [(.tmp 111), (.tmp 114), (.tmp 117), (.tmp 119), (.tmp 120)], some (110, false)⟩,
   ⟨some 122, .un .not (.tmp 121), some (110, false)⟩,
   ⟨some 123, .pick (.tmp 110) (.const (.bool true)) (.tmp 122), none⟩]
@[simp] theorem R9_7 (x2 x13 x15 x19 : AV) (l3 l4 l8 l9 l12 l18 : List AV) :
  evK C D (.seq (.region O9_7) (.keep [2, 3, 4, 8, 9, 123] [3, 4, 8, 9] c)) ⟨[(2, .v x2), (3, .l 3 0), (4, .l 4 0), (8, .l 8 0), (9, .l 9 0), (12, .l 12 0), (13, .v x13), (15, .v x15), (18, .l 18 0), (19, .v x19)], [(3, l3), (4, l4), (8, l8), (9, l9), (12, l12), (18, l18)], H⟩ k =
  (nl (binA .neq .int x15 (.int .i64 0))).bind fun t1 =>
  guardK t1 false (
  (nl (unA .not x13)).bind fun t4 =>
  guardK t4 false (
  (nl (rd false 1 2 l12)).bind fun t8 =>
  (nl (rd false 1 8 l4)).bind fun t10 =>
  (nl (binA .neq .str t8 t10)).bind fun t11 =>
  guardK t11 false (
  (nl (binA .neq .int x19 (.int .i64 81))).bind fun t15 =>
  guardK t15 false (
  (nl (rd true 5 0 l18)).bind fun t18 =>
  (nl (rd true 5 0 l4)).bind fun t20 =>
  (nl (binA .neq (.struct [(0, false, 1, .int), (1, false, 1, .int), (2, false, 1, .str), (3, true, 2, (.struct [(0, false, 1, .int), (1, false, 1, .int)]))]) t18 t20)).bind fun t21 =>
  guardK t21 false (
  (nl (rd true 12 0 l8)).bind fun t24 =>
  (nl (rd false 1 0 l4)).bind fun t27 =>
  (nl (rd false 1 1 l4)).bind fun t30 =>
  (nl (rd false 1 5 l4)).bind fun t32 =>
  (nl (rd true 2 0 l9)).bind fun t33 =>
  (callN C (.func (.func 25) [] []) [t24, t27, t30, t32, t33] H).bind fun r34 =>
  (nl (unA .not r34.1)).bind fun t35 =>
  evK C D c ⟨[(2, .v x2), (3, .l 3 0), (4, .l 4 0), (8, .l 8 0), (9, .l 9 0), (123, .v t35)], [(3, l3), (4, l4), (8, l8), (9, l9)], r34.2⟩ k)
  (evK C D c ⟨[(2, .v x2), (3, .l 3 0), (4, .l 4 0), (8, .l 8 0), (9, .l 9 0), (123, .v (.bool true))], [(3, l3), (4, l4), (8, l8), (9, l9)], H⟩ k))
  (evK C D c ⟨[(2, .v x2), (3, .l 3 0), (4, .l 4 0), (8, .l 8 0), (9, .l 9 0), (123, .v (.bool true))], [(3, l3), (4, l4), (8, l8), (9, l9)], H⟩ k))
  (evK C D c ⟨[(2, .v x2), (3, .l 3 0), (4, .l 4 0), (8, .l 8 0), (9, .l 9 0), (123, .v (.bool true))], [(3, l3), (4, l4), (8, l8), (9, l9)], H⟩ k))
  (evK C D c ⟨[(2, .v x2), (3, .l 3 0), (4, .l 4 0), (8, .l 8 0), (9, .l 9 0), (123, .v (.bool true))], [(3, l3), (4, l4), (8, l8), (9, l9)], H⟩ k))
  (evK C D c ⟨[(2, .v x2), (3, .l 3 0), (4, .l 4 0), (8, .l 8 0), (9, .l 9 0), (123, .v (.bool true))], [(3, l3), (4, l4), (8, l8), (9, l9)], H⟩ k) := by kernel_rfl
def O9_8 : List IOper :=
  [⟨some 6, .move (.const (.bool false)), none⟩]
@[simp] theorem R9_8 (x2 x123 : AV) (l3 l4 l8 l9 : List AV) :
  evK C D (.seq (.region O9_8) (.keep [6] [] c)) ⟨[(2, .v x2), (3, .l 3 0), (4, .l 4 0), (8, .l 8 0), (9, .l 9 0), (123, .v x123)], [(3, l3), (4, l4), (8, l8), (9, l9)], H⟩ k =
  evK C D c ⟨[(6, .v (.bool false))], [], H⟩ k := by kernel_rfl
def O9_9 : List IOper :=
  [⟨some 124, .load true 2 (.tmp 9), none⟩,
   ⟨some 20, .alloc true 2 [(.int .i64 0), (.int .i64 0)], none⟩,
   ⟨none, .store 2 (.tmp 20) (.tmp 124), none⟩]
@[simp] theorem R9_9 (x2 : AV) (l3 l4 l8 l9 : List AV) :
  evK C D (.seq (.region O9_9) (.keep [2, 3, 4, 8, 20] [3, 4, 8, 20] c)) ⟨[(2, .v x2), (3, .l 3 0), (4, .l 4 0), (8, .l 8 0), (9, .l 9 0)], [(3, l3), (4, l4), (8, l8), (9, l9)], H⟩ k =
  (nl (rd true 2 0 l9)).bind fun t0 =>
  (stL 2 0 t0 [(.int .i64 0), (.int .i64 0)]).bind fun m2 =>
  evK C D c ⟨[(2, .v x2), (3, .l 3 0), (4, .l 4 0), (8, .l 8 0), (20, .l 20 0)], [(3, l3), (4, l4), (8, l8), (20, m2)], H⟩ k := by kernel_rfl
def O9_10 : List IOper :=
  [⟨some 21, .move (.const (.int .i64 0)), none⟩]
@[simp] theorem R9_10 (x2 : AV) (l3 l4 l8 l20 : List AV) :
  evK C D (.seq (.region O9_10) (.keep [2, 3, 4, 8, 20, 21] [3, 4, 8, 20] c)) ⟨[(2, .v x2), (3, .l 3 0), (4, .l 4 0), (8, .l 8 0), (20, .l 20 0)], [(3, l3), (4, l4), (8, l8), (20, l20)], H⟩ k =
  evK C D c ⟨[(2, .v x2), (3, .l 3 0), (4, .l 4 0), (8, .l 8 0), (20, .l 20 0), (21, .v (.int .i64 0))], [(3, l3), (4, l4), (8, l8), (20, l20)], H⟩ k := by kernel_rfl
def O9_11 : List IOper :=
  [⟨some 125, .move (.tmp 21), none⟩,
   ⟨some 126, .move (.tmp 2), none⟩,
   ⟨some 127, .bin .and .none (.tmp 126) (.const (.int .i64 3)), none⟩,
   ⟨some 128, .bin .lss .none (.tmp 125) (.tmp 127), none⟩]
@[simp] theorem R9_11 (x2 x21 : AV) (l3 l4 l8 l20 : List AV) :
  evK C D (.seq (.region O9_11) (.keep [2, 3, 4, 8, 20, 21, 128] [3, 4, 8, 20] c)) ⟨[(2, .v x2), (3, .l 3 0), (4, .l 4 0), (8, .l 8 0), (20, .l 20 0), (21, .v x21)], [(3, l3), (4, l4), (8, l8), (20, l20)], H⟩ k =
  (nl (binA .and .none x2 (.int .i64 3))).bind fun t2 =>
  (nl (binA .lss .none x21 t2)).bind fun t3 =>
  evK C D c ⟨[(2, .v x2), (3, .l 3 0), (4, .l 4 0), (8, .l 8 0), (20, .l 20 0), (21, .v x21), (128, .v t3)], [(3, l3), (4, l4), (8, l8), (20, l20)], H⟩ k := by kernel_rfl
def O9_12 : List IOper :=
  [⟨some 132, .load true 2 (.tmp 20), none⟩,
   ⟨some 133, .call (.func 29) [(.tmp 132)], none⟩,
   ⟨some 131, .move (.tmp 133), none⟩,
   ⟨some 134, .extract (.tmp 131) 0, none⟩,
   ⟨some 135, .extract (.tmp 131) 1, none⟩,
   ⟨some 22, .alloc true 2 [(.int .i64 0), (.int .i64 0)], none⟩,
   ⟨none, .store 2 (.tmp 22) (.tmp 134), none⟩,
   ⟨some 23, .move (.tmp 135), none⟩]
@[simp] theorem R9_12 (x2 x21 : AV) (l3 l4 l8 l20 : List AV) :
  evK C D (.seq (.region O9_12) (.keep [2, 3, 4, 8, 20, 21, 22, 23] [3, 4, 8, 20, 22] c)) ⟨[(2, .v x2), (3, .l 3 0), (4, .l 4 0), (8, .l 8 0), (20, .l 20 0), (21, .v x21)], [(3, l3), (4, l4), (8, l8), (20, l20)], H⟩ k =
  (nl (rd true 2 0 l20)).bind fun t0 =>
  (callN C (.func (.func 29) [] []) [t0] H).bind fun r1 =>
  (nl (extA 0 r1.1)).bind fun t3 =>
  (nl (extA 1 r1.1)).bind fun t4 =>
  (stL 2 0 t3 [(.int .i64 0), (.int .i64 0)]).bind fun m6 =>
  evK C D c ⟨[(2, .v x2), (3, .l 3 0), (4, .l 4 0), (8, .l 8 0), (20, .l 20 0), (21, .v x21), (22, .l 22 0), (23, .v t4)], [(3, l3), (4, l4), (8, l8), (20, l20), (22, m6)], r1.2⟩ k := by kernel_rfl
def O9_13 : List IOper :=
  [⟨some 136, .move (.tmp 23), none⟩,
   ⟨some 137, .bin .neq .int (.tmp 136) (.const (.int .i64 0)), none⟩]
@[simp] theorem R9_13 (x2 x21 x23 : AV) (l3 l4 l8 l20 l22 : List AV) :
  evK C D (.seq (.region O9_13) (.keep [2, 3, 4, 8, 20, 21, 22, 137] [3, 4, 8, 20, 22] c)) ⟨[(2, .v x2), (3, .l 3 0), (4, .l 4 0), (8, .l 8 0), (20, .l 20 0), (21, .v x21), (22, .l 22 0), (23, .v x23)], [(3, l3), (4, l4), (8, l8), (20, l20), (22, l22)], H⟩ k =
  (nl (binA .neq .int x23 (.int .i64 0))).bind fun t1 =>
  evK C D c ⟨[(2, .v x2), (3, .l 3 0), (4, .l 4 0), (8, .l 8 0), (20, .l 20 0), (21, .v x21), (22, .l 22 0), (137, .v t1)], [(3, l3), (4, l4), (8, l8), (20, l20), (22, l22)], H⟩ k := by kernel_rfl
def O9_14 : List IOper :=
  [⟨some 138, .call (.func 12) [], none⟩,
   ⟨some 6, .move (.tmp 138), none⟩]
@[simp] theorem R9_14 (x2 x21 x137 : AV) (l3 l4 l8 l20 l22 : List AV) :
  evK C D (.seq (.region O9_14) (.keep [6] [] c)) ⟨[(2, .v x2), (3, .l 3 0), (4, .l 4 0), (8, .l 8 0), (20, .l 20 0), (21, .v x21), (22, .l 22 0), (137, .v x137)], [(3, l3), (4, l4), (8, l8), (20, l20), (22, l22)], H⟩ k =
  (callN C (.func (.func 12) [] []) [] H).bind fun r0 =>
  evK C D c ⟨[(6, .v r0.1)], [], r0.2⟩ k := by kernel_rfl
def O9_15 : List IOper :=
  [⟨some 139, .load true 2 (.tmp 22), none⟩,
   ⟨none, .store 2 (.tmp 20) (.tmp 139), none⟩]
@[simp] theorem R9_15 (x2 x21 : AV) (l3 l4 l8 l20 l22 : List AV) :
  evK C D (.region O9_15) ⟨[(2, .v x2), (3, .l 3 0), (4, .l 4 0), (8, .l 8 0), (20, .l 20 0), (21, .v x21), (22, .l 22 0)], [(3, l3), (4, l4), (8, l8), (20, l20), (22, l22)], H⟩ k =
  (nl (rd true 2 0 l22)).bind fun t0 =>
  (stL 2 0 t0 l20).bind fun m1 =>
  k .normal ⟨[(139, .v t0), (2, .v x2), (3, .l 3 0), (4, .l 4 0), (8, .l 8 0), (20, .l 20 0), (21, .v x21), (22, .l 22 0)], [(20, m1), (3, l3), (4, l4), (8, l8), (20, l20), (22, l22)], H⟩ := by kernel_rfl
def O9_16 : List IOper :=
  [⟨some 129, .move (.tmp 21), none⟩,
   ⟨some 130, .bin .add .none (.tmp 129) (.const (.int .i64 1)), none⟩,
   ⟨some 21, .move (.tmp 130), none⟩]
@[simp] theorem R9_16 (x2 x21 : AV) (l3 l4 l8 l20 : List AV) :
  evK C D (.region O9_16) ⟨[(2, .v x2), (3, .l 3 0), (4, .l 4 0), (8, .l 8 0), (20, .l 20 0), (21, .v x21)], [(3, l3), (4, l4), (8, l8), (20, l20)], H⟩ k =
  (nl (binA .add .none x21 (.int .i64 1))).bind fun t1 =>
  k .normal ⟨[(21, .v t1), (130, .v t1), (129, .v x21), (2, .v x2), (3, .l 3 0), (4, .l 4 0), (8, .l 8 0), (20, .l 20 0), (21, .v x21)], [(3, l3), (4, l4), (8, l8), (20, l20)], H⟩ := by kernel_rfl
def B9_0 : IC :=
  .seq (.seq (.region O9_11)
   (.keep [2, 3, 4, 8, 20, 21, 128] [3, 4, 8, 20] (.cond (.tmp 128)
    (.skip)
    (.exit 0))))
  (.keep [2, 3, 4, 8, 20, 21] [3, 4, 8, 20] (.seq (.block 1 (.seq (.region O9_12)
    (.keep [2, 3, 4, 8, 20, 21, 22, 23] [3, 4, 8, 20, 22] (.seq (.seq (.region O9_13)
     (.keep [2, 3, 4, 8, 20, 21, 22, 137] [3, 4, 8, 20, 22] (.cond (.tmp 137)
      (.seq (.region O9_14)
      (.keep [6] [] (.ret)))
      (.skip))))
    (.keep [2, 3, 4, 8, 20, 21, 22] [3, 4, 8, 20, 22] (.region O9_15))))))
  (.keep [2, 3, 4, 8, 20, 21] [3, 4, 8, 20] (.region O9_16))))
def L9_0 : IC := .keep [2, 3, 4, 8, 20, 21] [3, 4, 8, 20] B9_0
@[simp] theorem LK9_0 (s : SK) (k : AExit → SK → Option R) : evK C D (.loop L9_0) s k = (D (.loop L9_0) (prK [2, 3, 4, 8, 20, 21] [3, 4, 8, 20] s).toSt).bind fun r => k r.1 (ofSt r.2) := by kernel_rfl
def O9_17 : List IOper :=
  [⟨some 141, .load true 12 (.tmp 8), none⟩,
   ⟨some 142, .fieldAddr 0 (.tmp 4), none⟩,
   ⟨some 143, .fieldAddr 0 (.tmp 142), none⟩,
   ⟨some 144, .load false 1 (.tmp 143), none⟩,
   ⟨some 145, .fieldAddr 0 (.tmp 4), none⟩,
   ⟨some 146, .fieldAddr 1 (.tmp 145), none⟩,
   ⟨some 147, .load false 1 (.tmp 146), none⟩,
   ⟨some 148, .load true 2 (.tmp 20), none⟩,
   ⟨some 149, .call (.func 16) [(.tmp 141), (.tmp 144), (.tmp 147), (.const (.bool true)), (.tmp 148)], none⟩,
   ⟨some 140, .move (.tmp 149), none⟩,
   ⟨some 150, .extract (.tmp 140) 0, none⟩,
   ⟨some 151, .extract (.tmp 140) 1, none⟩,
   ⟨some 24, .alloc true 12 [.nils, (.bool false), (.int .i64 0), (.int .i64 0), (.str []), (.int .i64 0), (.int .i64 0), (.int .i64 0), (.int .i64 0), (.int .i64 0), (.str []), (.bool false)], none⟩,
   ⟨none, .store 12 (.tmp 24) (.tmp 150), none⟩,
   ⟨some 25, .move (.tmp 151), none⟩]
@[simp] theorem R9_17 (l3 l4 l8 l20 : List AV) :
  evK C D (.seq (.region O9_17) (.keep [3, 4, 8, 20, 24, 25] [3, 4, 8, 20, 24] c)) ⟨[(3, .l 3 0), (4, .l 4 0), (8, .l 8 0), (20, .l 20 0)], [(3, l3), (4, l4), (8, l8), (20, l20)], H⟩ k =
  (nl (rd true 12 0 l8)).bind fun t0 =>
  (nl (rd false 1 0 l4)).bind fun t3 =>
  (nl (rd false 1 1 l4)).bind fun t6 =>
  (nl (rd true 2 0 l20)).bind fun t7 =>
  (callN C (.func (.func 16) [] []) [t0, t3, t6, (.bool true), t7] H).bind fun r8 =>
  (nl (extA 0 r8.1)).bind fun t10 =>
  (nl (extA 1 r8.1)).bind fun t11 =>
  (stL 12 0 t10 [.nils, (.bool false), (.int .i64 0), (.int .i64 0), (.str []), (.int .i64 0), (.int .i64 0), (.int .i64 0), (.int .i64 0), (.int .i64 0), (.str []), (.bool false)]).bind fun m13 =>
  evK C D c ⟨[(3, .l 3 0), (4, .l 4 0), (8, .l 8 0), (20, .l 20 0), (24, .l 24 0), (25, .v t11)], [(3, l3), (4, l4), (8, l8), (20, l20), (24, m13)], r8.2⟩ k := by kernel_rfl
def O9_18 : List IOper :=
  [⟨some 153, .load true 12 (.tmp 24), none⟩,
   ⟨some 154, .load true 2 (.tmp 20), none⟩,
   ⟨some 155, .load true 2 (.tmp 20), none⟩,
   ⟨some 156, .call (.func 19) [(.tmp 153), (.tmp 154), (.tmp 155), (.const (.int .i64 (-1))), (.const (.int .i64 0))], none⟩,
   ⟨some 152, .move (.tmp 156), none⟩,
   ⟨some 157, .extract (.tmp 152) 0, none⟩,
   ⟨some 158, .extract (.tmp 152) 1, none⟩,
   ⟨some 159, .extract (.tmp 152) 2, none⟩,
   ⟨some 160, .extract (.tmp 152) 3, none⟩,
   ⟨some 26, .alloc true 5 [(.int .i64 0), (.int .i64 0), (.str []), (.bool false), (.int .i64 0)], none⟩,
   ⟨some 28, .alloc true 5 [(.int .i64 0), (.int .i64 0), (.str []), (.int .i64 0), (.int .i64 0)], none⟩,
   ⟨none, .store 5 (.tmp 26) (.tmp 157), none⟩,
   ⟨some 27, .move (.tmp 158), none⟩,
   ⟨none, .store 5 (.tmp 28) (.tmp 159), none⟩,
   ⟨some 29, .move (.tmp 160), none⟩]
@[simp] theorem R9_18 (x25 : AV) (l3 l4 l8 l20 l24 : List AV) :
  evK C D (.seq (.region O9_18) (.keep [3, 4, 8, 20, 25, 26, 27, 29] [3, 4, 8, 20, 26] c)) ⟨[(3, .l 3 0), (4, .l 4 0), (8, .l 8 0), (20, .l 20 0), (24, .l 24 0), (25, .v x25)], [(3, l3), (4, l4), (8, l8), (20, l20), (24, l24)], H⟩ k =
  (nl (rd true 12 0 l24)).bind fun t0 =>
  (nl (rd true 2 0 l20)).bind fun t1 =>
  (nl (rd true 2 0 l20)).bind fun t2 =>
  (callN C (.func (.func 19) [] []) [t0, t1, t2, (.int .i64 (-1)), (.int .i64 0)] H).bind fun r3 =>
  (nl (extA 0 r3.1)).bind fun t5 =>
  (nl (extA 1 r3.1)).bind fun t6 =>
  (nl (extA 2 r3.1)).bind fun t7 =>
  (nl (extA 3 r3.1)).bind fun t8 =>
  (stL 5 0 t5 [(.int .i64 0), (.int .i64 0), (.str []), (.bool false), (.int .i64 0)]).bind fun m11 =>
  (stL 5 0 t7 [(.int .i64 0), (.int .i64 0), (.str []), (.int .i64 0), (.int .i64 0)]).bind fun m13 =>
  evK C D c ⟨[(3, .l 3 0), (4, .l 4 0), (8, .l 8 0), (20, .l 20 0), (25, .v x25), (26, .l 26 0), (27, .v t6), (29, .v t8)], [(3, l3), (4, l4), (8, l8), (20, l20), (26, m11)], r3.2⟩ k := by kernel_rfl
def O9_19 : List IOper :=
  [⟨some 161, .move (.tmp 25), none⟩,
   ⟨some 162, .bin .neq .int (.tmp 161) (.const (.int .i64 0)), none⟩,
   ⟨some 163, .move (.tmp 162), none⟩,
   ⟨some 164, .move (.tmp 29), some (163, false)⟩,
   ⟨some 165, .bin .neq .int (.tmp 164) (.const (.int .i64 0)), some (163, false)⟩,
   ⟨some 166, .pick (.tmp 163) (.const (.bool true)) (.tmp 165), none⟩,
   ⟨some 167, .move (.tmp 166), none⟩,
   ⟨some 168, .move (.tmp 27), some (167, false)⟩,
   ⟨some 169, .un .not (.tmp 168), some (167, false)⟩,
   ⟨some 170, .pick (.tmp 167) (.const (.bool true)) (.tmp 169), none⟩,
   ⟨some 171, .move (.tmp 170), none⟩,
   ⟨some 172, .fieldAddr 2 (.tmp 26), some (171, false)⟩,
   ⟨some 173, .load false 1 (.tmp 172), some (171, false)⟩,
   ⟨some 174, .fieldAddr 8 (.tmp 4), some (171, false)⟩,
   ⟨some 175, .load false 1 (.tmp 174), some (171, false)⟩,
   ⟨some 176, .bin .neq .str (.tmp 173) (.tmp 175), some (171, false)⟩,
   ⟨some 177, .pick (.tmp 171) (.const (.bool true)) (.tmp 176), none⟩,
   ⟨some 178, .move (.tmp 177), none⟩,
   ⟨some 179, .fieldAddr 0 (.tmp 26), some (178, false)⟩,
   ⟨some 180, .load true 2 (.tmp 179), some (178, false)⟩,
   ⟨some 181, .load true 2 (.tmp 20), some (178, false)⟩,
   ⟨some 182, .bin .neq (.struct [(0, false, 1, .int), (1, false, 1, .int)]) (.tmp 180) (.tmp 181), some (178, false)⟩,
   ⟨some 183, .pick (.tmp 178) (.const (.bool true)) (.tmp 182), none⟩,
   ⟨some 184, .move (.tmp 183), none⟩,
   ⟨some 185, .fieldAddr 4 (.tmp 26), some (184, false)⟩,
   ⟨some 186, .load false 1 (.tmp 185), some (184, false)⟩,
   ⟨some 187, .fieldAddr 0 (.tmp 4), some (184, false)⟩,
   ⟨some 188, .fieldAddr 0 (.tmp 187), some (184, false)⟩,
   ⟨some 189, .load false 1 (.tmp 188), some (184, false)⟩,
   ⟨some 190, .bin .neq .int (.tmp 186) (.tmp 189), some (184, false)⟩,
   ⟨some 191, .pick (.tmp 184) (.const (.bool true)) (.tmp 190), none⟩]
@[simp] theorem R9_19 (x25 x27 x29 : AV) (l3 l4 l8 l20 l26 : List AV) :
  evK C D (.seq (.region O9_19) (.keep [3, 4, 8, 20, 191] [3, 4, 8, 20] c)) ⟨[(3, .l 3 0), (4, .l 4 0), (8, .l 8 0), (20, .l 20 0), (25, .v x25), (26, .l 26 0), (27, .v x27), (29, .v x29)], [(3, l3), (4, l4), (8, l8), (20, l20), (26, l26)], H⟩ k =
  (nl (binA .neq .int x25 (.int .i64 0))).bind fun t1 =>
  guardK t1 false (
  (nl (binA .neq .int x29 (.int .i64 0))).bind fun t4 =>
  guardK t4 false (
  (nl (unA .not x27)).bind fun t8 =>
  guardK t8 false (
  (nl (rd false 1 2 l26)).bind fun t12 =>
  (nl (rd false 1 8 l4)).bind fun t14 =>
  (nl (binA .neq .str t12 t14)).bind fun t15 =>
  guardK t15 false (
  (nl (rd true 2 0 l26)).bind fun t19 =>
  (nl (rd true 2 0 l20)).bind fun t20 =>
  (nl (binA .neq (.struct [(0, false, 1, .int), (1, false, 1, .int)]) t19 t20)).bind fun t21 =>
  guardK t21 false (
  (nl (rd false 1 4 l26)).bind fun t25 =>
  (nl (rd false 1 0 l4)).bind fun t28 =>
  (nl (binA .neq .int t25 t28)).bind fun t29 =>
  evK C D c ⟨[(3, .l 3 0), (4, .l 4 0), (8, .l 8 0), (20, .l 20 0), (191, .v t29)], [(3, l3), (4, l4), (8, l8), (20, l20)], H⟩ k)
  (evK C D c ⟨[(3, .l 3 0), (4, .l 4 0), (8, .l 8 0), (20, .l 20 0), (191, .v (.bool true))], [(3, l3), (4, l4), (8, l8), (20, l20)], H⟩ k))
  (evK C D c ⟨[(3, .l 3 0), (4, .l 4 0), (8, .l 8 0), (20, .l 20 0), (191, .v (.bool true))], [(3, l3), (4, l4), (8, l8), (20, l20)], H⟩ k))
  (evK C D c ⟨[(3, .l 3 0), (4, .l 4 0), (8, .l 8 0), (20, .l 20 0), (191, .v (.bool true))], [(3, l3), (4, l4), (8, l8), (20, l20)], H⟩ k))
  (evK C D c ⟨[(3, .l 3 0), (4, .l 4 0), (8, .l 8 0), (20, .l 20 0), (191, .v (.bool true))], [(3, l3), (4, l4), (8, l8), (20, l20)], H⟩ k))
  (evK C D c ⟨[(3, .l 3 0), (4, .l 4 0), (8, .l 8 0), (20, .l 20 0), (191, .v (.bool true))], [(3, l3), (4, l4), (8, l8), (20, l20)], H⟩ k) := by kernel_rfl
def O9_20 : List IOper :=
  [⟨some 6, .move (.const (.bool false)), none⟩]
@[simp] theorem R9_20 (x191 : AV) (l3 l4 l8 l20 : List AV) :
  evK C D (.seq (.region O9_20) (.keep [6] [] c)) ⟨[(3, .l 3 0), (4, .l 4 0), (8, .l 8 0), (20, .l 20 0), (191, .v x191)], [(3, l3), (4, l4), (8, l8), (20, l20)], H⟩ k =
  evK C D c ⟨[(6, .v (.bool false))], [], H⟩ k := by kernel_rfl
def O9_21 : List IOper :=
  [⟨some 193, .load true 12 (.tmp 8), none⟩,
   ⟨some 194, .fieldAddr 0 (.tmp 4), none⟩,
   ⟨some 195, .fieldAddr 0 (.tmp 194), none⟩,
   ⟨some 196, .load false 1 (.tmp 195), none⟩,
   ⟨some 197, .fieldAddr 0 (.tmp 4), none⟩,
   ⟨some 198, .fieldAddr 1 (.tmp 197), none⟩,
   ⟨some 199, .load false 1 (.tmp 198), none⟩,
   ⟨some 200, .load true 2 (.tmp 20), none⟩,
   ⟨some 201, .call (.func 16) [(.tmp 193), (.tmp 196), (.tmp 199), (.const (.bool false)), (.tmp 200)], none⟩,
   ⟨some 192, .move (.tmp 201), none⟩,
   ⟨some 202, .extract (.tmp 192) 0, none⟩,
   ⟨some 203, .extract (.tmp 192) 1, none⟩,
   ⟨some 30, .alloc true 12 [.nils, (.bool false), (.int .i64 0), (.int .i64 0), (.str []), (.int .i64 0), (.int .i64 0), (.int .i64 0), (.int .i64 0), (.int .i64 0), (.str []), (.bool false)], none⟩,
   ⟨none, .store 12 (.tmp 30) (.tmp 202), none⟩,
   ⟨some 31, .move (.tmp 203), none⟩]
@[simp] theorem R9_21 (l3 l4 l8 l20 : List AV) :
  evK C D (.seq (.region O9_21) (.keep [3, 30, 31] [3, 30] c)) ⟨[(3, .l 3 0), (4, .l 4 0), (8, .l 8 0), (20, .l 20 0)], [(3, l3), (4, l4), (8, l8), (20, l20)], H⟩ k =
  (nl (rd true 12 0 l8)).bind fun t0 =>
  (nl (rd false 1 0 l4)).bind fun t3 =>
  (nl (rd false 1 1 l4)).bind fun t6 =>
  (nl (rd true 2 0 l20)).bind fun t7 =>
  (callN C (.func (.func 16) [] []) [t0, t3, t6, (.bool false), t7] H).bind fun r8 =>
  (nl (extA 0 r8.1)).bind fun t10 =>
  (nl (extA 1 r8.1)).bind fun t11 =>
  (stL 12 0 t10 [.nils, (.bool false), (.int .i64 0), (.int .i64 0), (.str []), (.int .i64 0), (.int .i64 0), (.int .i64 0), (.int .i64 0), (.int .i64 0), (.str []), (.bool false)]).bind fun m13 =>
  evK C D c ⟨[(3, .l 3 0), (30, .l 30 0), (31, .v t11)], [(3, l3), (30, m13)], r8.2⟩ k := by kernel_rfl
def O9_22 : List IOper :=
  [⟨some 204, .call (.func 12) [], none⟩,
   ⟨some 205, .move (.tmp 204), none⟩,
   ⟨some 206, .move (.tmp 31), some (205, true)⟩,
   ⟨some 207, .bin .eql .int (.tmp 206) (.const (.int .i64 0)), some (205, true)⟩,
   ⟨some 208, .pick (.tmp 205) (.tmp 207) (.const (.bool false)), none⟩,
   ⟨some 209, .move (.tmp 208), none⟩,
   ⟨some 210, .load true 12 (.tmp 30), some (209, true)⟩,
   ⟨some 211, .load true 12 (.tmp 3), some (209, true)⟩,
   ⟨some 212, .call (.func 27) [(.tmp 210), (.tmp 211)], some (209, true)⟩,
   ⟨some 213, .pick (.tmp 209) (.tmp 212) (.const (.bool false)), none⟩,
   ⟨some 6, .move (.tmp 213), none⟩]
@[simp] theorem R9_22 (x31 : AV) (l3 l30 : List AV) :
  evK C D (.seq (.region O9_22) (.keep [6] [] c)) ⟨[(3, .l 3 0), (30, .l 30 0), (31, .v x31)], [(3, l3), (30, l30)], H⟩ k =
  (callN C (.func (.func 12) [] []) [] H).bind fun r0 =>
  guardK r0.1 true (
  (nl (binA .eql .int x31 (.int .i64 0))).bind fun t3 =>
  guardK t3 true (
  (nl (rd true 12 0 l30)).bind fun t6 =>
  (nl (rd true 12 0 l3)).bind fun t7 =>
  (callN C (.func (.func 27) [] []) [t6, t7] r0.2).bind fun r8 =>
  evK C D c ⟨[(6, .v r8.1)], [], r8.2⟩ k)
  (evK C D c ⟨[(6, .v (.bool false))], [], r0.2⟩ k))
  (evK C D c ⟨[(6, .v (.bool false))], [], r0.2⟩ k) := by kernel_rfl
def F9 : FnIR := ⟨214, 3, [.tmp 6], [3, 4, 8, 9, 10, 12, 14, 16, 18, 20, 22, 24, 26, 28, 30],
  .seq (.region O9_0)
  (.keep [2, 3, 4] [3, 4] (.seq (.region O9_1)
  (.keep [2, 3, 4, 7] [3, 4] (.seq (.region O9_2)
  (.keep [2, 3, 4, 7, 8, 9, 11] [3, 4, 8, 9] (.seq (.seq (.region O9_3)
   (.keep [2, 3, 4, 8, 9, 61] [3, 4, 8, 9] (.cond (.tmp 61)
    (.seq (.region O9_4)
    (.keep [6] [] (.ret)))
    (.skip))))
  (.keep [2, 3, 4, 8, 9] [3, 4, 8, 9] (.seq (.region O9_5)
  (.keep [2, 3, 4, 8, 9, 12, 13, 15] [3, 4, 8, 9, 12] (.seq (.region O9_6)
  (.keep [2, 3, 4, 8, 9, 12, 13, 15, 18, 19] [3, 4, 8, 9, 12, 18] (.seq (.seq (.region O9_7)
   (.keep [2, 3, 4, 8, 9, 123] [3, 4, 8, 9] (.cond (.tmp 123)
    (.seq (.region O9_8)
    (.keep [6] [] (.ret)))
    (.skip))))
  (.keep [2, 3, 4, 8, 9] [3, 4, 8, 9] (.seq (.region O9_9)
  (.keep [2, 3, 4, 8, 20] [3, 4, 8, 20] (.seq (.seq (.region O9_10)
   (.keep [2, 3, 4, 8, 20, 21] [3, 4, 8, 20] (.block 0 (.loop L9_0))))
  (.keep [3, 4, 8, 20] [3, 4, 8, 20] (.seq (.region O9_17)
  (.keep [3, 4, 8, 20, 24, 25] [3, 4, 8, 20, 24] (.seq (.region O9_18)
  (.keep [3, 4, 8, 20, 25, 26, 27, 29] [3, 4, 8, 20, 26] (.seq (.seq (.region O9_19)
   (.keep [3, 4, 8, 20, 191] [3, 4, 8, 20] (.cond (.tmp 191)
    (.seq (.region O9_20)
    (.keep [6] [] (.ret)))
    (.skip))))
  (.keep [3, 4, 8, 20] [3, 4, 8, 20] (.seq (.region O9_21)
  (.keep [3, 30, 31] [3, 30] (.seq (.region O9_22)
  (.keep [6] [] (.ret))))))))))))))))))))))))))))⟩
/-- wampum/wampumlaw08.VersionTells -/
def O10_0 : List IOper :=
  [⟨some 2, .box true 12 (.tmp 0), none⟩,
   ⟨some 3, .box true 12 (.tmp 1), none⟩,
   ⟨some 4, .move (.const (.bool false)), none⟩]
@[simp] theorem R10_0 (x0 x1 : AV) :
  evK C D (.seq (.region O10_0) (.keep [2, 3] [2, 3] c)) ⟨[(0, .v x0), (1, .v x1)], [], H⟩ k =
  (boxC x0).bind fun m0 =>
  (boxC x1).bind fun m1 =>
  evK C D c ⟨[(2, .l 2 0), (3, .l 3 0)], [(2, m0), (3, m1)], H⟩ k := by kernel_rfl
def O10_1 : List IOper :=
  [⟨some 5, .fieldAddr 0 (.tmp 2), none⟩,
   ⟨some 6, .load false 1 (.tmp 5), none⟩,
   ⟨some 7, .len .slice (.tmp 6), none⟩,
   ⟨some 8, .bin .gtr .none (.tmp 7) (.const (.int .i64 60)), none⟩,
   ⟨some 9, .move (.tmp 8), none⟩,
   ⟨some 10, .fieldAddr 0 (.tmp 3), some (9, false)⟩,
   ⟨some 11, .load false 1 (.tmp 10), some (9, false)⟩,
   ⟨some 12, .len .slice (.tmp 11), some (9, false)⟩,
   ⟨some 13, .bin .gtr .none (.tmp 12) (.const (.int .i64 60)), some (9, false)⟩,
   ⟨some 14, .pick (.tmp 9) (.const (.bool true)) (.tmp 13), none⟩]
@[simp] theorem R10_1 (l2 l3 : List AV) :
  evK C D (.seq (.region O10_1) (.keep [2, 3, 14] [2, 3] c)) ⟨[(2, .l 2 0), (3, .l 3 0)], [(2, l2), (3, l3)], H⟩ k =
  (nl (rd false 1 0 l2)).bind fun t1 =>
  (lenS t1).bind fun t2 =>
  (nl (binA .gtr .none t2 (.int .i64 60))).bind fun t3 =>
  guardK t3 false (
  (nl (rd false 1 0 l3)).bind fun t6 =>
  (lenS t6).bind fun t7 =>
  (nl (binA .gtr .none t7 (.int .i64 60))).bind fun t8 =>
  evK C D c ⟨[(2, .l 2 0), (3, .l 3 0), (14, .v t8)], [(2, l2), (3, l3)], H⟩ k)
  (evK C D c ⟨[(2, .l 2 0), (3, .l 3 0), (14, .v (.bool true))], [(2, l2), (3, l3)], H⟩ k) := by kernel_rfl
def O10_2 : List IOper :=
  [⟨some 15, .call (.func 12) [], none⟩,
   ⟨some 4, .move (.tmp 15), none⟩]
@[simp] theorem R10_2 (x14 : AV) (l2 l3 : List AV) :
  evK C D (.seq (.region O10_2) (.keep [4] [] c)) ⟨[(2, .l 2 0), (3, .l 3 0), (14, .v x14)], [(2, l2), (3, l3)], H⟩ k =
  (callN C (.func (.func 12) [] []) [] H).bind fun r0 =>
  evK C D c ⟨[(4, .v r0.1)], [], r0.2⟩ k := by kernel_rfl
def O10_3 : List IOper :=
  [⟨some 16, .call (.func 12) [], none⟩,
   ⟨some 17, .move (.tmp 16), none⟩,
   ⟨some 18, .load true 12 (.tmp 2), some (17, true)⟩,
   ⟨some 19, .call (.func 28) [(.tmp 18)], some (17, true)⟩,
   ⟨some 20, .load true 12 (.tmp 2), some (17, true)⟩,
   ⟨some 21, .call (.func 30) [(.tmp 20)], some (17, true)⟩,
   ⟨some 22, .bin .eql .bool (.tmp 19) (.tmp 21), some (17, true)⟩,
   ⟨some 23, .pick (.tmp 17) (.tmp 22) (.const (.bool false)), none⟩,
   ⟨some 24, .move (.tmp 23), none⟩,
   ⟨some 25, .load true 12 (.tmp 2), some (24, true)⟩,
   ⟨some 26, .load true 12 (.tmp 3), some (24, true)⟩,
   ⟨some 27, .call (.func 27) [(.tmp 25), (.tmp 26)], some (24, true)⟩,
   ⟨some 28, .load true 12 (.tmp 2), some (24, true)⟩,
   ⟨some 29, .load true 12 (.tmp 3), some (24, true)⟩,
   ⟨some 30, .call (.func 18) [(.tmp 28), (.tmp 29)], some (24, true)⟩,
   ⟨some 31, .bin .eql .bool (.tmp 27) (.tmp 30), some (24, true)⟩,
   ⟨some 32, .pick (.tmp 24) (.tmp 31) (.const (.bool false)), none⟩,
   ⟨some 33, .move (.tmp 32), none⟩,
   ⟨some 34, .load true 12 (.tmp 2), some (33, true)⟩,
   ⟨some 35, .load true 12 (.tmp 2), some (33, true)⟩,
   ⟨some 36, .call (.func 27) [(.tmp 34), (.tmp 35)], some (33, true)⟩,
   ⟨some 37, .pick (.tmp 33) (.tmp 36) (.const (.bool false)), none⟩,
   ⟨some 4, .move (.tmp 37), none⟩]
@[simp] theorem R10_3 (l2 l3 : List AV) :
  evK C D (.seq (.regionD O10_3 [(4, 1), (12, 6), (13, 6)]) (.keep [4] [] c)) ⟨[(2, .l 2 0), (3, .l 3 0)], [(2, l2), (3, l3)], H⟩ k =
  (callN C (.func (.func 12) [] []) [] H).bind fun r0 =>
  guardK r0.1 true (
  (nl (rd true 12 0 l2)).bind fun t2 =>
  kB (AV.okB r0.2.n t2) (
  (callN C (.func (.func 28) [] []) [t2] r0.2).bind fun r3 =>
  (nl (rd true 12 0 l2)).bind fun t4 =>
  kB (AV.okB r3.2.n t4) (
  (callN C (.func (.func 30) [] []) [t4] r3.2).bind fun r5 =>
  (nl (binA .eql .bool r3.1 r5.1)).bind fun t6 =>
  guardK t6 true (
  (nl (rd true 12 0 l2)).bind fun t9 =>
  kB (AV.okB r5.2.n t9) (
  (nl (rd true 12 0 l3)).bind fun t10 =>
  kB (AV.okB r5.2.n t10) (
  (callN C (.func (.func 27) [] []) [t9, t10] r5.2).bind fun r11 =>
  (nl (rd true 12 0 l2)).bind fun t12 =>
  kB (AV.okB r11.2.n t12) (
  (nl (rd true 12 0 l3)).bind fun t13 =>
  kB (AV.okB r11.2.n t13) (
  (callN C (.func (.func 18) [] []) [t12, t13] r11.2).bind fun r14 =>
  (nl (binA .eql .bool r11.1 r14.1)).bind fun t15 =>
  guardK t15 true (
  (nl (rd true 12 0 l2)).bind fun t18 =>
  kB (AV.okB r14.2.n t18) (
  (nl (rd true 12 0 l2)).bind fun t19 =>
  kB (AV.okB r14.2.n t19) (
  (callN C (.func (.func 27) [] []) [t18, t19] r14.2).bind fun r20 =>
  kB (chk (rd true 12 0 l2) t4) (
  kB (chk (rd true 12 0 l2) t12) (
  kB (chk (rd true 12 0 l3) t13) (
  evK C D c ⟨[(4, .v r20.1)], [], r20.2⟩ k))))))
  (kB (AV.okB r14.2.n undefA) (
  kB (AV.okB r14.2.n undefA) (
  kB (chk (rd true 12 0 l2) t4) (
  kB (chk (rd true 12 0 l2) t12) (
  kB (chk (rd true 12 0 l3) t13) (
  evK C D c ⟨[(4, .v (.bool false))], [], r14.2⟩ k)))))))))))
  (kB (AV.okB r5.2.n undefA) (
  kB (AV.okB r5.2.n undefA) (
  kB (AV.okB r5.2.n undefA) (
  kB (AV.okB r5.2.n undefA) (
  kB (AV.okB r5.2.n undefA) (
  kB (AV.okB r5.2.n undefA) (
  kB (chk (rd true 12 0 l2) t4) (
  evK C D c ⟨[(4, .v (.bool false))], [], r5.2⟩ k)))))))))))
  (kB (AV.okB r0.2.n undefA) (
  kB (AV.okB r0.2.n undefA) (
  kB (AV.okB r0.2.n undefA) (
  kB (AV.okB r0.2.n undefA) (
  kB (AV.okB r0.2.n undefA) (
  kB (AV.okB r0.2.n undefA) (
  kB (AV.okB r0.2.n undefA) (
  kB (AV.okB r0.2.n undefA) (
  evK C D c ⟨[(4, .v (.bool false))], [], r0.2⟩ k))))))))) := by kernel_rfl
def F10 : FnIR := ⟨38, 2, [.tmp 4], [2, 3],
  .seq (.region O10_0)
  (.keep [2, 3] [2, 3] (.seq (.seq (.region O10_1)
   (.keep [2, 3, 14] [2, 3] (.cond (.tmp 14)
    (.seq (.region O10_2)
    (.keep [4] [] (.ret)))
    (.skip))))
  (.keep [2, 3] [2, 3] (.seq (.regionD O10_3 [(4, 1), (12, 6), (13, 6)])
  (.keep [4] [] (.ret))))))⟩
end Go.Proofs.Ytkahfmgdjoaiiaa
