/- The abstract machine: code as one number, read back by the kernel. No condition. -/
import Derived.Test.YtpdmmpajjdaebaaGreatAmC
set_option linter.unusedVariables false
namespace Go.Wam
noncomputable section
abbrev D (α : Type) := Nat → α × Nat
def fzN {α : Type} (n : Nat) (k : Nat → α) : α := Nat.rec (k 0) (fun p _ => k (Nat.succ p)) n
def ptD {α : Type} (a : α) : D α := fun n => (a, n)
def bdD {α β : Type} (x : D α) (f : α → D β) : D β := fun n => Prod.rec (fun a m => f a m) (x n)
def ifD {α : Type} (b : Bool) (x y : α) : α := Bool.rec y x b
def byteD : D Nat := fun n => fzN n fun n => (Nat.land n 255, Nat.shiftRight n 8)
def wideD (k : Nat) : D Nat := fun n => fzN n fun n => (Nat.land n (Nat.sub (Nat.pow 2 k) 1), Nat.shiftRight n k)
def numD : D Nat := bdD byteD fun b => ifD (Nat.blt b 251) (ptD b) (ifD (Nat.beq b 251) (wideD 16) (ifD (Nat.beq b 252) (wideD 32) (wideD 64)))
def selD {α : Type} [Inhabited α] (t : Nat) (l : List (D α)) : D α := List.rec (motive := fun _ => Nat → D α) (fun _ => ptD default) (fun x _ ih t => ifD (Nat.beq t 0) x (ih (Nat.sub t 1))) l t
def repD {α : Type} (x : D α) (k : Nat) : D (List α) := Nat.rec (ptD []) (fun _ ih => bdD x fun a => bdD ih fun r => ptD (a :: r)) k
def listD {α : Type} (x : D α) : D (List α) := bdD numD fun k => repD x k
def boolD : D Bool := bdD byteD fun t => ptD (Nat.beq t 1)
def onumD : D (Option Nat) := bdD numD fun t => ptD (ifD (Nat.beq t 0) none (some (Nat.sub t 1)))
def u8D : D UInt8 := bdD byteD fun t => ptD (UInt8.ofNat t)
instance : Inhabited IntKind := ⟨.i64⟩
instance : Inhabited BinOp := ⟨.add⟩
instance : Inhabited UnOp := ⟨.not⟩
instance : Inhabited Conv := ⟨.strId⟩
instance : Inhabited LenKind := ⟨.str⟩
instance : Inhabited SlKind := ⟨.str⟩
instance : Inhabited KeyT := ⟨.str⟩
instance : Inhabited Opd := ⟨.tmp 0⟩
instance : Inhabited IOp := ⟨.bad⟩
instance : Inhabited IC := ⟨.stuck⟩
instance : Inhabited RV := ⟨.tmp 0⟩
instance : Inhabited EqT := ⟨.none⟩
def kindD : D IntKind := bdD byteD fun t => (selD t [ptD .i64, ptD .u8, ptD .i32, ptD .u32, ptD .u64, ptD .i8, ptD .i16, ptD .u16])
def bnopD : D BinOp := bdD byteD fun t => (selD t [ptD .add, ptD .sub, ptD .mul, ptD .quo, ptD .rem, ptD .and, ptD .or, ptD .xor, ptD .shl, ptD .shr, ptD .andNot, ptD .eql, ptD .neq, ptD .lss, ptD .leq, ptD .gtr, ptD .geq])
def unopD : D UnOp := bdD byteD fun t => (selD t [ptD .neg, ptD .xor, ptD .not, ptD .plus])
def fnD : D Fn := bdD numD fun f => ptD (.func f)
def avF (k : Nat) : D AV := Nat.rec (ptD default) (fun _ ih => bdD byteD fun t => (selD t [bdD numD fun n => ptD (.int .i64 (Int.ofNat n)), bdD boolD fun b => ptD (.bool b), bdD (listD u8D) fun s => ptD (.str s), bdD kindD fun k => bdD numD fun n => ptD (.int k (Int.ofNat n)), bdD kindD fun k => bdD numD fun n => ptD (.int k (Int.negSucc n)),
  ptD .nilp, ptD .nils, ptD .nilm, ptD .nilFunc, ptD .nilIface, bdD (listD ih) fun l => ptD (.agg l), bdD (listD ih) fun l => ptD (.tuple l), bdD fnD fun f => bdD (listD ih) fun a => bdD (listD ih) fun b => ptD (.func f a b),
  bdD numD fun a => bdD numD fun b => ptD (.ptr a b), bdD numD fun a => bdD numD fun b => bdD numD fun c => bdD numD fun d => ptD (.slice a b c d), bdD numD fun a => bdD numD fun b => bdD numD fun c => bdD numD fun d => bdD numD fun e => ptD (.oslice a b c d e), bdD numD fun a => bdD numD fun b => bdD numD fun c => bdD numD fun d => ptD (.eslice a b c d), bdD numD fun a => ptD (.map a), bdD numD fun a => bdD numD fun b => ptD (.lptr a b), bdD numD fun a => bdD ih fun v => ptD (.iface a v)])) k
def avD : D AV := avF 8
def avsD : D (List AV) := listD avD
def opdD : D Opd := bdD byteD fun t => ifD (Nat.blt t 240) (ptD (.tmp t)) (selD (Nat.sub t 240) [bdD avD fun v => ptD (.const v), bdD numD fun f => ptD (.func f), bdD numD fun f => ptD (.tmp f)])
def opdsD : D (List Opd) := listD opdD
def oopdD : D (Option Opd) := bdD byteD fun t => ifD (Nat.beq t 0) (ptD none) (bdD opdD fun x => ptD (some x))
def partsD : D (List (Nat × Nat × Opd)) := listD (bdD numD fun a => bdD numD fun b => bdD opdD fun x => ptD (a, b, x))
def oarrD : D (Option (Nat × Bool × Nat)) := bdD byteD fun t => ifD (Nat.beq t 0) (ptD none) (bdD numD fun a => bdD boolD fun b => bdD numD fun c => ptD (some (a, b, c)))
def eqF (k : Nat) : D EqT := Nat.rec (ptD default) (fun _ ih => bdD byteD fun t => (selD t [ptD .none, ptD .int, ptD .bool, ptD .str, ptD .ptr, ptD .slice, ptD .map, ptD .func, bdD (listD (bdD numD fun a => bdD boolD fun b => bdD numD fun c => bdD ih fun e => ptD (a, b, c, e))) fun l => ptD (.struct l)])) k
def eqtD : D EqT := eqF 8
def convD : D Conv := bdD byteD fun t => (selD t [bdD kindD fun k => ptD (.toInt k), ptD .strId, ptD .toBytes, ptD .ofBytes, ptD .ptrId])
def slkD : D SlKind := bdD byteD fun t => (selD t [ptD .str, bdD numD fun s => ptD (.slice s), bdD numD fun n => bdD numD fun s => ptD (.arr n s)])
def lenkD : D LenKind := bdD byteD fun t => (selD t [ptD .str, ptD .slice, bdD numD fun n => ptD (.arr n), ptD .map])
def keytD : D KeyT := bdD byteD fun t => (selD t [bdD kindD fun k => ptD (.int k), ptD .str, bdD kindD fun k => bdD numD fun n => ptD (.arr k n)])
def iopD (t : Nat) : D IOp := (selD t [(bdD bnopD fun x0 => bdD eqtD fun x1 => bdD opdD fun x2 => bdD opdD fun x3 => ptD (.bin x0 x1 x2 x3)), (bdD boolD fun x0 => bdD numD fun x1 => bdD opdD fun x2 => ptD (.load x0 x1 x2)), (bdD numD fun x0 => bdD opdD fun x1 => ptD (.fieldAddr x0 x1)), (bdD opdD fun x0 => ptD (.move x0)), (bdD opdD fun x0 => bdD opdsD fun x1 => ptD (.call x0 x1)), (bdD opdD fun x0 => bdD numD fun x1 => ptD (.extract x0 x1)), (bdD opdD fun x0 => ptD (.nilCheck x0)), (bdD lenkD fun x0 => bdD opdD fun x1 => ptD (.len x0 x1)), (bdD boolD fun x0 => bdD numD fun x1 => bdD numD fun x2 => bdD opdD fun x3 => ptD (.field x0 x1 x2 x3)), (bdD oarrD fun x0 => bdD opdD fun x1 => bdD opdD fun x2 => ptD (.index x0 x1 x2)), (bdD onumD fun x0 => bdD numD fun x1 => bdD opdD fun x2 => bdD opdD fun x3 => ptD (.indexAddr x0 x1 x2 x3)), (bdD numD fun x0 => bdD opdD fun x1 => bdD opdD fun x2 => ptD (.store x0 x1 x2)), (bdD convD fun x0 => bdD opdD fun x1 => ptD (.conv x0 x1)), (bdD avsD fun x0 => bdD partsD fun x1 => ptD (.build x0 x1)), (bdD boolD fun x0 => bdD numD fun x1 => bdD avsD fun x2 => ptD (.alloc x0 x1 x2)), (bdD boolD fun x0 => bdD numD fun x1 => bdD opdD fun x2 => ptD (.box x0 x1 x2)), (bdD numD fun x0 => bdD numD fun x1 => bdD opdD fun x2 => bdD opdD fun x3 => ptD (.append x0 x1 x2 x3)), (bdD opdD fun x0 => bdD opdD fun x1 => bdD opdD fun x2 => ptD (.pick x0 x1 x2)), (bdD unopD fun x0 => bdD opdD fun x1 => ptD (.un x0 x1)), (bdD slkD fun x0 => bdD opdD fun x1 => bdD oopdD fun x2 => bdD oopdD fun x3 => bdD oopdD fun x4 => ptD (.slice x0 x1 x2 x3 x4)), (bdD fnD fun x0 => bdD opdsD fun x1 => bdD opdsD fun x2 => ptD (.mkFunc x0 x1 x2)), (bdD numD fun x0 => bdD numD fun x1 => bdD avsD fun x2 => bdD partsD fun x3 => ptD (.buildSlice x0 x1 x2 x3)), (bdD keytD fun x0 => bdD boolD fun x1 => bdD avD fun x2 => bdD opdD fun x3 => bdD opdD fun x4 => ptD (.lookup x0 x1 x2 x3 x4)), (bdD keytD fun x0 => bdD opdD fun x1 => bdD opdD fun x2 => bdD opdD fun x3 => ptD (.mapUpdate x0 x1 x2 x3)), (ptD .mkMap), (bdD numD fun x0 => bdD opdD fun x1 => ptD (.mkIface x0 x1)), (bdD numD fun x0 => bdD numD fun x1 => bdD avsD fun x2 => bdD opdD fun x3 => bdD opdD fun x4 => ptD (.mkSlice x0 x1 x2 x3 x4)), (bdD numD fun x0 => bdD numD fun x1 => bdD avsD fun x2 => bdD opdD fun x3 => bdD opdD fun x4 => ptD (.appendZ x0 x1 x2 x3 x4)), (bdD numD fun x0 => bdD avsD fun x1 => bdD opdD fun x2 => ptD (.clear x0 x1 x2)), (bdD keytD fun x0 => bdD opdD fun x1 => bdD opdD fun x2 => ptD (.delete x0 x1 x2)), (bdD opdD fun x0 => ptD (.rangeS x0)), (bdD opdD fun x0 => ptD (.nextS x0)), (bdD opdD fun x0 => ptD (.rangeM x0)), (bdD opdD fun x0 => ptD (.nextM x0)), (bdD opdD fun x0 => ptD (.entryM x0)), (bdD keytD fun x0 => bdD avD fun x1 => bdD opdD fun x2 => bdD opdD fun x3 => ptD (.mapEntry x0 x1 x2 x3)), (bdD opdD fun x0 => bdD opdD fun x1 => bdD opdD fun x2 => ptD (.entryStore x0 x1 x2)), (bdD opdD fun x0 => ptD (.capS x0)), (bdD numD fun x0 => bdD opdD fun x1 => bdD opdD fun x2 => ptD (.copy x0 x1 x2)), (bdD boolD fun x0 => bdD opdD fun x1 => bdD opdD fun x2 => ptD (.ptrEq x0 x1 x2)), (bdD boolD fun x0 => bdD opdD fun x1 => ptD (.isNilI x0 x1)), (bdD opdD fun x0 => bdD opdsD fun x1 => ptD (.defer x0 x1)), (bdD opdD fun x0 => bdD opdsD fun x1 => ptD (.maxs x0 x1)), (bdD opdD fun x0 => bdD opdsD fun x1 => ptD (.mins x0 x1)), (ptD .bad)])
def ioperD : D IOper := bdD byteD fun t => bdD onumD fun d => ifD (Nat.blt t 64) (bdD (iopD t) fun o => ptD ⟨d, o, none⟩) (bdD (iopD (Nat.sub t 64)) fun o => bdD numD fun g => bdD boolD fun b => ptD ⟨d, o, some (g, b)⟩)
def numsD : D (List Nat) := listD numD
def icF (k : Nat) : D IC := Nat.rec (ptD default) (fun _ ih => bdD byteD fun t => (selD t [bdD (listD ioperD) fun l => ptD (.region l), bdD ih fun a => bdD ih fun b => ptD (.seq a b), bdD opdD fun c => bdD ih fun a => bdD ih fun b => ptD (.cond c a b), ptD .skip, bdD numD fun i => ptD (.exit i), ptD .ret, bdD numD fun i => bdD ih fun a => ptD (.block i a), bdD ih fun a => ptD (.loop a),
  bdD numsD fun ks => bdD numsD fun ls => bdD ih fun a => ptD (.keep ks ls a), bdD (listD ioperD) fun l => bdD (listD (bdD numD fun a => bdD numD fun b => ptD (a, b))) fun c => ptD (.regionD l c), bdD opdD fun f => bdD numsD fun ps => bdD ih fun a => bdD ih fun b => ptD (.rangeF f ps a b),
  bdD numD fun d0 => bdD numD fun d1 => bdD opdD fun it => bdD numD fun b => bdD numsD fun ks => bdD numsD fun ls => bdD ih fun a => ptD (.mapR d0 d1 it b ks ls a), ptD .stuck])) k
def rvD : D RV := bdD byteD fun t => (selD t [bdD numD fun n => ptD (.tmp n), bdD numD fun n => bdD boolD fun b => bdD numD fun s => ptD (.cell n b s)])
def fnirD : D FnIR := bdD numD fun a => bdD numD fun b => bdD (listD rvD) fun r => bdD numsD fun l => bdD (icF 300) fun c => ptD ⟨a, b, r, l, c⟩
def byteA : D AV := bdD byteD fun t => ptD (.int .u8 (Int.ofNat t))
instance : Inhabited AObj := ⟨.dead⟩
def objD : D AObj := bdD byteD fun t => (selD t [bdD boolD fun ro => bdD numD fun sz => bdD (listD avD) fun c => ptD (.row ro sz c), bdD boolD fun ro => bdD (listD byteA) fun c => ptD (.row ro 1 c), bdD (listD (bdD avD fun k => bdD avD fun v => bdD numD fun b => ptD (k, v, b))) fun es => bdD numD fun c => ptD (.map es c), ptD .dfd, ptD .dead])
/-- An object, out of one number. -/
def dO (n : Nat) : AObj := Prod.rec (fun a _ => a) (objD n)
def dV (n : Nat) : AV := Prod.rec (fun a _ => a) (avD n)
/-- Nothing is known of the ids a, a + s, a + 2 s .. below n. -/
def dD (a s n : Nat) : Tr := Nat.rec (motive := fun _ => Nat → Nat → Tr) (fun _ _ => .leaf) (fun _ ih a s => ifD (Nat.blt a n) (.node (some .dead) (ih (Nat.add a s) (Nat.mul 2 s)) (ih (Nat.add a (Nat.mul 2 s)) (Nat.mul 2 s))) .leaf) 40 a s
abbrev nO (n : Nat) (l r : Tr) : Tr := .node (some (dO n)) l r
abbrev nD (l r : Tr) : Tr := .node (some .dead) l r
/-- A function's code, out of one number. -/
def dF (n : Nat) : FnIR := Prod.rec (fun a _ => a) (fnirD n)
end
end Go.Wam
