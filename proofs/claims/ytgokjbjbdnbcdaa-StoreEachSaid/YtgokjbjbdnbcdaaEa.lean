/- What S9ER09Each rests on, part 1 of 6. No condition. -/
import GoSem.Step
import Derived.Orders
import Derived.Calls
import Derived.Laws.StructEq
import Derived.IntWalk
import Derived.MapKept
import Derived.ChangeKeysEq
import Derived.Laws.BytesString
set_option linter.unusedVariables false
set_option linter.unusedSimpArgs false
namespace Go.Wam
inductive AV where
 | bool (b : Bool)
 | int (k : IntKind) (n : Int)
 | str (s : List UInt8)
 | nilp
 | ptr (id off : Nat)
 | lptr (t off : Nat)
 | nils
 | slice (id off len cap : Nat)
 | oslice (id off len kc sz : Nat)
 | eslice (id off l sz : Nat)
 | xslice (b off : Nat) (spot : Option Nat)
 | nilm
 | map (id : Nat)
 | func (fn : Fn) (first captured : List AV)
 | yield (id : Nat)
 | nilFunc
 | iface (t : TypeId) (v : AV)
 | nilIface
 | agg (cells : List AV)
 | tuple (vs : List AV)
 deriving Inhabited
def undefA : AV := .tuple []
def AV.cells : AV → List AV
 | .agg cs => cs
 | v => [v]
def AV.noL : AV → Bool
 | .lptr .. => false
 | .tuple _ => false
 | _ => true
def AV.one : AV → Bool
 | .lptr .. => false
 | .tuple _ => false
 | .agg _ => false
 | _ => true
mutual
def AV.okB (n : Nat) : AV → Bool
 | .ptr id _ => decide (id < n)
 | .lptr .. => false
 | .slice id _ _ _ => decide (id < n)
 | .oslice id _ _ _ _ => decide (id < n)
 | .eslice id _ _ _ => decide (id < n)
 | .map id => decide (id < n)
 | .yield id => decide (id < n)
 | .func _ fs cs => AV.okL n fs && AV.okL n cs
 | .iface _ v => v.okB n
 | .agg cs => AV.okL n cs && cs.all AV.one
 | .tuple vs => AV.okL n vs
 | _ => true
def AV.okL (n : Nat) : List AV → Bool
 | [] => true
 | v :: vs => v.okB n && AV.okL n vs
end
mutual
def AV.beq : AV → AV → Bool
 | .bool a, .bool b => a == b
 | .int k a, .int k' b => decide (k = k') && decide (a = b)
 | .str a, .str b => decide (a = b)
 | .nilp, .nilp => true
 | .ptr a b, .ptr c d => decide (a = c) && decide (b = d)
 | .lptr a b, .lptr c d => decide (a = c) && decide (b = d)
 | .nils, .nils => true
 | .slice a b c d, .slice a' b' c' d' => decide (a = a') && decide (b = b') && decide (c = c') && decide (d = d')
 | .oslice a b c k d, .oslice a' b' c' k' d' => decide (a = a') && decide (b = b') && decide (c = c') && decide (k = k') && decide (d = d')
 | .eslice a b c d, .eslice a' b' c' d' => decide (a = a') && decide (b = b') && decide (c = c') && decide (d = d')
 | .xslice a b c, .xslice a' b' c' => decide (a = a') && decide (b = b') && decide (c = c')
 | .nilm, .nilm => true
 | .map a, .map b => decide (a = b)
 | .yield a, .yield b => decide (a = b)
 | .func f a b, .func g c d => decide (f = g) && AV.beqL a c && AV.beqL b d
 | .nilFunc, .nilFunc => true
 | .iface t v, .iface u w => decide (t = u) && AV.beq v w
 | .nilIface, .nilIface => true
 | .agg a, .agg b => AV.beqL a b
 | .tuple a, .tuple b => AV.beqL a b
 | _, _ => false
def AV.beqL : List AV → List AV → Bool
 | [], [] => true
 | a :: as, b :: bs => AV.beq a b && AV.beqL as bs
 | _, _ => false
end
def look {α : Type} (t : Nat) : List (Nat × α) → Option α
 | [] => none
 | (k, v) :: r => if k = t then some v else look t r
inductive Opd where
 | tmp (t : Nat)
 | const (v : AV)
 | func (f : FuncId)
inductive EqT where
 | none
 | bool
 | int
 | str
 | ptr
 | slice
 | map
 | func
 | struct (fs : List (Nat × Bool × Nat × EqT))
inductive Conv where
 | toInt (k : IntKind)
 | strId
 | toBytes
 | ofBytes
 | ptrId
inductive SlKind where
 | str
 | slice (sz : Nat)
 | arr (n sz : Nat)
inductive LenKind where
 | str
 | slice
 | arr (n : Nat)
 | map
inductive KeyT where
 | int (k : IntKind)
 | str
 | arr (k : IntKind) (n : Nat)
 deriving DecidableEq
inductive IOp where
 | move (x : Opd)
 | pick (c a b : Opd)
 | alloc (loc : Bool) (sz : Nat) (zero : List AV)
 | box (loc : Bool) (sz : Nat) (x : Opd)
 | build (zero : List AV) (parts : List (Nat × Nat × Opd))
 | buildSlice (sz len : Nat) (zero : List AV) (parts : List (Nat × Nat × Opd))
 | load (agg : Bool) (sz : Nat) (a : Opd)
 | store (sz : Nat) (a x : Opd)
 | nilCheck (x : Opd)
 | bin (op : BinOp) (e : EqT) (x y : Opd)
 | un (op : UnOp) (x : Opd)
 | conv (c : Conv) (x : Opd)
 | mkIface (t : TypeId) (x : Opd)
 | mkFunc (fn : Fn) (first captured : List Opd)
 | mkMap
 | mkSlice (sz bytes : Nat) (zero : List AV) (len cap : Opd)
 | slice (k : SlKind) (x : Opd) (lo hi mx : Option Opd)
 | fieldAddr (off : Nat) (x : Opd)
 | field (agg : Bool) (sz off : Nat) (x : Opd)
 | indexAddr (arr : Option Nat) (sz : Nat) (x i : Opd)
 | index (arr : Option (Nat × Bool × Nat)) (x i : Opd)
 | extract (x : Opd) (i : Nat)
 | call (f : Opd) (args : List Opd)
 | len (k : LenKind) (x : Opd)
 | append (sz bytes : Nat) (s x : Opd)
 | appendZ (sz bytes : Nat) (zero : List AV) (s x : Opd)
 | clear (sz : Nat) (zero : List AV) (x : Opd)
 | lookup (t : KeyT) (ok : Bool) (z : AV) (x k : Opd)
 | mapUpdate (t : KeyT) (x k v : Opd)
 | delete (t : KeyT) (x k : Opd)
 | rangeS (x : Opd)
 | nextS (x : Opd)
 | rangeM (x : Opd)
 | nextM (x : Opd)
 | entryM (x : Opd)
 | mapEntry (t : KeyT) (z : AV) (x k : Opd)
 | entryStore (x s v : Opd)
 | capS (x : Opd)
 | copy (sz : Nat) (d x : Opd)
 | ptrEq (neg : Bool) (x y : Opd)
 | isNilI (neg : Bool) (x : Opd)
 | defer (f : Opd) (args : List Opd)
 | maxs (x : Opd) (r : List Opd)
 | mins (x : Opd) (r : List Opd)
 | bad
structure IOper where
 dst : Option Nat
 op : IOp
 guard : Option (Nat × Bool)
inductive RV where
 | tmp (t : Nat)
 | cell (t : Nat) (agg : Bool) (sz : Nat)
inductive IC where
 | skip
 | region (ops : List IOper)
 | regionD (ops : List IOper) (checks : List (Nat × Nat))
 | seq (a b : IC)
 | cond (c : Opd) (a b : IC)
 | block (id : Nat) (b : IC)
 | loop (b : IC)
 | exit (id : Nat)
 | ret
 | rangeF (f : Opd) (ps : List Nat) (ia ib : IC)
 | mapR (d0 d1 : Nat) (it : Opd) (b : Nat) (ks ls : List Nat) (body : IC)
 | stuck
 | keep (ks ls : List Nat) (c : IC)
inductive AExit where
 | normal
 | exit (id : Nat)
 | ret
 deriving DecidableEq
inductive AObj where
 | row (ro : Bool) (sz : Nat) (cells : List AV)
 | map (es : List (AV × AV × Nat)) (clock : Nat)
 | siter (s : List UInt8) (pos : Nat)
 | miter (mid : Option Nat) (since : Nat) (seen : List Nat) (stepped : Nat)
 | loop (st : LoopState) (pend : Option AExit) (env : List (Nat × AV)) (ps : List Nat) (ia ib : IC)
 | dfd
 | dead
 deriving Inhabited
inductive Dfr where
 | mark (id : Nat)
 | call (g : FuncId) (args captured : List AV)
 deriving Inhabited
inductive Tr where
 | leaf
 | node (v : Option AObj) (l r : Tr)
 deriving Inhabited
def pathF : Nat → Nat → List Bool
 | 0, _ => []
 | f + 1, i => if i = 0 then [] else if i % 2 = 1 then true :: pathF f (i / 2) else false :: pathF f (i / 2 - 1)
def path (i : Nat) : List Bool := pathF i i
def getP : List Bool → Tr → Option AObj
 | [], .leaf => none
 | [], .node v _ _ => v
 | _ :: _, .leaf => none
 | true :: p, .node _ l _ => getP p l
 | false :: p, .node _ _ r => getP p r
def setP (x : AObj) : List Bool → Tr → Tr
 | [], .leaf => .node (some x) .leaf .leaf
 | [], .node _ l r => .node (some x) l r
 | true :: p, .leaf => .node none (setP x p .leaf) .leaf
 | true :: p, .node v l r => .node v (setP x p l) r
 | false :: p, .leaf => .node none .leaf (setP x p .leaf)
 | false :: p, .node v l r => .node v l (setP x p r)
structure AHeap where
 t : Tr
 n : Nat
 low : Nat
 dfs : List Dfr := []
 deriving Inhabited
def AHeap.get (H : AHeap) (i : Nat) : Option AObj := getP (path i) H.t
def AHeap.set (H : AHeap) (i : Nat) (x : AObj) : AHeap := { t := if i < H.n then setP x (path i) H.t else H.t, n := H.n, low := if i < H.low then i else H.low, dfs := H.dfs }
def AHeap.alloc (H : AHeap) (x : AObj) : AHeap := { t := setP x (path H.n) H.t, n := H.n + 1, low := H.low, dfs := H.dfs }
structure St where
 env : List (Nat × AV)
 loc : List (Nat × List AV)
 H : AHeap
def Opd.ev (env : List (Nat × AV)) : Opd → Option AV
 | .tmp t => look t env
 | .const v => some v
 | .func f => some (.func (.func f) [] [])
def rd (agg : Bool) (sz off : Nat) (cells : List AV) : Option AV :=
 if agg then (if off + sz ≤ cells.length then some (.agg ((cells.drop off).take sz)) else none) else cells[off]?
def wr {α : Type} (off : Nat) (vs cells : List α) : List α := cells.take off ++ (vs ++ cells.drop (off + vs.length))
mutual
def aeq : EqT → AV → AV → Option Bool
 | .int, .int k a, .int k' b => if k = k' then some (a == b) else none
 | .bool, .bool a, .bool b => some (a == b)
 | .str, .str a, .str b => some (a == b)
 | .ptr, .nilp, .nilp => some true
 | .ptr, .nilp, .ptr _ _ => some false
 | .ptr, .nilp, .lptr _ _ => some false
 | .ptr, .ptr _ _, .nilp => some false
 | .ptr, .lptr _ _, .nilp => some false
 | .slice, .nils, .nils => some true
 | .slice, .nils, .slice .. => some false
 | .slice, .nils, .oslice .. => some false
 | .slice, .nils, .eslice .. => some false
 | .slice, .nils, .xslice .. => some false
 | .slice, .slice .., .nils => some false
 | .slice, .oslice .., .nils => some false
 | .slice, .eslice .., .nils => some false
 | .slice, .xslice .., .nils => some false
 | .map, .nilm, .nilm => some true
 | .map, .nilm, .map _ => some false
 | .map, .map _, .nilm => some false
 | .func, .nilFunc, .nilFunc => some true
 | .func, .nilFunc, .func .. => some false
 | .func, .func .., .nilFunc => some false
 | .struct fs, .agg xs, .agg ys => aeqF fs xs ys
 | _, _, _ => none
def aeqF : List (Nat × Bool × Nat × EqT) → List AV → List AV → Option Bool
 | [], _, _ => some true
 | (off, agg, sz, e) :: r, xs, ys =>
  match rd agg sz off xs, rd agg sz off ys with
  | some x, some y => match aeq e x y with
   | some true => aeqF r xs ys
   | some false => some false
   | none => none
  | _, _ => none
end
def bytesLess : List UInt8 → List UInt8 → Bool
 | _, [] => false
 | [], _ :: _ => true
 | a :: x, b :: y => a < b || (a == b && bytesLess x y)
def strOp (op : BinOp) (x y : List UInt8) : Option AV :=
 match op with
 | .add => if x.length + y.length < 2 ^ 63 then some (.str (x ++ y)) else none
 | .eql => some (.bool (x == y))
 | .neq => some (.bool !(x == y))
 | .lss => some (.bool (bytesLess x y))
 | .leq => some (.bool (bytesLess x y || x == y))
 | .gtr => some (.bool !(bytesLess x y || x == y))
 | .geq => some (.bool !bytesLess x y)
 | _ => none
def bitsOp (op : BinOp) (k : IntKind) (x y : Int) : Option AV :=
 let a := BitVec.ofInt k.bits x
 let b := BitVec.ofInt k.bits y
 match op with
 | .and => some (.int k (k.wrap (a &&& b).toNat))
 | .or => some (.int k (k.wrap (a ||| b).toNat))
 | .xor => some (.int k (k.wrap (a ^^^ b).toNat))
 | .andNot => some (.int k (k.wrap (a &&& ~~~b).toNat))
 | _ => none
def intOp (op : BinOp) (k : IntKind) (x y : Int) : Option AV :=
 match op with
 | .add => some (.int k (k.wrap (x + y)))
 | .sub => some (.int k (k.wrap (x - y)))
 | .mul => some (.int k (k.wrap (x * y)))
 | .quo => if y = 0 then none else some (.int k (k.wrap (x.tdiv y)))
 | .rem => if y = 0 then none else some (.int k (x.tmod y))
 | .and => bitsOp .and k x y
 | .or => bitsOp .or k x y
 | .xor => bitsOp .xor k x y
 | .andNot => bitsOp .andNot k x y
 | .shl => none
 | .shr => none
 | .eql => some (.bool (x == y))
 | .neq => some (.bool (x != y))
 | .lss => some (.bool (x < y))
 | .leq => some (.bool (x ≤ y))
 | .gtr => some (.bool (x > y))
 | .geq => some (.bool (x ≥ y))
def shiftOp (op : BinOp) (k : IntKind) (x y : Int) : Option AV :=
 if y < 0 then none else
 match op with
 | .shl => some (.int k (k.wrap (x * 2 ^ (min y.toNat k.bits))))
 | .shr => some (.int k (x.fdiv (2 ^ (min y.toNat k.bits))))
 | _ => none
def binA (op : BinOp) (e : EqT) (x y : AV) : Option AV :=
 match op, x, y with
 | .shl, .int k a, .int _ b => shiftOp .shl k a b
 | .shr, .int k a, .int _ b => shiftOp .shr k a b
 | op, .int k a, .int k' b => if k = k' then intOp op k a b else none
 | op, .str a, .str b => strOp op a b
 | .eql, x, y => (aeq e x y).map .bool
 | .neq, x, y => (aeq e x y).map fun b => .bool !b
 | _, _, _ => none
def unA (op : UnOp) (x : AV) : Option AV :=
 match op, x with
 | .neg, .int k n => intOp .sub k 0 n
 | .xor, .int k n => bitsOp .xor k (if k.signed then -1 else k.max) n
 | .not, .bool b => some (.bool !b)
 | _, _ => none
def ints (q : IntKind) : List AV → Option (List Int)
 | [] => some []
 | .int j a :: r => if j = q then (ints q r).map (a :: ·) else none
 | _ => none
def isK : KeyT → AV → Bool
 | .int q, .int j _ => decide (j = q)
 | .str, .str _ => true
 | .arr q n, .agg cs => (ints q cs).isSome && cs.length == n
 | _, _ => false
def intsLt : List Int → List Int → Bool
 | a :: x, b :: y => decide (a < b) || (decide (a = b) && intsLt x y)
 | _, _ => false
def keyLt : KeyT → AV → AV → Bool
 | .int _, .int _ a, .int _ b => decide (a < b)
 | .str, .str a, .str b => bytesLess a b
 | .arr q _, .agg a, .agg b => match ints q a, ints q b with
  | some x, some y => intsLt x y
  | _, _ => false
 | _, _, _ => false
def intsEq : List Int → List Int → Bool
 | [], [] => true
 | a :: x, b :: y => decide (a = b) && intsEq x y
 | _, _ => false
def keyEq : KeyT → AV → AV → Bool
 | .int _, .int _ a, .int _ b => decide (a = b)
 | .str, .str a, .str b => decide (a = b)
 | .arr q _, .agg a, .agg b => match ints q a, ints q b with
  | some x, some y => intsEq x y
  | _, _ => false
 | _, _, _ => false
abbrev ME := AV × AV × Nat
def findK (t : KeyT) (k : AV) : List ME → Option (AV × Nat)
 | [] => none
 | e :: es => if keyEq t k e.1 then some e.2 else findK t k es
def setK (t : KeyT) (k v : AV) : List ME → List ME
 | [] => []
 | e :: es => if keyEq t k e.1 then (k, v, e.2.2) :: es else e :: setK t k v es
def insK (t : KeyT) (x : ME) : List ME → List ME
 | [] => [x]
 | e :: es => if keyLt t x.1 e.1 then x :: e :: es else e :: insK t x es
def delK (t : KeyT) (k : AV) : List ME → List ME
 | [] => []
 | e :: es => if keyEq t k e.1 then es else e :: delK t k es
def keysOk (t : KeyT) (es : List ME) : Bool := es.all fun e => isK t e.1
def lookupA (H : AHeap) (t : KeyT) (ok : Bool) (z : AV) (x k : AV) : Option AV :=
 if isK t k = false then none else
 match x with
 | .nilm => some (if ok then .tuple [z, .bool false] else z)
 | .map id => match H.get id with
  | some (.map es _) => if keysOk t es then match findK t k es with
   | some (v, _) => some (if ok then .tuple [v, .bool true] else v)
   | none => some (if ok then .tuple [z, .bool false] else z)
   else none
  | _ => none
 | _ => none
def updA (H : AHeap) (t : KeyT) (x k v : AV) : Option AHeap :=
 if isK t k = false then none else
 match x with
 | .map id => match H.get id with
  | some (.map es c) => if k.noL && v.noL && keysOk t es then match findK t k es with
      | some _ => some (H.set id (.map (setK t k v es) c))
      | none => some (H.set id (.map (insK t (k, v, c) es) (c + 1)))
   else none
  | _ => none
 | _ => none
def delA (H : AHeap) (t : KeyT) (x k : AV) : Option AHeap :=
 if isK t k = false then none else
 match x with
 | .nilm => some H
 | .map id => match H.get id with
  | some (.map es c) => if keysOk t es then some (H.set id (.map (delK t k es) c)) else none
  | _ => none
 | _ => none
def mapEntryA (H : AHeap) (t : KeyT) (z : AV) (x k : AV) : Option (AV × AHeap) :=
 if isK t k = false then none else
 match x with
 | .map id => match H.get id with
  | some (.map es c) => if k.noL && keysOk t es then match findK t k es with
      | some (v, b) => some (.tuple [v, .int .i64 b], H.set id (.map (setK t k v es) c))
      | none => some (.tuple [z, .int .i64 c], H.set id (.map (insK t (k, z, c) es) (c + 1)))
   else none
  | _ => none
 | _ => none
def setB (b : Int) (v : AV) : List ME → Option (List ME)
 | [] => none
 | e :: es => if (e.2.2 : Int) = b then some ((e.1, v, e.2.2) :: es) else (setB b v es).map (e :: ·)
def entryStoreA (H : AHeap) (x s v : AV) : Option AHeap :=
 match x, s with
 | .map id, .int _ b => match H.get id with
  | some (.map es c) => if v.noL then (setB b v es).map fun es' => H.set id (.map es' c) else none
  | _ => none
 | _, _ => none
def rangeMA (H : AHeap) : AV → Option (AV × AHeap)
 | .nilm => some (.ptr H.n 0, H.alloc (.miter none 0 [] 0))
 | .map id => match H.get id with
  | some (.map _ c) => some (.ptr H.n 0, H.alloc (.miter (some id) c [] c))
  | _ => none
 | _ => none
def findB (b : Nat) : List ME → Option ME
 | [] => none
 | e :: es => if e.2.2 = b then some e else findB b es
def entryMA (H : AHeap) : AV → Option AV
 | .ptr r 0 => match H.get r with
  | some (.miter (some id) _ (b :: _) last) => match H.get id with
   | some (.map es c) => if c = last then (findB b es).map fun e => .tuple [e.1, e.2.1] else none
   | _ => none
  | _ => none
 | _ => none
def nextA (H : AHeap) : AV → Option (AV × AHeap)
 | .ptr id 0 => match H.get id with
  | some (.siter l pos) => if pos < l.length then some (.tuple [.bool true, .int .i64 pos, .int .i32 (Utf8.decode ⟨l.toArray⟩ pos).1], H.set id (.siter l (pos + (Utf8.decode ⟨l.toArray⟩ pos).2))) else some (.tuple [.bool false], H)
  | _ => none
 | _ => none
def evs (env : List (Nat × AV)) : List Opd → Option (List AV)
 | [] => some []
 | x :: r => match x.ev env, evs env r with
  | some v, some vs => some (v :: vs)
  | _, _ => none
def allNoL (vs : List AV) : Bool := vs.all AV.noL
def fillA (env : List (Nat × AV)) : List (Nat × Nat × Opd) → List AV → Option (List AV)
 | [], cells => some cells
 | (off, sz, x) :: r, cells => match x.ev env with
  | some v => if v.noL && v.cells.length = sz && off + sz ≤ cells.length then fillA env r (wr off v.cells cells) else none
  | none => none
def loadA (s : St) (agg : Bool) (sz : Nat) : AV → Option AV
 | .ptr id off => match s.H.get id with
  | some (.row _ _ cells) => rd agg sz off cells
  | _ => none
 | .lptr t off => match look t s.loc with
  | some cells => rd agg sz off cells
  | none => none
 | _ => none
def storeA (s : St) (sz : Nat) (v : AV) : AV → Option St
 | .ptr id off => match s.H.get id with
  | some (.row false e cells) =>
   if v.noL && v.cells.length = sz && off + sz ≤ cells.length then some { s with H := s.H.set id (.row false e (wr off v.cells cells)) } else none
  | _ => none
 | .lptr t off => match look t s.loc with
  | some cells => if v.noL && v.cells.length = sz && off + sz ≤ cells.length then some { s with loc := (t, wr off v.cells cells) :: s.loc } else none
  | none => none
 | _ => none
def freeL (t : Nat) (env : List (Nat × AV)) : Bool := env.all fun (k, v) => match v with | .lptr u _ => !(u == t) || k == t | _ => true
def cutA (H : AHeap) (id off k : Nat) : Option (List AV) :=
 match H.get id with
 | some (.row _ _ cells) => if off + k ≤ cells.length then some ((cells.drop off).take k) else none
 | _ => none
def oldA (H : AHeap) (id off len sz : Nat) : Option (List AV) := if len = 0 then some [] else cutA H id off (len * sz)
def firstA (H : AHeap) (sz : Nat) : AV → Option (Nat × List AV)
 | .nils => some (0, [])
 | .eslice .. => some (0, [])
 | .xslice .. => some (0, [])
 | .slice id off len _ => if len = 0 then some (0, []) else (cutA H id off (len * sz)).map fun cs => (len, cs)
 | .oslice id off len _ _ => if len = 0 then some (0, []) else (cutA H id off (len * sz)).map fun cs => (len, cs)
 | .str s => if sz = 1 then some (s.length, s.map fun b => .int .u8 b.toNat) else none
 | _ => none
def u8s : List AV → Option (List UInt8)
 | [] => some []
 | .int .u8 n :: r => (u8s r).map (UInt8.ofNat n.toNat :: ·)
 | _ => none
def bytesA (H : AHeap) : AV → Option (List UInt8)
 | .nils => some []
 | .eslice .. => some []
 | .xslice .. => some []
 | .slice id off len c => (firstA H 1 (.slice id off len c)).bind fun r => u8s r.2
 | .oslice id off len kc z => (firstA H 1 (.oslice id off len kc z)).bind fun r => u8s r.2
 | _ => none
def appendX (H : AHeap) (sz bytes n : Nat) (xs : List AV) (s : AV) : Option (AV × AHeap) :=
 match s with
 | .nils => if n = 0 then some (.nils, H) else if n * bytes ≤ 2 ^ 47 then some (.oslice H.n 0 n n sz, H.alloc (.row false sz xs)) else none
 | .xslice a b c => if n = 0 then some (.xslice a b c, H) else if n * bytes ≤ 2 ^ 47 then some (.oslice H.n 0 n n sz, H.alloc (.row false sz xs)) else none
 | .eslice a b c d => if n = 0 then some (.eslice a b c d, H) else none
 | .slice id off len c =>
  if n = 0 ∧ len ≤ c then some (.slice id off len c, H) else
  if (len + n) * bytes > 2 ^ 47 then none else
  if len + n ≤ c then
   match H.get id with
   | some (.row false e cells) => if off + (len + n) * sz ≤ cells.length then some (.slice id off (len + n) c, H.set id (.row false e (wr (off + len * sz) xs cells))) else none
   | _ => none
  else
   match oldA H id off len sz with
   | some old => some (.oslice H.n 0 (len + n) (len + n) sz, H.alloc (.row false sz (old ++ xs)))
   | none => none
 | .oslice id off len kc z =>
  if z ≠ sz then none else
  if n = 0 then some (.oslice id off len kc z, H) else
  if (len + n) * bytes > 2 ^ 47 then none else
  match H.get id with
  | some (.row false e cells) =>
   if off + (len + n) * sz ≤ cells.length then some (.oslice id off (len + n) (max kc (len + n)) sz, H.set id (.row false e (wr (off + len * sz) xs cells)))
   else if off + len * sz ≤ cells.length ∧ (e = 1 → sz = 1) ∧ (1 < (len + n) * sz ∨ (off = 0 ∧ e = 1)) then some (.oslice H.n 0 (len + n) (len + n) sz, (H.set id .dead).alloc (.row false sz ((cells.drop off).take (len * sz) ++ xs)))
   else none
  | _ => none
 | _ => none
def appendA (H : AHeap) (sz bytes : Nat) (s x : AV) : Option (AV × AHeap) :=
 match firstA H sz x with
 | none => none
 | some (n, xs) => appendX H sz bytes n xs s
def zerosA (zero : List AV) : Nat → List AV
 | 0 => []
 | n + 1 => zero ++ zerosA zero n
def appendZ (H : AHeap) (sz bytes : Nat) (zero : List AV) (s : AV) : AV → Option (AV × AHeap)
 | .int .i64 l => if 0 ≤ l ∧ l < 2 ^ 63 then appendX H sz bytes l.toNat (zerosA zero l.toNat) s else none
 | _ => none
def optInt (env : List (Nat × AV)) (d : Nat) : Option Opd → Option Nat
 | none => some d
 | some x => match x.ev env with
  | some (.int _ n) => if 0 ≤ n then some n.toNat else none
  | _ => none
def optIntO (env : List (Nat × AV)) : Option Opd → Option (Option Nat)
 | none => some none
 | some x => (optInt env 0 (some x)).map some
def inB (len cap lo : Nat) (hi mx : Option Nat) : Bool :=
 decide (mx.getD cap ≤ cap) && (decide (hi.getD len ≤ mx.getD cap) && (decide (lo ≤ hi.getD len) && (!mx.isSome || hi.isSome)))
def sliceA (k : SlKind) (x : AV) (lo : Nat) (hi mx : Option Nat) : Option AV :=
 match k, x with
 | .str, .str s => if !mx.isSome && inB s.length s.length lo hi none then some (.str ((s.drop lo).take (hi.getD s.length - lo))) else none
 | .slice sz, .slice id off len c => if inB len c lo hi mx then some (.slice id (if mx.getD c = lo then off else off + lo * sz) (hi.getD len - lo) (mx.getD c - lo)) else none
 | .slice sz, .oslice id off len kc z =>
  if z ≠ sz then none else
  match mx with
  | some m => if inB len kc lo hi (some m) then some (.slice id (if m = lo then off else off + lo * sz) (hi.getD len - lo) (m - lo)) else none
  | none => if inB len kc lo hi none then (if lo < kc then some (.oslice id (off + lo * sz) (hi.getD len - lo) (kc - lo) sz) else some (.eslice id off lo sz)) else none
 | .slice _, .nils => if inB 0 0 lo hi mx then some .nils else none
 | .slice _, .xslice a b c => if inB 0 0 lo hi mx then some (.xslice a b c) else none
 | .slice _, .eslice id off l z => if !mx.isSome && inB 0 0 lo hi none then some (.eslice id off l z) else none
 | .arr n sz, .ptr id off => if inB n n lo hi mx then some (.slice id (if mx.getD n = lo then off else off + lo * sz) (hi.getD n - lo) (mx.getD n - lo)) else none
 | _, _ => none
def max2A : AV → AV → Option AV
 | .int k x, .int _ y => some (.int k (if y > x then y else x))
 | .str x, .str y => some (.str (if !bytesLess x y then x else y))
 | _, _ => none
def min2A : AV → AV → Option AV
 | .int k x, .int _ y => some (.int k (if y < x then y else x))
 | .str x, .str y => some (.str (if bytesLess x y || x == y then x else y))
 | _, _ => none
def foldA (f : AV → AV → Option AV) : AV → List AV → Option AV
 | x, [] => some x
 | x, y :: r => match f x y with
  | some z => foldA f z r
  | none => none
def clearA (s : St) (sz : Nat) (zero : List AV) (id off len : Nat) : Option (AV × St) :=
 if len = 0 then some (undefA, s) else match s.H.get id with
 | some (.row false e cells) => if off + len * sz ≤ cells.length && zero.length = sz then some (undefA, { s with H := s.H.set id (.row false e (wr off (zerosA zero len) cells)) }) else none
 | _ => none
def lenX : AV → Option Nat
 | .nils => some 0
 | .eslice .. => some 0
 | .xslice .. => some 0
 | .slice _ _ len _ => some len
 | .oslice _ _ len _ _ => some len
 | .str s => some s.length
 | _ => none
def firstN (H : AHeap) (sz n : Nat) : AV → Option (List AV)
 | .slice id off _ _ => cutA H id off (n * sz)
 | .oslice id off _ _ _ => cutA H id off (n * sz)
 | .str s => if sz = 1 ∧ n ≤ s.length then some ((s.take n).map fun b => .int .u8 b.toNat) else none
 | _ => none
def copyTo (s : St) (sz n id off : Nat) (x : AV) : Option (AV × St) :=
 if n = 0 then some (.int .i64 0, s) else
 match firstN s.H sz n x, s.H.get id with
 | some xs, some (.row false e cells) => if off + n * sz ≤ cells.length then some (.int .i64 n, { s with H := s.H.set id (.row false e (wr off xs cells)) }) else none
 | _, _ => none
def copyA (s : St) (sz : Nat) (d x : AV) : Option (AV × St) :=
 match lenX x, d with
 | some _, .nils => some (.int .i64 0, s)
 | some _, .eslice .. => some (.int .i64 0, s)
 | some _, .xslice .. => some (.int .i64 0, s)
 | some lx, .slice id off len _ => copyTo s sz (min lx len) id off x
 | some lx, .oslice id off len _ _ => copyTo s sz (min lx len) id off x
 | _, _ => none
def ptrEqA (H : AHeap) : AV → AV → Option Bool
 | .nilp, .nilp => some true
 | .nilp, .ptr _ _ => some false
 | .nilp, .lptr _ _ => some false
 | .ptr _ _, .nilp => some false
 | .lptr _ _, .nilp => some false
 | .ptr a b, .ptr c d => match H.get a, H.get c with
  | some (.row false e xs), some (.row false f ys) => if b < xs.length && d < ys.length && decide (e ≠ 1) && decide (f ≠ 1) then some (decide (a = c) && decide (b = d)) else none
  | _, _ => none
 | _, _ => none
def evOp (dst : Option Nat) (s : St) : IOp → Option (AV × St)
 | .move x => (x.ev s.env).map fun v => (v, s)
 | .pick c a b => match c.ev s.env with
  | some (.bool true) => (a.ev s.env).map fun v => (v, s)
  | some (.bool false) => (b.ev s.env).map fun v => (v, s)
  | _ => none
 | .alloc true _ zero => match dst with
  | some t => if freeL t s.env then some (.lptr t 0, { s with loc := (t, zero) :: s.loc }) else none
  | none => none
 | .alloc false sz zero => some (.ptr s.H.n 0, { s with H := s.H.alloc (.row false sz zero) })
 | .box true _ x => match dst, x.ev s.env with
  | some t, some v => if freeL t s.env && v.noL then some (.lptr t 0, { s with loc := (t, v.cells) :: s.loc }) else none
  | _, _ => none
 | .box false sz x => match x.ev s.env with
  | some v => if v.noL then some (.ptr s.H.n 0, { s with H := s.H.alloc (.row false sz v.cells) }) else none
  | none => none
 | .build zero parts => (fillA s.env parts zero).map fun cs => (.agg cs, s)
 | .buildSlice sz len zero parts => (fillA s.env parts zero).map fun cs => (.slice s.H.n 0 len len, { s with H := s.H.alloc (.row false sz cs) })
 | .load agg sz a => match a.ev s.env with
  | some p => (loadA s agg sz p).map fun v => (v, s)
  | none => none
 | .store sz a x => match a.ev s.env, x.ev s.env with
  | some p, some v => (storeA s sz v p).map fun s' => (undefA, s')
  | _, _ => none
 | .nilCheck x => match x.ev s.env with
  | some .nilp => none
  | some .nilIface => none
  | some .nilFunc => none
  | some (.func (.method _) _ _) => none
  | some v => some (v, s)
  | none => none
 | .bin op e x y => match x.ev s.env, y.ev s.env with
  | some a, some b => (binA op e a b).map fun v => (v, s)
  | _, _ => none
 | .un op x => match x.ev s.env with
  | some a => (unA op a).map fun v => (v, s)
  | none => none
 | .conv c x => match c, x.ev s.env with
  | .toInt k, some (.int _ n) => some (.int k (k.wrap n), s)
  | .strId, some (.str l) => some (.str l, s)
  | .toBytes, some (.str l) => some (.oslice s.H.n 0 l.length l.length 1, { s with H := s.H.alloc (.row false 1 (l.map fun b => .int .u8 b.toNat)) })
  | .ofBytes, some v => (bytesA s.H v).map fun l => (.str l, s)
  | .ptrId, some (.ptr id off) => match s.H.get id with
   | some (.row false _ cells) => if off < cells.length then some (.ptr id off, s) else none
   | _ => none
  | _, _ => none
 | .mkIface t x => match x.ev s.env with
  | some v => if v.noL then some (.iface t v, s) else none
  | none => none
 | .mkFunc fn first captured => match evs s.env first, evs s.env captured with
  | some a, some b => if allNoL a && allNoL b then some (.func fn a b, s) else none
  | _, _ => none
 | .mkMap => some (.map s.H.n, { s with H := s.H.alloc (.map [] 0) })
 | .mkSlice sz bytes zero len cap => match len.ev s.env, cap.ev s.env with
  | some (.int .i64 l), some (.int .i64 c) =>
   if 0 ≤ l ∧ l ≤ c ∧ c * bytes ≤ 2 ^ 47 ∧ c < 2 ^ 63 then some (.slice s.H.n 0 l.toNat c.toNat, { s with H := s.H.alloc (.row false sz (zerosA zero c.toNat)) }) else none
  | _, _ => none
 | .slice k x lo hi mx => match x.ev s.env, optInt s.env 0 lo with
  | some v, some l => match optIntO s.env hi, optIntO s.env mx with
   | some h, some m => (sliceA k v l h m).map fun r => (r, s)
   | _, _ => none
  | _, _ => none
 | .fieldAddr off x => match x.ev s.env with
  | some (.ptr id o) => some (.ptr id (o + off), s)
  | some (.lptr t o) => some (.lptr t (o + off), s)
  | _ => none
 | .field agg sz off x => match x.ev s.env with
  | some (.agg cs) => (rd agg sz off cs).map fun v => (v, s)
  | _ => none
 | .indexAddr none sz x i => match x.ev s.env, i.ev s.env with
  | some (.slice id off len _), some (.int _ n) => if 0 ≤ n ∧ n < len then some (.ptr id (off + n.toNat * sz), s) else none
  | some (.oslice id off len _ _), some (.int _ n) => if 0 ≤ n ∧ n < len then some (.ptr id (off + n.toNat * sz), s) else none
  | _, _ => none
 | .indexAddr (some m) sz x i => match x.ev s.env, i.ev s.env with
  | some (.ptr id off), some (.int _ n) => if 0 ≤ n ∧ n < m then some (.ptr id (off + n.toNat * sz), s) else none
  | some (.lptr t off), some (.int _ n) => if 0 ≤ n ∧ n < m then some (.lptr t (off + n.toNat * sz), s) else none
  | _, _ => none
 | .index none x i => match x.ev s.env, i.ev s.env with
  | some (.str l), some (.int _ n) => if 0 ≤ n then (l[n.toNat]?).map fun b => (.int .u8 b.toNat, s) else none
  | _, _ => none
 | .index (some (m, agg, sz)) x i => match x.ev s.env, i.ev s.env with
  | some (.agg cs), some (.int _ n) => if 0 ≤ n ∧ n < m then (rd agg sz (n.toNat * sz) cs).map fun v => (v, s) else none
  | _, _ => none
 | .extract x i => match x.ev s.env with
  | some (.tuple vs) => (vs[i]?).map fun v => (v, s)
  | _ => none
 | .call _ _ => none
 | .len k x => match k, x.ev s.env with
  | .str, some (.str l) => some (.int .i64 l.length, s)
  | .slice, some .nils => some (.int .i64 0, s)
  | .slice, some (.slice _ _ n _) => some (.int .i64 n, s)
  | .slice, some (.oslice _ _ n _ _) => some (.int .i64 n, s)
  | .slice, some (.eslice ..) => some (.int .i64 0, s)
  | .slice, some (.xslice ..) => some (.int .i64 0, s)
  | .arr n, some _ => some (.int .i64 n, s)
  | .map, some .nilm => some (.int .i64 0, s)
  | .map, some (.map id) => match s.H.get id with
   | some (.map es _) => some (.int .i64 es.length, s)
   | _ => none
  | _, _ => none
 | .append sz bytes a x => match a.ev s.env, x.ev s.env with
  | some u, some v => (appendA s.H sz bytes u v).map fun (r, H) => (r, { s with H := H })
  | _, _ => none
 | .appendZ sz bytes z a x => match a.ev s.env, x.ev s.env with
  | some u, some v => (appendZ s.H sz bytes z u v).map fun (r, H) => (r, { s with H := H })
  | _, _ => none
 | .rangeS x => match x.ev s.env with
  | some (.str l) => some (.ptr s.H.n 0, { s with H := s.H.alloc (.siter l 0) })
  | _ => none
 | .nextS x => match x.ev s.env with
  | some v => (nextA s.H v).map fun r => (r.1, { s with H := r.2 })
  | none => none
 | .lookup t ok z x k => match x.ev s.env, k.ev s.env with
  | some u, some v => (lookupA s.H t ok z u v).map fun r => (r, s)
  | _, _ => none
 | .mapUpdate t x k v => match x.ev s.env, k.ev s.env, v.ev s.env with
  | some a, some b, some c => (updA s.H t a b c).map fun H => (undefA, { s with H := H })
  | _, _, _ => none
 | .delete t x k => match x.ev s.env, k.ev s.env with
  | some a, some b => (delA s.H t a b).map fun H => (undefA, { s with H := H })
  | _, _ => none
 | .clear sz zero x => match x.ev s.env with
  | some .nils => some (undefA, s)
  | some (.eslice ..) => some (undefA, s)
  | some (.xslice ..) => some (undefA, s)
  | some (.slice id off len _) => clearA s sz zero id off len
  | some (.oslice id off len _ _) => clearA s sz zero id off len
  | _ => none
 | .rangeM x => match x.ev s.env with
  | some v => (rangeMA s.H v).map fun r => (r.1, { s with H := r.2 })
  | none => none
 | .nextM _ => none
 | .entryM x => match x.ev s.env with
  | some v => (entryMA s.H v).map fun r => (r, s)
  | none => none
 | .mapEntry t z x k => match x.ev s.env, k.ev s.env with
  | some a, some b => (mapEntryA s.H t z a b).map fun r => (r.1, { s with H := r.2 })
  | _, _ => none
 | .entryStore x b v => match x.ev s.env, b.ev s.env, v.ev s.env with
  | some a, some b, some c => (entryStoreA s.H a b c).map fun H => (undefA, { s with H := H })
  | _, _, _ => none
 | .capS x => match x.ev s.env with
  | some .nils => some (.int .i64 0, s)
  | some (.slice _ _ _ c) => some (.int .i64 c, s)
  | some (.xslice ..) => some (.int .i64 0, s)
  | _ => none
 | .copy sz d x => match d.ev s.env, x.ev s.env with
  | some a, some b => copyA s sz a b
  | _, _ => none
 | .ptrEq neg x y => match x.ev s.env, y.ev s.env with
  | some a, some b => (ptrEqA s.H a b).map fun r => (.bool (r != neg), s)
  | _, _ => none
 | .isNilI neg x => match x.ev s.env with
  | some .nilIface => some (.bool !neg, s)
  | some (.iface ..) => some (.bool neg, s)
  | _ => none
 | .defer f args => match f.ev s.env, evs s.env args with
  | some (.func (.func g) first captured), some vs => if allNoL vs then some (undefA, { s with H := { s.H with dfs := .call g (first ++ vs) captured :: s.H.dfs } }) else none
  | _, _ => none
 | .maxs x r => match x.ev s.env, evs s.env r with
  | some v, some vs => (foldA max2A v vs).map fun z => (z, s)
  | _, _ => none
 | .mins x r => match x.ev s.env, evs s.env r with
  | some v, some vs => (foldA min2A v vs).map fun z => (z, s)
  | _, _ => none
 | .bad => none
def St.put (s : St) (dst : Option Nat) (v : AV) : St :=
 match dst with
 | some d => { s with env := (d, v) :: s.env }
 | none => s
def wantedA (s : St) : Option (Nat × Bool) → Option Bool
 | none => some true
 | some (g, want) => match look g s.env with
  | some (.bool b) => some (b == want)
  | some _ => some false
  | none => none
def yieldF : FuncId := 4294967296
def deferF : FuncId := 8589934592
abbrev CallF := FuncId → List AV → AHeap → Option (AV × AHeap)
def callR (C : CallF) (f : AV) (vs : List AV) (H : AHeap) : Option (AV × AHeap) :=
 match f with
 | .func (.func g) first captured => if g < yieldF ∧ allNoL vs = true then C g (first ++ (vs ++ captured)) H else none
 | .yield id => if allNoL vs then C yieldF (.ptr id 0 :: vs) H else none
 | _ => none
def stepOp (C : CallF) (o : IOper) (s : St) : Option St :=
 match wantedA s o.guard with
 | none => none
 | some false => some (s.put o.dst undefA)
 | some true =>
  match o.op with
  | .call f args =>
   match f.ev s.env, evs s.env args with
   | some g, some vs => (callR C g vs s.H).map fun (v, H) => ({ s with H := H } : St).put o.dst v
   | _, _ => none
  | op => (evOp o.dst s op).map fun (v, s') => s'.put o.dst v
def stepOps (C : CallF) : List IOper → St → Option St
 | [], s => some s
 | o :: r, s => (stepOp C o s).bind (stepOps C r)
def prune {α : Type} (ks : List Nat) (l : List (Nat × α)) : List (Nat × α) := ks.filterMap fun k => (look k l).map fun v => (k, v)
def trace (C : CallF) : List IOper → St → Option (List St)
 | [], s => some [s]
 | o :: r, s => match stepOp C o s with
  | some s' => (trace C r s').map (s :: ·)
  | none => none
def checkAt (ops : List IOper) (tr : List St) (i p : Nat) : Bool :=
 match ops[i]?, tr[i]?, tr[p]?, tr[i + 1]? with
 | some o, some s, some m, some s' =>
  (match wantedA s o.guard with
   | some true => (match evOp o.dst { s with loc := m.loc, H := m.H } o.op, o.dst.bind (look · s'.env) with
    | some (v, _), some v' => AV.beq v v'
    | _, _ => false)
   | some false => true
   | none => false)
 | _, _, _, _ => false
def freshD (ops : List IOper) (s : St) : Bool := ops.all fun o =>
 match o.op, o.dst with
 | .alloc true _ _, some t => (look t s.loc).isNone && s.env.all fun (_, v) => match v with | .lptr u _ => !(u == t) | _ => true
 | .box true _ _, some t => (look t s.loc).isNone && s.env.all fun (_, v) => match v with | .lptr u _ => !(u == t) | _ => true
 | _, _ => true
def isRead : IOp → Bool
 | .load .. => true
 | .lookup .. => true
 | .entryM _ => true
 | .ptrEq .. => true
 | .conv .ofBytes _ => true
 | .conv .ptrId _ => true
 | .len .map _ => true
 | _ => false
def readsOk : List IOper → List St → Bool
 | o :: os, s :: s' :: tr => (!isRead o.op || (match o.dst.bind (look · s'.env) with | some v => v.okB s.H.n | none => true)) && readsOk os (s' :: tr)
 | _, _ => true
def drawCond (ops : List IOper) (checks : List (Nat × Nat)) (s : St) (tr : List St) : Bool :=
 freshD ops s && (readsOk ops tr && checks.all fun (i, p) => checkAt ops tr i p)
def runD (C : CallF) (ops : List IOper) (checks : List (Nat × Nat)) (s : St) : Option St :=
 match trace C ops s with
 | some tr => if drawCond ops checks s tr then tr.getLast? else none
 | none => none
def iter (f : St → Option (AExit × St)) : Nat → St → Option (AExit × St)
 | 0, _ => none
 | n + 1, s => match f s with
  | some (.normal, s') => iter f n s'
  | r => r
def beqME : List ME → List ME → Bool
 | [], [] => true
 | (a, v, i) :: x, (b, u, j) :: y => a.beq b && v.beq u && decide (i = j) && beqME x y
 | _, _ => false
def AObj.beq : AObj → AObj → Bool
 | .row a b c, .row a' b' c' => decide (a = a') && decide (b = b') && AV.beqL c c'
 | .map a c, .map b d => beqME a b && decide (c = d)
 | .siter a b, .siter c d => decide (a = c) && decide (b = d)
 | .miter a b c d, .miter a' b' c' d' => decide (a = a') && decide (b = b') && decide (c = c') && decide (d = d')
 | .dfd, .dfd => true
 | .dead, .dead => true
 | _, _ => false
def sameRes (p q : AExit × St) : Prop := p.1 = q.1 ∧ p.2.env = q.2.env ∧ p.2.loc = q.2.loc ∧ p.2.H.n = q.2.H.n ∧ p.2.H.low = q.2.H.low ∧ p.2.H.dfs = q.2.H.dfs ∧ ∀ i, p.2.H.low ≤ i → i < p.2.H.n → p.2.H.get i = q.2.H.get i
noncomputable def sameB (p q : AExit × St) : Bool := @decide (sameRes p q) (Classical.propDecidable _)
theorem sameB_iff {p q : AExit × St} : sameB p q = true ↔ sameRes p q := by unfold sameB; exact @decide_eq_true_iff _ (Classical.propDecidable _)
def cleanA (ks ls : List Nat) (r : Nat) (x : AExit) (s : St) : Option (AExit × St) :=
 match s.H.get r with
 | some (.miter ..) => some (x, { env := prune ks s.env, loc := prune ls s.loc, H := s.H.set r .dead })
 | _ => none
noncomputable def mapLoop (d0 d1 : Nat) (it : Opd) (b : Nat) (ks ls : List Nat) (f : St → Option (AExit × St)) : Nat → St → Option (AExit × St)
 | 0, _ => none
 | m + 1, s =>
  match it.ev s.env with
  | some (.ptr r 0) =>
   match s.H.get r with
   | some (.miter none _ _ _) => cleanA ks ls r .normal { s with env := (d1, .bool false) :: (d0, .tuple [.bool false]) :: s.env }
   | some (.miter (some id) since seen last) => match s.H.get id with
    | some (.map es c) =>
     if c = since ∧ last = since then
      match es.filter fun e => !seen.contains e.2.2 with
      | [] => cleanA ks ls r .normal { s with env := (d1, .bool false) :: (d0, .tuple [.bool false]) :: s.env }
      | e :: rest =>
       let one (e : ME) : Option (AExit × St) :=
        match f { s with H := s.H.set r (.miter (some id) since (e.2.2 :: seen) since), env := (d1, .bool true) :: (d0, .tuple [.bool true, e.1, e.2.1]) :: s.env } with
        | some (.normal, s') => mapLoop d0 d1 it b ks ls f m s'
        | some (x, s') => cleanA ks ls r (if x = .exit b then .normal else x) s'
        | none => none
       match one e with
       | some q => if rest.all (fun e' => match one e' with | some q' => sameB q q' | none => false) then some q else none
       | none => none
     else none
    | _ => none
   | _ => none
  | _ => none
def envNoL (env : List (Nat × AV)) : List (Nat × AV) := env.filter fun e => match look e.1 env with | some v => v.noL | none => false
noncomputable def evC (C : CallF) (n : Nat) : IC → St → Option (AExit × St)
 | .skip, s => some (.normal, s)
 | .region ops, s => (stepOps C ops s).map fun s' => (.normal, s')
 | .regionD ops cs, s => (runD C ops cs s).map fun s' => (.normal, s')
 | .seq a b, s => match evC C n a s with
  | some (.normal, s') => evC C n b s'
  | r => r
 | .cond c a b, s => match c.ev s.env with
  | some (.bool true) => evC C n a s
  | some (.bool false) => evC C n b s
  | _ => none
 | .block id b, s => match evC C n b s with
  | some (.exit j, s') => if j = id then some (.normal, s') else some (.exit j, s')
  | r => r
 | .loop b, s => iter (evC C n b) n s
 | .exit id, s => some (.exit id, s)
 | .ret, s => some (.ret, s)
 | .keep ks ls c, s => evC C n c { s with env := prune ks s.env, loc := prune ls s.loc }
 | .rangeF f ps ia ib, s => match f.ev s.env with
  | some (.func (.func g) [] captured) => if yieldF ≤ g then none else
   (C g (.yield (s.H.n + 1) :: captured) ((s.H.alloc .dfd).alloc (.loop .ready none (envNoL s.env) ps ia ib))).bind fun r =>
    match r.2.get (s.H.n + 1) with
    | some (.loop .busy ..) => none
    | some (.loop _ pend ..) => some (pend.getD .normal, { s with H := { r.2.set (s.H.n + 1) .dead with dfs := .mark s.H.n :: r.2.dfs } })
    | _ => none
  | _ => none
 | .mapR d0 d1 it b ks ls body, s => mapLoop d0 d1 it b ks ls (evC C n body) n s
 | .stuck, _ => none
structure FnIR where
 ntmps : Nat
 nargs : Nat
 results : List RV
 locals : List Nat
 body : IC
def RV.ev (s : St) : RV → Option AV
 | .tmp t => look t s.env
 | .cell t agg sz => match look t s.env with
  | some p => loadA s agg sz p
  | none => none
def rvs (s : St) : List RV → Option (List AV)
 | [] => some []
 | x :: r => match x.ev s, rvs s r with
  | some v, some vs => some (v :: vs)
  | _, _ => none
def packA : List AV → AV
 | [v] => v
 | vs => .tuple vs
def zipI : Nat → List AV → List (Nat × AV)
 | _, [] => []
 | i, v :: r => (i, v) :: zipI (i + 1) r
def fin (H0 : AHeap) (v : AV) (H1 : AHeap) : AHeap :=
 if H0.n ≤ H1.low ∧ v.okB H0.n = true then H0 else { H1 with low := if H1.low < H0.low then H1.low else H0.low, dfs := H0.dfs }
def enterA (args : List AV) (H : AHeap) : St := { env := zipI 0 args, loc := [], H := { H with low := H.n, dfs := [] } }
def runDfs (C : CallF) : List Dfr → AHeap → Option AHeap
 | [], H => some H
 | .mark id :: r, H => match H.get id with
  | some .dfd => runDfs C r (H.set id .dead)
  | _ => none
 | .call g args captured :: r, H => (C (deferF + g) (args ++ captured) H).bind fun x => runDfs C r x.2
def leaveA (C : CallF) (F : FnIR) (H0 : AHeap) (r : AExit × St) : Option (AV × AHeap) :=
 match r with
 | (.exit _, _) => none
 | (_, s) => (runDfs C s.H.dfs { s.H with dfs := [] }).bind fun H => match rvs { s with H := H } F.results with
  | some vs => if allNoL vs then some (packA vs, fin H0 (packA vs) H) else none
  | none => none
noncomputable def runF (C : CallF) (n : Nat) (F : FnIR) (args : List AV) (H : AHeap) : Option (AV × AHeap) :=
 if args.length = F.nargs then (evC C n F.body (enterA args H)).bind (leaveA C F H) else none
def leaveD (F : FnIR) (H0 : AHeap) (r : AExit × St) : Option (AV × AHeap) :=
 match r with
 | (.exit _, _) => none
 | (_, s) => if s.H.dfs.isEmpty then match rvs s F.results with
     | some vs => if allNoL vs then some (packA vs, fin H0 (packA vs) s.H) else none
     | none => none
  else none
noncomputable def runFD (C : CallF) (n : Nat) (F : FnIR) (args : List AV) (H : AHeap) : Option (AV × AHeap) :=
 if args.length = F.nargs then (evC C n F.body (enterA args H)).bind (leaveD F H) else none
noncomputable def runY (C : CallF) (n : Nat) (args : List AV) (H : AHeap) : Option (AV × AHeap) :=
 match args with
 | .ptr id 0 :: vs => match H.get id with
  | some (.loop .ready none env ps ia ib) => if vs.length = ps.length then
      match evC C n ia { env := (ps.zip vs).reverse ++ env, loc := [], H := { H with dfs := [] } } with
      | some (.normal, s1) => match s1.H.get id with
       | some (.loop .ready none env1 ps1 ia1 ib1) =>
        (evC C n ib { s1 with H := s1.H.set id (.loop .busy none env1 ps1 ia1 ib1) }).bind fun r =>
         if r.2.H.dfs.isEmpty then match r.2.H.get id with
          | some (.loop .busy none env2 ps2 ia2 ib2) =>
           some (.bool (decide (r.1 = .normal)), { r.2.H.set id (.loop (if r.1 = .normal then .ready else .done) (if r.1 = .normal then none else some r.1) env2 ps2 ia2 ib2) with dfs := H.dfs })
          | _ => none
         else none
       | _ => none
      | _ => none
   else none
  | _ => none
 | _ => none
inductive FnDef where
 | ir (F : FnIR)
 | prim (g : List AV → AHeap → Option (AV × AHeap))
 | ext (g : List AV → AHeap → Option (AV × AHeap))
def keepD (r : Option (AV × AHeap)) (H : AHeap) : Option (AV × AHeap) := match r with
 | some (v, H') => some (v, { t := H'.t, n := H'.n, low := H'.low, dfs := H.dfs })
 | none => none
noncomputable def evF (T : FuncId → Option FnDef) : Nat → CallF
 | 0 => fun _ _ _ => none
 | n + 1 => fun f args H => if f = yieldF then runY (evF T n) n args H else if deferF ≤ f then match T (f - deferF) with
  | some (.ir F) => runFD (evF T n) n F args H
  | _ => none
  else match T f with
  | some (.ir F) => runF (evF T n) n F args H
  | some (.prim g) => keepD (g args H) H
  | some (.ext g) => match args with
   | .yield _ :: _ => none
   | _ => keepD (g args H) H
  | none => none
end Go.Wam
set_option linter.unusedVariables false
set_option linter.unusedSimpArgs false
namespace Go.Wam
def leafV : Value → Option AV
 | .bool b => some (.bool b)
 | .int k n => some (.int k n)
 | .string s => some (.str s.data.toList)
 | .pointer none => some .nilp
 | .slice none 0 0 => some .nils
 | .map none => some .nilm
 | .nilFunc => some .nilFunc
 | .nilIface => some .nilIface
 | _ => none
def leafs : List Value → Option (List AV)
 | [] => some []
 | v :: r => match leafV v, leafs r with
  | some a, some as => some (a :: as)
  | _, _ => none
def toAV : Value → Option AV
 | .agg cs => (leafs cs.toList).map .agg
 | v => leafV v
def opd : Operand → Option Opd
 | .tmp t => some (.tmp t)
 | .const v => (toAV v).map .const
 | .func f => some (.func f)
 | .global _ => none
def opds : List Operand → Option (List Opd)
 | [] => some []
 | x :: r => match opd x, opds r with
  | some a, some as => some (a :: as)
  | _, _ => none
def opdO : Option Operand → Option (Option Opd)
 | none => some none
 | some x => (opd x).map some
def aggT (P : Program) (t : TypeId) : Option Bool :=
 match P.underlying t with
 | some (.struct _) => some true
 | some (.array _ _) => some true
 | some _ => some false
 | none => none
def szT (P : Program) (t : TypeId) : Option Nat := (P.info? t).map (·.size)
def zeroT (P : Program) (t : TypeId) : Option (List AV) :=
 match (P.info? t).bind (·.zero) with
 | some v => leafs v.cells.toList
 | none => none
def pszT (P : Program) (t : TypeId) : Option Nat :=
 match szT P t with
 | some 0 => none
 | r => r
def eqFs (P : Program) (g : TypeId → Option EqT) : List Field → Option (List (Nat × Bool × Nat × EqT))
 | [] => some []
 | f :: r => match eqFs P g r with
  | none => none
  | some r' => if f.name = "_" then some r' else
   match aggT P f.type, szT P f.type, g f.type with
   | some a, some s, some e => some ((f.offset, a, s, e) :: r')
   | _, _, _ => none
def eqTs (P : Program) : Nat → TypeId → Option EqT
 | 0, _ => none
 | n + 1, t => match P.underlying t with
  | some .bool => some .bool
  | some (.int _) => some .int
  | some .string => some .str
  | some (.pointer _) => some .ptr
  | some (.slice _) => some .slice
  | some (.map _ _) => some .map
  | some (.func _ _ _) => some .func
  | some (.struct fs) => if P.stoodInHeld t then none else (eqFs P (eqTs P n) fs.toList).map .struct
  | _ => none
def places (P : Program) : List Field → Option (List (Nat × Nat))
 | [] => some []
 | f :: r => match szT P f.type, places P r with
  | some s, some ps => some ((f.offset, s) :: ps)
  | _, _ => none
def partsS (ps : List (Nat × Nat)) : List (Nat × Operand) → Option (List (Nat × Nat × Opd))
 | [] => some []
 | (i, x) :: r => match ps[i]?, opd x, partsS ps r with
  | some (off, s), some y, some r' => some ((off, s, y) :: r')
  | _, _, _ => none
def partsA (sz : Nat) : List (Nat × Operand) → Option (List (Nat × Nat × Opd))
 | [] => some []
 | (i, x) :: r => match opd x, partsA sz r with
  | some y, some r' => some ((i * sz, sz, y) :: r')
  | _, _ => none
def isInt (P : Program) (t : TypeId) : Bool :=
 match P.underlying t with
 | some (.int _) => true
 | _ => false
def isLocal (locals : List Nat) : Option Nat → Bool
 | some d => locals.contains d
 | none => false
def opt2 {α β γ : Type} (a : Option α) (b : Option β) (f : α → β → Option γ) : Option γ :=
 match a, b with
 | some x, some y => f x y
 | _, _ => none
def keyT (P : Program) (t : TypeId) : Option KeyT :=
 match P.underlying t with
 | some (.int k) => some (.int k)
 | some .string => some .str
 | some (.array n e) => match P.underlying e, szT P e with
  | some (.int k), some 1 => some (.arr k n)
  | _, _ => none
 | _ => none
def zeroV (P : Program) (t : TypeId) : Option AV :=
 match (P.info? t).bind (·.zero) with
 | some (.agg cs) => (leafs cs.toList).map .agg
 | some v => leafV v
 | none => none
def compBuiltin (P : Program) (b : Builtin) (ats : Array TypeId) (args : Array Operand) : Option IOp :=
 match b, ats.toList, args.toList with
 | .len, [t], [x] => match P.underlying t, opd x with
  | some .string, some y => some (.len .str y)
  | some (.slice _), some y => some (.len .slice y)
  | some (.array n _), some y => some (.len (.arr n) y)
  | some (.map _ _), some y => some (.len .map y)
  | _, _ => none
 | .append, [t, u], [s, x] => match P.underlying t with
  | some (.slice e) => match pszT P e, (P.info? e).map (·.bytes), (P.info? e).bind (·.zero) with
   | some sz, some bytes, some z => if (P.underlying u).isNone || bytes = 0 || z.cells.size != sz then none else if isInt P u then match leafs z.cells.toList with
       | some zl => opt2 (opd s) (opd x) fun a b => some (.appendZ sz bytes zl a b)
       | none => none
    else opt2 (opd s) (opd x) fun a b => some (.append sz bytes a b)
   | _, _, _ => none
  | _ => none
 | .clear, [t], [x] => match P.underlying t with
  | some (.slice e) => match pszT P e, zeroT P e, opd x with
   | some sz, some z, some y => if z.length = sz then some (.clear sz z y) else none
   | _, _, _ => none
  | _ => none
 | .cap, [t], [x] => match P.underlying t, opd x with
  | some (.slice _), some y => some (.capS y)
  | _, _ => none
 | .copy, t :: _, [d, x] => match P.underlying t with
  | some (.slice e) => match pszT P e with
   | some sz => opt2 (opd d) (opd x) fun a b => some (.copy sz a b)
   | none => none
  | _ => none
 | .max, _, x :: r => opt2 (opd x) (opds r) fun a b => some (.maxs a b)
 | .min, _, x :: r => opt2 (opd x) (opds r) fun a b => some (.mins a b)
 | .delete, t :: _, [m, k] => match P.underlying t with
  | some (.map kt _) => match keyT P kt, opd m, opd k with
   | some t, some a, some b => some (.delete t a b)
   | _, _, _ => none
  | _ => none
 | _, _, _ => none
def slKind (P : Program) (t : TypeId) : Option SlKind :=
 match P.underlying t with
 | some .string => some SlKind.str
 | some (.slice e) => (pszT P e).map .slice
 | some (.array n e) => (pszT P e).map (.arr n)
 | _ => none
def compOp (P : Program) (locals : List Nat) (dst : Option Nat) : Op → Option IOp
 | .move x => (opd x).map .move
 | .assign x => (opd x).map .move
 | .pick c a b => match opd c, opd a, opd b with
  | some c, some a, some b => some (.pick c a b)
  | _, _, _ => none
 | .alloc e => opt2 (szT P e) (zeroT P e) fun sz z => some (.alloc (isLocal locals dst) sz z)
 | .box e x => opt2 (szT P e) (opd x) fun sz y => some (.box (isLocal locals dst) sz y)
 | .build t parts => match P.underlying t with
  | some (.struct fs) => match places P fs.toList with
   | some ps => opt2 (zeroT P t) (partsS ps parts.toList) fun z q => some (.build z q)
   | none => none
  | some (.array _ e) => match szT P e with
   | some sz => opt2 (zeroT P t) (partsA sz parts.toList) fun z q => some (.build z q)
   | none => none
  | _ => none
 | .buildSlice t len parts => match P.underlying t with
  | some (.slice e) => match pszT P e with
   | some sz => if len * sz > 2 ^ 24 then none else
    match (if len * sz = 0 then some #[] else ((P.info? e).bind (·.zero)).map (·.cells)) with
    | some zero => opt2 (leafs ((Array.range (len * sz)).map (zero[· % zero.size]!)).toList) (partsA sz parts.toList) fun z q => some (.buildSlice sz len z q)
    | none => none
   | none => none
  | _ => none
 | .load t a => match aggT P t, szT P t, opd a with
  | some g, some s, some x => some (.load g s x)
  | _, _, _ => none
 | .store t a v => match szT P t, opd a, opd v with
  | some s, some x, some y => some (.store s x y)
  | _, _, _ => none
 | .nilCheck x => (opd x).map .nilCheck
 | .binOp op t x y _ => match op with
  | .eql => match P.underlying t, x, y with
   | some (.interface _), _, .const .nilIface => (opd x).map (.isNilI false)
   | some (.pointer e), .tmp a, .tmp b => match szT P e with
    | some (_ + 1) => some (.ptrEq false (.tmp a) (.tmp b))
    | _ => none
   | _, _, _ => if P.eqGuardType P.depth t then none else match eqTs P 20 t, opd x, opd y with
   | some e, some a, some b => some (.bin .eql e a b)
   | _, _, _ => none
  | .neq => match P.underlying t, x, y with
   | some (.interface _), _, .const .nilIface => (opd x).map (.isNilI true)
   | some (.pointer e), .tmp a, .tmp b => match szT P e with
    | some (_ + 1) => some (.ptrEq true (.tmp a) (.tmp b))
    | _ => none
   | _, _, _ => if P.eqGuardType P.depth t then none else match eqTs P 20 t, opd x, opd y with
   | some e, some a, some b => some (.bin .neq e a b)
   | _, _, _ => none
  | op => opt2 (opd x) (opd y) fun a b => some (.bin op .none a b)
 | .unOp op _ x => (opd x).map (.un op)
 | .convert s d x => match P.underlying s, P.underlying d, opd x with
  | some (.int _), some (.int k), some y => some (.conv (.toInt k) y)
  | some .string, some .string, some y => some (.conv .strId y)
  | some .string, some (.slice e), some y => match P.underlying e, szT P e with
   | some (.int .u8), some 1 => some (.conv .toBytes y)
   | _, _ => none
  | some (.slice e), some .string, some y => match P.underlying e with
   | some (.int .u8) => some (.conv .ofBytes y)
   | _ => none
  | some (.pointer e), some .unsafePointer, some y => match szT P e with
   | some (_ + 1) => some (.conv .ptrId y)
   | _ => none
  | _, _, _ => none
 | .makeInterface t x => match P.underlying t, opd x with
  | some (.interface _), _ => none
  | some _, some y => some (.mkIface t y)
  | _, _ => none
 | .makeFunc fn first captured => opt2 (opds first.toList) (opds captured.toList) fun a b => some (.mkFunc fn a b)
 | .makeMap _ none => some .mkMap
 | .makeSlice t len cap => match P.underlying t with
  | some (.slice e) => match pszT P e, (P.info? e).map (·.bytes), zeroT P e with
   | some sz, some bytes, some z => if z.length = sz then opt2 (opd len) (opd cap) fun a b => some (.mkSlice sz bytes z a b) else none
   | _, _, _ => none
  | _ => none
 | .slice t x lo hi mx => match slKind P t, opd x, opdO lo, opdO hi, opdO mx with
  | some k, some y, some l, some h, some m => some (.slice k y l h m)
  | _, _, _, _, _ => none
 | .fieldAddr t x f => match P.underlying t with
  | some (.struct fs) => match fs[f]? with
   | some fd => opt2 (pszT P fd.type) (opd x) fun _ y => some (.fieldAddr fd.offset y)
   | none => none
  | _ => none
 | .field t x f => match P.underlying t with
  | some (.struct fs) => match fs[f]? with
   | some fd => match aggT P fd.type, szT P fd.type, opd x with
    | some g, some s, some y => some (.field g s fd.offset y)
    | _, _, _ => none
   | none => none
  | _ => none
 | .indexAddr t x i => match P.underlying t with
  | some (.slice e) => match pszT P e, opd x, opd i with
   | some s, some y, some j => some (.indexAddr none s y j)
   | _, _, _ => none
  | some (.array n e) => match pszT P e, opd x, opd i with
   | some s, some y, some j => some (.indexAddr (some n) s y j)
   | _, _, _ => none
  | _ => none
 | .index t x i => match P.underlying t with
  | some .string => opt2 (opd x) (opd i) fun y j => some (.index none y j)
  | some (.array n e) => match aggT P e, szT P e, opt2 (opd x) (opd i) fun y j => some (y, j) with
   | some g, some s, some (y, j) => some (.index (some (n, g, s)) y j)
   | _, _, _ => none
  | _ => none
 | .range t x => match P.underlying t with
  | some .string => (opd x).map .rangeS
  | some (.map _ _) => (opd x).map .rangeM
  | _ => none
 | .next x true => (opd x).map .nextS
 | .next x false => (opd x).map .nextM
 | .entry x => (opd x).map .entryM
 | .mapEntry t x k => match P.underlying t with
  | some (.map kt e) => match keyT P kt, zeroV P e, opd x, opd k with
   | some t, some z, some a, some b => some (.mapEntry t z a b)
   | _, _, _, _ => none
  | _ => none
 | .entryStore _ x s v => match opd x, opd s, opd v with
  | some a, some b, some c => some (.entryStore a b c)
  | _, _, _ => none
 | .defer { callee := .value f, args, .. } => opt2 (opd f) (opds args.toList) fun g as => some (.defer g as)
 | .lookup t x k ok => match P.underlying t with
  | some (.map kt e) => match keyT P kt, zeroV P e, opd x, opd k with
   | some t, some z, some a, some b => some (.lookup t ok z a b)
   | _, _, _, _ => none
  | _ => none
 | .mapUpdate t x k v | .insert t x k v => match P.underlying t with
  | some (.map kt _) => match keyT P kt, opd x, opd k, opd v with
   | some t, some a, some b, some c => some (.mapUpdate t a b c)
   | _, _, _, _ => none
  | _ => none
 | .extract x i => (opd x).map fun y => .extract y i
 | .panic _ => some .bad
 | .call { callee := .value f, args, .. } => opt2 (opd f) (opds args.toList) fun g as => some (.call g as)
 | .call { callee := .builtin b, args, argTypes } => compBuiltin P b argTypes args
 | _ => none
def compGuard (ops : Array Oper) : Option (Nat × Bool) → Option (Option (Nat × Bool))
 | none => some none
 | some (j, want) => match (ops[j]?).bind (·.dst) with
  | some d => some (some (d, want))
  | none => none
def dstOk (nt : Nat) : Option Nat → Bool
 | some d => decide (d < nt)
 | none => true
def compOper (P : Program) (nt : Nat) (locals : List Nat) (ops : Array Oper) (o : Oper) : Option IOper :=
 if dstOk nt o.dst then
  (compGuard ops o.guard).map fun g => { dst := o.dst, op := (compOp P locals o.dst o.op).getD .bad, guard := g }
 else none
def compOpers (P : Program) (nt : Nat) (locals : List Nat) (ops : Array Oper) : List Oper → Option (List IOper)
 | [] => some []
 | o :: r => match compOper P nt locals ops o, compOpers P nt locals ops r with
  | some i, some is => some (i :: is)
  | _, _ => none
def plainOp : IOp → Bool
 | .defer .. => false
 | _ => true
inductive Cls where
 | pure | read | alloc | effect
 deriving DecidableEq
def IOp.cls : IOp → Cls
 | .move _ | .pick .. | .build .. | .nilCheck _ | .bin .. | .un .. | .mkIface .. | .mkFunc .. | .slice .. | .fieldAddr .. | .field .. | .indexAddr .. | .index .. | .extract .. | .maxs .. | .mins .. => .pure
 | .conv .toBytes _ => .alloc
 | .conv .ofBytes _ => .read
 | .conv .ptrId _ => .read
 | .conv _ _ => .pure
 | .len .map _ => .read
 | .len _ _ => .pure
 | .capS _ | .isNilI .. => .pure
 | .load .. | .lookup .. | .entryM _ | .ptrEq .. => .read
 | .alloc .. | .box .. | .buildSlice .. | .mkMap | .rangeS _ | .mkSlice .. => .alloc
 | .store .. | .call .. | .append .. | .appendZ .. | .clear .. | .mapUpdate .. | .delete .. | .nextS _ | .rangeM _ | .nextM _ | .mapEntry .. | .entryStore .. | .copy .. | .defer .. | .bad => .effect
def strictN {α : Type} (n : Nat) (k : Nat → α) : α := match n with | 0 => k 0 | p + 1 => k (p + 1)
theorem strictN_eq {α : Type} (n : Nat) (k : Nat → α) : strictN n k = k n := by cases n <;> rfl
def masksGo : List Oper → List Nat → Nat → List Nat
 | [], acc, _ => acc
 | o :: r, acc, n => strictN (o.after.toList.foldl (fun m e => if Region.binds .any e && decide (e.on < n) then (m ||| (1 <<< e.on)) ||| acc.getD (n - 1 - e.on) 0 else if Region.binds .any e then m ||| (1 <<< e.on) else m) 0) fun m =>
  strictN (n + 1) fun n' => masksGo r (m :: acc) n'
def preds (ops : Array Oper) : List (List Nat) := (masksGo ops.toList [] 0).reverse.map fun m => (List.range ops.size).filter fun j => m.testBit j
def compAt (P : Program) (nt : Nat) (locals : List Nat) (ops : Array Oper) : List Nat → Option (List IOper)
 | [] => some []
 | i :: r => match (ops[i]?).bind (compOper P nt locals ops), compAt P nt locals ops r with
  | some o, some os => some (o :: os)
  | _, _ => none
def canonD (P : Program) (locals : List Nat) (ops : Array Oper) : List Nat :=
 let pr := preds ops
 let idx := List.range ops.size
 let isE := fun i => match ops[i]? with
  | some o => ((compOp P locals o.dst o.op).getD .bad).cls == .effect
  | none => false
 let out := (idx.filter isE).foldl (fun acc e => acc ++ (idx.filter fun i => (pr.getD e []).contains i && !acc.contains i) ++ (if acc.contains e then [] else [e])) []
 out ++ idx.filter fun i => !out.contains i
def usesOf (ops : Array Oper) (o : Oper) : List Nat := o.looksAt ops
def clash (ops : Array Oper) (x y : Oper) : Bool :=
 (match x.dst with | some d => (usesOf ops y).contains d || y.dst == some d | none => false) ||
 (match y.dst with | some d => (usesOf ops x).contains d | none => false)
def allocs (c : Cls) : Bool := c == .alloc || c == .effect
def needAt (pr : List (List Nat)) (ord : List Nat) (cls : List Cls) (q r : Nat) : Bool :=
 let n := ord.length
 let o := fun p => ord.getD p 0
 (r == 0 || cls.getD (r - 1) .pure == .effect) &&
 (List.range n).all fun e => cls.getD e .pure != .effect ||
  (if e < r then !(pr.getD (o e) []).contains (o q) else !(pr.getD (o q) []).contains (o e))
def quietIn (cls : List Cls) (r q : Nat) : Bool := (List.range q).all fun p => p < r || !allocs (cls.getD p .pure)
def checksOf (pr : List (List Nat)) (ord : List Nat) (cls : List Cls) : List (Nat × Nat) :=
 let n := ord.length
 (List.range n).flatMap fun q => if cls.getD q .pure == .read then
  (List.range (n + 1)).filterMap fun r => if needAt pr ord cls q r && !(decide (r ≤ q) && quietIn cls r q) then some (q, r) else none
 else []
def drawOk (ops : Array Oper) (ord : List Nat) (ios : List IOper) : Bool :=
 let pr := preds ops
 let n := ops.size
 let cls := ios.map (·.op.cls)
 let o := fun p => ord.getD p 0
 let op := fun p => ops.getD (o p) default
 (ord.length == n) && ((List.range n).all fun i => ord.contains i) && (ord.all fun i => decide (i < n)) &&
 ((List.range n).all fun q => (List.range q).all fun p => o p != o q) &&
 ((List.range n).all fun q => (List.range q).all fun p => (!(cls.getD q .pure == .effect) || !allocs (cls.getD p .pure) || (pr.getD (o q) []).contains (o p))) &&
 ((List.range n).all fun q => (List.range q).all fun p => (!clash ops (op p) (op q) || (pr.getD (o q) []).contains (o p))) &&
 ((List.range n).all fun q => (List.range q).all fun p => !(cls.getD p .pure == .alloc && cls.getD q .pure == .alloc && (op p).dst == (op q).dst)) &&
 ((List.range n).all fun i => (ops.getD i default).after.toList.all fun e => !Region.binds .any e || decide (e.on < i)) &&
 ((List.range n).all fun i => !(pr.getD i []).contains i)
def warm (ops : Array Oper) : Bool := (List.range ops.size).all fun i => ((preds ops).getD i []).all fun _ => true
def compD (P : Program) (nt : Nat) (locals : List Nat) (ops : Array Oper) : Option IC :=
 if warm ops = false then none else
 let ord := canonD P locals ops
 match compAt P nt locals ops ord with
 | some ios => if drawOk ops ord ios && ios.all (fun o => plainOp o.op) then some (.regionD ios (checksOf (preds ops) ord (ios.map (·.op.cls)))) else none
 | none => none
def plainC : IC → Bool
 | .region ops => ops.all fun o => plainOp o.op
 | .regionD ops _ => ops.all fun o => plainOp o.op
 | .seq a b => plainC a && plainC b
 | .cond _ a b => plainC a && plainC b
 | .block _ b => plainC b
 | .loop b => plainC b
 | .keep _ _ c => plainC c
 | .rangeF .. => false
 | .mapR _ _ _ _ _ _ b => plainC b
 | _ => true
def compC (P : Program) (nt : Nat) (locals : List Nat) : Code → Option IC
 | .skip => some .skip
 | .region _ ops false => (compOpers P nt locals ops ops.toList).map .region
 | .region _ ops true => compD P nt locals ops
 | .seq a b => opt2 (compC P nt locals a) (compC P nt locals b) fun x y => some (.seq x y)
 | .cond c a b => match opd c with
  | some c' => opt2 (compC P nt locals a) (compC P nt locals b) fun x y => some (.cond c' x y)
  | none => none
 | .block id b => (compC P nt locals b).map (.block id)
 | .loop b => (compC P nt locals b).map .loop
 | .exit id => some (.exit id)
 | .ret => some .ret
 | .rangeFunc f ps a b => match opd f with
  | some f' => if ps.all fun p => decide (p < nt) then opt2 (compC P nt locals a) (compC P nt locals b) fun x y => if plainC x && plainC y then some (.rangeF f' ps.toList x y) else none else none
  | none => none
 | _ => some .stuck
def erase : IC → IC
 | .keep _ _ c => erase c
 | .seq a b => .seq (erase a) (erase b)
 | .cond c a b => .cond c (erase a) (erase b)
 | .block id b => .block id (erase b)
 | .loop b => .loop (erase b)
 | .rangeF f ps a b => .rangeF f ps (erase a) (erase b)
 | .mapR d0 d1 it b _ _ body => .block b (.loop (.seq (.region [⟨some d0, .nextM it, none⟩, ⟨some d1, .extract (.tmp d0) 0, none⟩]) (.seq (.cond (.tmp d1) .skip (.exit b)) (erase body))))
 | c => c
def compRes (P : Program) : List ResultVar → Option (List RV)
 | [] => some []
 | .tmp t :: r => (compRes P r).map (.tmp t :: ·)
 | .cell t ty :: r => match aggT P ty, szT P ty, compRes P r with
  | some g, some s, some r' => some (.cell t g s :: r')
  | _, _, _ => none
def FnFits (P : Program) (f : FuncId) (F : FnIR) : Prop :=
 ∃ fn c, P.funcs[f]? = some fn ∧ fn.body = some c ∧ (fn.name == "runtime.NumGoroutine") = false ∧ fn.ntmps = F.ntmps ∧ decide (F.nargs ≤ F.ntmps) = true ∧
  compC P F.ntmps F.locals c = some (erase F.body) ∧ compRes P fn.results.toList = some F.results
end Go.Wam
set_option linter.unusedVariables false
set_option linter.unusedSimpArgs false
namespace Go.Wam
structure Loc where
 block : Nat
 base : Nat
 room : Nat
def Loc.at (l : Loc) (off : Nat) : Addr := ⟨l.block, l.base + off, none⟩
mutual
def conc (m : Nat → Loc) (ml : Nat → Nat) : AV → Value
 | .bool b => .bool b
 | .int k n => .int k n
 | .str s => .string ⟨s.toArray⟩
 | .nilp => .pointer none
 | .ptr id off => .pointer (some ((m id).at off))
 | .lptr t off => .pointer (some ⟨ml t, off, none⟩)
 | .nils => .slice none 0 0
 | .slice id off len c => .slice (some ((m id).at off)) len c
 | .oslice id off len _ sz => .slice (some ((m id).at off)) len (((m id).room - off) / sz)
 | .eslice id off l sz => .slice (some (if ((m id).room - off) / sz = l then (m id).at off else (m id).at (off + l * sz))) 0 (((m id).room - off) / sz - l)
 | .xslice b off spot => .slice (some ⟨b, off, spot⟩) 0 0
 | .nilm => .map none
 | .map id => .map (some (m id).block)
 | .yield id => .func (.yield (m id).block) #[] #[]
 | .func fn a b => .func fn (concL m ml a).toArray (concL m ml b).toArray
 | .nilFunc => .nilFunc
 | .iface t v => .iface t (conc m ml v)
 | .nilIface => .nilIface
 | .agg cs => .agg (concL m ml cs).toArray
 | .tuple vs => .tuple (concL m ml vs).toArray
def concL (m : Nat → Loc) (ml : Nat → Nat) : List AV → List Value
 | [] => []
 | v :: vs => conc m ml v :: concL m ml vs
end
theorem concL_eq (m : Nat → Loc) (ml : Nat → Nat) (l : List AV) : concL m ml l = l.map (conc m ml) := by
 induction l with
 | nil => simp [concL]
 | cons v l ih => simp [concL, ih]
mutual
def AV.okP (p : Nat → Nat → Prop) : AV → Prop
 | .ptr id _ => p id 0
 | .lptr .. => False
 | .slice id _ _ _ => p id 0
 | .oslice id off len kc sz => p id (off + max len kc * sz)
 | .eslice id off l sz => p id (off + l * sz)
 | .map id => p id 0
 | .yield id => p id 0
 | .func _ fs cs => AV.okPL p fs ∧ AV.okPL p cs
 | .iface _ v => v.okP p
 | .agg cs => AV.okPL p cs ∧ cs.all AV.one = true
 | .tuple vs => AV.okPL p vs
 | _ => True
def AV.okPL (p : Nat → Nat → Prop) : List AV → Prop
 | [] => True
 | v :: vs => v.okP p ∧ AV.okPL p vs
end
theorem okPL_iff (p : Nat → Nat → Prop) (l : List AV) : AV.okPL p l ↔ ∀ v ∈ l, v.okP p := by
 induction l with
 | nil => simp [AV.okPL]
 | cons v l ih => simp [AV.okPL, ih]
mutual
theorem okB_okP {n : Nat} {p q : Nat → Nat → Prop} (h : ∀ i k, p i k → i < n → q i k) : ∀ v : AV, v.okB n = true → v.okP p → v.okP q
 | .bool _ | .int .. | .str _ | .nilp | .nils | .xslice .. | .nilm | .nilFunc | .nilIface => by simp [AV.okP]
 | .lptr .. => by simp [AV.okP]
 | .ptr .. | .slice .. | .map .. | .yield .. => by simp only [AV.okB, AV.okP, decide_eq_true_eq]; exact fun a b => h _ _ b a
 | .oslice .. | .eslice .. => by simp only [AV.okB, AV.okP, decide_eq_true_eq]; exact fun a b => h _ _ b a
 | .func _ fs cs => by simp only [AV.okB, AV.okP, Bool.and_eq_true]; exact fun ⟨a, b⟩ ⟨c, d⟩ => ⟨okL_okPL h fs a c, okL_okPL h cs b d⟩
 | .iface _ v => by simp only [AV.okB, AV.okP]; exact okB_okP h v
 | .agg cs => by simp only [AV.okB, AV.okP, Bool.and_eq_true]; exact fun ⟨a, b⟩ ⟨c, d⟩ => ⟨okL_okPL h cs a c, d⟩
 | .tuple vs => by simp only [AV.okB, AV.okP]; exact okL_okPL h vs
theorem okL_okPL {n : Nat} {p q : Nat → Nat → Prop} (h : ∀ i k, p i k → i < n → q i k) : ∀ l : List AV, AV.okL n l = true → AV.okPL p l → AV.okPL q l
 | [] => by simp [AV.okPL]
 | v :: l => by simp only [AV.okL, AV.okPL, Bool.and_eq_true]; exact fun ⟨a, b⟩ ⟨c, d⟩ => ⟨okB_okP h v a c, okL_okPL h l b d⟩
end
mutual
theorem okP_mono {p q : Nat → Nat → Prop} (h : ∀ i k, p i k → q i k) : ∀ v : AV, v.okP p → v.okP q
 | .bool _ | .int .. | .str _ | .nilp | .nils | .xslice .. | .nilm | .nilFunc | .nilIface => by simp [AV.okP]
 | .lptr .. => by simp [AV.okP]
 | .ptr id _ | .slice id _ _ _ | .map id | .yield id => by simp only [AV.okP]; exact h id _
 | .oslice .. | .eslice .. => by simp only [AV.okP]; exact h _ _
 | .func _ fs cs => by simp only [AV.okP]; exact fun ⟨a, b⟩ => ⟨okPL_mono h fs a, okPL_mono h cs b⟩
 | .iface _ v => by simp only [AV.okP]; exact okP_mono h v
 | .agg cs => by simp only [AV.okP]; exact fun ⟨a, b⟩ => ⟨okPL_mono h cs a, b⟩
 | .tuple vs => by simp only [AV.okP]; exact okPL_mono h vs
theorem okPL_mono {p q : Nat → Nat → Prop} (h : ∀ i k, p i k → q i k) : ∀ l : List AV, AV.okPL p l → AV.okPL q l
 | [] => by simp [AV.okPL]
 | v :: l => by simp only [AV.okPL]; exact fun ⟨a, b⟩ => ⟨okP_mono h v a, okPL_mono h l b⟩
end
mutual
theorem conc_congr {p : Nat → Nat → Prop} {m m' : Nat → Loc} (ml ml' : Nat → Nat) (h : ∀ i k, p i k → m' i = m i) : ∀ v : AV, v.okP p → conc m' ml' v = conc m ml v
 | .bool _ | .int .. | .str _ | .nilp | .nils | .xslice .. | .nilm | .nilFunc | .nilIface => by simp [conc]
 | .lptr .. => by simp [AV.okP]
 | .ptr id _ | .map id | .yield id | .slice id _ _ _ => by simp only [AV.okP]; intro hi; simp [conc, h id _ hi]
 | .oslice id _ _ _ _ | .eslice id _ _ _ => by simp only [AV.okP]; intro hi; simp [conc, h id _ hi]
 | .func _ fs cs => by simp only [AV.okP]; intro ⟨a, b⟩; simp [conc, concL_congr ml ml' h fs a, concL_congr ml ml' h cs b]
 | .iface _ v => by simp only [AV.okP]; intro a; simp [conc, conc_congr ml ml' h v a]
 | .agg cs => by simp only [AV.okP]; intro ⟨a, _⟩; simp [conc, concL_congr ml ml' h cs a]
 | .tuple vs => by simp only [AV.okP]; intro a; simp [conc, concL_congr ml ml' h vs a]
theorem concL_congr {p : Nat → Nat → Prop} {m m' : Nat → Loc} (ml ml' : Nat → Nat) (h : ∀ i k, p i k → m' i = m i) : ∀ l : List AV, AV.okPL p l → concL m' ml' l = concL m ml l
 | [] => by simp [concL]
 | v :: l => by simp only [AV.okPL]; intro ⟨a, b⟩; simp [concL, conc_congr ml ml' h v a, concL_congr ml ml' h l b]
end
def num : List Bool → Nat
 | [] => 0
 | true :: p => 2 * num p + 1
 | false :: p => 2 * num p + 2
theorem num_pathF : ∀ (f i : Nat), i ≤ f → num (pathF f i) = i
 | 0, i, h => by simp [pathF, num]; omega
 | f + 1, i, h => by
  simp only [pathF]
  split
  · rename_i h0; simp [num, h0]
  · split
    · rename_i h0 h1
      simp only [num]; rw [num_pathF f (i / 2) (by omega)]; omega
    · rename_i h0 h1
      simp only [num]; rw [num_pathF f (i / 2 - 1) (by omega)]; omega
theorem num_path (i : Nat) : num (path i) = i := num_pathF i i (Nat.le_refl _)
theorem path_inj {i j : Nat} (h : path i = path j) : i = j := by rw [← num_path i, h, num_path]
theorem getP_nil_leaf (p : List Bool) : getP p .leaf = none := by cases p with | nil => rfl | cons b p => cases b <;> rfl
theorem getP_setP (x : AObj) : ∀ (p q : List Bool) (t : Tr), getP q (setP x p t) = if q = p then some x else getP q t
 | [], [], .leaf | [], [], .node .. => by simp [setP, getP]
 | [], b :: q, .leaf => by cases b <;> simp [setP, getP, getP_nil_leaf]
 | [], b :: q, .node .. => by cases b <;> simp [setP, getP]
 | b :: p, [], .leaf => by cases b <;> simp [setP, getP]
 | b :: p, [], .node .. => by cases b <;> simp [setP, getP]
 | true :: p, true :: q, .leaf => by simp only [setP, getP, List.cons.injEq, true_and]; rw [getP_setP x p q .leaf, getP_nil_leaf]
 | true :: p, true :: q, .node v l r => by simp only [setP, getP, List.cons.injEq, true_and]; exact getP_setP x p q l
 | false :: p, false :: q, .leaf => by simp only [setP, getP, List.cons.injEq, true_and]; rw [getP_setP x p q .leaf, getP_nil_leaf]
 | false :: p, false :: q, .node v l r => by simp only [setP, getP, List.cons.injEq, true_and]; exact getP_setP x p q r
 | true :: p, false :: q, .leaf | false :: p, true :: q, .leaf => by simp [setP, getP, getP_nil_leaf]
 | true :: p, false :: q, .node .. | false :: p, true :: q, .node .. => by simp [setP, getP]
def AHeap.wf (H : AHeap) : Prop := ∀ i, (H.get i).isSome = true ↔ i < H.n
theorem AHeap.get_lt {H : AHeap} {i : Nat} {o : AObj} (h : H.get i = some o) (hw : H.wf) : i < H.n := (hw i).1 (by rw [h]; rfl)
theorem AHeap.get_set {H : AHeap} {i j : Nat} {x : AObj} (hw : H.wf) (hi : i < H.n) : (H.set i x).get j = if j = i then some x else H.get j := by
 simp only [AHeap.get, AHeap.set, if_pos hi, getP_setP]
 by_cases h : j = i
 · subst h; simp
 · rw [if_neg h, if_neg fun e => h (path_inj e)]
theorem AHeap.set_ge {H : AHeap} {i : Nat} {x : AObj} (hi : ¬ i < H.n) (j : Nat) : (H.set i x).get j = H.get j := by simp only [AHeap.get, AHeap.set, if_neg hi]
@[simp] theorem AHeap.set_n (H : AHeap) (i : Nat) (x : AObj) : (H.set i x).n = H.n := rfl
@[simp] theorem AHeap.alloc_n (H : AHeap) (x : AObj) : (H.alloc x).n = H.n + 1 := rfl
@[simp] theorem AHeap.alloc_low (H : AHeap) (x : AObj) : (H.alloc x).low = H.low := rfl
@[simp] theorem AHeap.set_dfs (H : AHeap) (i : Nat) (x : AObj) : (H.set i x).dfs = H.dfs := rfl
@[simp] theorem AHeap.alloc_dfs (H : AHeap) (x : AObj) : (H.alloc x).dfs = H.dfs := rfl
theorem AHeap.wf_set {H : AHeap} {i : Nat} {x : AObj} (hw : H.wf) : (H.set i x).wf := by
 intro j
 by_cases hi : i < H.n
 · rw [AHeap.get_set hw hi, AHeap.set_n]
   split
   · rename_i h; subst h; simp [hi]
   · exact hw j
 · rw [AHeap.set_ge hi, AHeap.set_n]; exact hw j
theorem AHeap.get_alloc (H : AHeap) (x : AObj) (j : Nat) : (H.alloc x).get j = if j = H.n then some x else H.get j := by
 simp only [AHeap.get, AHeap.alloc, getP_setP]
 by_cases h : j = H.n
 · subst h; simp
 · rw [if_neg h, if_neg fun e => h (path_inj e)]
theorem AHeap.wf_alloc {H : AHeap} {x : AObj} (hw : H.wf) : (H.alloc x).wf := by
 intro j
 rw [AHeap.get_alloc, AHeap.alloc_n]
 split
 · rename_i h; subst h; simp
 · rename_i h; rw [hw j]; omega
def AObj.owned : AObj → Bool
 | .row false _ _ => true
 | .map .. => true
 | .siter .. => true
 | .miter .. => true
 | .loop .. => true
 | .dfd => true
 | _ => false
def AObj.isRo : AObj → Bool
 | .row true _ _ => true
 | _ => false
def Owned (H : AHeap) (id : Nat) : Prop := ∃ o, H.get id = some o ∧ o.owned = true
def IsRo (H : AHeap) (id : Nat) : Prop := ∃ o, H.get id = some o ∧ o.isRo = true
def AObj.okP (p : Nat → Nat → Prop) : AObj → Prop
 | .row _ _ cells => AV.okPL p cells ∧ cells.all AV.one = true
 | .map es _ => ∀ e ∈ es, e.1.okP p ∧ e.2.1.okP p
 | .siter .. => True
 | .miter (some i) _ _ _ => p i 0
 | .miter none _ _ _ => True
 | .loop _ _ env _ _ _ => ∀ t v, look t env = some v → v.okP p
 | .dfd => True
 | .dead => True
def Unfrozen (st : Bool) (w : World) (b : Nat) (arr : Array Value) : Prop :=
 ∃ ty fr, w.heap[b]? = some (.cells arr ty fr) ∧ ∀ i, (i < arr.size ∨ (st = true ∧ i = arr.size)) → ¬ (fr.1 ≤ i ∧ i < fr.2)
def RowAt (st : Bool) (m : Nat → Loc) (ml : Nat → Nat) (w : World) (l : Loc) (cells : List AV) : Prop :=
 ∃ arr, Unfrozen st w l.block arr ∧ l.base + l.room ≤ arr.size ∧ cells.length ≤ l.room ∧ ∀ i v, cells[i]? = some v → arr[l.base + i]? = some (conc m ml v)
def RoAt (m : Nat → Loc) (ml : Nat → Nat) (w : World) (l : Loc) (cells : List AV) : Prop :=
 cells.length ≤ l.room ∧ (∃ o, w.heap[l.block]? = some o) ∧ ∀ i v, cells[i]? = some v → w.cell? (l.at i) = some (conc m ml v)
def codeX : AExit → Code
 | .normal => .skip
 | .exit id => .exit id
 | .ret => .ret
structure LoopK (P : Program) (r : Loop) (ps : List Nat) (ia ib : IC) : Prop where
 pe : r.params.toList = ps
 lt : ∀ p ∈ ps, p < r.tmps.size
 comp : ∃ locals, compC P r.tmps.size locals r.assign = some (erase ia) ∧ compC P r.tmps.size locals r.body = some (erase ib)
 pa : plainC ia = true
 pb : plainC ib = true
def MapAt (m : Nat → Loc) (ml : Nat → Nat) (ces : Array MapEntry) (es : List ME) (clock : Nat) : Prop :=
 List.Perm (ces.toList.map fun e => (e.key, e.val, e.born)) (es.map fun e => (conc m ml e.1, conc m ml e.2.1, e.2.2)) ∧
  (∀ e ∈ es, e.2.2 < clock) ∧ (es.map (·.2.2)).Nodup ∧ (es.map fun e => conc m ml e.1).Nodup
def ObjAt (P : Program) (m : Nat → Loc) (ml : Nat → Nat) (w : World) (l : Loc) : AObj → Prop
 | .row false sz cells => RowAt (decide (sz ≠ 1)) m ml w l cells
 | .row true _ cells => RoAt m ml w l cells
 | .map es clock => ∃ ces, w.heap[l.block]? = some (.map ces clock) ∧ MapAt m ml ces es clock
 | .siter s pos => w.heap[l.block]? = some (.stringIter ⟨s.toArray⟩ pos) ∧ l.base = 0
 | .miter mid since seen last => w.heap[l.block]? = some (.mapIter (mid.map fun i => (m i).block) since seen.reverse.toArray last) ∧ l.base = 0
 | .loop st pend env ps ia ib => ∃ r : Loop, w.heap[l.block]? = some (.loop r) ∧ r.state = st ∧ r.pending = pend.map codeX ∧ (∀ t v, look t env = some v → r.tmps.getD t undef = conc m ml v) ∧ LoopK P r ps ia ib
 | .dfd => w.heap[l.block]? = some (.deferred (some []))
 | .dead => True
def LocAt (m : Nat → Loc) (ml : Nat → Nat) (w : World) (b : Nat) (cells : List AV) : Prop :=
 ∃ arr, Unfrozen false w b arr ∧ arr.toList = concL m ml cells
def good (m : Nat → Loc) (n : Nat) : Nat → Nat → Prop := fun id k => id < n ∧ k ≤ (m id).room
structure Sim (P : Program) (m : Nat → Loc) (ml : Nat → Nat) (loc : List (Nat × List AV)) (H : AHeap) (w : World) : Prop where
 wf : H.wf
 obj : ∀ id o, H.get id = some o → ObjAt P m ml w (m id) o
 ok : ∀ id o, H.get id = some o → o.okP (good m H.n)
 inj : ∀ i j, Owned H i → Owned H j → (m i).block = (m j).block → i = j
 sep : ∀ i j, Owned H i → IsRo H j → (m i).block ≠ (m j).block
 locs : ∀ t cells, look t loc = some cells → LocAt m ml w (ml t) cells
 locok : ∀ t cells, look t loc = some cells → AV.okPL (good m H.n) cells ∧ cells.all AV.one = true
 locinj : ∀ t u c d, look t loc = some c → look u loc = some d → ml t = ml u → t = u
 locsep : ∀ t c i, look t loc = some c → (Owned H i ∨ IsRo H i) → (m i).block ≠ ml t
 base : ∀ id c, H.get id = some (.row false 1 c) → c.length ≤ 1 → (m id).base = 0
structure Grow (m : Nat → Loc) (ml : Nat → Nat) (loc : List (Nat × List AV)) (H : AHeap) (w : World) (m' : Nat → Loc) (ml' : Nat → Nat) (loc' : List (Nat × List AV)) (H' : AHeap) (w' : World) : Prop where
 n_le : H.n ≤ H'.n
 agree : ∀ id, id < H.n → m' id = m id
 size : w.heap.size ≤ w'.heap.size
 os : w'.os = w.os
 tape : w'.tape = w.tape
 output : w'.output = w.output
 keep : ∀ b, b < w.heap.size → (∀ id, Owned H id → (m id).block ≠ b) → (∀ t c, look t loc = some c → ml t ≠ b) → w'.heap[b]? = w.heap[b]?
 own : ∀ id, Owned H' id → (∃ i, Owned H i ∧ (m i).block = (m' id).block) ∨ w.heap.size ≤ (m' id).block
 locs : ∀ t c, look t loc' = some c → (∃ d, look t loc = some d ∧ ml' t = ml t) ∨ w.heap.size ≤ ml' t
 low : H'.low ≤ H.low
 pres : ∀ id, id < H'.low → id < H.n → H'.get id = H.get id
 ro : ∀ id, IsRo H' id → IsRo H id
theorem Grow.refl (m : Nat → Loc) (ml : Nat → Nat) (loc : List (Nat × List AV)) (H : AHeap) (w : World) : Grow m ml loc H w m ml loc H w :=
 ⟨Nat.le_refl _, fun _ _ => rfl, Nat.le_refl _, rfl, rfl, rfl, fun _ _ _ _ => rfl, fun id h => .inl ⟨id, h, rfl⟩, fun t c h => .inl ⟨c, h, rfl⟩, Nat.le_refl _, fun _ _ _ => rfl, fun _ h => h⟩
theorem Owned.lt {H : AHeap} {id : Nat} (h : Owned H id) (hw : H.wf) : id < H.n := let ⟨_, h, _⟩ := h; AHeap.get_lt h hw
theorem Grow.trans {m m1 m2 : Nat → Loc} {ml ml1 ml2 : Nat → Nat} {loc loc1 loc2 : List (Nat × List AV)} {H H1 H2 : AHeap} {w w1 w2 : World}
    (a : Grow m ml loc H w m1 ml1 loc1 H1 w1) (b : Grow m1 ml1 loc1 H1 w1 m2 ml2 loc2 H2 w2) : Grow m ml loc H w m2 ml2 loc2 H2 w2 where
 n_le := Nat.le_trans a.n_le b.n_le
 agree := fun id h => (b.agree id (Nat.lt_of_lt_of_le h a.n_le)).trans (a.agree id h)
 size := Nat.le_trans a.size b.size
 os := b.os.trans a.os
 tape := b.tape.trans a.tape
 output := b.output.trans a.output
 keep := fun x hx h1 h2 => by
  refine (b.keep x (Nat.lt_of_lt_of_le hx a.size) ?_ ?_).trans (a.keep x hx h1 h2)
  · intro id hid he
    rcases a.own id hid with ⟨i, hi, hb⟩ | hb
    · exact h1 i hi (hb.trans he)
    · omega
  · intro t c ht he
    rcases a.locs t c ht with ⟨d, hd, hb⟩ | hb
    · exact h2 t d hd (hb.symm.trans he)
    · omega
 own := fun id h => by
  rcases b.own id h with ⟨i, hi, hb⟩ | hb
  · rcases a.own i hi with ⟨j, hj, hc⟩ | hc
    · exact .inl ⟨j, hj, hc.trans hb⟩
    · exact .inr (by omega)
  · exact .inr (Nat.le_trans a.size hb)
 locs := fun t c h => by
  rcases b.locs t c h with ⟨d, hd, hb⟩ | hb
  · rcases a.locs t d hd with ⟨e, he, hc⟩ | hc
    · exact .inl ⟨e, he, hb.trans hc⟩
    · exact .inr (by omega)
  · exact .inr (Nat.le_trans a.size hb)
 low := Nat.le_trans b.low a.low
 pres := fun id h1 h2 => (b.pres id h1 (Nat.lt_of_lt_of_le h2 a.n_le)).trans (a.pres id (Nat.lt_of_lt_of_le h1 b.low) h2)
 ro := fun id h => a.ro id (b.ro id h)
end Go.Wam
set_option linter.unusedVariables false
set_option linter.unusedSimpArgs false
namespace Go.Wam
def vOk (p : Nat → Nat → Prop) (L : Nat → Prop) (v : AV) : Prop := v.okP p ∨ ∃ t off, v = .lptr t off ∧ L t
def LT : Nat → Prop := fun _ => True
theorem vOk.of {p : Nat → Nat → Prop} {L : Nat → Prop} {v : AV} (h : v.okP p) : vOk p L v := .inl h
theorem vOk.noL {p : Nat → Nat → Prop} {L : Nat → Prop} {v : AV} (h : vOk p L v) (hl : v.noL = true) : v.okP p := by
 rcases h with h | ⟨t, o, rfl, _⟩
 · exact h
 · simp [AV.noL] at hl
theorem vOk.isL {p : Nat → Nat → Prop} {L : Nat → Prop} {t o : Nat} (h : vOk p L (.lptr t o)) : L t := by
 rcases h with h | ⟨t', o', h, hl⟩
 · simp [AV.okP] at h
 · cases h; exact hl
theorem vOk.mono {p q : Nat → Nat → Prop} {L L' : Nat → Prop} {v : AV} (h : vOk p L v) (hpq : ∀ i k, p i k → q i k) (hL : ∀ t, L t → L' t) : vOk q L' v :=
 h.imp (okP_mono hpq v) fun ⟨t, o, e, hl⟩ => ⟨t, o, e, hL t hl⟩
def OpR (ρ : Operand → Value) (env : List (Nat × AV)) (m : Nat → Loc) (ml : Nat → Nat) (p : Nat → Nat → Prop) (L : Nat → Prop) (x : Operand) : Prop :=
 ∀ y v, opd x = some y → y.ev env = some v → ρ x = conc m ml v ∧ vOk p L v
theorem leaf_conc {v : Value} {a : AV} (h : leafV v = some a) (m : Nat → Loc) (ml : Nat → Nat) (p : Nat → Nat → Prop) : conc m ml a = v ∧ a.okP p ∧ a.one = true ∧ a.noL = true := by
 unfold leafV at h
 split at h <;> first | (cases h; simp [conc, AV.okP, AV.one, AV.noL]; done) | cases h
theorem leafs_conc {vs : List Value} {as : List AV} (h : leafs vs = some as) (m : Nat → Loc) (ml : Nat → Nat) (p : Nat → Nat → Prop) : concL m ml as = vs ∧ AV.okPL p as ∧ as.all AV.one = true := by
 induction vs generalizing as with
 | nil => simp [leafs] at h; subst h; simp [concL, AV.okPL]
 | cons v vs ih =>
  simp only [leafs] at h
  cases h1 : leafV v with
  | none => simp [h1] at h
  | some a =>
   cases h2 : leafs vs with
   | none => simp [h1, h2] at h
   | some r =>
    simp only [h1, h2, Option.some.injEq] at h
    subst h
    obtain ⟨e1, e2, e3, _⟩ := leaf_conc h1 m ml p
    obtain ⟨f1, f2, f3⟩ := ih h2
    simp [concL, AV.okPL, e1, e2, e3, f1, f2, f3]
theorem toAV_conc {v : Value} {a : AV} (h : toAV v = some a) (m : Nat → Loc) (ml : Nat → Nat) (p : Nat → Nat → Prop) : conc m ml a = v ∧ a.okP p := by
 unfold toAV at h
 split at h
 · rename_i cs
   cases h1 : leafs cs.toList with
   | none => simp [h1] at h
   | some r =>
    simp [h1] at h
    subst h
    obtain ⟨f1, f2, f3⟩ := leafs_conc h1 m ml p
    simp [conc, AV.okP, f1, f2]
    simpa using f3
 · obtain ⟨e1, e2, _⟩ := leaf_conc h m ml p
   exact ⟨e1, e2⟩
theorem OpR.of_act (a : Act) {env : List (Nat × AV)} {m : Nat → Loc} {ml : Nat → Nat} {p : Nat → Nat → Prop} {L : Nat → Prop} (x : Operand)
    (h : ∀ t v, x = .tmp t → look t env = some v → a.tmps.getD t undef = conc m ml v ∧ vOk p L v) : OpR a.eval env m ml p L x := by
 intro y v hy hv
 cases x with
 | tmp t => simp [opd] at hy; subst hy; exact h t v rfl hv
 | const c =>
  simp only [opd] at hy
  cases hc : toAV c with
  | none => simp [hc] at hy
  | some u =>
   simp [hc] at hy; subst hy
   simp [Opd.ev] at hv; subst hv
   obtain ⟨e1, e2⟩ := toAV_conc hc m ml p
   exact ⟨e1.symm, .of e2⟩
 | global g => simp [opd] at hy
 | func f =>
  simp [opd] at hy; subst hy
  simp [Opd.ev] at hv; subst hv
  exact ⟨by simp [Act.eval, conc, concL], .of (by simp [AV.okP, AV.okPL])⟩
theorem aggT_run {P : Program} {t : TypeId} {g : Bool} (h : aggT P t = some g) (w : World) : (isAgg t).run P w = .ok g w := by
 unfold aggT at h
 unfold isAgg
 split at h
 · rename_i fs hu; cases h; simp [run_underlying hu]
 · rename_i n e hu; cases h; simp [run_underlying hu]
 · rename_i d h1 h2 hu
   cases h
   simp only [Sem.run_bind, run_underlying hu, Result.andThen_ok]
   cases d <;> first | rfl | (exact absurd hu (h1 _)) | (exact absurd hu (h2 _ _))
 · cases h
theorem info_run {P : Program} {t : TypeId} {i : TypeInfo} (h : P.info? t = some i) (w : World) : (typeInfo t).run P w = .ok i w := by
 simp [typeInfo, h]
theorem szT_run {P : Program} {t : TypeId} {s : Nat} (h : szT P t = some s) (w : World) : (sizeOf t).run P w = .ok s w := by
 unfold szT at h
 cases hi : P.info? t with
 | none => simp [hi] at h
 | some i => simp [hi] at h; simp [sizeOf, info_run hi, h]
theorem pszT_szT {P : Program} {t : TypeId} {s : Nat} (h : pszT P t = some s) : szT P t = some s ∧ s ≠ 0 := by
 unfold pszT at h
 split at h
 · cases h
 · rename_i hz
   refine ⟨h, ?_⟩
   rintro rfl
   exact hz h
theorem zeroT_run {P : Program} {t : TypeId} {z : List AV} (h : zeroT P t = some z) (m : Nat → Loc) (ml : Nat → Nat) (p : Nat → Nat → Prop) :
    (∃ v : Value, (∀ w, (zeroValue t).run P w = .ok v w) ∧ v.cells.toList = concL m ml z) ∧ AV.okPL p z ∧ z.all AV.one = true := by
 unfold zeroT at h
 cases hi : P.info? t with
 | none => simp [hi] at h
 | some i =>
  cases hz : i.zero with
  | none => simp [hi, hz] at h
  | some v =>
   simp only [hi, hz, Option.bind_some] at h
   obtain ⟨f1, f2, f3⟩ := leafs_conc h m ml p
   exact ⟨⟨v, fun w => by simp [zeroValue, info_run hi, hz], f1.symm⟩, f2, f3⟩
theorem rd_part {P : Program} {t : TypeId} {g : Bool} {s off : Nat} {cs : List AV} {v : AV} (hg : aggT P t = some g) (hs : szT P t = some s)
    (h : rd g s off cs = some v) (m : Nat → Loc) (ml : Nat → Nat) (w : World) : (part t (concL m ml cs).toArray off).run P w = .ok (conc m ml v) w := by
 unfold rd at h
 unfold part
 simp only [Sem.run_bind, aggT_run hg, Result.andThen_ok]
 cases g
 · simp only [Bool.false_eq_true, if_false] at h ⊢
   have : (concL m ml cs).toArray[off]? = some (conc m ml v) := by simp [concL_eq, h]
   simp [this]
 · simp only [if_true] at h ⊢
   split at h
   · rename_i hl
     cases h
     simp only [Sem.run_bind, szT_run hs, Result.andThen_ok, Sem.run_pure, conc]
     congr 2
     simp only [concL_eq, List.extract_toArray, List.map_take, List.map_drop]
     congr 1
     simp [List.extract_eq_take_drop]
   · cases h
theorem rd_ok {g : Bool} {s off : Nat} {cs : List AV} {v : AV} (h : rd g s off cs = some v) {p : Nat → Nat → Prop} (hok : AV.okPL p cs) (h1 : cs.all AV.one = true) : v.okP p := by
 unfold rd at h
 split at h
 · split at h
   · cases h
     simp only [AV.okP]
     refine ⟨(okPL_iff p _).2 fun v hv => (okPL_iff p _).1 hok v (List.mem_of_mem_drop (List.mem_of_mem_take hv)), ?_⟩
     rw [List.all_eq_true] at *
     exact fun x hx => h1 x (List.mem_of_mem_drop (List.mem_of_mem_take hx))
   · cases h
 · exact (okPL_iff p _).1 hok v (List.mem_of_getElem? h)
theorem eqFields_cons {d : Nat} {xs ys : Array Value} {f : Field} {fs : List Field} (hn : f.name ≠ "_") :
    Op.eqFields d xs ys (f :: fs) = (do
     let a ← part f.type xs f.offset
     let b ← part f.type ys f.offset
     let r ← Op.equalIn d f.type a b
     if (!r) = true then pure false else Op.eqFields d xs ys fs) := by
 simp only [Op.eqFields]
 rw [if_pos hn]
theorem bytes_eq (a b : List UInt8) : ((⟨a.toArray⟩ : ByteArray).toList == (⟨b.toArray⟩ : ByteArray).toList) = (a == b) := by
 rw [ByteArray.toList_eq, ByteArray.toList_eq]
theorem toList_mk (a : List UInt8) : (⟨a.toArray⟩ : ByteArray).toList = a := by
 rw [ByteArray.toList_eq]
section
variable {P : Program} (w : World) (d : Nat) {t e k : TypeId} {ps rs : Array TypeId} {vr : Bool}
theorem eqR_bool (a b : Bool) (h : P.underlying t = some .bool) : (Op.equalIn (d + 1) t (.bool a) (.bool b)).run P w = .ok (a == b) w := by simp [Op.equalIn, run_underlying h]
theorem eqR_str (a b : List UInt8) (h : P.underlying t = some .string) : (Op.equalIn (d + 1) t (.string ⟨a.toArray⟩) (.string ⟨b.toArray⟩)).run P w = .ok (a == b) w := by
 rw [run_equalIn_string w d t _ _ h, bytes_eq]
theorem eqR_ptrL (b : Option Addr) (h : P.underlying t = some (.pointer e)) : (Op.equalIn (d + 1) t (.pointer none) (.pointer b)).run P w = .ok b.isNone w := by simp [Op.equalIn, run_underlying h]
theorem eqR_ptrR (b : Addr) (h : P.underlying t = some (.pointer e)) : (Op.equalIn (d + 1) t (.pointer (some b)) (.pointer none)).run P w = .ok false w := by simp [Op.equalIn, run_underlying h]
theorem eqR_slL (b : Option Addr) (n c n' c' : Nat) (h : P.underlying t = some (.slice e)) : (Op.equalIn (d + 1) t (.slice none n' c') (.slice b n c)).run P w = .ok b.isNone w := by simp [Op.equalIn, run_underlying h]
theorem eqR_slR (b : Addr) (n c n' c' : Nat) (h : P.underlying t = some (.slice e)) : (Op.equalIn (d + 1) t (.slice (some b) n c) (.slice none n' c')).run P w = .ok false w := by simp [Op.equalIn, run_underlying h]
theorem eqR_mapL (b : Option Nat) (h : P.underlying t = some (.map k e)) : (Op.equalIn (d + 1) t (.map none) (.map b)).run P w = .ok b.isNone w := by simp [Op.equalIn, run_underlying h]
theorem eqR_mapR (b : Nat) (h : P.underlying t = some (.map k e)) : (Op.equalIn (d + 1) t (.map (some b)) (.map none)).run P w = .ok false w := by simp [Op.equalIn, run_underlying h]
theorem eqR_fn0 (h : P.underlying t = some (.func ps rs vr)) : (Op.equalIn (d + 1) t .nilFunc .nilFunc).run P w = .ok true w := by simp [Op.equalIn, run_underlying h]
theorem eqR_fnL (f : Fn) (a b : Array Value) (h : P.underlying t = some (.func ps rs vr)) : (Op.equalIn (d + 1) t .nilFunc (.func f a b)).run P w = .ok false w := by simp [Op.equalIn, run_underlying h]
theorem eqR_fnR (f : Fn) (a b : Array Value) (h : P.underlying t = some (.func ps rs vr)) : (Op.equalIn (d + 1) t (.func f a b) .nilFunc).run P w = .ok false w := by simp [Op.equalIn, run_underlying h]
end
theorem aeq_all {P : Program} (n : Nat) : ∀ (t : TypeId) (e : EqT) (x y : AV) (b : Bool) (d : Nat), eqTs P n t = some e → aeq e x y = some b → n ≤ d →
    ∀ (m : Nat → Loc) (ml : Nat → Nat) (w : World), (Op.equalIn d t (conc m ml x) (conc m ml y)).run P w = .ok b w := by
 induction n with
 | zero => intro t e x y b d he; simp [eqTs] at he
 | succ n ih =>
  intro t e x y b d he h hd m ml w
  obtain ⟨d, rfl⟩ : ∃ k, d = k + 1 := ⟨d - 1, by omega⟩
  have goS : ∀ (fs : List Field) (es : List (Nat × Bool × Nat × EqT)) (xs ys : List AV) (b : Bool), eqFs P (eqTs P n) fs = some es → aeqF es xs ys = some b →
      (Op.eqFields d (concL m ml xs).toArray (concL m ml ys).toArray fs).run P w = .ok b w := by
   intro fs
   induction fs with
   | nil => intro es xs ys b he h; simp [eqFs] at he; subst he; simp [aeqF] at h; subst h; simp [Op.eqFields]
   | cons f fs ihf =>
    intro es xs ys b he h
    simp only [eqFs] at he
    cases hr : eqFs P (eqTs P n) fs with
    | none => simp [hr] at he
    | some r =>
     simp only [hr] at he
     split at he
     · rename_i hn
       cases he
       simp only [Op.eqFields, hn, ne_eq, not_true_eq_false, if_false]
       exact ihf _ _ _ _ hr h
     · rename_i hn
       rw [eqFields_cons hn]
       split at he
       · rename_i g s e h1 h2 h3
         cases he
         simp only [aeqF] at h
         split at h
         · rename_i x y hx hy
           simp only [Sem.run_bind, rd_part h1 h2 hx, rd_part h1 h2 hy, Result.andThen_ok]
           split at h
           · rename_i hb
             rw [ih _ _ _ _ _ d h3 hb (by omega)]
             simp only [Result.andThen_ok, Bool.not_true, Bool.false_eq_true, if_false]
             exact ihf _ _ _ _ hr h
           · rename_i hb
             cases h
             rw [ih _ _ _ _ _ d h3 hb (by omega)]
             simp
           · cases h
         · cases h
       · cases he
  simp only [eqTs] at he
  split at he
  case h_8 fs hu =>
   split at he
   · cases he
   · rename_i hst
     cases hg : eqFs P (eqTs P n) fs.toList with
     | none => simp [hg] at he
     | some es =>
      simp [hg] at he; subst he
      cases x <;> cases y <;> simp [aeq] at h
      simp only [conc]
      rw [run_equalIn_struct w d t _ _ (by simp [Program.fieldsOf, hu]) (by simpa using hst)]
      simp only [Program.fieldsOf, hu]
      exact goS _ _ _ _ _ hg h
  case h_9 => cases he
  all_goals
   rename_i hu
   cases he
   cases x <;> cases y <;> simp [aeq] at h
  all_goals try (subst h)
  case h_1 => simp only [conc]; exact eqR_bool w d _ _ hu
  case h_2 => obtain ⟨rfl, rfl⟩ := h; simp only [conc]; exact run_equalIn_int w d t _ _ _ _ hu
  case h_3 => simp only [conc]; exact eqR_str w d _ _ hu
  all_goals first
   | (simp only [conc]; exact eqR_ptrL w d _ hu)
   | (simp only [conc]; exact eqR_ptrR w d _ hu)
   | (simp only [conc]; exact eqR_mapL w d _ hu)
   | (simp only [conc]; exact eqR_mapR w d _ hu)
   | (simp only [conc]; exact eqR_fn0 w d hu)
   | (simp only [conc]; exact eqR_fnL w d _ _ _ hu)
   | (simp only [conc]; exact eqR_fnR w d _ _ _ hu)
   | (simp only [conc]; exact eqR_slL w d _ _ _ _ _ hu)
   | (simp only [conc]; exact eqR_slR w d _ _ _ _ _ hu)
section
variable {P : Program} {ρ : Operand → Value} {s : St} {m : Nat → Loc} {ml : Nat → Nat} {p : Nat → Nat → Prop} {L : Nat → Prop}
theorem OpR.ev {x : Operand} {y : Opd} {v : AV} (h : OpR ρ s.env m ml p L x) (hy : opd x = some y) (hv : y.ev s.env = some v) : ρ x = conc m ml v ∧ vOk p L v := h y v hy hv
theorem opds_conc {xs : List Operand} {ys : List Opd} {vs : List AV} (h : opds xs = some ys) (hv : evs s.env ys = some vs) (hρ : ∀ x ∈ xs, OpR ρ s.env m ml p L x) :
    xs.map ρ = concL m ml vs ∧ ∀ v ∈ vs, vOk p L v := by
 induction xs generalizing ys vs with
 | nil => simp [opds] at h; subst h; simp [evs] at hv; subst hv; simp [concL]
 | cons x xs ih =>
  simp only [opds] at h
  split at h
  · rename_i a as h1 h2
    cases h
    simp only [evs] at hv
    split at hv
    · rename_i u us h3 h4
      cases hv
      obtain ⟨e1, e2⟩ := hρ x (by simp) _ _ h1 h3
      obtain ⟨f1, f2⟩ := ih h2 h4 (fun y hy => hρ y (by simp [hy]))
      refine ⟨by simp [concL, e1, f1], fun v hv => ?_⟩
      rcases List.mem_cons.1 hv with rfl | hv
      · exact e2
      · exact f2 v hv
    · cases hv
  · cases h
theorem opt2_some {α β γ : Type} {a : Option α} {b : Option β} {f : α → β → Option γ} {c : γ} (h : opt2 a b f = some c) : ∃ x y, a = some x ∧ b = some y ∧ f x y = some c := by
 unfold opt2 at h
 split at h
 · exact ⟨_, _, rfl, rfl, h⟩
 · cases h
theorem intOp_run {op : BinOp} {k : IntKind} {a b : Int} {v : AV} (h : intOp op k a b = some v) (t : TypeId) (w : World) :
    (binOp op t (.int k a) (.int k b)).run P w = .ok (conc m ml v) w ∧ v.okP p := by
 cases op <;> simp only [intOp] at h
 case quo | rem =>
  split at h
  · cases h
  · rename_i hb
    cases h
    simp [binOp, Op.intDiv, hb, conc, AV.okP]
 case shl | shr => cases h
 case and | or | xor | andNot =>
  simp only [bitsOp] at h
  cases h
  simp [binOp, Op.intBits, conc, AV.okP]
 all_goals
  cases h
  simp [binOp, Op.intArith, Op.intCmp, conc, AV.okP]
theorem bytesLess_eq (x y : List UInt8) : Op.bytesLess x y = bytesLess x y := by
 induction x generalizing y with
 | nil => cases y <;> simp [Op.bytesLess, bytesLess]
 | cons a x ih => cases y <;> simp [Op.bytesLess, bytesLess, ih]
theorem append_mk (a b : List UInt8) : (⟨a.toArray⟩ : ByteArray) ++ ⟨b.toArray⟩ = ⟨(a ++ b).toArray⟩ := by
 apply ByteArray.ext
 simp [ByteArray.data_append]
theorem strOp_run {op : BinOp} {a b : List UInt8} {v : AV} (h : strOp op a b = some v) (t : TypeId) (w : World) :
    (binOp op t (.string ⟨a.toArray⟩) (.string ⟨b.toArray⟩)).run P w = .ok (conc m ml v) w ∧ v.okP p := by
 cases op <;> simp only [strOp] at h
 case add =>
  split at h
  · rename_i hl
    cases h
    have : ¬ (((⟨a.toArray⟩ : ByteArray).size + (⟨b.toArray⟩ : ByteArray).size : Nat) : Int) > IntKind.i64.max := by
     simp only [IntKind.max_i64, ByteArray.size, List.size_toArray]; omega
    simp only [binOp, Op.stringOp, if_neg this, conc, append_mk]
    exact ⟨rfl, by simp [AV.okP]⟩
  · cases h
 all_goals first
  | cases h; done
  | (cases h
     simp only [binOp, Op.stringOp, toList_mk, bytesLess_eq, conc, AV.okP]
     exact ⟨rfl, trivial⟩)
theorem binOp_eql_of (t : TypeId) (x y : Value) (h : ∀ k a k' b, ¬ (x = .int k a ∧ y = .int k' b)) (hf : ∀ k a k' b, ¬ (x = .float k a ∧ y = .float k' b)) (hc : ∀ k a c k' b d, ¬ (x = .complex k a c ∧ y = .complex k' b d))
    (hs : ∀ a b, ¬ (x = .string a ∧ y = .string b)) : binOp .eql t x y = (do pure (.bool (← Op.equal t x y))) := by
 unfold binOp
 split <;> first | rfl | exact absurd ⟨rfl, rfl⟩ (h _ _ _ _) | exact absurd ⟨rfl, rfl⟩ (hf _ _ _ _) | exact absurd ⟨rfl, rfl⟩ (hc _ _ _ _ _ _) | exact absurd ⟨rfl, rfl⟩ (hs _ _) | (simp_all; done)
theorem binOp_neq_of (t : TypeId) (x y : Value) (h : ∀ k a k' b, ¬ (x = .int k a ∧ y = .int k' b)) (hf : ∀ k a k' b, ¬ (x = .float k a ∧ y = .float k' b)) (hc : ∀ k a c k' b d, ¬ (x = .complex k a c ∧ y = .complex k' b d))
    (hs : ∀ a b, ¬ (x = .string a ∧ y = .string b)) : binOp .neq t x y = (do pure (.bool (!(← Op.equal t x y)))) := by
 unfold binOp
 split <;> first | rfl | exact absurd ⟨rfl, rfl⟩ (h _ _ _ _) | exact absurd ⟨rfl, rfl⟩ (hf _ _ _ _) | exact absurd ⟨rfl, rfl⟩ (hc _ _ _ _ _ _) | exact absurd ⟨rfl, rfl⟩ (hs _ _) | (simp_all; done)
theorem eq_run {e : EqT} {a b : AV} {r : Bool} {t : TypeId} (he : eqTs P 20 t = some e) (hg : P.eqGuardType P.depth t = false) (h : aeq e a b = some r)
    (hi : ∀ k n k' n', ¬ (a = .int k n ∧ b = .int k' n')) (hs : ∀ x y, ¬ (a = .str x ∧ b = .str y)) (x y : Operand) (w : World) :
    (do eqGuard .eql t x y (conc m ml a) (conc m ml b); binOp .eql t (conc m ml a) (conc m ml b) : Sem Value).run P w = .ok (.bool r) w ∧
    (do eqGuard .neq t x y (conc m ml a) (conc m ml b); binOp .neq t (conc m ml a) (conc m ml b) : Sem Value).run P w = .ok (.bool !r) w := by
 have key := aeq_all (P := P) 20 t e a b r 10000 he h (by omega) m ml w
 have g : ∀ op, (eqGuard op t x y (conc m ml a) (conc m ml b)).run P w = .ok () w := by
  intro op
  unfold aeq at h
  split at h
  all_goals first
   | (cases h; done)
   | (simp only [conc, eqGuard_at_bool, eqGuard_at_int, eqGuard_at_string, eqGuard_at_pointer, eqGuard_at_slice, eqGuard_at_map, eqGuard_at_func, eqGuard_at_nilFunc, Sem.run_pure]; done)
   | (rename_i c; cases c <;> simp only [conc, eqGuard_at_slice, Sem.run_pure]; done)
   | (simp only [conc]; exact run_eqGuard_agg w op t x y _ _ hg)
 have n1 : (∀ k a' k' b', ¬ (conc m ml a = .int k a' ∧ conc m ml b = .int k' b')) ∧ (∀ k a' k' b', ¬ (conc m ml a = .float k a' ∧ conc m ml b = .float k' b')) ∧
     (∀ k a' c k' b' d, ¬ (conc m ml a = .complex k a' c ∧ conc m ml b = .complex k' b' d)) ∧ (∀ a' b', ¬ (conc m ml a = .string a' ∧ conc m ml b = .string b')) := by
  unfold aeq at h
  split at h
  case h_1 => exact absurd ⟨rfl, rfl⟩ (hi _ _ _ _)
  case h_3 => exact absurd ⟨rfl, rfl⟩ (hs _ _)
  all_goals first
   | (cases h; done)
   | (simp [conc]; done)
   | (rename_i c; cases c <;> simp [conc]; done)
 obtain ⟨n1, n2, n3, n4⟩ := n1
 constructor
 · simp only [Sem.run_bind, g, Result.andThen_ok]
   rw [binOp_eql_of _ _ _ n1 n2 n3 n4]
   simp only [Op.equal, Op.maxDepth, Sem.run_bind, key, Result.andThen_ok, Sem.run_pure]
 · simp only [Sem.run_bind, g, Result.andThen_ok]
   rw [binOp_neq_of _ _ _ n1 n2 n3 n4]
   simp only [Op.equal, Op.maxDepth, Sem.run_bind, key, Result.andThen_ok, Sem.run_pure]
theorem bin_run {op : BinOp} {e : EqT} {a b v : AV} {t : TypeId} (he : op = .eql ∨ op = .neq → eqTs P 20 t = some e ∧ P.eqGuardType P.depth t = false) (h : binA op e a b = some v) (x y : Operand) (w : World) :
    (do eqGuard op t x y (conc m ml a) (conc m ml b); binOp op t (conc m ml a) (conc m ml b) : Sem Value).run P w = .ok (conc m ml v) w ∧ v.okP p := by
 unfold binA at h
 split at h
 · simp only [conc, eqGuard_at_int, pure_bind, binOp_shl, shiftOp] at h ⊢
   split at h
   · cases h
   · rename_i hb; cases h; simp [Op.shift, hb, conc, AV.okP]
 · simp only [conc, eqGuard_at_int, pure_bind, binOp_shr, shiftOp] at h ⊢
   split at h
   · cases h
   · rename_i hb; cases h; simp [Op.shift, hb, conc, AV.okP]
 · split at h
   · rename_i hk
     subst hk
     simp only [conc, eqGuard_at_int, pure_bind]
     exact intOp_run h t w
   · cases h
 · simp only [conc, eqGuard_at_string, pure_bind]
   exact strOp_run h t w
 · rename_i hni hns
   cases hr : aeq e a b with
   | none => simp [hr] at h
   | some r =>
    simp [hr] at h
    subst h
    obtain ⟨h1, h2⟩ := he (.inl rfl)
    exact ⟨by simpa only [conc] using (eq_run h1 h2 hr (fun k n k' n' ⟨e1, e2⟩ => hni _ _ _ _ e1 e2) (fun _ _ ⟨e1, e2⟩ => hns _ _ e1 e2) x y w).1, by simp [AV.okP]⟩
 · rename_i hni hns
   cases hr : aeq e a b with
   | none => simp [hr] at h
   | some r =>
    simp [hr] at h
    subst h
    obtain ⟨h1, h2⟩ := he (.inr rfl)
    exact ⟨by simpa only [conc] using (eq_run h1 h2 hr (fun k n k' n' ⟨e1, e2⟩ => hni _ _ _ _ e1 e2) (fun _ _ ⟨e1, e2⟩ => hns _ _ e1 e2) x y w).2, by simp [AV.okP]⟩
 · cases h
end
end Go.Wam
set_option linter.unusedVariables false
set_option linter.unusedSimpArgs false
namespace Go.Wam
inductive All2 {α β : Type} (R : α → β → Prop) : List α → List β → Prop
 | nil : All2 R [] []
 | cons {a b as bs} (h : R a b) (t : All2 R as bs) : All2 R (a :: as) (b :: bs)
section
variable {P : Program} {ρ : Operand → Value} {s : St} {m : Nat → Loc} {ml : Nat → Nat} {p : Nat → Nat → Prop} {L : Nat → Prop}
theorem wr_length {α : Type} (off : Nat) (vs cells : List α) (h : off + vs.length ≤ cells.length) : (wr off vs cells).length = cells.length := by
 simp [wr]; omega
theorem wr_map {α β : Type} (f : α → β) (off : Nat) (vs cells : List α) : (wr off vs cells).map f = wr off (vs.map f) (cells.map f) := by
 simp [wr]
theorem concL_wr (off : Nat) (vs cells : List AV) : concL m ml (wr off vs cells) = wr off (concL m ml vs) (concL m ml cells) := by
 simp [concL_eq, wr_map]
theorem wr_get {α : Type} (off : Nat) (vs cells : List α) (h : off + vs.length ≤ cells.length) (i : Nat) :
    (wr off vs cells)[i]? = if i < off then cells[i]? else if i < off + vs.length then vs[i - off]? else cells[i]? := by
 simp only [wr]
 rw [List.getElem?_append]
 have h1 : (List.take off cells).length = off := by simp; omega
 rw [h1]
 by_cases ha : i < off
 · simp [ha]
 · simp only [ha, if_false]
   rw [List.getElem?_append]
   by_cases hb : i - off < vs.length
   · have : i < off + vs.length := by omega
     simp [hb, this]
   · have : ¬ i < off + vs.length := by omega
     simp only [hb, this, if_false, List.getElem?_drop]
     congr 1; omega
theorem wr_okPL {off : Nat} {vs cells : List AV} (hv : AV.okPL p vs) (hc : AV.okPL p cells) : AV.okPL p (wr off vs cells) := by
 rw [okPL_iff] at *
 intro v h
 simp only [wr, List.mem_append] at h
 rcases h with h | h | h
 · exact hc v (List.mem_of_mem_take h)
 · exact hv v h
 · exact hc v (List.mem_of_mem_drop h)
theorem wr_one {off : Nat} {vs cells : List AV} (hv : vs.all AV.one = true) (hc : cells.all AV.one = true) : (wr off vs cells).all AV.one = true := by
 rw [List.all_eq_true] at *
 intro v h
 simp only [wr, List.mem_append] at h
 rcases h with h | h | h
 · exact hc v (List.mem_of_mem_take h)
 · exact hv v h
 · exact hc v (List.mem_of_mem_drop h)
theorem conc_cells (v : AV) : (conc m ml v).cells.toList = concL m ml v.cells := by
 cases v <;> simp [conc, Value.cells, AV.cells, concL]
theorem cells_ok {v : AV} (h : v.okP p) (hl : v.noL = true) : AV.okPL p v.cells ∧ v.cells.all AV.one = true := by
 cases v <;> simp_all [AV.cells, AV.okPL, AV.okP, AV.one, AV.noL]
theorem foldl_set (vs : List Value) : ∀ (k off : Nat) (cs : Array Value), off + k + vs.length ≤ cs.size →
    ((vs.zipIdx k).foldl (fun (cs : Array Value) (x : Value × Nat) => cs.setIfInBounds (off + x.2) x.1) cs).toList = wr (off + k) vs cs.toList := by
 induction vs with
 | nil => intro k off cs h; simp [wr]
 | cons v vs ih =>
  intro k off cs h
  simp only [List.zipIdx_cons, List.foldl_cons]
  simp only [List.length_cons] at h
  rw [ih (k + 1) off _ (by simp; omega)]
  apply List.ext_getElem?
  intro i
  rw [wr_get _ _ _ (by simp; omega), wr_get _ _ _ (by simp; omega)]
  simp only [Array.toList_setIfInBounds, List.getElem?_set, List.length_cons]
  by_cases h1 : i < off + k
  · have h2 : i < off + (k + 1) := by omega
    have h3 : ¬ off + k = i := by omega
    simp [h1, h2, h3]
  · by_cases h2 : i = off + k
    · subst h2
      have : off + k < off + (k + 1) := by omega
      simp [this]; omega
    · have h3 : ¬ i < off + (k + 1) := by omega
      have h4 : ¬ off + k = i := by omega
      simp only [h1, h3, h4, if_false]
      have e : i - (off + k) = (i - (off + (k + 1))) + 1 := by omega
      rw [e, List.getElem?_cons_succ]
      have : (i < off + (k + 1) + vs.length) = (i < off + k + (vs.length + 1)) := by rw [eq_iff_iff]; omega
      simp [this]
theorem fill_conc {place : Nat → Option (Nat × Nat)} {env : List (Nat × AV)} : ∀ (cps : List (Nat × Operand)) (q : List (Nat × Nat × Opd)) (cells r : List AV),
    (∀ i x, (i, x) ∈ cps → OpR ρ env m ml p L x) →
    (All2 (fun (c : Nat × Operand) (a : Nat × Nat × Opd) => place c.1 = some (a.1, a.2.1) ∧ opd c.2 = some a.2.2) cps q) →
    fillA env q cells = some r → AV.okPL p cells → cells.all AV.one = true →
    Instr.fill place (concL m ml cells).toArray (cps.map fun c => (c.1, ρ c.2)) = some (concL m ml r).toArray ∧ AV.okPL p r ∧ r.all AV.one = true := by
 intro cps
 induction cps with
 | nil =>
  intro q cells r hρ hf h hok h1
  cases hf
  simp [fillA] at h; subst h
  simp [Instr.fill, hok, h1]
 | cons c cps ih =>
  intro q cells r hρ hf h hok h1
  cases hf with
  | cons ha hr =>
   rename_i a q'
   obtain ⟨i, x⟩ := c
   obtain ⟨off, sz, y⟩ := a
   obtain ⟨hp, hy⟩ := ha
   simp only at hp hy
   simp only [fillA] at h
   split at h
   · rename_i v hv
     split at h
     · rename_i hc
       simp only [Bool.and_eq_true, decide_eq_true_eq] at hc
       obtain ⟨⟨hl, hsz⟩, hle⟩ := hc
       obtain ⟨e1, e2⟩ := hρ i x (by simp) y v hy hv
       obtain ⟨o1, o2⟩ := cells_ok (e2.noL hl) hl
       have hcs : (conc m ml v).cells.size = sz := by rw [← Array.length_toList, conc_cells, concL_eq, List.length_map, hsz]
       simp only [List.map_cons, Instr.fill, hp, e1]
       rw [if_neg (by simp [hcs, concL_eq]; omega)]
       have hset : (conc m ml v).cells.zipIdx.foldl (fun (cs : Array Value) (x : Value × Nat) => cs.setIfInBounds (off + x.2) x.1) (concL m ml cells).toArray = (concL m ml (wr off v.cells cells)).toArray := by
        apply Array.ext'
        rw [← Array.foldl_toList, Array.toList_zipIdx, conc_cells]
        have := foldl_set (concL m ml v.cells) 0 off (concL m ml cells).toArray (by simp [concL_eq, hsz]; omega)
        simp only [Nat.add_zero] at this
        rw [this, concL_wr]
       have := ih q' (wr off v.cells cells) r (fun j z hz => hρ j z (by simp [hz])) hr h (wr_okPL o1 hok) (wr_one o2 h1)
       rw [← hset] at this
       exact this
     · cases h
   · cases h
theorem partsA_spec {sz : Nat} : ∀ (cps : List (Nat × Operand)) (q : List (Nat × Nat × Opd)), partsA sz cps = some q →
    All2 (fun (c : Nat × Operand) (a : Nat × Nat × Opd) => (fun i => some (i * sz, sz)) c.1 = some (a.1, a.2.1) ∧ opd c.2 = some a.2.2) cps q := by
 intro cps
 induction cps with
 | nil => intro q h; simp [partsA] at h; subst h; exact .nil
 | cons c cps ih =>
  intro q h
  obtain ⟨i, x⟩ := c
  simp only [partsA] at h
  split at h
  · rename_i y r h1 h2
    cases h
    exact .cons ⟨rfl, h1⟩ (ih _ h2)
  · cases h
theorem partsS_spec {ps : List (Nat × Nat)} : ∀ (cps : List (Nat × Operand)) (q : List (Nat × Nat × Opd)), partsS ps cps = some q →
    All2 (fun (c : Nat × Operand) (a : Nat × Nat × Opd) => (fun (i : Nat) => ps.toArray[i]?) c.1 = some (a.1, a.2.1) ∧ opd c.2 = some a.2.2) cps q := by
 intro cps
 induction cps with
 | nil => intro q h; simp [partsS] at h; subst h; exact .nil
 | cons c cps ih =>
  intro q h
  obtain ⟨i, x⟩ := c
  simp only [partsS] at h
  split at h
  · rename_i off s y r h1 h2 h3
    cases h
    exact .cons ⟨by simp [h1], h2⟩ (ih _ h3)
  · cases h
theorem places_run : ∀ (fs : List Field) (ps : List (Nat × Nat)), places P fs = some ps → ∀ w,
    (fs.mapM fun f => do pure (f.offset, ← sizeOf f.type) : Sem (List (Nat × Nat))).run P w = .ok ps w := by
 intro fs
 induction fs with
 | nil => intro ps h w; simp [places] at h; subst h; simp
 | cons f fs ih =>
  intro ps h w
  simp only [places] at h
  split at h
  · rename_i s r h1 h2
    cases h
    simp only [List.mapM_cons, Sem.run_bind, szT_run h1, Result.andThen_ok, Sem.run_pure, ih _ h2]
  · cases h
theorem build_run {t : TypeId} {cps : Array (Nat × Operand)} {z : List AV} {q : List (Nat × Nat × Opd)} {r : List AV} (hρ : ∀ x ∈ (Op.build t cps).operands, OpR ρ s.env m ml p L x)
    (hc : compOp P [] none (.build t cps) = some (.build z q)) (h : fillA s.env q z = some r) (w : World) :
    (Instr.build t (cps.map fun c => (c.1, ρ c.2))).run P w = .ok (.agg (concL m ml r).toArray) w ∧ AV.okPL p r ∧ r.all AV.one = true := by
 have hρ' : ∀ i x, (i, x) ∈ cps.toList → OpR ρ s.env m ml p L x := fun i x hx => hρ x (by simp [Op.operands]; exact ⟨i, by simpa using hx⟩)
 simp only [compOp] at hc
 split at hc
 · rename_i fs hu
   split at hc
   · rename_i ps hps
     obtain ⟨z', q', hz, hq, he⟩ := opt2_some hc
     cases he
     obtain ⟨⟨zv, hz1, hz2⟩, hz3, hz4⟩ := zeroT_run hz m ml p
     obtain ⟨f1, f2, f3⟩ := fill_conc (place := fun i => ps.toArray[i]?) cps.toList q z r hρ' (partsS_spec _ _ hq) h hz3 hz4
     refine ⟨?_, f2, f3⟩
     have hm : (fs.mapM fun f => do pure (f.offset, ← sizeOf f.type) : Sem (Array (Nat × Nat))).run P w = .ok ps.toArray w := by
      rw [Array.mapM_eq_mapM_toList]
      simp only [Sem.run_map, places_run _ _ hps, Result.andThen_ok]
     have hzc : zv.cells = (concL m ml z).toArray := by apply Array.ext'; simpa using hz2
     simp only [Instr.build, Sem.run_bind, hz1, Result.andThen_ok, run_underlying hu, hm, Array.toList_map, hzc]
     rw [f1]
     rfl
   · cases hc
 · rename_i n e hu
   split at hc
   · rename_i sz hs
     obtain ⟨z', q', hz, hq, he⟩ := opt2_some hc
     cases he
     obtain ⟨⟨zv, hz1, hz2⟩, hz3, hz4⟩ := zeroT_run hz m ml p
     obtain ⟨f1, f2, f3⟩ := fill_conc (place := fun i => some (i * sz, sz)) cps.toList q z r hρ' (partsA_spec _ _ hq) h hz3 hz4
     refine ⟨?_, f2, f3⟩
     have hzc : zv.cells = (concL m ml z).toArray := by apply Array.ext'; simpa using hz2
     simp only [Instr.build, Sem.run_bind, hz1, Result.andThen_ok, run_underlying hu, szT_run hs, Array.toList_map, hzc]
     rw [f1]
     rfl
   · cases hc
 · cases hc
theorem un_run {op : UnOp} {a v : AV} (h : unA op a = some v) (w : World) : (Op.unary op (conc m ml a)).run P w = .ok (conc m ml v) w ∧ v.okP p := by
 unfold unA at h
 split at h
 · simp only [intOp] at h; cases h; simp [Op.unary, conc, Op.intArith, AV.okP]
 · simp only [bitsOp] at h; cases h; simp [Op.unary, conc, Op.intBits, AV.okP]
 · cases h; simp [Op.unary, conc, AV.okP]
 · cases h
theorem bound_run {k : IntKind} {n : Int} {y : Nat} (c : BoundsCode) (h0 : 0 ≤ n) (h : n.toNat ≤ y) (w : World) : (Instr.sliceBound (.int k n) y c).run P w = .ok n.toNat w := by
 simp only [Instr.sliceBound, asIntOf, pure_bind]
 rw [if_pos ⟨h0, by omega⟩]
 rfl
theorem optInt_run {env : List (Nat × AV)} {x : Operand} {y : Opd} {d n : Nat} (hy : opd x = some y) (h : optInt env d (some y) = some n) (hρ : OpR ρ env m ml p L x) :
    ∃ k, ∃ i : Int, ρ x = .int k i ∧ 0 ≤ i ∧ i.toNat = n := by
 simp only [optInt] at h
 split at h
 · rename_i k i hv
   split at h
   · rename_i h0
     cases h
     exact ⟨k, i, by simpa [conc] using (hρ _ _ hy hv).1, h0, rfl⟩
   · cases h
 · cases h
theorem bounds_run {env : List (Nat × AV)} {lo hi mx : Option Operand} {l' h' m' : Option Opd} {l : Nat} {h mm : Option Nat} (hl : opdO lo = some l') (hh : opdO hi = some h') (hm : opdO mx = some m')
    (e1 : optInt env 0 l' = some l)
    (e2 : optIntO env h' = some h)
    (e3 : optIntO env m' = some mm)
    (r1 : ∀ x, lo = some x → OpR ρ env m ml p L x) (r2 : ∀ x, hi = some x → OpR ρ env m ml p L x) (r3 : ∀ x, mx = some x → OpR ρ env m ml p L x)
    (b : Bool) (len cap : Nat) (c : inB len cap l h mm = true) (w : World) :
    (Instr.sliceBounds b len cap (lo.map ρ) (hi.map ρ) (mx.map ρ)).run P w = .ok (l, h.getD len, mm.getD cap) w := by
 have hmx : (mx.map ρ = none ∧ mm = none) ∨ ∃ k, ∃ i : Int, mx.map ρ = some (.int k i) ∧ 0 ≤ i ∧ mm = some i.toNat := by
  cases mx with
  | none => simp [opdO] at hm; subst hm; simp [optIntO] at e3; exact .inl ⟨rfl, e3.symm⟩
  | some x =>
   cases hx : opd x with
   | none => simp [opdO, hx] at hm
   | some y =>
    simp [opdO, hx] at hm; subst hm
    cases ho : optInt env 0 (some y) with
    | none => simp [optIntO, ho] at e3
    | some n =>
     simp [optIntO, ho] at e3
     obtain ⟨k, i, a, b, c⟩ := optInt_run hx ho (r3 x rfl)
     exact .inr ⟨k, i, by simp [a], b, by rw [c]; exact e3.symm⟩
 have hhi : (hi.map ρ = none ∧ h = none) ∨ ∃ k, ∃ i : Int, hi.map ρ = some (.int k i) ∧ 0 ≤ i ∧ h = some i.toNat := by
  cases hi with
  | none => simp [opdO] at hh; subst hh; simp [optIntO] at e2; exact .inl ⟨rfl, e2.symm⟩
  | some x =>
   cases hx : opd x with
   | none => simp [opdO, hx] at hh
   | some y =>
    simp [opdO, hx] at hh; subst hh
    cases ho : optInt env 0 (some y) with
    | none => simp [optIntO, ho] at e2
    | some n =>
     simp [optIntO, ho] at e2
     obtain ⟨k, i, a, b, c⟩ := optInt_run hx ho (r2 x rfl)
     exact .inr ⟨k, i, by simp [a], b, by rw [c]; exact e2.symm⟩
 have hlo : (lo.map ρ = none ∧ l = 0) ∨ ∃ k, ∃ i : Int, lo.map ρ = some (.int k i) ∧ 0 ≤ i ∧ l = i.toNat := by
  cases lo with
  | none => simp [opdO] at hl; subst hl; simp [optInt] at e1; exact .inl ⟨rfl, e1.symm⟩
  | some x =>
   cases hx : opd x with
   | none => simp [opdO, hx] at hl
   | some y =>
    simp [opdO, hx] at hl; subst hl
    obtain ⟨k, i, a, b, c⟩ := optInt_run hx e1 (r1 x rfl)
    exact .inr ⟨k, i, by simp [a], b, c.symm⟩
 simp only [inB, Bool.and_eq_true, decide_eq_true_eq, Bool.or_eq_true, Bool.not_eq_true'] at c
 obtain ⟨c1, c2, c3, c4⟩ := c
 rcases hmx with ⟨a1, rfl⟩ | ⟨km, im, a1, a2, rfl⟩ <;> rcases hhi with ⟨b1, rfl⟩ | ⟨kh, ih, b1, b2, rfl⟩ <;> rcases hlo with ⟨d1, rfl⟩ | ⟨kl, il, d1, d2, rfl⟩
 all_goals (try (simp at c4; done))
 all_goals simp only [Option.getD_some, Option.getD_none] at *
 all_goals rw [a1, b1, d1]
 all_goals simp only [Instr.sliceBounds, Sem.run_bind, Sem.run_pure, Result.andThen_ok]
 all_goals first
  | rfl
  | rw [bound_run _ (by assumption) (by assumption)]
 all_goals simp only [Result.andThen_ok]
 all_goals first
  | rfl
  | rw [bound_run _ (by assumption) (by assumption)]
 all_goals simp only [Result.andThen_ok]
 all_goals first
  | rfl
  | rw [bound_run _ (by assumption) (by assumption)]
 all_goals simp only [Result.andThen_ok]
theorem Loc.at_add (l : Loc) (off n : Nat) : (l.at off).add n = l.at (off + n) := by
 unfold Addr.add Loc.at
 split
 · subst_vars; simp
 · simp; omega
theorem bsize (l : List UInt8) : (⟨l.toArray⟩ : ByteArray).size = l.length := rfl
theorem extract_mk (a : List UInt8) (l h : Nat) : (⟨a.toArray⟩ : ByteArray).extract l h = ⟨((a.drop l).take (h - l)).toArray⟩ := by
 apply ByteArray.ext
 simp [ByteArray.data_extract, List.extract_eq_take_drop]
theorem inB_le {len cap cap' l : Nat} {h mm : Option Nat} (hc : cap ≤ cap') (hm : mm.isSome = true) (hb : inB len cap l h mm = true) : inB len cap' l h mm = true := by
 cases mm with
 | none => simp at hm
 | some m => simp [inB] at hb ⊢; exact ⟨by omega, hb.2.1, hb.2.2.1, hb.2.2.2⟩
theorem inB_le' {len cap cap' l : Nat} {h : Option Nat} (hc : cap ≤ cap') (hb : inB len cap l h none = true) : inB len cap' l h none = true := by
 simp [inB] at hb ⊢; omega
theorem sliceA_run {t : TypeId} {k : SlKind} {env : List (Nat × AV)} {lo hi mx : Option Operand} {l' h' m' : Option Opd} {x v : AV} {l : Nat} {h mm : Option Nat} (hk : slKind P t = some k)
    (hl : opdO lo = some l') (hh : opdO hi = some h') (hm : opdO mx = some m')
    (e1 : optInt env 0 l' = some l) (e2 : optIntO env h' = some h) (e3 : optIntO env m' = some mm)
    (r1 : ∀ x, lo = some x → OpR ρ env m ml p L x) (r2 : ∀ x, hi = some x → OpR ρ env m ml p L x) (r3 : ∀ x, mx = some x → OpR ρ env m ml p L x)
    (hp : ∀ i k, p i k → k ≤ (m i).room ∧ ∀ j, j ≤ (m i).room → p i j) (hx : vOk p L x) (hs : sliceA k x l h mm = some v) (w : World) :
    (Instr.sliceAt t (conc m ml x) (lo.map ρ) (hi.map ρ) (mx.map ρ)).run P w = .ok (conc m ml v) w ∧ vOk p L v := by
 have B := fun b len cap c => bounds_run (ρ := ρ) (P := P) (m := m) (ml := ml) (p := p) (L := L) hl hh hm e1 e2 e3 r1 r2 r3 b len cap c w
 cases k with
 | str =>
  have hu : P.underlying t = some .string := by
   unfold slKind at hk
   split at hk
   · assumption
   · rename_i e he; cases hq : pszT P e <;> simp [hq] at hk
   · rename_i n e he; cases hq : pszT P e <;> simp [hq] at hk
   · cases hk
  cases x <;> simp only [sliceA] at hs <;> try (cases hs; done)
  rename_i s
  split at hs
  · rename_i hc
    cases hs
    simp only [Bool.and_eq_true, Bool.not_eq_true', Option.isSome_eq_false_iff, Option.isNone_iff_eq_none] at hc
    obtain ⟨rfl, hc⟩ := hc
    have hmx : mx = none := by
     cases mx with
     | none => rfl
     | some x =>
      cases hx : opd x with
      | none => simp [opdO, hx] at hm
      | some y =>
       simp [opdO, hx] at hm; subst hm
       cases ho : optInt env 0 (some y) <;> simp [optIntO, ho] at e3
    subst hmx
    have := B false s.length s.length hc
    simp only [Option.map_none, Option.getD_none] at this
    simp only [Instr.sliceAt, Instr.slice, Sem.run_bind, run_underlying hu, Result.andThen_ok, conc, Option.map_none, Option.isSome_none, Bool.false_eq_true, if_false, pure_bind, Sem.run_pure, ByteArray.size, List.size_toArray, this, extract_mk]
    exact ⟨trivial, .of (by simp [AV.okP])⟩
  · cases hs
 | slice sz =>
  obtain ⟨e, hu, hsz⟩ : ∃ e, P.underlying t = some (.slice e) ∧ pszT P e = some sz := by
   unfold slKind at hk
   split at hk
   · cases hk
   · rename_i e he; cases hq : pszT P e <;> simp [hq] at hk; exact ⟨e, he, by rw [hq, hk]⟩
   · rename_i n e he; cases hq : pszT P e <;> simp [hq] at hk
   · cases hk
  obtain ⟨hsz, hnz⟩ := pszT_szT hsz
  have R : ∀ (a : Option Addr) (len cap : Nat), inB len cap l h mm = true → (Instr.sliceAt t (.slice a len cap) (lo.map ρ) (hi.map ρ) (mx.map ρ)).run P w =
      .ok (.slice (if mm.getD cap = l then a else a.map (·.add (l * sz))) (h.getD len - l) (mm.getD cap - l)) w := by
   intro a len cap hb
   simp only [Instr.sliceAt, Instr.slice, Sem.run_bind, run_underlying hu, Result.andThen_ok, B _ _ _ hb, szT_run hsz, Sem.run_pure]
  cases x <;> simp only [sliceA] at hs <;> try (cases hs; done)
  ·
   split at hs
   · rename_i hc
     cases hs
     simp only [conc]
     rw [R none 0 0 hc]
     simp only [inB, Bool.and_eq_true, decide_eq_true_eq] at hc
     refine ⟨?_, .of (by simp [AV.okP])⟩
     have h1 : h.getD 0 - l = 0 := by omega
     have h2 : mm.getD 0 - l = 0 := by omega
     simp [h1, h2]
   · cases hs
  ·
   rename_i id off len c
   split at hs
   · rename_i hc
     cases hs
     simp only [conc]
     rw [R _ len c hc]
     refine ⟨?_, ?_⟩
     · split <;> simp [Loc.at_add]
     · have := hx.noL rfl; exact .of (by simp only [AV.okP] at this ⊢; exact this)
   · cases hs
  ·
   rename_i id off len kc z
   split at hs
   · cases hs
   · rename_i hz
     simp only [ne_eq, Decidable.not_not] at hz
     subst hz
     have hg := hx.noL rfl
     simp only [AV.okP] at hg
     obtain ⟨hr, hg'⟩ := hp _ _ hg
     have hmx : kc * z ≤ max len kc * z := Nat.mul_le_mul_right _ (Nat.le_max_right _ _)
     have hle : kc ≤ ((m id).room - off) / z := (Nat.le_div_iff_mul_le (by omega)).2 (by omega)
     split at hs
     · rename_i mv
       split at hs
       · rename_i hc
         cases hs
         simp only [conc]
         rw [R _ len _ (inB_le hle rfl hc)]
         refine ⟨?_, .of (by simp only [AV.okP]; exact hg' 0 (Nat.zero_le _))⟩
         simp only [Option.getD_some]
         split <;> simp [Loc.at_add]
       · cases hs
     · split at hs
       · rename_i hc
         simp only [conc]
         rw [R _ len _ (inB_le' hle hc)]
         simp only [inB, Bool.and_eq_true, decide_eq_true_eq, Option.getD_none] at hc
         split at hs
         · rename_i hlt
           cases hs
           have hle2 : l * z ≤ kc * z := Nat.mul_le_mul_right _ (by omega)
           have hadd : l * z + (max (h.getD len - l) (kc - l)) * z = kc * z := by rw [← Nat.add_mul]; congr 1; omega
           refine ⟨?_, .of (by simp only [AV.okP]; exact hg' _ (by omega))⟩
           rw [if_neg (by simp only [Option.getD_none]; omega)]
           simp only [Option.map_some, Loc.at_add, conc, Option.getD_none]
           congr 2
           rw [Nat.sub_add_eq, Nat.mul_comm l z, Nat.sub_mul_div]
         · rename_i hlt
           cases hs
           have hl1 : l = kc := by omega
           subst hl1
           refine ⟨?_, .of (by simp only [AV.okP]; exact hg' _ (by omega))⟩
           have h0 : h.getD len - l = 0 := by omega
           simp only [conc, Option.getD_none, h0]
           split <;> simp [Loc.at_add]
       · cases hs
  ·
   rename_i id off l0 z
   split at hs
   · rename_i hc
     cases hs
     simp only [Bool.and_eq_true, Bool.not_eq_true', Option.isSome_eq_false_iff, Option.isNone_iff_eq_none] at hc
     obtain ⟨rfl, hc⟩ := hc
     simp only [conc]
     rw [R _ 0 _ (inB_le' (Nat.zero_le _) hc)]
     simp only [inB, Bool.and_eq_true, decide_eq_true_eq, Option.getD_none] at hc
     have hl0 : l = 0 := by omega
     have h0 : h.getD 0 - l = 0 := by omega
     subst hl0
     refine ⟨?_, hx⟩
     simp [Addr.add, h0]
   · cases hs
  ·
   split at hs
   · rename_i hc
     cases hs
     simp only [conc]
     rw [R _ 0 0 hc]
     simp only [inB, Bool.and_eq_true, decide_eq_true_eq] at hc
     refine ⟨?_, hx⟩
     have h1 : h.getD 0 - l = 0 := by omega
     have h2 : mm.getD 0 - l = 0 := by omega
     rw [if_pos (by omega), h1, h2]
   · cases hs
 | arr n sz =>
  obtain ⟨e, hu, hsz⟩ : ∃ e, P.underlying t = some (.array n e) ∧ pszT P e = some sz := by
   unfold slKind at hk
   split at hk
   · cases hk
   · rename_i e he; cases hq : pszT P e <;> simp [hq] at hk
   · rename_i n' e he; cases hq : pszT P e <;> simp [hq] at hk; obtain ⟨rfl, rfl⟩ := hk; exact ⟨e, he, hq⟩
   · cases hk
  obtain ⟨hsz, hnz⟩ := pszT_szT hsz
  cases x <;> simp only [sliceA] at hs <;> try (cases hs; done)
  rename_i id off
  split at hs
  · rename_i hc
    cases hs
    simp only [Instr.sliceAt, Sem.run_bind, run_underlying hu, Result.andThen_ok, conc, Instr.sureAddr, Sem.run_pure, B _ _ _ hc, szT_run hsz]
    refine ⟨?_, ?_⟩
    · split <;> simp [Loc.at_add]
    · have := hx.noL rfl; exact .of (by simp only [AV.okP] at this ⊢; exact this)
  · cases hs
theorem max2_run {a b v : AV} (h : max2A a b = some v) (w : World) : (Builtin.max2 (conc m ml a) (conc m ml b)).run P w = .ok (conc m ml v) w ∧ v.okP p := by
 unfold max2A at h
 split at h
 · cases h; simp [Builtin.max2, conc, AV.okP]
 · cases h
   simp only [conc, Builtin.max2, Op.stringOp, toList_mk, bytesLess_eq, asBool, pure_bind, AV.okP]
   exact ⟨by split <;> simp_all, trivial⟩
 · cases h
theorem min2_run {a b v : AV} (h : min2A a b = some v) (w : World) : (Builtin.min2 (conc m ml a) (conc m ml b)).run P w = .ok (conc m ml v) w ∧ v.okP p := by
 unfold min2A at h
 split at h
 · cases h; simp [Builtin.min2, conc, AV.okP]
 · cases h
   simp only [conc, Builtin.min2, Op.stringOp, toList_mk, bytesLess_eq, asBool, pure_bind, AV.okP]
   exact ⟨by split <;> simp_all, trivial⟩
 · cases h
theorem fold_run {f : AV → AV → Option AV} {g : Value → Value → Sem Value} (hf : ∀ a b v, f a b = some v → ∀ w, (g (conc m ml a) (conc m ml b)).run P w = .ok (conc m ml v) w ∧ v.okP p) :
    ∀ (vs : List AV) (x v : AV), vOk p L x → foldA f x vs = some v → ∀ w, ((concL m ml vs).foldlM g (conc m ml x)).run P w = .ok (conc m ml v) w ∧ vOk p L v := by
 intro vs
 induction vs with
 | nil => intro x v hx h w; simp [foldA] at h; subst h; simp [concL, hx]
 | cons y vs ih =>
  intro x v hx h w
  simp only [foldA] at h
  split at h
  · rename_i z hz
    obtain ⟨h1, h2⟩ := hf _ _ _ hz w
    simp only [concL, List.foldlM_cons, Sem.run_bind, h1, Result.andThen_ok]
    exact ih z v (.of h2) h w
  · cases h
theorem nilI_run {t : TypeId} {ms : _} (hu : P.underlying t = some (.interface ms)) (x : Operand) (A : Value) (r : Bool) (hA : (A = .nilIface ∧ r = true) ∨ (∃ u v, A = .iface u v ∧ r = false)) (w : World) :
    (do eqGuard .eql t x (.const .nilIface) A .nilIface; binOp .eql t A .nilIface : Sem Value).run P w = .ok (.bool r) w ∧
    (do eqGuard .neq t x (.const .nilIface) A .nilIface; binOp .neq t A .nilIface : Sem Value).run P w = .ok (.bool !r) w := by
 have key : (Op.equal t A .nilIface).run P w = .ok r w := by
  have d : Op.maxDepth = 9999 + 1 := rfl
  unfold Op.equal
  rw [d]
  generalize 9999 = d
  rcases hA with ⟨rfl, rfl⟩ | ⟨u, v, rfl, rfl⟩ <;> simp only [Op.equalIn, Sem.run_bind, run_underlying hu, Result.andThen_ok, Sem.run_pure]
 have g : ∀ op, (eqGuard op t x (.const .nilIface) A .nilIface).run P w = .ok () w := by
  intro op
  rcases hA with ⟨rfl, _⟩ | ⟨u, v, rfl, _⟩ <;> cases op <;> simp [eqGuard]
 have n : (∀ k a k' b, ¬ (A = .int k a ∧ Value.nilIface = .int k' b)) ∧ (∀ k a k' b, ¬ (A = .float k a ∧ Value.nilIface = .float k' b)) ∧ (∀ k a c k' b d, ¬ (A = .complex k a c ∧ Value.nilIface = .complex k' b d)) ∧ (∀ a b, ¬ (A = .string a ∧ Value.nilIface = .string b)) := by simp
 constructor
 · simp only [Sem.run_bind, g, Result.andThen_ok]
   rw [binOp_eql_of _ _ _ n.1 n.2.1 n.2.2.1 n.2.2.2]
   simp only [Sem.run_bind, key, Result.andThen_ok, Sem.run_pure]
 · simp only [Sem.run_bind, g, Result.andThen_ok]
   rw [binOp_neq_of _ _ _ n.1 n.2.1 n.2.2.1 n.2.2.2]
   simp only [Sem.run_bind, key, Result.andThen_ok, Sem.run_pure]
theorem comp_bin {locals : List Nat} {dst : Option Nat} {op : BinOp} {t yt : TypeId} {x y : Operand} {io : IOp} (hc : compOp P locals dst (.binOp op t x y yt) = some io) :
    (∃ e a b, io = .bin op e a b ∧ opd x = some a ∧ opd y = some b ∧ (op = .eql ∨ op = .neq → eqTs P 20 t = some e ∧ P.eqGuardType P.depth t = false)) ∨
    (∃ neg a, io = .isNilI neg a ∧ opd x = some a ∧ y = .const .nilIface ∧ ∃ ms, P.underlying t = some (.interface ms) ∧ ((op = .eql ∧ neg = false) ∨ (op = .neq ∧ neg = true))) ∨
    (∃ neg a b, io = .ptrEq neg (.tmp a) (.tmp b) ∧ opd x = some (.tmp a) ∧ opd y = some (.tmp b) ∧ ∃ e, P.underlying t = some (.pointer e) ∧ (∃ k, szT P e = some (k + 1)) ∧ ((op = .eql ∧ neg = false) ∨ (op = .neq ∧ neg = true))) := by
 simp only [compOp] at hc
 split at hc
 · split at hc
   · rename_i ms hu
     rw [Option.map_eq_some_iff] at hc
     obtain ⟨a, h1, rfl⟩ := hc
     exact .inr (.inl ⟨_, a, rfl, h1, rfl, ms, hu, .inl ⟨rfl, rfl⟩⟩)
   · rename_i e a b hu
     split at hc
     · rename_i k hk; cases hc; exact .inr (.inr ⟨_, a, b, rfl, rfl, rfl, e, hu, ⟨k, hk⟩, .inl ⟨rfl, rfl⟩⟩)
     · cases hc
   · split at hc
     · cases hc
     · rename_i hg
       split at hc
       · rename_i e a b h1 h2 h3; cases hc; exact .inl ⟨e, a, b, rfl, h2, h3, fun _ => ⟨h1, by simpa using hg⟩⟩
       · cases hc
 · split at hc
   · rename_i ms hu
     rw [Option.map_eq_some_iff] at hc
     obtain ⟨a, h1, rfl⟩ := hc
     exact .inr (.inl ⟨_, a, rfl, h1, rfl, ms, hu, .inr ⟨rfl, rfl⟩⟩)
   · rename_i e a b hu
     split at hc
     · rename_i k hk; cases hc; exact .inr (.inr ⟨_, a, b, rfl, rfl, rfl, e, hu, ⟨k, hk⟩, .inr ⟨rfl, rfl⟩⟩)
     · cases hc
   · split at hc
     · cases hc
     · rename_i hg
       split at hc
       · rename_i e a b h1 h2 h3; cases hc; exact .inl ⟨e, a, b, rfl, h2, h3, fun _ => ⟨h1, by simpa using hg⟩⟩
       · cases hc
 · rename_i n1 n2
   obtain ⟨a, b, h1, h2, h3⟩ := opt2_some hc
   cases h3
   exact .inl ⟨.none, a, b, rfl, h1, h2, fun h => by rcases h with h | h; exact absurd h n1; exact absurd h n2⟩
theorem run_pure {locals : List Nat} {dst : Option Nat} {o : Oper} {io : IOp} (hc : compOp P locals dst o.op = some io) (hcls : io.cls = .pure) {s' : St} {v : AV} (he : evOp dst s io = some (v, s'))
    (hρ : ∀ x ∈ o.op.operands, OpR ρ s.env m ml p L x) (hp : ∀ i k, p i k → k ≤ (m i).room ∧ ∀ j, j ≤ (m i).room → p i j) (w : World) :
    s' = s ∧ (execOp ρ o).run P w = .ok (.value (conc m ml v)) w ∧ vOk p L v := by
 obtain ⟨dst', op, type, pos, after, guard⟩ := o
 simp only at hc hρ
 cases op
 case move x | assign x =>
  simp only [compOp] at hc
  cases hx : opd x with
  | none => simp [hx] at hc
  | some y =>
   simp [hx] at hc; subst hc
   simp only [evOp] at he
   cases hv : y.ev s.env with
   | none => simp [hv] at he
   | some u =>
    simp [hv] at he; obtain ⟨rfl, rfl⟩ := he
    obtain ⟨e1, e2⟩ := hρ x (by simp [Op.operands]) _ _ hx hv
    exact ⟨rfl, by simp [execOp, e1], e2⟩
 case pick c a b =>
  simp only [compOp] at hc
  split at hc
  · rename_i c' a' b' hx ha hb
    cases hc
    simp only [evOp] at he
    split at he
    · rename_i hv
      obtain ⟨e1, e2⟩ := hρ c (by simp [Op.operands]) _ _ hx hv
      cases hu : a'.ev s.env with
      | none => simp [hu] at he
      | some u =>
       simp [hu] at he; obtain ⟨rfl, rfl⟩ := he
       obtain ⟨f1, f2⟩ := hρ a (by simp [Op.operands]) _ _ ha hu
       exact ⟨rfl, by simp [execOp, e1, conc, asBool, f1], f2⟩
    · rename_i hv
      obtain ⟨e1, e2⟩ := hρ c (by simp [Op.operands]) _ _ hx hv
      cases hu : b'.ev s.env with
      | none => simp [hu] at he
      | some u =>
       simp [hu] at he; obtain ⟨rfl, rfl⟩ := he
       obtain ⟨f1, f2⟩ := hρ b (by simp [Op.operands]) _ _ hb hu
       exact ⟨rfl, by simp [execOp, e1, conc, asBool, f1], f2⟩
    · cases he
  · cases hc
 case build t parts =>
  obtain ⟨z, q, rfl⟩ : ∃ z q, io = .build z q := by
   simp only [compOp] at hc
   split at hc
   · split at hc
     · obtain ⟨_, _, _, _, h⟩ := opt2_some hc; cases h; exact ⟨_, _, rfl⟩
     · cases hc
   · split at hc
     · obtain ⟨_, _, _, _, h⟩ := opt2_some hc; cases h; exact ⟨_, _, rfl⟩
     · cases hc
   · cases hc
  simp only [evOp] at he
  cases hf : fillA s.env q z with
  | none => simp [hf] at he
  | some r =>
   simp [hf] at he; obtain ⟨rfl, rfl⟩ := he
   obtain ⟨h1, h2, h3⟩ := build_run (P := P) (s := s) (ρ := ρ) (m := m) (ml := ml) (p := p) (L := L) hρ (by simpa [compOp] using hc) hf w
   refine ⟨rfl, ?_, .of ⟨h2, h3⟩⟩
   simp only [execOp, Sem.run_bind, h1, Result.andThen_ok, Sem.run_pure, conc]
 case nilCheck x =>
  simp only [compOp] at hc
  cases hx : opd x with
  | none => simp [hx] at hc
  | some y =>
   simp [hx] at hc; subst hc
   simp only [evOp] at he
   split at he <;> try (cases he; done)
   rename_i u n1 n2 n3 n4 hv
   cases he
   obtain ⟨e1, e2⟩ := hρ x (by simp [Op.operands]) _ _ hx hv
   refine ⟨rfl, ?_, e2⟩
   simp only [execOp, e1]
   cases v <;> simp_all [conc]
 case binOp op t x y yt =>
  rcases comp_bin hc with key | ⟨neg, a, rfl, h1, rfl, ms, hu, hop⟩ | ⟨neg, a, b, rfl, _⟩
  case inr.inr => simp [IOp.cls] at hcls
  case inr.inl =>
   simp only [evOp] at he
   obtain ⟨f1, _⟩ := hρ (.const .nilIface) (by simp [Op.operands]) (.const .nilIface) .nilIface rfl rfl
   simp only [conc] at f1
   split at he
   · rename_i hv
     cases he
     obtain ⟨e1, _⟩ := hρ x (by simp [Op.operands]) _ _ h1 hv
     obtain ⟨k1, k2⟩ := nilI_run (P := P) hu x .nilIface true (.inl ⟨rfl, rfl⟩) w
     refine ⟨rfl, ?_, .of (by simp [AV.okP])⟩
     simp only [conc] at e1 ⊢
     rcases hop with ⟨rfl, rfl⟩ | ⟨rfl, rfl⟩
     · simp only [execOp, e1, f1]; rw [Sem.run_bind, k1]; simp
     · simp only [execOp, e1, f1]; rw [Sem.run_bind, k2]; simp
   · rename_i tt u hv
     cases he
     obtain ⟨e1, _⟩ := hρ x (by simp [Op.operands]) _ _ h1 hv
     obtain ⟨k1, k2⟩ := nilI_run (P := P) hu x (conc m ml (.iface tt u)) false (.inr ⟨_, _, rfl, rfl⟩) w
     refine ⟨rfl, ?_, .of (by simp [AV.okP])⟩
     simp only [conc] at e1 k1 k2 ⊢
     rcases hop with ⟨rfl, rfl⟩ | ⟨rfl, rfl⟩
     · simp only [execOp, e1, f1]; rw [Sem.run_bind, k1]; simp
     · simp only [execOp, e1, f1]; rw [Sem.run_bind, k2]; simp
   · cases he
  obtain ⟨e, a, b, rfl, h1, h2, h3⟩ := key
  simp only [evOp] at he
  split at he
  · rename_i u v' hu hv
    cases hb : binA op e u v' with
    | none => simp [hb] at he
    | some r =>
     simp [hb] at he; obtain ⟨rfl, rfl⟩ := he
     obtain ⟨e1, _⟩ := hρ x (by simp [Op.operands]) _ _ h1 hu
     obtain ⟨f1, _⟩ := hρ y (by simp [Op.operands]) _ _ h2 hv
     obtain ⟨r1, r2⟩ := bin_run (P := P) (m := m) (ml := ml) (p := p) h3 hb x y w
     refine ⟨rfl, ?_, .of r2⟩
     simp only [execOp, e1, f1]
     rw [Sem.run_bind, r1]
     simp
  · cases he
 case unOp op t x =>
  simp only [compOp] at hc
  cases hx : opd x with
  | none => simp [hx] at hc
  | some y =>
   simp [hx] at hc; subst hc
   simp only [evOp] at he
   split at he
   · rename_i a hv
     cases hb : unA op a with
     | none => simp [hb] at he
     | some r =>
      simp [hb] at he; obtain ⟨rfl, rfl⟩ := he
      obtain ⟨e1, _⟩ := hρ x (by simp [Op.operands]) _ _ hx hv
      obtain ⟨r1, r2⟩ := un_run (P := P) (m := m) (ml := ml) (p := p) hb w
      exact ⟨rfl, by simp [execOp, e1, r1], .of r2⟩
   · cases he
 case convert sr d x =>
  simp only [compOp] at hc
  split at hc
  · rename_i k0 k y h1 h2 hx
    cases hc
    simp only [evOp] at he
    split at he <;> rename_i hq hv <;> first | (cases hq; done) | (cases he; done) | skip
    cases hq; cases he
    obtain ⟨e1, _⟩ := hρ x (by simp [Op.operands]) _ _ hx hv
    refine ⟨rfl, ?_, .of (by simp [AV.okP])⟩
    simp [execOp, e1, convert, run_underlying h1, run_underlying h2, conc, Conv.intToInt]
  · rename_i y h1 h2 hx
    cases hc
    simp only [evOp] at he
    split at he <;> rename_i hq hv <;> first | (cases hq; done) | (cases he; done) | skip
    cases he
    obtain ⟨e1, e2⟩ := hρ x (by simp [Op.operands]) _ _ hx hv
    refine ⟨rfl, ?_, e2⟩
    simp [execOp, e1, convert, run_underlying h1, run_underlying h2, conc]
  · split at hc <;> cases hc
    simp [IOp.cls] at hcls
  · split at hc <;> cases hc
    simp [IOp.cls] at hcls
  · split at hc <;> cases hc
    simp [IOp.cls] at hcls
  · cases hc
 case makeInterface t x =>
  simp only [compOp] at hc
  split at hc
  · cases hc
  · rename_i d y hn h1 hx
    cases hc
    simp only [evOp] at he
    split at he
    · rename_i u hv
      split at he
      · rename_i hl
        cases he
        obtain ⟨e1, e2⟩ := hρ x (by simp [Op.operands]) _ _ hx hv
        refine ⟨rfl, ?_, .of (by simp only [AV.okP]; exact e2.noL hl)⟩
        simp only [execOp, e1, Instr.makeInterface, Sem.run_bind, run_underlying h1, Result.andThen_ok, conc]
        cases d <;> simp_all
      · cases he
    · cases he
  · cases hc
 case makeFunc fn first captured =>
  simp only [compOp] at hc
  obtain ⟨a, b, h1, h2, h3⟩ := opt2_some hc
  cases h3
  simp only [evOp] at he
  split at he
  · rename_i va vb hva hvb
    split at he
    · rename_i hl
      cases he
      simp only [Bool.and_eq_true, allNoL, List.all_eq_true] at hl
      obtain ⟨e1, e2⟩ := opds_conc (m := m) (ml := ml) (p := p) (L := L) h1 hva (fun x hx => hρ x (by simp [Op.operands] at *; exact .inl hx))
      obtain ⟨f1, f2⟩ := opds_conc (m := m) (ml := ml) (p := p) (L := L) h2 hvb (fun x hx => hρ x (by simp [Op.operands] at *; exact .inr hx))
      refine ⟨rfl, ?_, .of ⟨(okPL_iff _ _).2 fun v hv => (e2 v hv).noL (hl.1 v hv), (okPL_iff _ _).2 fun v hv => (f2 v hv).noL (hl.2 v hv)⟩⟩
      have ea : first.map ρ = (concL m ml va).toArray := by apply Array.ext'; simp [e1]
      have eb : captured.map ρ = (concL m ml vb).toArray := by apply Array.ext'; simp [f1]
      simp only [execOp, Instr.makeFunc, conc, ea, eb, pure_bind, Sem.run_pure]
    · cases he
  · cases he
 case slice t x lo hi mx =>
  simp only [compOp] at hc
  split at hc
  · rename_i k y l' h' m' h1 hx hl hh hm
    cases hc
    simp only [evOp] at he
    split at he
    · rename_i u l hv e1
      split at he
      · rename_i h mm e2 e3
        cases hs : sliceA k u l h mm with
        | none => simp [hs] at he
        | some r =>
         simp [hs] at he; obtain ⟨rfl, rfl⟩ := he
         obtain ⟨f1, f2⟩ := hρ x (by simp [Op.operands]) _ _ hx hv
         obtain ⟨g1, g2⟩ := sliceA_run (P := P) h1 hl hh hm e1 e2 e3 (fun z hz => hρ z (by simp [Op.operands, hz])) (fun z hz => hρ z (by simp [Op.operands, hz])) (fun z hz => hρ z (by simp [Op.operands, hz])) hp f2 hs w
         exact ⟨rfl, by simp only [execOp, f1, Sem.run_bind, g1, Result.andThen_ok, Sem.run_pure], g2⟩
      · cases he
    · cases he
  · cases hc
 case fieldAddr t x f =>
  simp only [compOp] at hc
  split at hc
  · rename_i fs hu
    split at hc
    · rename_i fd hf
      obtain ⟨sz, y, h1, hx, h3⟩ := opt2_some hc
      cases h3
      obtain ⟨hsz, hnz⟩ := pszT_szT h1
      have run : ∀ a : Addr, (Instr.fieldAt t (.pointer (some a)) f).run P w = .ok (.pointer (some (a.add fd.offset))) w := by
       intro a
       simp only [Instr.fieldAt, Sem.run_bind, run_underlying hu, Result.andThen_ok, hf, Instr.sureAddr, Sem.run_pure, fieldPlace, szT_run hsz, if_neg hnz]
      simp only [evOp] at he
      split at he
      · rename_i id o hv
        cases he
        obtain ⟨e1, e2⟩ := hρ x (by simp [Op.operands]) _ _ hx hv
        refine ⟨rfl, ?_, ?_⟩
        · simp only [execOp, e1, conc, Sem.run_bind, run, Result.andThen_ok, Sem.run_pure, Loc.at_add]
        · have := e2.noL rfl; exact .of (by simp only [AV.okP] at this ⊢; exact this)
      · rename_i t' o hv
        cases he
        obtain ⟨e1, e2⟩ := hρ x (by simp [Op.operands]) _ _ hx hv
        refine ⟨rfl, ?_, .inr ⟨_, _, rfl, e2.isL⟩⟩
        simp only [execOp, e1, conc, Sem.run_bind, run, Result.andThen_ok, Sem.run_pure]
        unfold Addr.add; split <;> simp_all
      · cases he
    · cases hc
  · cases hc
 case field t x f =>
  simp only [compOp] at hc
  split at hc
  · rename_i fs hu
    split at hc
    · rename_i fd hf
      split at hc
      · rename_i g sz y h1 h2 hx
        cases hc
        simp only [evOp] at he
        split at he
        · rename_i cs hv
          cases hr : rd g sz fd.offset cs with
          | none => simp [hr] at he
          | some r =>
           simp [hr] at he; obtain ⟨rfl, rfl⟩ := he
           obtain ⟨e1, e2⟩ := hρ x (by simp [Op.operands]) _ _ hx hv
           have hok := e2.noL rfl
           simp only [AV.okP] at hok
           refine ⟨rfl, ?_, .of (rd_ok hr hok.1 hok.2)⟩
           simp only [execOp, e1, Instr.field, Sem.run_bind, run_underlying hu, Result.andThen_ok, hf, conc, asAgg, Sem.run_pure, rd_part h1 h2 hr]
        · cases he
      · cases hc
    · cases hc
  · cases hc
 case indexAddr t x i =>
  simp only [compOp] at hc
  split at hc
  · rename_i e hu
    split at hc
    · rename_i sz y j h1 hx hi
      cases hc
      obtain ⟨hsz, hnz⟩ := pszT_szT h1
      have run : ∀ (a : Addr) (len cap : Nat) (k : IntKind) (n : Int), 0 ≤ n → n < len → (Instr.indexAt t (.slice (some a) len cap) (.int k n)).run P w = .ok (.pointer (some (a.add (n.toNat * sz)))) w := by
       intro a len cap k n h0 hl
       simp only [Instr.indexAt, asIntOf, pure_bind, Sem.run_bind, run_underlying hu, Result.andThen_ok, Sem.run_pure]
       rw [if_pos ⟨h0, hl⟩]
       simp only [Sem.run_bind, szT_run hsz, Result.andThen_ok, Sem.run_pure]
      simp only [evOp] at he
      split at he
      · rename_i id off len c k n hv hn
        split at he
        · rename_i hlt
          cases he
          obtain ⟨e1, e2⟩ := hρ x (by simp [Op.operands]) _ _ hx hv
          obtain ⟨f1, _⟩ := hρ i (by simp [Op.operands]) _ _ hi hn
          refine ⟨rfl, ?_, ?_⟩
          · simp only [execOp, e1, f1, conc, Sem.run_bind, run _ _ _ _ _ hlt.1 hlt.2, Result.andThen_ok, Sem.run_pure, Loc.at_add]
          · have := e2.noL rfl; exact .of (by simp only [AV.okP] at this ⊢; exact this)
        · cases he
      · rename_i id off len c k n hv hn
        split at he
        · rename_i hlt
          cases he
          obtain ⟨e1, e2⟩ := hρ x (by simp [Op.operands]) _ _ hx hv
          obtain ⟨f1, _⟩ := hρ i (by simp [Op.operands]) _ _ hi hn
          refine ⟨rfl, ?_, ?_⟩
          · simp only [execOp, e1, f1, conc, Sem.run_bind, run _ _ _ _ _ hlt.1 hlt.2, Result.andThen_ok, Sem.run_pure, Loc.at_add]
          · have := e2.noL rfl; simp only [AV.okP] at this; exact .of (by simp only [AV.okP]; exact (hp _ _ this).2 0 (Nat.zero_le _))
        · cases he
      · cases he
    · cases hc
  · rename_i len e hu
    split at hc
    · rename_i sz y j h1 hx hi
      cases hc
      obtain ⟨hsz, hnz⟩ := pszT_szT h1
      have run : ∀ (a : Addr) (k : IntKind) (n : Int), 0 ≤ n → n < len → (Instr.indexAt t (.pointer (some a)) (.int k n)).run P w = .ok (.pointer (some (a.add (n.toNat * sz)))) w := by
       intro a k n h0 hl
       simp only [Instr.indexAt, asIntOf, pure_bind, Sem.run_bind, run_underlying hu, Result.andThen_ok, Sem.run_pure, Instr.sureAddr]
       rw [if_pos ⟨h0, hl⟩]
       simp only [Sem.run_bind, szT_run hsz, Result.andThen_ok, Sem.run_pure]
      simp only [evOp] at he
      split at he
      · rename_i id off k n hv hn
        split at he
        · rename_i hlt
          cases he
          obtain ⟨e1, e2⟩ := hρ x (by simp [Op.operands]) _ _ hx hv
          obtain ⟨f1, _⟩ := hρ i (by simp [Op.operands]) _ _ hi hn
          refine ⟨rfl, ?_, ?_⟩
          · simp only [execOp, e1, f1, conc, Sem.run_bind, run _ _ _ hlt.1 hlt.2, Result.andThen_ok, Sem.run_pure, Loc.at_add]
          · have := e2.noL rfl; exact .of (by simp only [AV.okP] at this ⊢; exact this)
        · cases he
      · rename_i t' off k n hv hn
        split at he
        · rename_i hlt
          cases he
          obtain ⟨e1, e2⟩ := hρ x (by simp [Op.operands]) _ _ hx hv
          obtain ⟨f1, _⟩ := hρ i (by simp [Op.operands]) _ _ hi hn
          refine ⟨rfl, ?_, .inr ⟨_, _, rfl, e2.isL⟩⟩
          simp only [execOp, e1, f1, conc, Sem.run_bind, run _ _ _ hlt.1 hlt.2, Result.andThen_ok, Sem.run_pure]
          unfold Addr.add; split <;> simp_all
        · cases he
      · cases he
    · cases hc
  · cases hc
 case index t x i =>
  simp only [compOp] at hc
  split at hc
  · rename_i hu
    obtain ⟨y, j, hx, hi, h3⟩ := opt2_some hc
    cases h3
    simp only [evOp] at he
    split at he
    · rename_i l k n hv hn
      split at he
      · rename_i h0
        cases hb : l[n.toNat]? with
        | none => simp [hb] at he
        | some b =>
         simp [hb] at he; obtain ⟨rfl, rfl⟩ := he
         obtain ⟨e1, _⟩ := hρ x (by simp [Op.operands]) _ _ hx hv
         obtain ⟨f1, _⟩ := hρ i (by simp [Op.operands]) _ _ hi hn
         refine ⟨rfl, ?_, .of (by simp [AV.okP])⟩
         have hg : (⟨l.toArray⟩ : ByteArray)[n.toNat]? = some b := by
          have hlt : n.toNat < l.length := (List.getElem?_eq_some_iff.1 hb).1
          have : n.toNat < (⟨l.toArray⟩ : ByteArray).size := by simpa [ByteArray.size] using hlt
          rw [getElem?_pos (⟨l.toArray⟩ : ByteArray) n.toNat this]
          congr 1
          exact (List.getElem?_eq_some_iff.1 hb).2
         simp only [execOp, e1, f1, conc, Instr.index, asIntOf, pure_bind, Sem.run_bind, run_underlying hu, Result.andThen_ok, if_pos h0, hg, Sem.run_pure]
      · cases he
    · cases he
  · rename_i n e hu
    split at hc
    · rename_i g sz y j h1 h2 h3
      cases hc
      obtain ⟨y', j', hx, hi, h4⟩ := opt2_some h3
      cases h4
      simp only [evOp] at he
      split at he
      · rename_i cs k i0 hv hn
        split at he
        · rename_i hlt
          cases hr : rd g sz (i0.toNat * sz) cs with
          | none => simp [hr] at he
          | some r =>
           simp [hr] at he; obtain ⟨rfl, rfl⟩ := he
           obtain ⟨e1, e2⟩ := hρ x (by simp [Op.operands]) _ _ hx hv
           obtain ⟨f1, _⟩ := hρ i (by simp [Op.operands]) _ _ hi hn
           have hok := e2.noL rfl
           simp only [AV.okP] at hok
           refine ⟨rfl, ?_, .of (rd_ok hr hok.1 hok.2)⟩
           simp only [execOp, e1, f1, conc, Instr.index, asIntOf, pure_bind, Sem.run_bind, run_underlying hu, Result.andThen_ok]
           rw [if_pos hlt]
           simp only [Sem.run_bind, szT_run h2, Result.andThen_ok, rd_part h1 h2 hr, Sem.run_pure]
        · cases he
      · cases he
    · cases hc
  · cases hc
 case extract x i =>
  simp only [compOp] at hc
  cases hx : opd x with
  | none => simp [hx] at hc
  | some y =>
   simp [hx] at hc; subst hc
   simp only [evOp] at he
   split at he
   · rename_i vs hv
     cases hb : vs[i]? with
     | none => simp [hb] at he
     | some r =>
      simp [hb] at he; obtain ⟨rfl, rfl⟩ := he
      obtain ⟨e1, e2⟩ := hρ x (by simp [Op.operands]) _ _ hx hv
      rcases e2 with e2 | ⟨_, _, e2, _⟩
      · simp only [AV.okP, okPL_iff] at e2
        refine ⟨rfl, ?_, .of (e2 _ (List.mem_of_getElem? hb))⟩
        simp [execOp, e1, conc, Instr.extract, concL_eq, hb]
      · cases e2
   · cases he
 case call c =>
  obtain ⟨callee, args, argTypes⟩ := c
  cases callee with
  | value f =>
   simp only [compOp] at hc
   obtain ⟨_, _, _, _, h3⟩ := opt2_some hc
   cases h3
   simp [IOp.cls] at hcls
  | invoke r n => simp [compOp] at hc
  | builtin b =>
   simp only [compOp, compBuiltin] at hc
   split at hc
   · rename_i t x ha hx1
     have ha' : argTypes = #[t] := by apply Array.ext'; simpa using ha
     have hx' : args = #[x] := by apply Array.ext'; simpa using hx1
     subst ha' hx'
     have L : ∀ (y : Opd) (u : AV), opd x = some y → y.ev s.env = some u → ρ x = conc m ml u := fun y u h1 h2 => (hρ x (by simp [Op.operands, Call.operands]) _ _ h1 h2).1
     split at hc
     · rename_i y hu hx
       cases hc
       simp only [evOp] at he
       split at he <;> rename_i hq hv <;> first | (cases hq; done) | (cases he; done) | skip
       cases he
       refine ⟨rfl, ?_, .of (by simp [AV.okP])⟩
       simp [execOp, resolve, invoke, builtin, Builtin.len_, run_underlying hu, L _ _ hx hv, conc, goInt, bsize]
     · rename_i e y hu hx
       cases hc
       simp only [evOp] at he
       split at he <;> rename_i hq hv <;> first | (cases hq; done) | (cases he; done) | skip
       all_goals cases he
       all_goals refine ⟨rfl, ?_, .of (by simp [AV.okP])⟩
       all_goals simp [execOp, resolve, invoke, builtin, Builtin.len_, run_underlying hu, L _ _ hx hv, conc, goInt]
     · rename_i n e y hu hx
       cases hc
       simp only [evOp] at he
       split at he <;> rename_i hq hv <;> first | (cases hq; done) | (cases he; done) | skip
       cases hq
       cases he
       refine ⟨rfl, ?_, .of (by simp [AV.okP])⟩
       simp [execOp, resolve, invoke, builtin, Builtin.len_, run_underlying hu, goInt, conc]
     · cases hc; simp [IOp.cls] at hcls
     · cases hc
   · split at hc
     · split at hc
       · split at hc
         · cases hc
         · split at hc
           · split at hc
             · obtain ⟨_, _, _, _, h3⟩ := opt2_some hc; cases h3; simp [IOp.cls] at hcls
             · cases hc
           · obtain ⟨_, _, _, _, h3⟩ := opt2_some hc; cases h3; simp [IOp.cls] at hcls
       · cases hc
     · cases hc
   · split at hc
     · split at hc
       · split at hc
         · cases hc; simp [IOp.cls] at hcls
         · cases hc
       · cases hc
     · cases hc
   · rename_i t x ha hx1
     have ha' : argTypes = #[t] := by apply Array.ext'; simpa using ha
     have hx' : args = #[x] := by apply Array.ext'; simpa using hx1
     subst ha' hx'
     split at hc
     · rename_i e y hu hx
       cases hc
       simp only [evOp] at he
       split at he <;> (try (cases he; done))
       all_goals rename_i hv
       all_goals cases he
       all_goals obtain ⟨e1, _⟩ := hρ x (by simp [Op.operands, Call.operands]) _ _ hx hv
       all_goals refine ⟨rfl, ?_, .of (by simp [AV.okP])⟩
       all_goals simp [execOp, resolve, invoke, builtin, Builtin.cap_, run_underlying hu, e1, conc, goInt]
     · cases hc
   · split at hc
     · split at hc
       · obtain ⟨_, _, _, _, h3⟩ := opt2_some hc; cases h3; simp [IOp.cls] at hcls
       · cases hc
     · cases hc
   · rename_i x r hx1
     obtain ⟨a, b, h1, h2, h3⟩ := opt2_some hc
     cases h3
     have hx' : args = (x :: r).toArray := by apply Array.ext'; simpa using hx1
     subst hx'
     simp only [evOp] at he
     split at he
     · rename_i u us hu hus
       cases hb : foldA max2A u us with
       | none => simp [hb] at he
       | some z =>
        simp [hb] at he; obtain ⟨rfl, rfl⟩ := he
        obtain ⟨e1, e2⟩ := hρ x (by simp [Op.operands, Call.operands]) _ _ h1 hu
        obtain ⟨f1, _⟩ := opds_conc (m := m) (ml := ml) (p := p) (L := L) h2 hus (fun y hy => hρ y (by simp [Op.operands, Call.operands, hy]))
        obtain ⟨g1, g2⟩ := fold_run (P := P) (m := m) (ml := ml) (p := p) (L := L) (g := Builtin.max2) (fun a b v h w => max2_run h w) us u _ e2 hb w
        refine ⟨rfl, ?_, g2⟩
        simp only [execOp, resolve, List.map_toArray, List.map_cons, e1, f1, invoke, builtin, Builtin.max_, pure_bind, Sem.run_bind, g1, Result.andThen_ok, Sem.run_pure]
     · cases he
   · rename_i x r hx1
     obtain ⟨a, b, h1, h2, h3⟩ := opt2_some hc
     cases h3
     have hx' : args = (x :: r).toArray := by apply Array.ext'; simpa using hx1
     subst hx'
     simp only [evOp] at he
     split at he
     · rename_i u us hu hus
       cases hb : foldA min2A u us with
       | none => simp [hb] at he
       | some z =>
        simp [hb] at he; obtain ⟨rfl, rfl⟩ := he
        obtain ⟨e1, e2⟩ := hρ x (by simp [Op.operands, Call.operands]) _ _ h1 hu
        obtain ⟨f1, _⟩ := opds_conc (m := m) (ml := ml) (p := p) (L := L) h2 hus (fun y hy => hρ y (by simp [Op.operands, Call.operands, hy]))
        obtain ⟨g1, g2⟩ := fold_run (P := P) (m := m) (ml := ml) (p := p) (L := L) (g := Builtin.min2) (fun a b v h w => min2_run h w) us u _ e2 hb w
        refine ⟨rfl, ?_, g2⟩
        simp only [execOp, resolve, List.map_toArray, List.map_cons, e1, f1, invoke, builtin, Builtin.min_, pure_bind, Sem.run_bind, g1, Result.andThen_ok, Sem.run_pure]
     · cases he
   · (repeat' (split at hc)) <;> cases hc
     simp [IOp.cls] at hcls
   · cases hc
 case alloc e =>
  simp only [compOp] at hc
  obtain ⟨_, _, _, _, h⟩ := opt2_some hc; cases h; simp [IOp.cls] at hcls
 case box e x =>
  simp only [compOp] at hc
  obtain ⟨_, _, _, _, h⟩ := opt2_some hc; cases h; simp [IOp.cls] at hcls
 case buildSlice t n parts =>
  simp only [compOp] at hc
  split at hc
  · split at hc
    · split at hc
      · cases hc
      · split at hc
        · obtain ⟨_, _, _, _, h⟩ := opt2_some hc; cases h; simp [IOp.cls] at hcls
        · cases hc
    · cases hc
  · cases hc
 case load t a =>
  simp only [compOp] at hc
  split at hc
  · cases hc; simp [IOp.cls] at hcls
  · cases hc
 case store t a x =>
  simp only [compOp] at hc
  split at hc
  · cases hc; simp [IOp.cls] at hcls
  · cases hc
 case makeMap t r =>
  cases r <;> simp only [compOp] at hc <;> cases hc
  simp [IOp.cls] at hcls
 case makeSlice t a b =>
  simp only [compOp] at hc
  split at hc
  · split at hc
    · split at hc
      · obtain ⟨_, _, _, _, h⟩ := opt2_some hc; cases h; simp [IOp.cls] at hcls
      · cases hc
    · cases hc
  · cases hc
 case range t x =>
  simp only [compOp] at hc
  split at hc
  · rw [Option.map_eq_some_iff] at hc; obtain ⟨_, _, rfl⟩ := hc; simp [IOp.cls] at hcls
  · rw [Option.map_eq_some_iff] at hc; obtain ⟨_, _, rfl⟩ := hc; simp [IOp.cls] at hcls
  · cases hc
 case next x b =>
  cases b <;> simp only [compOp] at hc
  · rw [Option.map_eq_some_iff] at hc; obtain ⟨_, _, rfl⟩ := hc; simp [IOp.cls] at hcls
  · rw [Option.map_eq_some_iff] at hc; obtain ⟨_, _, rfl⟩ := hc; simp [IOp.cls] at hcls
 case entry x =>
  simp only [compOp] at hc
  rw [Option.map_eq_some_iff] at hc; obtain ⟨_, _, rfl⟩ := hc; simp [IOp.cls] at hcls
 case mapEntry t x k =>
  simp only [compOp] at hc
  (repeat' (split at hc)) <;> cases hc
  simp [IOp.cls] at hcls
 case entryStore t x k v =>
  simp only [compOp] at hc
  (repeat' (split at hc)) <;> cases hc
  simp [IOp.cls] at hcls
 case defer c =>
  obtain ⟨callee, args, argTypes⟩ := c
  cases callee <;> simp only [compOp] at hc <;> first | (cases hc; done) | (obtain ⟨_, _, _, _, h3⟩ := opt2_some hc; cases h3; simp [IOp.cls] at hcls)
 case lookup t x k ok =>
  simp only [compOp] at hc
  (repeat' (split at hc)) <;> cases hc
  simp [IOp.cls] at hcls
 case mapUpdate t x k v | insert t x k v =>
  simp only [compOp] at hc
  (repeat' (split at hc)) <;> cases hc
  simp [IOp.cls] at hcls
 case panic x => simp only [compOp] at hc; cases hc; simp [IOp.cls] at hcls
 all_goals (simp only [compOp] at hc; cases hc; done)
end
end Go.Wam
set_option linter.unusedVariables false
set_option linter.unusedSimpArgs false
namespace Go.Wam
structure Pushed (w w' : World) (o : Obj) : Prop where
 heap : w'.heap = w.heap.push o
 os : w'.os = w.os
 tape : w'.tape = w.tape
 output : w'.output = w.output
theorem Pushed.old {w w' : World} {o : Obj} (h : Pushed w w' o) {b : Nat} (hb : b < w.heap.size) : w'.heap[b]? = w.heap[b]? := by
 rw [h.heap, Array.getElem?_push]
 simp [Nat.ne_of_lt hb]
theorem Pushed.new {w w' : World} {o : Obj} (h : Pushed w w' o) : w'.heap[w.heap.size]? = some o := by
 rw [h.heap, Array.getElem?_push]; simp
theorem Pushed.size {w w' : World} {o : Obj} (h : Pushed w w' o) : w'.heap.size = w.heap.size + 1 := by
 rw [h.heap, Array.size_push]
theorem lt_of_some {w : World} {b : Nat} {o : Obj} (h : w.heap[b]? = some o) : b < w.heap.size := (Array.getElem?_eq_some_iff.1 h).1
theorem Unfrozen.congr {st : Bool} {w w' : World} {b : Nat} {arr : Array Value} (h : Unfrozen st w b arr) (e : w'.heap[b]? = w.heap[b]?) : Unfrozen st w' b arr := by
 obtain ⟨ty, fr, h1, h2⟩ := h
 exact ⟨ty, fr, by rw [e, h1], h2⟩
theorem Unfrozen.lt {st : Bool} {w : World} {b : Nat} {arr : Array Value} (h : Unfrozen st w b arr) : b < w.heap.size := by
 obtain ⟨ty, fr, h1, _⟩ := h; exact lt_of_some h1
theorem cell_at {w : World} {b o : Nat} : w.cell? ⟨b, o, none⟩ = match w.heap[b]? with | some (.cells c _ _) => c[o]? | _ => none := by
 unfold World.cell?
 simp only [Option.isSome_none, Bool.false_eq_true, if_false]
 split <;> simp_all
theorem cell_congr {w w' : World} {b o : Nat} (e : w'.heap[b]? = w.heap[b]?) : w'.cell? ⟨b, o, none⟩ = w.cell? ⟨b, o, none⟩ := by
 rw [cell_at, cell_at, e]
theorem Unfrozen.cell {st : Bool} {w : World} {b : Nat} {arr : Array Value} (h : Unfrozen st w b arr) (o : Nat) : w.cell? ⟨b, o, none⟩ = arr[o]? := by
 obtain ⟨ty, fr, h1, _⟩ := h
 rw [cell_at, h1]
theorem AObj.dead_of {o : AObj} (h : ¬ (o.owned = true ∨ o.isRo = true)) : o = .dead := by
 cases o with
 | row ro _ _ => cases ro <;> simp [AObj.owned, AObj.isRo] at h
 | dead => rfl
 | _ => simp [AObj.owned] at h
theorem MapAt.rename {m m' : Nat → Loc} {ml ml' : Nat → Nat} {p : Nat → Nat → Prop} {ces : Array MapEntry} {es : List ME} {c : Nat} (h : MapAt m ml ces es c) (hm : ∀ i k, p i k → m' i = m i) (ho : ∀ e ∈ es, e.1.okP p ∧ e.2.1.okP p) : MapAt m' ml' ces es c := by
 obtain ⟨h1, h2, h3, h4⟩ := h
 refine ⟨?_, h2, h3, ?_⟩
 · rw [show (es.map fun e => (conc m' ml' e.1, conc m' ml' e.2.1, e.2.2)) = es.map fun e => (conc m ml e.1, conc m ml e.2.1, e.2.2) from List.map_congr_left fun e he => by rw [conc_congr ml ml' hm _ (ho e he).1, conc_congr ml ml' hm _ (ho e he).2]]
   exact h1
 · rw [show (es.map fun e => conc m' ml' e.1) = es.map fun e => conc m ml e.1 from List.map_congr_left fun e he => by rw [conc_congr ml ml' hm _ (ho e he).1]]
   exact h4
section
variable {P : Program}
theorem ObjAt.congr {m : Nat → Loc} {ml : Nat → Nat} {w w' : World} {l : Loc} {o : AObj} (h : ObjAt P m ml w l o) (e : w'.heap[l.block]? = w.heap[l.block]?) : ObjAt P m ml w' l o := by
 cases o with
 | row ro sz cells =>
  cases ro
  · obtain ⟨arr, h1, h2, h3, h4⟩ := h
    exact ⟨arr, h1.congr e, h2, h3, h4⟩
  · obtain ⟨h1, ⟨o, h2⟩, h3⟩ := h
    exact ⟨h1, ⟨o, by rw [e, h2]⟩, fun i v hi => by rw [← h3 i v hi]; exact cell_congr e⟩
 | map es clock => obtain ⟨ces, h1, h2⟩ := h; exact ⟨ces, by rw [e, h1], h2⟩
 | siter s pos => exact ⟨by rw [e, h.1], h.2⟩
 | miter a b c d => exact ⟨by rw [e, h.1], h.2⟩
 | loop st pend env ps ia ib => obtain ⟨r, h1, h2⟩ := h; exact ⟨r, by rw [e, h1], h2⟩
 | dfd => exact (show w'.heap[l.block]? = _ by rw [e]; exact h)
 | dead => trivial
theorem ObjAt.rename {m m' : Nat → Loc} {ml ml' : Nat → Nat} {w : World} {l : Loc} {o : AObj} {p : Nat → Nat → Prop} (h : ObjAt P m ml w l o) (hm : ∀ i k, p i k → m' i = m i) (ho : o.okP p) : ObjAt P m' ml' w l o := by
 cases o with
 | row ro sz cells =>
  obtain ⟨ho, _⟩ := ho
  have key : ∀ v ∈ cells, conc m' ml' v = conc m ml v := fun v hv => conc_congr ml ml' hm v ((okPL_iff _ _).1 ho v hv)
  cases ro
  · obtain ⟨arr, h1, h2, h3, h4⟩ := h
    exact ⟨arr, h1, h2, h3, fun i v hi => by rw [key v (List.mem_of_getElem? hi)]; exact h4 i v hi⟩
  · obtain ⟨h1, h2, h3⟩ := h
    exact ⟨h1, h2, fun i v hi => by rw [key v (List.mem_of_getElem? hi)]; exact h3 i v hi⟩
 | map es clock => obtain ⟨ces, h1, h2⟩ := h; exact ⟨ces, h1, h2.rename hm ho⟩
 | siter s pos => exact h
 | miter a b c d =>
  cases a with
  | none => exact h
  | some i => exact ⟨by rw [h.1]; simp only [Option.map_some, hm i 0 ho], h.2⟩
 | loop st pend env ps ia ib =>
  obtain ⟨r, h1, h2, h3, h4, h5⟩ := h
  exact ⟨r, h1, h2, h3, fun t v hv => by rw [conc_congr ml ml' hm v (ho t v hv)]; exact h4 t v hv, h5⟩
 | dfd => exact h
 | dead => trivial
theorem LocAt.congr {m : Nat → Loc} {ml : Nat → Nat} {w w' : World} {b : Nat} {cells : List AV} (h : LocAt m ml w b cells) (e : w'.heap[b]? = w.heap[b]?) : LocAt m ml w' b cells := by
 obtain ⟨arr, h1, h2⟩ := h
 exact ⟨arr, h1.congr e, h2⟩
theorem LocAt.rename {m m' : Nat → Loc} {ml ml' : Nat → Nat} {w : World} {b : Nat} {cells : List AV} {p : Nat → Nat → Prop} (h : LocAt m ml w b cells) (hm : ∀ i k, p i k → m' i = m i) (ho : AV.okPL p cells) : LocAt m' ml' w b cells := by
 obtain ⟨arr, h1, h2⟩ := h
 exact ⟨arr, h1, by rw [h2, concL_congr ml ml' hm cells ho]⟩
def UsedB (m : Nat → Loc) (ml : Nat → Nat) (loc : List (Nat × List AV)) (H : AHeap) (b : Nat) : Prop :=
 (∃ id, (Owned H id ∨ IsRo H id) ∧ (m id).block = b) ∨ (∃ t c, look t loc = some c ∧ ml t = b)
theorem ObjAt.lt {m : Nat → Loc} {ml : Nat → Nat} {w : World} {l : Loc} {o : AObj} (h : ObjAt P m ml w l o) (ho : o.owned = true ∨ o.isRo = true) : l.block < w.heap.size := by
 cases o with
 | row ro sz cells =>
  cases ro
  · obtain ⟨arr, h1, _⟩ := h; exact h1.lt
  · obtain ⟨_, ⟨o, h2⟩, _⟩ := h; exact lt_of_some h2
 | map es => obtain ⟨ces, h1, _⟩ := h; exact lt_of_some h1
 | siter s pos => exact lt_of_some h.1
 | miter a b c d => exact lt_of_some h.1
 | loop st pend env ps ia ib => obtain ⟨r, h1, _⟩ := h; exact lt_of_some h1
 | dfd => exact lt_of_some h
 | dead => simp [AObj.owned, AObj.isRo] at ho
end
section
variable {P : Program} {m m' : Nat → Loc} {ml ml' : Nat → Nat} {loc : List (Nat × List AV)} {H : AHeap} {w w' : World}
theorem Sim.used_lt (S : Sim P m ml loc H w) {b : Nat} (h : UsedB m ml loc H b) : b < w.heap.size := by
 rcases h with ⟨id, ho, rfl⟩ | ⟨t, c, ht, rfl⟩
 · rcases ho with ⟨o, h1, h2⟩ | ⟨o, h1, h2⟩
   · exact (S.obj id o h1).lt (.inl h2)
   · exact (S.obj id o h1).lt (.inr h2)
 · obtain ⟨arr, h1, _⟩ := S.locs t c ht
   exact h1.lt
theorem Sim.frame (S : Sim P m ml loc H w) (h : ∀ b, UsedB m ml loc H b → w'.heap[b]? = w.heap[b]?) : Sim P m ml loc H w' where
 wf := S.wf
 obj := fun id o ho => by
  by_cases hu : o.owned = true ∨ o.isRo = true
  · refine (S.obj id o ho).congr (h _ (.inl ⟨id, ?_, rfl⟩))
    rcases hu with hu | hu
    · exact .inl ⟨o, ho, hu⟩
    · exact .inr ⟨o, ho, hu⟩
  · cases AObj.dead_of hu; trivial
 ok := S.ok
 inj := S.inj
 sep := S.sep
 locs := fun t c ht => (S.locs t c ht).congr (h _ (.inr ⟨t, c, ht, rfl⟩))
 locok := S.locok
 locinj := S.locinj
 locsep := S.locsep
 base := S.base
theorem AObj.okP_mono {p q : Nat → Nat → Prop} (h : ∀ i k, p i k → q i k) {o : AObj} (ho : o.okP p) : o.okP q := by
 cases o with
 | row ro sz cells => exact ⟨okPL_mono h _ ho.1, ho.2⟩
 | map es => exact fun e he => ⟨Go.Wam.okP_mono h _ (ho e he).1, Go.Wam.okP_mono h _ (ho e he).2⟩
 | siter s pos => trivial
 | miter a b c d => cases a with | none => trivial | some i => exact h i 0 ho
 | loop st pend env ps ia ib => exact fun t v hv => Go.Wam.okP_mono h v (ho t v hv)
 | dfd => trivial
 | dead => trivial
theorem Sim.rename (S : Sim P m ml loc H w) (hm : ∀ i, i < H.n → m' i = m i) (hl : ∀ t c, look t loc = some c → ml' t = ml t) : Sim P m' ml' loc H w where
 wf := S.wf
 obj := fun id o ho => by
  rw [hm id (AHeap.get_lt ho S.wf)]
  exact (S.obj id o ho).rename (fun i k hi => hm i hi.1) (S.ok id o ho)
 ok := fun id o ho => by
  have := S.ok id o ho
  have hg : ∀ i k, good m H.n i k → good m' H.n i k := fun i k ⟨a, b⟩ => ⟨a, by rw [hm i a]; exact b⟩
  exact AObj.okP_mono hg this
 inj := fun i j hi hj he => S.inj i j hi hj (by rw [← hm i (hi.lt S.wf), ← hm j (hj.lt S.wf)]; exact he)
 sep := fun i j hi hj => by
  obtain ⟨o, ho, _⟩ := hj
  rw [hm i (hi.lt S.wf), hm j (AHeap.get_lt ho S.wf)]
  exact S.sep i j hi ⟨o, ho, by assumption⟩
 locs := fun t c ht => by
  rw [hl t c ht]
  exact (S.locs t c ht).rename (fun i k hi => hm i hi.1) (S.locok t c ht).1
 locok := fun t c ht => ⟨okPL_mono (fun i k ⟨a, b⟩ => ⟨a, by rw [hm i a]; exact b⟩) _ (S.locok t c ht).1, (S.locok t c ht).2⟩
 locinj := fun t u c d ht hu he => S.locinj t u c d ht hu (by rw [← hl t c ht, ← hl u d hu]; exact he)
 locsep := fun t c i ht hi => by
  rw [hl t c ht]
  have hlt : i < H.n := by
   rcases hi with hi | ⟨o, ho, _⟩
   · exact hi.lt S.wf
   · exact AHeap.get_lt ho S.wf
  rw [hm i hlt]
  exact S.locsep t c i ht hi
 base := fun id c h hl => by rw [hm id (AHeap.get_lt h S.wf)]; exact S.base id c h hl
theorem Owned.alloc_iff {H : AHeap} (hw : H.wf) (o : AObj) (i : Nat) : Owned (H.alloc o) i ↔ (i = H.n ∧ o.owned = true) ∨ Owned H i := by
 unfold Owned
 simp only [AHeap.get_alloc]
 by_cases h : i = H.n
 · subst h
   simp only [if_true, Option.some.injEq, exists_eq_left', true_and]
   constructor
   · exact .inl
   · rintro (h | ⟨o', h1, _⟩)
     · exact h
     · have := AHeap.get_lt h1 hw; omega
 · simp [h]
theorem IsRo.alloc_iff {H : AHeap} (hw : H.wf) (o : AObj) (i : Nat) : IsRo (H.alloc o) i ↔ (i = H.n ∧ o.isRo = true) ∨ IsRo H i := by
 unfold IsRo
 simp only [AHeap.get_alloc]
 by_cases h : i = H.n
 · subst h
   simp only [if_true, Option.some.injEq, exists_eq_left', true_and]
   constructor
   · exact .inl
   · rintro (h | ⟨o', h1, _⟩)
     · exact h
     · have := AHeap.get_lt h1 hw; omega
 · simp [h]
theorem IsRo.lt {H : AHeap} {id : Nat} (h : IsRo H id) (hw : H.wf) : id < H.n := let ⟨_, h, _⟩ := h; AHeap.get_lt h hw
def upd {α : Type} (f : Nat → α) (i : Nat) (x : α) : Nat → α := fun j => if j = i then x else f j
@[simp] theorem upd_same {α : Type} (f : Nat → α) (i : Nat) (x : α) : upd f i x i = x := by simp [upd]
theorem upd_ne {α : Type} (f : Nat → α) {i j : Nat} (x : α) (h : j ≠ i) : upd f i x j = f j := by simp [upd, h]
theorem Sim.add_obj (S : Sim P m ml loc H w) {o : AObj} {l : Loc} (ho : ObjAt P m ml w l o) (hok : o.okP (good m H.n)) (hb : ∀ b, UsedB m ml loc H b → b ≠ l.block) (hro : o.isRo = false)
    (hb0 : ∀ c, o = .row false 1 c → c.length ≤ 1 → l.base = 0 := by first | exact fun _ _ _ => rfl | (intro _ h; cases h; done)) :
    Sim P (upd m H.n l) ml loc (H.alloc o) w := by
 have S' : Sim P (upd m H.n l) ml loc H w := S.rename (fun i hi => upd_ne _ _ (by omega)) (fun _ _ _ => rfl)
 have hg : ∀ i k, good m H.n i k → good (upd m H.n l) (H.alloc o).n i k := fun i k ⟨a, b⟩ => ⟨by simp; omega, by rw [upd_ne _ _ (by omega)]; exact b⟩
 have hg' : ∀ i k, good (upd m H.n l) H.n i k → good (upd m H.n l) (H.alloc o).n i k := fun i k ⟨a, b⟩ => ⟨by simp; omega, b⟩
 refine { wf := AHeap.wf_alloc S.wf, obj := ?_, ok := ?_, inj := ?_, sep := ?_, locs := S'.locs, locok := fun t c ht => ⟨okPL_mono hg' _ (S'.locok t c ht).1, (S'.locok t c ht).2⟩, locinj := S.locinj, locsep := ?_, base := fun id c h hcl => ?_ }
 · intro id x hx
   rw [AHeap.get_alloc] at hx
   split at hx
   · rename_i h; cases hx; subst h; simp only [upd_same]
     exact ho.rename (fun i k hi => upd_ne _ _ (by have := hi.1; omega)) hok
   · exact S'.obj id x hx
 · intro id x hx
   rw [AHeap.get_alloc] at hx
   split at hx
   · cases hx; exact AObj.okP_mono hg hok
   · exact AObj.okP_mono hg' (S'.ok id x hx)
 · intro i j hi hj he
   rw [Owned.alloc_iff S.wf] at hi hj
   rcases hi with ⟨rfl, _⟩ | hi <;> rcases hj with ⟨rfl, _⟩ | hj
   · rfl
   · rw [upd_same, upd_ne _ _ (Nat.ne_of_lt (hj.lt S.wf))] at he
     exact absurd he.symm (hb _ (.inl ⟨j, .inl hj, rfl⟩))
   · rw [upd_same, upd_ne _ _ (Nat.ne_of_lt (hi.lt S.wf))] at he
     exact absurd he (hb _ (.inl ⟨i, .inl hi, rfl⟩))
   · exact S'.inj i j hi hj he
 · intro i j hi hj
   rw [Owned.alloc_iff S.wf] at hi
   rw [IsRo.alloc_iff S.wf] at hj
   rcases hj with ⟨_, hj⟩ | hj
   · rw [hro] at hj; cases hj
   · rcases hi with ⟨rfl, _⟩ | hi
     · rw [upd_same, upd_ne _ _ (Nat.ne_of_lt (hj.lt S.wf))]
       exact fun e => hb _ (.inl ⟨j, .inr hj, rfl⟩) e.symm
     · exact S'.sep i j hi hj
 · intro t c i ht hi
   rw [Owned.alloc_iff S.wf, IsRo.alloc_iff S.wf] at hi
   have : (i = H.n) ∨ (Owned H i ∨ IsRo H i) := by
    rcases hi with (⟨h, _⟩ | h) | (⟨h, _⟩ | h)
    · exact .inl h
    · exact .inr (.inl h)
    · exact .inl h
    · exact .inr (.inr h)
   rcases this with rfl | h
   · rw [upd_same]
     exact fun e => hb _ (.inr ⟨t, c, ht, rfl⟩) e.symm
   · exact S'.locsep t c i ht h
 · rw [AHeap.get_alloc] at h
   split at h
   · rename_i e; subst e; rw [upd_same]; exact hb0 c (Option.some.inj h) hcl
   · exact S'.base id c h hcl
theorem Sim.add_loc (S : Sim P m ml loc H w) {t : Nat} {cells : List AV} {b : Nat} (ho : LocAt m ml w b cells) (hok : AV.okPL (good m H.n) cells) (h1 : cells.all AV.one = true) (hb : ∀ x, UsedB m ml loc H x → x ≠ b) :
    Sim P m (upd ml t b) ((t, cells) :: loc) H w := by
 have hl : ∀ u c, look u ((t, cells) :: loc) = some c → (u = t ∧ c = cells) ∨ (u ≠ t ∧ look u loc = some c) := by
  intro u c h
  simp only [look] at h
  split at h
  · rename_i e; cases h; exact .inl ⟨e.symm, rfl⟩
  · rename_i e; exact .inr ⟨fun x => e x.symm, h⟩
 refine { wf := S.wf, obj := fun id o h => ?_, ok := S.ok, inj := S.inj, sep := S.sep, locs := ?_, locok := ?_, locinj := ?_, locsep := ?_, base := S.base }
 · exact (S.obj id o h).rename (fun _ _ _ => rfl) (S.ok id o h)
 · intro u c h
   rcases hl u c h with ⟨rfl, rfl⟩ | ⟨hne, h⟩
   · rw [upd_same]; exact ho.rename (p := good m H.n) (fun _ _ _ => rfl) hok
   · rw [upd_ne _ _ hne]; exact (S.locs u c h).rename (p := good m H.n) (fun _ _ _ => rfl) (S.locok u c h).1
 · intro u c h
   rcases hl u c h with ⟨rfl, rfl⟩ | ⟨hne, h⟩
   · exact ⟨hok, h1⟩
   · exact S.locok u c h
 · intro u v c d hu hv he
   rcases hl u c hu with ⟨rfl, rfl⟩ | ⟨hne, hu1⟩ <;> rcases hl v d hv with ⟨rfl, rfl⟩ | ⟨hne', hv1⟩
   · rfl
   · rw [upd_same, upd_ne _ _ hne'] at he; exact absurd he.symm (hb _ (.inr ⟨v, d, hv1, rfl⟩))
   · rw [upd_same, upd_ne _ _ hne] at he; exact absurd he (hb _ (.inr ⟨u, c, hu1, rfl⟩))
   · rw [upd_ne _ _ hne, upd_ne _ _ hne'] at he; exact S.locinj u v c d hu1 hv1 he
 · intro u c i hu hi
   rcases hl u c hu with ⟨rfl, rfl⟩ | ⟨hne, hu⟩
   · rw [upd_same]; exact hb _ (.inl ⟨i, hi, rfl⟩)
   · rw [upd_ne _ _ hne]; exact S.locsep u c i hu hi
theorem wr_len {α : Type} {off : Nat} {vs cells : List α} (h : off + vs.length ≤ cells.length) : (wr off vs cells).length = cells.length := by
 simp only [wr, List.length_append, List.length_take, List.length_drop]; omega
theorem row_single {e off : Nat} {vs cells c : List AV} (h : AObj.row false e (wr off vs cells) = .row false 1 c) (hl : c.length ≤ 1) (hle : off + vs.length ≤ cells.length) : ∃ c', AObj.row false e cells = .row false 1 c' ∧ c'.length ≤ 1 := by
 injection h with _ h1 h2
 have := congrArg List.length h2
 rw [wr_len hle] at this
 subst h1
 exact ⟨cells, rfl, by omega⟩
theorem Sim.set_obj (S : Sim P m ml loc H w) {id : Nat} {o o' : AObj} (hid : H.get id = some o) (hown : o.owned = true) (ho : ObjAt P m ml w' (m id) o') (hok : o'.okP (good m H.n)) (hown' : o'.isRo = false)
    (hw : ∀ b, b ≠ (m id).block → w'.heap[b]? = w.heap[b]?)
    (hk : ∀ c, o' = .row false 1 c → c.length ≤ 1 → ∃ c', o = .row false 1 c' ∧ c'.length ≤ 1 := by first | (intro _ h; cases h; done) | exact fun _ h hl => row_single h hl (by first | omega | (simp only [List.length_cons, List.length_nil]; omega))) : Sim P m ml loc (H.set id o') w' := by
 have hlt := AHeap.get_lt hid S.wf
 have hO : Owned H id := ⟨o, hid, hown⟩
 have own : ∀ i, Owned (H.set id o') i → Owned H i := by
  rintro i ⟨x, hx, hxo⟩
  rw [AHeap.get_set S.wf hlt] at hx
  split at hx
  · rename_i h; subst h; exact hO
  · exact ⟨x, hx, hxo⟩
 have ro : ∀ i, IsRo (H.set id o') i → IsRo H i ∧ i ≠ id := by
  rintro i ⟨x, hx, hxo⟩
  rw [AHeap.get_set S.wf hlt] at hx
  split at hx
  · cases hx; rw [hown'] at hxo; cases hxo
  · exact ⟨⟨x, hx, hxo⟩, by assumption⟩
 refine { wf := AHeap.wf_set S.wf, obj := ?_, ok := ?_, inj := fun i j hi hj => S.inj i j (own i hi) (own j hj), sep := fun i j hi hj => S.sep i j (own i hi) (ro j hj).1, locs := ?_, locok := S.locok, locinj := S.locinj,
          locsep := fun t c i ht hi => S.locsep t c i ht (hi.imp (own i) fun h => (ro i h).1), base := fun i c h hcl => ?_ }
 · intro i x hx
   rw [AHeap.get_set S.wf hlt] at hx
   split at hx
   · rename_i h; subst h; cases hx; exact ho
   · rename_i hne
     by_cases hu : x.owned = true ∨ x.isRo = true
     · refine (S.obj i x hx).congr (hw _ ?_)
       rcases hu with hu | hu
       · exact fun e => hne (S.inj i id ⟨x, hx, hu⟩ hO e)
       · exact fun e => S.sep id i hO ⟨x, hx, hu⟩ e.symm
     · cases AObj.dead_of hu; trivial
 · intro i x hx
   rw [AHeap.get_set S.wf hlt] at hx
   split at hx
   · cases hx; exact hok
   · exact S.ok i x hx
 · intro t c ht
   exact (S.locs t c ht).congr (hw _ (fun e => S.locsep t c id ht (.inl hO) e.symm))
 · rw [AHeap.get_set S.wf hlt] at h
   split at h
   · rename_i e; subst e
     obtain ⟨c', rfl, hl'⟩ := hk c (Option.some.inj h) hcl
     exact S.base _ _ hid hl'
   · exact S.base i c h hcl
theorem Sim.set_loc (S : Sim P m ml loc H w) {t : Nat} {cells cells' : List AV} (ht : look t loc = some cells) (ho : LocAt m ml w' (ml t) cells') (hok : AV.okPL (good m H.n) cells') (h1 : cells'.all AV.one = true)
    (hw : ∀ b, b ≠ ml t → w'.heap[b]? = w.heap[b]?) : Sim P m ml ((t, cells') :: loc) H w' := by
 have hl : ∀ u c, look u ((t, cells') :: loc) = some c → (u = t ∧ c = cells') ∨ (u ≠ t ∧ look u loc = some c) := by
  intro u c h
  simp only [look] at h
  split at h
  · rename_i e; cases h; exact .inl ⟨e.symm, rfl⟩
  · rename_i e; exact .inr ⟨fun x => e x.symm, h⟩
 refine { wf := S.wf, obj := ?_, ok := S.ok, inj := S.inj, sep := S.sep, locs := ?_, locok := ?_, locinj := ?_, locsep := ?_, base := S.base }
 · intro i x hx
   by_cases hu : x.owned = true ∨ x.isRo = true
   · refine (S.obj i x hx).congr (hw _ (S.locsep t cells i ht ?_))
     exact hu.imp (fun h => ⟨x, hx, h⟩) fun h => ⟨x, hx, h⟩
   · cases AObj.dead_of hu; trivial
 · intro u c h
   rcases hl u c h with ⟨rfl, rfl⟩ | ⟨hne, h⟩
   · exact ho
   · exact (S.locs u c h).congr (hw _ (fun e => hne (S.locinj u t c cells h ht e)))
 · intro u c h
   rcases hl u c h with ⟨rfl, rfl⟩ | ⟨hne, h⟩
   · exact ⟨hok, h1⟩
   · exact S.locok u c h
 · intro u v c d hu hv he
   rcases hl u c hu with ⟨rfl, rfl⟩ | ⟨hne, hu1⟩ <;> rcases hl v d hv with ⟨rfl, rfl⟩ | ⟨hne', hv1⟩
   · rfl
   · exact S.locinj _ _ _ _ ht hv1 he
   · exact S.locinj _ _ _ _ hu1 ht he
   · exact S.locinj u v c d hu1 hv1 he
 · intro u c i hu hi
   rcases hl u c hu with ⟨rfl, rfl⟩ | ⟨hne, hu⟩
   · exact S.locsep _ _ i ht hi
   · exact S.locsep u c i hu hi
end
end Go.Wam
set_option linter.unusedVariables false
set_option linter.unusedSimpArgs false
namespace Go.Wam
structure Wrote (w w' : World) (b : Nat) : Prop where
 other : ∀ x, x ≠ b → w'.heap[x]? = w.heap[x]?
 size : w'.heap.size = w.heap.size
 os : w'.os = w.os
 tape : w'.tape = w.tape
 output : w'.output = w.output
theorem Wrote.refl (w : World) (b : Nat) : Wrote w w b := ⟨fun _ _ => rfl, rfl, rfl, rfl, rfl⟩
theorem Wrote.trans {w w1 w2 : World} {b : Nat} (h : Wrote w w1 b) (k : Wrote w1 w2 b) : Wrote w w2 b :=
 ⟨fun x hx => (k.other x hx).trans (h.other x hx), k.size.trans h.size, k.os.trans h.os, k.tape.trans h.tape, k.output.trans h.output⟩
section
variable {P : Program} {ρ : Operand → Value} {s : St} {m m' : Nat → Loc} {ml ml' : Nat → Nat} {loc : List (Nat × List AV)} {H : AHeap} {w w' : World}
theorem setCell_wrote {st : Bool} (w : World) {b o : Nat} {arr : Array Value} (h : Unfrozen st w b arr) (v : Value) : Wrote w (w.setCell ⟨b, o, none⟩ v) b ∧ Unfrozen st (w.setCell ⟨b, o, none⟩ v) b (arr.setIfInBounds o v) := by
 obtain ⟨ty, fr, h1, h2⟩ := h
 have hlt := lt_of_some h1
 refine ⟨⟨fun x hx => ?_, ?_, rfl, rfl, rfl⟩, ty, fr, ?_, ?_⟩
 · simp [World.setCell, Array.getElem?_modify, Ne.symm hx]
 · simp [World.setCell]
 · simp [World.setCell, Array.getElem?_modify, h1]
 · simpa using h2
theorem storeCells_run {st : Bool} (P : Program) (l : Loc) : ∀ (vs : List Value) (i : Nat) (w : World) (arr : Array Value), Unfrozen st w l.block arr → l.base + i + vs.length ≤ arr.size → (∀ v ∈ vs, v.oneCell' = true) →
    ∀ off, ∃ w' arr', i = off + (i - off) → off ≤ i → (storeCells (l.at off) vs (i - off)).run P w = .ok () w' ∧ Wrote w w' l.block ∧ Unfrozen st w' l.block arr' ∧ arr'.toList = wr (l.base + i) vs arr.toList := by
 intro vs
 induction vs with
 | nil =>
  intro i w arr h hle h1 off
  exact ⟨w, arr, fun _ _ => ⟨rfl, .refl _ _, h, by simp [wr]⟩⟩
 | cons v vs ih =>
  intro i w arr h hle h1 off
  simp only [List.length_cons] at hle
  have hc : w.cell? (l.at i) = some arr[l.base + i] := by
   rw [Loc.at, h.cell]; exact Array.getElem?_eq_getElem (by omega)
  have hf : w.frozen? (l.at i) = false := by
   obtain ⟨ty, fr, e1, e2⟩ := h
   have := e2 (l.base + i) (.inl (by omega))
   simp only [World.frozen?, Loc.at, e1]
   by_cases hh : fr.1 ≤ l.base + i
   · have : ¬ l.base + i < fr.2 := fun x => this ⟨hh, x⟩
     simp [this]
   · simp [hh]
  obtain ⟨k1, k2⟩ := setCell_wrote w (o := l.base + i) h v
  obtain ⟨w', arr', r⟩ := ih (i + 1) (w.setCell ⟨l.block, l.base + i, none⟩ v) (arr.setIfInBounds (l.base + i) v) k2 (by simp; omega) (fun u hu => h1 u (by simp [hu])) off
  refine ⟨w', arr', fun hi hoff => ?_⟩
  obtain ⟨r1, r2, r3, r4⟩ := r (by omega) (by omega)
  refine ⟨?_, k1.trans r2, r3, ?_⟩
  · have e : (l.at off).add (i - off) = l.at i := by rw [Loc.at_add]; congr 1; omega
    simp only [storeCells, Sem.run_bind, e]
    rw [run_store P w (l.at i) v .plain (h1 v (by simp))]
    simp only [hc, hf, Bool.false_eq_true, if_false, Result.andThen_ok]
    have e2 : i - off + 1 = i + 1 - off := by omega
    rw [e2]
    exact r1
  · rw [r4]
    apply List.ext_getElem?
    intro j
    rw [wr_get _ _ _ (by simp; omega), wr_get _ _ _ (by simp; omega)]
    simp only [Array.toList_setIfInBounds, List.getElem?_set, List.length_cons]
    by_cases a1 : j < l.base + i
    · have a2 : j < l.base + (i + 1) := by omega
      have a3 : ¬ l.base + i = j := by omega
      simp [a1, a2, a3]
    · by_cases a2 : j = l.base + i
      · subst a2
        have a3 : l.base + i < l.base + (i + 1) := by omega
        simp [a3]; omega
      · have a3 : ¬ j < l.base + (i + 1) := by omega
        have a4 : ¬ l.base + i = j := by omega
        simp only [a1, a3, a4, if_false]
        have e : j - (l.base + i) = (j - (l.base + (i + 1))) + 1 := by omega
        rw [e, List.getElem?_cons_succ]
        have : (j < l.base + (i + 1) + vs.length) = (j < l.base + i + (vs.length + 1)) := by rw [eq_iff_iff]; omega
        simp [this]
theorem store_run {st : Bool} (P : Program) {l : Loc} {off : Nat} {vs : List Value} {w : World} {arr : Array Value} (h : Unfrozen st w l.block arr) (hle : l.base + off + vs.length ≤ arr.size) (h1 : ∀ v ∈ vs, v.oneCell' = true) :
    ∃ w' arr', (storeCells (l.at off) vs).run P w = .ok () w' ∧ Wrote w w' l.block ∧ Unfrozen st w' l.block arr' ∧ arr'.toList = wr (l.base + off) vs arr.toList := by
 obtain ⟨w', arr', r⟩ := storeCells_run P l vs off w arr h hle h1 off
 have := r (by omega) (Nat.le_refl _)
 rw [Nat.sub_self] at this
 exact ⟨w', arr', this⟩
theorem loadCells_from (P : Program) (l : Loc) (off : Nat) (w : World) : ∀ (n i : Nat) (vs : List Value) (acc : Array Value), vs.length = n → (∀ j v, vs[j]? = some v → w.cell? (l.at (off + i + j)) = some v) →
    (loadCellsFrom (l.at off) i n acc).run P w = .ok (acc ++ vs.toArray) w := by
 intro n
 induction n with
 | zero => intro i vs acc hl _; have : vs = [] := List.length_eq_zero_iff.1 hl; subst this; simp [loadCellsFrom]
 | succ n ih =>
  intro i vs acc hl h
  cases vs with
  | nil => simp at hl
  | cons v vs =>
   have h0 := h 0 v rfl
   simp only [loadCellsFrom, Sem.run_bind, Loc.at_add, run_load, Nat.add_zero] at h0 ⊢
   rw [h0]
   simp only [Result.andThen_ok]
   rw [ih (i + 1) vs (acc.push v) (by simpa using hl) (fun j u hj => by have := h (j + 1) u (by simpa using hj); rw [← this]; congr 2; omega)]
   simp
theorem loadCells_run (P : Program) {l : Loc} {off n : Nat} {w : World} {vs : List Value} (hl : vs.length = n) (h : ∀ j v, vs[j]? = some v → w.cell? (l.at (off + j)) = some v) :
    (loadCells (l.at off) n).run P w = .ok vs.toArray w := by
 have := loadCells_from P l off w n 0 vs #[] hl (fun j v hj => by simpa using h j v hj)
 simpa [loadCells] using this
def CellsAt (m : Nat → Loc) (ml : Nat → Nat) (w : World) (l : Loc) (cells : List AV) : Prop := ∀ i v, cells[i]? = some v → w.cell? (l.at i) = some (conc m ml v)
theorem ObjAt.cells {l : Loc} {ro : Bool} {sz : Nat} {cells : List AV} (h : ObjAt P m ml w l (.row ro sz cells)) : CellsAt m ml w l cells := by
 cases ro
 · obtain ⟨arr, h1, h2, h3, h4⟩ := h
   intro i v hi
   rw [Loc.at, h1.cell]
   exact h4 i v hi
 · exact h.2.2
theorem LocAt.cells {b : Nat} {cells : List AV} (h : LocAt m ml w b cells) (r : Nat) : CellsAt m ml w ⟨b, 0, r⟩ cells := by
 obtain ⟨arr, h1, h2⟩ := h
 intro i v hi
 rw [Loc.at, h1.cell]
 simp only [Nat.zero_add]
 rw [← Array.getElem?_toList, h2, concL_eq, List.getElem?_map, hi]
 rfl
theorem rd_run {t : TypeId} {g : Bool} {sz off : Nat} {l : Loc} {cells : List AV} {v : AV} (hg : aggT P t = some g) (hs : szT P t = some sz) (hc : CellsAt m ml w l cells) (h : rd g sz off cells = some v) :
    (loadVar t (l.at off)).run P w = .ok (conc m ml v) w := by
 unfold rd at h
 simp only [loadVar, Sem.run_bind, aggT_run hg, Result.andThen_ok]
 cases g
 · simp only [Bool.false_eq_true, if_false] at h ⊢
   rw [run_load, hc _ _ h]
 · simp only [if_true] at h ⊢
   split at h
   · rename_i hle
     cases h
     simp only [Sem.run_bind, szT_run hs, Result.andThen_ok]
     rw [loadCells_run P (vs := concL m ml ((cells.drop off).take sz)) (by simp [concL_eq]; omega)]
     · simp [conc]
     · intro j u hj
       rw [concL_eq, List.getElem?_map] at hj
       cases hd : ((cells.drop off).take sz)[j]? with
       | none => simp [hd] at hj
       | some x =>
        simp [hd] at hj; subst hj
        apply hc
        rw [List.getElem?_take] at hd
        split at hd
        · rw [List.getElem?_drop] at hd; exact hd
        · cases hd
   · cases h
theorem loadA_run {t : TypeId} {g : Bool} {sz : Nat} {p v : AV} (hg : aggT P t = some g) (hs : szT P t = some sz) (S : Sim P m ml s.loc s.H w) (h : loadA s g sz p = some v) :
    (Instr.loadAt t (conc m ml p)).run P w = .ok (conc m ml v) w ∧ v.okP (good m s.H.n) := by
 unfold loadA at h
 split at h
 · rename_i id off
   split at h
   · rename_i ro e cells hi
     have ho := S.obj id _ hi
     have hok := S.ok id _ hi
     simp only [Instr.loadAt, conc, Instr.sureAddr, pure_bind]
     exact ⟨rd_run hg hs ho.cells h, rd_ok h hok.1 hok.2⟩
   · cases h
 · rename_i t' off
   split at h
   · rename_i cells hi
     have ho := S.locs t' _ hi
     have hok := S.locok t' _ hi
     simp only [Instr.loadAt, conc, Instr.sureAddr, pure_bind]
     have := rd_run hg hs (ho.cells 0) h
     simp only [Loc.at, Nat.zero_add] at this
     exact ⟨this, rd_ok h hok.1 hok.2⟩
   · cases h
 · cases h
theorem Grow.of_set {id : Nat} {o o' : AObj} (hw : H.wf) (hid : H.get id = some o) (ho : o.owned = true) (ho' : o'.isRo = false) (h : Wrote w w' (m id).block) : Grow m ml loc H w m ml loc (H.set id o') w' := by
 have hlt := AHeap.get_lt hid hw
 refine ⟨Nat.le_refl _, fun _ _ => rfl, by rw [h.size]; exact Nat.le_refl _, h.os, h.tape, h.output, fun b hb h1 h2 => h.other b fun e => h1 id ⟨o, hid, ho⟩ e.symm, ?_, fun t c ht => .inl ⟨c, ht, rfl⟩, ?_, ?_, ?_⟩
 · rintro i ⟨x, hx, hxo⟩
   rw [AHeap.get_set hw hlt] at hx
   split at hx
   · rename_i e; subst e; exact .inl ⟨i, ⟨o, hid, ho⟩, rfl⟩
   · exact .inl ⟨i, ⟨x, hx, hxo⟩, rfl⟩
 · simp only [AHeap.set]; split <;> omega
 · intro i h1 h2
   rw [AHeap.get_set hw hlt, if_neg]
   simp only [AHeap.set] at h1
   rintro rfl
   split at h1 <;> omega
 · rintro i ⟨x, hx, hxo⟩
   rw [AHeap.get_set hw hlt] at hx
   split at hx
   · cases hx; rw [ho'] at hxo; cases hxo
   · exact ⟨x, hx, hxo⟩
theorem Grow.of_push {o : Obj} {o' : AObj} {l : Loc} (hw : H.wf) (ho' : o'.isRo = false) (h : Pushed w w' o) (hl : l.block = w.heap.size) : Grow m ml loc H w (upd m H.n l) ml loc (H.alloc o') w' := by
 refine ⟨by simp, fun i hi => upd_ne _ _ (by omega), by rw [h.size]; omega, h.os, h.tape, h.output, fun b hb _ _ => h.old hb, ?_, fun t c ht => .inl ⟨c, ht, rfl⟩, Nat.le_refl _, ?_, ?_⟩
 · intro i hi
   rw [Owned.alloc_iff hw] at hi
   rcases hi with ⟨rfl, _⟩ | hi
   · rw [upd_same, hl]; exact .inr (Nat.le_refl _)
   · exact .inl ⟨i, hi, by rw [upd_ne _ _ (Nat.ne_of_lt (hi.lt hw))]⟩
 · intro i h1 h2
   rw [AHeap.get_alloc, if_neg (by omega)]
 · intro i hi
   rw [IsRo.alloc_iff hw] at hi
   rcases hi with ⟨_, hi⟩ | hi
   · rw [ho'] at hi; cases hi
   · exact hi
theorem Grow.of_pushL {o : Obj} {t : Nat} {cells : List AV} (h : Pushed w w' o) : Grow m ml loc H w m (upd ml t w.heap.size) ((t, cells) :: loc) H w' := by
 refine ⟨Nat.le_refl _, fun i hi => rfl, by rw [h.size]; omega, h.os, h.tape, h.output, fun b hb _ _ => h.old hb, fun i hi => .inl ⟨i, hi, rfl⟩, ?_, Nat.le_refl _, fun _ _ _ => rfl, fun _ h => h⟩
 intro u c hu
 simp only [look] at hu
 split at hu
 · rename_i e; subst e; rw [upd_same]; exact .inr (Nat.le_refl _)
 · rename_i e; exact .inl ⟨c, hu, by rw [upd_ne _ _ (fun x => e x.symm)]⟩
theorem Grow.of_setL {t : Nat} {cells cells' : List AV} (ht : look t loc = some cells) (h : Wrote w w' (ml t)) : Grow m ml loc H w m ml ((t, cells') :: loc) H w' := by
 refine ⟨Nat.le_refl _, fun i hi => rfl, by rw [h.size]; exact Nat.le_refl _, h.os, h.tape, h.output, fun b hb h1 h2 => h.other b fun e => h2 t cells ht e.symm, fun i hi => .inl ⟨i, hi, rfl⟩, ?_, Nat.le_refl _, fun _ _ _ => rfl, fun _ h => h⟩
 intro u c hu
 simp only [look] at hu
 split at hu
 · rename_i e; subst e; exact .inl ⟨cells, ht, rfl⟩
 · exact .inl ⟨c, hu, rfl⟩
theorem oneCell_conc {v : AV} (h : v.one = true) : (conc m ml v).oneCell' = true := by
 cases v <;> simp_all [AV.one, conc, Value.oneCell']
theorem oneCells_conc {vs : List AV} (h : vs.all AV.one = true) : ∀ v ∈ concL m ml vs, v.oneCell' = true := by
 intro v hv
 rw [concL_eq, List.mem_map] at hv
 obtain ⟨x, hx, rfl⟩ := hv
 exact oneCell_conc (List.all_eq_true.1 h x hx)
theorem rowAt_wr {st : Bool} {l : Loc} {off : Nat} {vs cells : List AV} (h : RowAt st m ml w l cells) (hle : off + vs.length ≤ cells.length) (h1 : vs.all AV.one = true) :
    ∃ w', (storeCells (l.at off) (concL m ml vs)).run P w = .ok () w' ∧ Wrote w w' l.block ∧ RowAt st m ml w' l (wr off vs cells) := by
 obtain ⟨arr, e1, e2, e3, e4⟩ := h
 obtain ⟨w', arr', r1, r2, r3, r4⟩ := store_run P (off := off) (vs := concL m ml vs) e1 (by simp [concL_eq]; omega) (oneCells_conc h1)
 have hs : arr'.size = arr.size := by
  rw [← Array.length_toList, r4, wr_length _ _ _ (by simp [concL_eq]; omega), Array.length_toList]
 refine ⟨w', r1, r2, arr', r3, by omega, by rw [wr_length _ _ _ hle]; exact e3, ?_⟩
 intro i v hi
 rw [← Array.getElem?_toList, r4, wr_get _ _ _ (by simp [concL_eq]; omega)]
 rw [wr_get _ _ _ hle] at hi
 have hlen : (concL m ml vs).length = vs.length := by simp [concL_eq]
 rw [hlen]
 by_cases a1 : i < off
 · have a2 : l.base + i < l.base + off := by omega
   simp only [a1, a2, if_true] at hi ⊢
   rw [Array.getElem?_toList]
   exact e4 i v hi
 · have a2 : ¬ l.base + i < l.base + off := by omega
   by_cases a3 : i < off + vs.length
   · have a4 : l.base + i < l.base + off + vs.length := by omega
     simp only [a1, a2, a3, a4, if_true, if_false] at hi ⊢
     have e : l.base + i - (l.base + off) = i - off := by omega
     rw [e, concL_eq, List.getElem?_map, hi]
     rfl
   · have a4 : ¬ l.base + i < l.base + off + vs.length := by omega
     simp only [a1, a2, a3, a4, if_false] at hi ⊢
     rw [Array.getElem?_toList]
     exact e4 i v hi
theorem locAt_wr {b off : Nat} {vs cells : List AV} (h : LocAt m ml w b cells) (hle : off + vs.length ≤ cells.length) (h1 : vs.all AV.one = true) :
    ∃ w', (storeCells ⟨b, off, none⟩ (concL m ml vs)).run P w = .ok () w' ∧ Wrote w w' b ∧ LocAt m ml w' b (wr off vs cells) := by
 obtain ⟨arr, e1, e2⟩ := h
 have hs : arr.size = cells.length := by rw [← Array.length_toList, e2]; simp [concL_eq]
 obtain ⟨w', arr', r1, r2, r3, r4⟩ := store_run P (l := ⟨b, 0, 0⟩) (off := off) (vs := concL m ml vs) e1 (by simp [concL_eq]; omega) (oneCells_conc h1)
 simp only [Loc.at, Nat.zero_add] at r1 r2 r3 r4
 exact ⟨w', r1, r2, arr', r3, by rw [r4, e2, concL_wr]⟩
theorem storeA_run {t : TypeId} {sz : Nat} {p v : AV} {s' : St} (hs : szT P t = some sz) (S : Sim P m ml s.loc s.H w) (hv : vOk (good m s.H.n) LT v) (h : storeA s sz v p = some s') :
    ∃ w', (Instr.storeAt t (conc m ml p) (conc m ml v)).run P w = .ok () w' ∧ Sim P m ml s'.loc s'.H w' ∧ Grow m ml s.loc s.H w m ml s'.loc s'.H w' ∧ s'.env = s.env ∧ s'.H.n = s.H.n := by
 have st : ∀ a : Addr, v.cells.length = sz → (storeVar t a (conc m ml v)).run P w = (storeCells a (concL m ml v.cells)).run P w := by
  intro a hl
  have : (conc m ml v).cells.size = sz := by rw [← Array.length_toList, conc_cells, concL_eq, List.length_map, hl]
  simp only [storeVar, Sem.run_bind, szT_run hs, Result.andThen_ok, this, ne_eq, not_true_eq_false, if_false, conc_cells]
 unfold storeA at h
 split at h
 · rename_i id off
   split at h
   · rename_i e cells hi
     split at h
     · rename_i hc
       cases h
       simp only [Bool.and_eq_true, decide_eq_true_eq] at hc
       obtain ⟨⟨hl, hsz⟩, hle⟩ := hc
       obtain ⟨o1, o2⟩ := cells_ok (hv.noL hl) hl
       have ho := S.obj id _ hi
       have hok := S.ok id _ hi
       obtain ⟨w', r1, r2, r3⟩ := rowAt_wr (P := P) ho (off := off) (vs := v.cells) (by omega) o2
       refine ⟨w', ?_, S.set_obj hi rfl r3 ⟨wr_okPL o1 hok.1, wr_one o2 hok.2⟩ rfl r2.other, .of_set S.wf hi rfl rfl r2, rfl, rfl⟩
       simp only [Instr.storeAt, conc, Instr.sureAddr, pure_bind]
       rw [st _ hsz]
       exact r1
     · cases h
   · cases h
 · rename_i t' off
   split at h
   · rename_i cells hi
     split at h
     · rename_i hc
       cases h
       simp only [Bool.and_eq_true, decide_eq_true_eq] at hc
       obtain ⟨⟨hl, hsz⟩, hle⟩ := hc
       obtain ⟨o1, o2⟩ := cells_ok (hv.noL hl) hl
       have ho := S.locs t' _ hi
       have hok := S.locok t' _ hi
       obtain ⟨w', r1, r2, r3⟩ := locAt_wr (P := P) ho (off := off) (vs := v.cells) (by omega) o2
       refine ⟨w', ?_, S.set_loc hi r3 (wr_okPL o1 hok.1) (wr_one o2 hok.2) r2.other, .of_setL hi r2, rfl, rfl⟩
       simp only [Instr.storeAt, conc, Instr.sureAddr, pure_bind]
       rw [st _ hsz]
       exact r1
     · cases h
   · cases h
 · cases h
end
end Go.Wam
set_option linter.unusedVariables false
set_option linter.unusedSimpArgs false
namespace Go.Wam
section
variable {P : Program} {ρ : Operand → Value} {s s' : St} {m m' : Nat → Loc} {ml ml' : Nat → Nat} {p : Nat → Nat → Prop} {L : Nat → Prop} {w w' : World}
theorem pushed_mk (w : World) (o : Obj) : Pushed w { w with heap := w.heap.push o } o := ⟨rfl, rfl, rfl, rfl⟩
theorem newRow_run (P : Program) (e : TypeId) (cs : Array Value) (w : World) : (newRow e cs).run P w = .ok ⟨w.heap.size, 0, none⟩ { w with heap := w.heap.push (.cells cs e) } := by
 simp [newRow]
theorem Unfrozen.of_new {st : Bool} {o : Obj} (h : Pushed w w' o) {arr : Array Value} {ty : TypeId} {fr : Nat × Nat} (ho : o = .cells arr ty fr) (hf : ∀ i, (i < arr.size ∨ (st = true ∧ i = arr.size)) → ¬ (fr.1 ≤ i ∧ i < fr.2)) : Unfrozen st w' w.heap.size arr :=
 ⟨ty, fr, by rw [h.new, ho], hf⟩
theorem rowAt_new {st : Bool} {o : Obj} (h : Pushed w w' o) {arr : Array Value} {ty : TypeId} {fr : Nat × Nat} (ho : o = .cells arr ty fr) (hf : ∀ i, (i < arr.size ∨ (st = true ∧ i = arr.size)) → ¬ (fr.1 ≤ i ∧ i < fr.2)) {cells : List AV}
    (hc : ∀ (i : Nat) (v : AV), cells[i]? = some v → arr[i]? = some (conc m ml v)) (hl : cells.length ≤ arr.size) : RowAt st m ml w' ⟨w.heap.size, 0, arr.size⟩ cells :=
 ⟨arr, .of_new h ho hf, by simp, hl, fun i v hi => by simpa using hc i v hi⟩
theorem rowAt_new0 {st : Bool} {arr : Array Value} {ty : TypeId} (h : Pushed w w' (.cells arr ty)) {cells : List AV}
    (hc : ∀ (i : Nat) (v : AV), cells[i]? = some v → arr[i]? = some (conc m ml v)) (hl : cells.length ≤ arr.size) : RowAt st m ml w' ⟨w.heap.size, 0, arr.size⟩ cells :=
 rowAt_new h rfl (by simp) hc hl
theorem locAt_new {o : Obj} (h : Pushed w w' o) {arr : Array Value} {ty : TypeId} (ho : o = .cells arr ty (0, 0)) {cells : List AV} (hc : arr.toList = concL m ml cells) : LocAt m ml w' w.heap.size cells :=
 ⟨arr, .of_new h ho (by simp), hc⟩
theorem concL_get {cells : List AV} {arr : Array Value} (h : arr.toList = concL m ml cells) : (∀ (i : Nat) (v : AV), cells[i]? = some v → arr[i]? = some (conc m ml v)) ∧ cells.length = arr.size := by
 constructor
 · intro i v hi
   rw [← Array.getElem?_toList, h, concL_eq, List.getElem?_map, hi]; rfl
 · rw [← Array.length_toList, h]; simp [concL_eq]
def Made (P : Program) (ρ : Operand → Value) (m : Nat → Loc) (ml : Nat → Nat) (p : Nat → Nat → Prop) (dst : Option Nat) (s : St) (o : Oper) (w : World) (v : AV) (s' : St) : Prop :=
 ∃ w' ob, Pushed w w' ob ∧
  ((∃ l ao, l = (⟨w.heap.size, 0, l.room⟩ : Loc) ∧ s' = { s with H := s.H.alloc ao } ∧ ao.owned = true ∧ ao.okP p ∧ ObjAt P m ml w' l ao ∧ (execOp ρ o).run P w = .ok (.value (conc (upd m s.H.n l) ml v)) w' ∧
      v.okP (fun i k => i = s.H.n ∧ k ≤ l.room) ∧ ∀ ml2, conc (upd m s.H.n l) ml2 v = conc (upd m s.H.n l) ml v) ∨
   (∃ t cells, dst = some t ∧ freeL t s.env = true ∧ s' = { s with loc := (t, cells) :: s.loc } ∧ v = .lptr t 0 ∧ AV.okPL p cells ∧ cells.all AV.one = true ∧ LocAt m ml w' w.heap.size cells ∧
      (execOp ρ o).run P w = .ok (.value (.pointer (some ⟨w.heap.size, 0, none⟩))) w'))
theorem zerosA_length {z : List AV} (n : Nat) : (zerosA z n).length = n * z.length := by
 induction n with
 | zero => simp [zerosA]
 | succ n ih => simp [zerosA, ih, Nat.add_mul]; omega
theorem zerosA_get {z : List AV} (hz : 0 < z.length) (n : Nat) : ∀ i, i < n * z.length → (zerosA z n)[i]? = z[i % z.length]? := by
 induction n with
 | zero => intro i hi; simp at hi
 | succ n ih =>
  intro i hi
  simp only [zerosA, List.getElem?_append]
  by_cases h : i < z.length
  · simp [h, Nat.mod_eq_of_lt h]
  · simp only [h, if_false]
    rw [ih (i - z.length) (by rw [Nat.add_mul] at hi; omega)]
    congr 1
    rw [Nat.mod_eq_sub_mod (by omega : i ≥ z.length)]
theorem zeros_conc {z : List AV} {za : Array Value} (h : za.toList = concL m ml z) (hz : 0 < z.length) (n : Nat) :
    ((Array.range (n * z.length)).map (za[· % za.size]!)).toList = concL m ml (zerosA z n) := by
 have hs : za.size = z.length := by rw [← Array.length_toList, h]; simp [concL_eq]
 apply List.ext_getElem?
 intro i
 rw [concL_eq, List.getElem?_map]
 by_cases hi : i < n * z.length
 · rw [zerosA_get hz n i hi]
   have hm : i % z.length < z.length := Nat.mod_lt _ hz
   have : za[i % za.size]! = conc m ml z[i % z.length] := by
    have h2 : za[i % za.size]? = some (conc m ml z[i % z.length]) := by
     rw [← Array.getElem?_toList, h, concL_eq, List.getElem?_map, hs, List.getElem?_eq_getElem hm]; rfl
    rw [getElem!_def, h2]
   simp [hi, this, List.getElem?_eq_getElem hm]
 · have h1 : (zerosA z n)[i]? = none := by rw [List.getElem?_eq_none]; rw [zerosA_length]; omega
   rw [h1]
   simp [hi]
theorem zerosA_ok {z : List AV} (h : AV.okPL p z) (h1 : z.all AV.one = true) (n : Nat) : AV.okPL p (zerosA z n) ∧ (zerosA z n).all AV.one = true := by
 induction n with
 | zero => simp [zerosA, AV.okPL]
 | succ n ih =>
  simp only [zerosA, List.all_append, h1, ih.2, Bool.and_self, and_true]
  rw [okPL_iff]
  intro v hv
  rcases List.mem_append.1 hv with hv | hv
  · exact (okPL_iff _ _).1 h v hv
  · exact (okPL_iff _ _).1 ih.1 v hv
theorem wrap_i64 {n : Int} (h0 : 0 ≤ n) (h : n < 2 ^ 63) : IntKind.i64.wrap n = n := by
 exact IntWalk.i64_in n (by omega)
theorem bytes_info {t : TypeId} {b : Nat} (h : (P.info? t).map (·.bytes) = some b) : ∃ i, P.info? t = some i ∧ i.bytes = b := by
 cases hi : P.info? t with
 | none => simp [hi] at h
 | some i => simp [hi] at h; exact ⟨i, rfl, h⟩
theorem markStr_run {b n : Nat} {e : TypeId} (h : w.shape? b = some (e, n)) : (markStringish ⟨b, 0, none⟩).run P w = .ok () (w.freeze ⟨b, n, none⟩ 1) := by
 simp [markStringish, h]
set_option maxHeartbeats 400000 in
theorem run_alloc {locals : List Nat} {dst : Option Nat} {o : Oper} {io : IOp} (hc : compOp P locals dst o.op = some io) (hcls : io.cls = .alloc) {v : AV} (he : evOp dst s io = some (v, s'))
    (hρ : ∀ x ∈ o.op.operands, OpR ρ s.env m ml p L x) (w : World) : Made P ρ m ml p dst s o w v s' := by
 obtain ⟨dst', op, type, pos, after, guard⟩ := o
 simp only at hc hρ
 cases op
 case alloc e =>
  simp only [compOp] at hc
  obtain ⟨sz, z, h1, h2, h3⟩ := opt2_some hc
  cases h3
  obtain ⟨⟨zv, hz1, hz2⟩, hz3, hz4⟩ := zeroT_run h2 m ml p
  have run : (execOp ρ ⟨dst', .alloc e, type, pos, after, guard⟩).run P w = .ok (.value (.pointer (some ⟨w.heap.size, 0, none⟩))) { w with heap := w.heap.push (.cells zv.cells e) } := by
   simp only [execOp, Instr.alloc, Sem.run_bind, hz1, Result.andThen_ok, newVar, newRow_run, Sem.run_pure]
  obtain ⟨g1, g2⟩ := concL_get hz2
  cases hl : isLocal locals dst
  · rw [hl] at he
    simp only [evOp, Option.some.injEq, Prod.mk.injEq] at he
    obtain ⟨rfl, rfl⟩ := he
    refine ⟨_, _, pushed_mk w (.cells zv.cells e), .inl ⟨⟨w.heap.size, 0, zv.cells.size⟩, _, rfl, rfl, rfl, ⟨hz3, hz4⟩, rowAt_new0 (pushed_mk w _) g1 (by omega), ?_, by simp [AV.okP], fun _ => by simp [conc]⟩⟩
    rw [run]; simp [conc, Loc.at]
  · rw [hl] at he
    cases dst with
    | none => simp [isLocal] at hl
    | some t =>
     simp only [evOp] at he
     split at he
     · rename_i hf
       cases he
       exact ⟨_, _, pushed_mk w _, .inr ⟨t, z, rfl, hf, rfl, rfl, hz3, hz4, locAt_new (pushed_mk w _) rfl hz2, run⟩⟩
     · cases he
 case box e x =>
  simp only [compOp] at hc
  obtain ⟨sz, y, h1, h2, h3⟩ := opt2_some hc
  cases h3
  have run : ∀ u, ρ x = conc m ml u → (execOp ρ ⟨dst', .box e x, type, pos, after, guard⟩).run P w = .ok (.value (.pointer (some ⟨w.heap.size, 0, none⟩))) { w with heap := w.heap.push (.cells (conc m ml u).cells e) } := by
   intro u hu
   simp only [execOp, Instr.box, hu, Sem.run_bind, newVar, newRow_run, Result.andThen_ok, Sem.run_pure]
  cases hl : isLocal locals dst
  · rw [hl] at he
    simp only [evOp] at he
    split at he
    · rename_i u hu
      split at he
      · rename_i hn
        cases he
        obtain ⟨e1, e2⟩ := hρ x (by simp [Op.operands]) _ _ h2 hu
        obtain ⟨o1, o2⟩ := cells_ok (e2.noL hn) hn
        obtain ⟨g1, g2⟩ := concL_get (m := m) (ml := ml) (conc_cells u)
        refine ⟨_, _, pushed_mk w (.cells (conc m ml u).cells e), .inl ⟨⟨w.heap.size, 0, (conc m ml u).cells.size⟩, _, rfl, rfl, rfl, ⟨o1, o2⟩, rowAt_new0 (pushed_mk w _) g1 (by omega), ?_, by simp [AV.okP], fun _ => by simp [conc]⟩⟩
        rw [run u e1]; simp [conc, Loc.at]
      · cases he
    · cases he
  · rw [hl] at he
    cases dst with
    | none => simp [isLocal] at hl
    | some t =>
     simp only [evOp] at he
     split at he
     · rename_i t' u ht hu
       cases ht
       split at he
       · rename_i hn
         cases he
         simp only [Bool.and_eq_true] at hn
         obtain ⟨e1, e2⟩ := hρ x (by simp [Op.operands]) _ _ h2 hu
         obtain ⟨o1, o2⟩ := cells_ok (e2.noL hn.2) hn.2
         exact ⟨_, _, pushed_mk w _, .inr ⟨t, _, rfl, hn.1, rfl, rfl, o1, o2, locAt_new (pushed_mk w _) rfl (conc_cells u), run u e1⟩⟩
       · cases he
     · cases he
 case buildSlice t len parts =>
  simp only [compOp] at hc
  split at hc
  · rename_i e hu
    split at hc
    · rename_i sz hsz
      split at hc
      · cases hc
      · rename_i hle
        split at hc
        · rename_i zero hzero
          obtain ⟨z, q, hz, hq, h3⟩ := opt2_some hc
          cases h3
          obtain ⟨hsz1, hnz⟩ := pszT_szT hsz
          simp only [evOp] at he
          cases hf : fillA s.env q z with
          | none => simp [hf] at he
          | some r =>
           simp [hf] at he; obtain ⟨rfl, rfl⟩ := he
           obtain ⟨z1, z2, z3⟩ := leafs_conc hz m ml p
           have hρ' : ∀ i x, (i, x) ∈ parts.toList → OpR ρ s.env m ml p L x := fun i x hx => hρ x (by simp [Op.operands]; exact ⟨i, by simpa using hx⟩)
           obtain ⟨f1, f2, f3⟩ := fill_conc (place := fun i => some (i * sz, sz)) parts.toList q z r hρ' (partsA_spec _ _ hq) hf z2 z3
           have hza : (Array.range (len * sz)).map (zero[· % zero.size]!) = (concL m ml z).toArray := by apply Array.ext'; rw [z1]
           have hzr : ∀ w, ((if len * sz = 0 then pure #[] else do pure (← zeroValue e).cells) : Sem (Array Value)).run P w = .ok zero w := by
            intro w
            split at hzero
            · rename_i h0; rw [if_pos h0]; cases hzero; rfl
            · rename_i h0
              rw [if_neg h0]
              cases hi : P.info? e with
              | none => simp [hi] at hzero
              | some i =>
               cases hzz : i.zero with
               | none => simp [hi, hzz] at hzero
               | some zz => simp [hi, hzz] at hzero; simp [zeroValue, info_run hi, hzz, hzero]
           have run : (execOp ρ ⟨dst', .buildSlice t len parts, type, pos, after, guard⟩).run P w = .ok (.value (.slice (some ⟨w.heap.size, 0, none⟩) len len)) { w with heap := w.heap.push (.cells (concL m ml r).toArray e) } := by
            by_cases h0 : len * sz = 0
            · have hz0 : zero = #[] := by rw [if_pos h0] at hzero; cases hzero; rfl
              subst hz0
              simp only [execOp, Instr.buildSlice, Sem.run_bind, run_underlying hu, Result.andThen_ok, szT_run hsz1, if_neg hle, if_pos h0, pure_bind, hza, Array.toList_map, f1, newRow_run, Sem.run_pure]
            · have hzr' := hzr w
              rw [if_neg h0] at hzr'
              obtain ⟨zz, hzz, hzz2⟩ : ∃ zz : Value, (∀ w, (zeroValue e).run P w = .ok zz w) ∧ zz.cells = zero := by
               rw [if_neg h0] at hzero
               cases hi : P.info? e with
               | none => simp [hi] at hzero
               | some i =>
                cases hzz : i.zero with
                | none => simp [hi, hzz] at hzero
                | some zz => simp [hi, hzz] at hzero; exact ⟨zz, fun w => by simp [zeroValue, info_run hi, hzz], hzero⟩
              subst hzz2
              simp only [execOp, Instr.buildSlice, Sem.run_bind, run_underlying hu, Result.andThen_ok, szT_run hsz1, if_neg hle, if_neg h0, hzz, pure_bind, hza, Array.toList_map, f1, newRow_run, Sem.run_pure]
           obtain ⟨g1, g2⟩ := concL_get (m := m) (ml := ml) (cells := r) (arr := (concL m ml r).toArray) rfl
           refine ⟨_, _, pushed_mk w (.cells (concL m ml r).toArray e), .inl ⟨⟨w.heap.size, 0, (concL m ml r).toArray.size⟩, _, rfl, rfl, rfl, ⟨f2, f3⟩, rowAt_new0 (pushed_mk w _) g1 (by omega), ?_, by simp [AV.okP], fun _ => by simp [conc]⟩⟩
           rw [run]; simp [conc, Loc.at]
        · cases hc
    · cases hc
  · cases hc
 case makeMap t r =>
  cases r with
  | none =>
   simp only [compOp] at hc
   cases hc
   simp only [evOp, Option.some.injEq, Prod.mk.injEq] at he
   obtain ⟨rfl, rfl⟩ := he
   refine ⟨_, _, pushed_mk w (.map #[] 0), .inl ⟨⟨w.heap.size, 0, 0⟩, _, rfl, rfl, rfl, by simp [AObj.okP], ?_, ?_, by simp [AV.okP], fun _ => by simp [conc]⟩⟩
   · exact ⟨#[], (pushed_mk w _).new, by simp [MapAt]⟩
   · simp [execOp, Instr.makeMap, conc]
  | some x => simp [compOp] at hc
 case next x b =>
  exfalso
  cases b <;> simp only [compOp] at hc
  · rw [Option.map_eq_some_iff] at hc; obtain ⟨_, _, rfl⟩ := hc; simp [IOp.cls] at hcls
  · rw [Option.map_eq_some_iff] at hc; obtain ⟨_, _, rfl⟩ := hc; simp [IOp.cls] at hcls
 case range t x =>
  simp only [compOp] at hc
  split at hc
  · rename_i hu
    cases hx : opd x with
    | none => simp [hx] at hc
    | some y =>
     simp [hx] at hc; subst hc
     simp only [evOp] at he
     split at he <;> cases he
     rename_i l hv
     obtain ⟨e1, _⟩ := hρ x (by simp [Op.operands]) _ _ hx hv
     refine ⟨_, _, pushed_mk w (.stringIter ⟨l.toArray⟩ 0), .inl ⟨⟨w.heap.size, 0, 0⟩, _, rfl, rfl, rfl, by simp [AObj.okP], ?_, ?_, by simp [AV.okP], fun _ => by simp [conc]⟩⟩
     · exact ⟨(pushed_mk w _).new, rfl⟩
     · simp [execOp, Instr.range, conc, e1, run_underlying hu, Loc.at]
  · exfalso
    rw [Option.map_eq_some_iff] at hc; obtain ⟨_, _, rfl⟩ := hc; simp [IOp.cls] at hcls
  · cases hc
 case makeSlice t a b =>
  simp only [compOp] at hc
  split at hc
  · rename_i e hu
    split at hc
    · rename_i sz bytes z hsz hb hz
      split at hc
      · rename_i hzl
        obtain ⟨la, lb, h1, h2, h3⟩ := opt2_some hc
        cases h3
        obtain ⟨hsz1, hnz⟩ := pszT_szT hsz
        obtain ⟨⟨zv, hz1, hz2⟩, hz3, hz4⟩ := zeroT_run hz m ml p
        obtain ⟨i, hi, hib⟩ := bytes_info hb
        simp only [evOp] at he
        split at he
        · rename_i n c hn hcv
          split at he
          · rename_i hle
            cases he
            obtain ⟨hl0, hlc, hcb, hc63⟩ := hle
            obtain ⟨e1, _⟩ := hρ a (by simp [Op.operands]) _ _ h1 hn
            obtain ⟨f1, _⟩ := hρ b (by simp [Op.operands]) _ _ h2 hcv
            have hzs : zv.cells.size = sz := by rw [← Array.length_toList, hz2]; simp [concL_eq, hzl]
            have harr : ∀ za : Array Value, (c.toNat * sz ≠ 0 → za = zv.cells) → ((Array.range (c.toNat * sz)).map (za[· % za.size]!)).toList = concL m ml (zerosA z c.toNat) := by
             intro za hza
             by_cases h0 : c.toNat * sz = 0
             · have : c.toNat = 0 := by
                 rcases Nat.mul_eq_zero.1 h0 with h | h
                 · exact h
                 · exact absurd h hnz
               simp [this, zerosA, concL]
             · rw [hza h0]
               have := zeros_conc (m := m) (ml := ml) hz2 (by omega) c.toNat
               rw [hzl] at this
               exact this
            obtain ⟨za, hza, hzr⟩ : ∃ za : Array Value, (c.toNat * sz ≠ 0 → za = zv.cells) ∧ ∀ w, ((if c.toNat * sz = 0 then pure #[] else do pure (← zeroValue e).cells) : Sem (Array Value)).run P w = .ok za w := by
             by_cases h0 : c.toNat * sz = 0
             · exact ⟨#[], fun h => absurd h0 h, fun w => by rw [if_pos h0]; rfl⟩
             · exact ⟨zv.cells, fun _ => rfl, fun w => by rw [if_neg h0]; simp [hz1]⟩
            have hcz := harr za hza
            have wl := wrap_i64 hl0 (by omega : n < 2 ^ 63)
            have wc := wrap_i64 (by omega : 0 ≤ c) hc63
            have hcb' : ¬ ((bytes : Int) * c > 2 ^ 48) := by rw [Int.mul_comm]; omega
            have run : (execOp ρ ⟨dst', .makeSlice t a b, type, pos, after, guard⟩).run P w = .ok (.value (.slice (some ⟨w.heap.size, 0, none⟩) n.toNat c.toNat)) { w with heap := w.heap.push (.cells ((Array.range (c.toNat * sz)).map (za[· % za.size]!)) e) } := by
             have hcond : ¬ (((decide (c < 0) || decide ((bytes : Int) * c > 2 ^ 48)) = true ∨ n < 0) ∨ n > c) := by
              have : ¬ c < 0 := by omega
              simp only [this, hcb', decide_false, Bool.or_self, Bool.false_eq_true, false_or]
              omega
             simp only [execOp, Instr.makeSlice, e1, f1, conc, asInt, asIntOf, pure_bind, Sem.run_bind, run_underlying hu, Result.andThen_ok, info_run hi, hib, wl, wc, Sem.run_pure]
             rw [if_neg (by simpa using hcond)]
             by_cases h0 : c.toNat * sz = 0
             · have hz0 : za = #[] := by have := hzr w; rw [if_pos h0] at this; simpa using this.symm
               subst hz0
               simp only [Sem.run_bind, run_askRoom, Result.andThen_ok, szT_run hsz1, if_pos h0, newRow_run, Sem.run_pure, pure_bind]
             · have hz0 := hza h0
               subst hz0
               simp only [Sem.run_bind, run_askRoom, Result.andThen_ok, szT_run hsz1, if_neg h0, hz1, newRow_run, Sem.run_pure, pure_bind]
            obtain ⟨g1, g2⟩ := concL_get hcz
            obtain ⟨k1, k2⟩ := zerosA_ok hz3 hz4 c.toNat
            refine ⟨_, _, pushed_mk w (.cells ((Array.range (c.toNat * sz)).map (za[· % za.size]!)) e), .inl ⟨⟨w.heap.size, 0, ((Array.range (c.toNat * sz)).map (za[· % za.size]!)).size⟩, _, rfl, rfl, rfl, ⟨k1, k2⟩, rowAt_new0 (pushed_mk w _) g1 (by omega), ?_, by simp [AV.okP], fun _ => by simp [conc]⟩⟩
            rw [run]; simp [conc, Loc.at]
          · cases he
        · cases he
      · cases hc
    · cases hc
  · cases hc
 case convert sr d x =>
  simp only [compOp] at hc
  split at hc
  · cases hc; simp [IOp.cls] at hcls
  · cases hc; simp [IOp.cls] at hcls
  · rename_i e y h1 h2 hx
    split at hc <;> cases hc
    rename_i he1 hs1
    simp only [evOp] at he
    split at he <;> rename_i hq hv <;> first | (cases hq; done) | (cases he; done) | skip
    rename_i l
    cases he
    obtain ⟨e1, _⟩ := hρ x (by simp [Op.operands]) _ _ hx hv
    let cap := (Question.appendCap l.length 0 e).cut (w.tape w.drawn (.appendCap l.length 0 e))
    have hcap : l.length ≤ cap := by simp [cap, Question.cut]
    let arr : Array Value := ((⟨l.toArray⟩ : ByteArray).data.map fun b => Value.int .u8 b.toNat) ++ Array.replicate (cap - l.length) (.int .u8 0)
    have hsz : arr.size = cap := by simp [arr]; omega
    let w1 : World := { w with heap := w.heap.push (.cells arr e (cap, cap + 1)), drawn := w.drawn + 1 }
    have run : (execOp ρ ⟨dst', .convert sr d x, type, pos, after, guard⟩).run P w = .ok (.value (.slice (some ⟨w.heap.size, 0, none⟩) l.length cap)) w1 := by
     have c1 : (convert sr d (.string ⟨l.toArray⟩)).run P w = (Conv.stringToBytes e ⟨l.toArray⟩).run P w := by
      simp only [convert, Sem.run_bind, run_underlying h1, run_underlying h2, Result.andThen_ok, run_underlying he1]
     simp only [execOp, e1, conc, Sem.run_bind, c1]
     simp only [Conv.stringToBytes, Sem.run_bind, run_choose, Question.forced, Bool.false_eq_true, if_false, Result.andThen_ok, newRow_run, bsize]
     have hsh : ({ w with drawn := w.drawn + 1, heap := w.heap.push (.cells arr e) } : World).shape? w.heap.size = some (e, cap) := by
      simp [World.shape?, hsz]
     rw [markStr_run hsh]
     simp only [Result.andThen_ok, Sem.run_pure]
     congr 1
     simp only [World.freeze, w1]
     simp only [Nat.one_ne_zero, if_false, Nat.reduceAdd]
     congr 1
     apply Array.ext'
     apply List.ext_getElem?
     intro j
     simp only [Array.getElem?_toList, Array.getElem?_modify, Array.getElem?_push]
     by_cases hj : j = w.heap.size
     · subst hj; simp
     · have hj' : ¬ w.heap.size = j := fun x => hj x.symm
       simp [hj, hj']
    have hp1 : Pushed w w1 (.cells arr e (cap, cap + 1)) := ⟨rfl, rfl, rfl, rfl⟩
    refine ⟨w1, _, hp1, .inl ⟨⟨w.heap.size, 0, cap⟩, _, rfl, rfl, rfl, ⟨?_, ?_⟩, ?_, ?_, by simp [AV.okP]; exact hcap, fun _ => by simp [conc]⟩⟩
    · rw [okPL_iff]; intro v hv; rw [List.mem_map] at hv; obtain ⟨b, _, rfl⟩ := hv; simp [AV.okP]
    · rw [List.all_eq_true]; intro v hv; rw [List.mem_map] at hv; obtain ⟨b, _, rfl⟩ := hv; rfl
    · have := rowAt_new (st := false) (m := m) (ml := ml) hp1 rfl (fun i hi => by simp [hsz] at hi; simp; omega) (cells := l.map fun b => AV.int .u8 b.toNat) (fun i v hi => ?_) (by simp [hsz]; exact hcap)
      · rw [hsz] at this; exact this
      · rw [List.getElem?_map] at hi
        cases hb : l[i]? with
        | none => simp [hb] at hi
        | some b =>
         simp [hb] at hi; subst hi
         have hlt := (List.getElem?_eq_some_iff.1 hb).1
         simp only [arr, conc]
         rw [Array.getElem?_append_left (by simpa using hlt)]
         simp [hb]
    · rw [run]; simp [conc, Loc.at]
  · split at hc <;> cases hc
    simp [IOp.cls] at hcls
  · split at hc <;> cases hc
    simp [IOp.cls] at hcls
  · cases hc
 case defer c =>
  exfalso
  obtain ⟨callee, args, argTypes⟩ := c
  cases callee <;> simp only [compOp] at hc <;> first | (cases hc; done) | (obtain ⟨_, _, _, _, h3⟩ := opt2_some hc; cases h3; simp [IOp.cls] at hcls)
 case binOp op t x y yt =>
  exfalso
  rcases comp_bin hc with ⟨e, a, b, rfl, _⟩ | ⟨neg, a, rfl, _⟩ | ⟨neg, a, b, rfl, _⟩ <;> simp [IOp.cls] at hcls
 case call c =>
  exfalso
  obtain ⟨callee, args, argTypes⟩ := c
  cases callee <;> simp only [compOp, compBuiltin, opt2] at hc
  all_goals (repeat' (split at hc)) <;> (try cases hc) <;> (try (simp [IOp.cls] at hcls; done))
 all_goals
  exfalso
  simp only [compOp, opt2] at hc
  first
   | (cases hc; done)
   | ((repeat' (split at hc)) <;> (try cases hc) <;> (try (rw [Option.map_eq_some_iff] at hc; obtain ⟨_, _, rfl⟩ := hc)) <;> simp [IOp.cls] at hcls)
end
end Go.Wam
set_option linter.unusedVariables false
set_option linter.unusedSimpArgs false
namespace Go.Wam
open Go Go.MapKept
theorem intsEq_iff : ∀ (a b : List Int), intsEq a b = true ↔ a = b
 | [], [] => by simp [intsEq]
 | [], _ :: _ => by simp [intsEq]
 | _ :: _, [] => by simp [intsEq]
 | a :: x, b :: y => by simp [intsEq, intsEq_iff x y]
theorem ints_spec {q : IntKind} : ∀ {cs : List AV} {x : List Int}, ints q cs = some x → cs = x.map (.int q)
 | [], x, h => by simp [ints] at h; subst h; rfl
 | c :: cs, x, h => by
  cases c <;> simp only [ints] at h <;> try (cases h; done)
  split at h
  · rename_i hq; subst hq
    rw [Option.map_eq_some_iff] at h
    obtain ⟨y, hy, rfl⟩ := h
    simp [ints_spec hy]
  · cases h
section
variable {P : Program} {m : Nat → Loc} {ml : Nat → Nat}
theorem bytes_inj {a b : List UInt8} (h : (⟨a.toArray⟩ : ByteArray) = ⟨b.toArray⟩) : a = b := by
 have := congrArg (fun x : ByteArray => x.data.toList) h
 simpa using this
theorem conc_key {t : KeyT} {k k' : AV} (h : isK t k = true) (h' : isK t k' = true) : conc m ml k = conc m ml k' ↔ keyEq t k k' = true := by
 cases t
 · cases k <;> simp [isK] at h
   cases k' <;> simp [isK] at h'
   subst h h'; simp [conc, keyEq]
 · cases k <;> simp [isK] at h
   cases k' <;> simp [isK] at h'
   simp only [conc, keyEq, Value.string.injEq, decide_eq_true_eq]
   exact ⟨bytes_inj, fun e => by rw [e]⟩
 · rename_i q n
   cases k <;> simp [isK] at h
   cases k' <;> simp [isK] at h'
   rename_i x y
   obtain ⟨a, ha⟩ := Option.isSome_iff_exists.1 h.1
   obtain ⟨b, hb⟩ := Option.isSome_iff_exists.1 h'.1
   have inj : ∀ (a b : List Int), a.map (conc m ml ∘ AV.int q) = b.map (conc m ml ∘ AV.int q) → a = b := by
    intro a
    induction a with
    | nil => intro b h; cases b <;> simp_all
    | cons u a ih => intro b h; cases b with
     | nil => simp at h
     | cons v b => simp only [List.map_cons, List.cons.injEq, Function.comp, conc, Value.int.injEq, true_and] at h; rw [h.1, ih b h.2]
   have e1 : keyEq (.arr q n) (.agg x) (.agg y) = true ↔ a = b := by simp only [keyEq, ha, hb, intsEq_iff]
   rw [e1, ints_spec ha, ints_spec hb]
   simp only [conc, Value.agg.injEq, concL_eq, List.map_map]
   constructor
   · intro e
     have := congrArg Array.toList e
     exact inj _ _ (by simpa using this)
   · rintro rfl; rfl
structure KeyRun (P : Program) (m : Nat → Loc) (ml : Nat → Nat) (kt : TypeId) (t : KeyT) : Prop where
 ck : ∀ k, isK t k = true → ∀ em w, (Instr.checkKey em 10000 kt (conc m ml k)).run P w = .ok () w
 fk : ∀ k, isK t k = true → ∀ (ces : List MapEntry), (∀ c ∈ ces, ∃ k', isK t k' = true ∧ c.key = conc m ml k') → ∀ w, ∃ r, (Instr.findKey kt (conc m ml k) ces).run P w = .ok r w ∧
  ((r = none ∧ ∀ c ∈ ces, c.key ≠ conc m ml k) ∨ ∃ i c, r = some (i, c.val) ∧ ces[i]? = some c ∧ c.key = conc m ml k)
 ks : ∀ k, isK t k = true → ∀ w, (Instr.keyThatStays (conc m ml k) (conc m ml k)).run P w = .ok (conc m ml k) w
theorem findNow_run {d : TypeDesc} {K : Value} : ∀ (ces : List MapEntry) (n : Nat), (∀ c ∈ ces, ∃ b, Instr.sameNow d K c.key = some b ∧ (b = true ↔ c.key = K)) →
    ∃ r, Instr.findNow d K ces n = some r ∧ ((r = none ∧ ∀ c ∈ ces, c.key ≠ K) ∨ ∃ i c, r = some (n + i, c.val) ∧ ces[i]? = some c ∧ c.key = K)
 | [], n, _ => ⟨none, rfl, .inl ⟨rfl, by simp⟩⟩
 | c :: cs, n, h => by
  obtain ⟨b, hb1, hb2⟩ := h c (by simp)
  cases b with
  | true => exact ⟨some (n, c.val), by simp [Instr.findNow, hb1], .inr ⟨0, c, rfl, rfl, hb2.1 rfl⟩⟩
  | false =>
   obtain ⟨r, h1, h2⟩ := findNow_run cs (n + 1) fun x hx => h x (by simp [hx])
   refine ⟨r, by simp [Instr.findNow, hb1, h1], ?_⟩
   rcases h2 with ⟨rfl, h2⟩ | ⟨i, x, rfl, h3, h4⟩
   · refine .inl ⟨rfl, fun x hx => ?_⟩
     rcases List.mem_cons.1 hx with rfl | hx
     · exact fun e => by have := hb2.2 e; cases this
     · exact h2 x hx
   · exact .inr ⟨i + 1, x, by simp [Nat.add_assoc, Nat.add_comm 1 i], by simpa using h3, h4⟩
theorem findAsk_run {kt : TypeId} {K : Value} {w : World} : ∀ (ces : List MapEntry) (n : Nat), (∀ c ∈ ces, ∃ b, (Op.equal kt K c.key).run P w = .ok b w ∧ (b = true ↔ c.key = K)) →
    ∃ r, (Instr.findAsking kt K ces n).run P w = .ok r w ∧ ((r = none ∧ ∀ c ∈ ces, c.key ≠ K) ∨ ∃ i c, r = some (n + i, c.val) ∧ ces[i]? = some c ∧ c.key = K)
 | [], n, _ => ⟨none, by simp [Instr.findAsking], .inl ⟨rfl, by simp⟩⟩
 | c :: cs, n, h => by
  obtain ⟨b, hb1, hb2⟩ := h c (by simp)
  cases b with
  | true => exact ⟨some (n, c.val), by simp [Instr.findAsking, hb1, Result.andThen], .inr ⟨0, c, rfl, rfl, hb2.1 rfl⟩⟩
  | false =>
   obtain ⟨r, h1, h2⟩ := findAsk_run cs (n + 1) fun x hx => h x (by simp [hx])
   refine ⟨r, by simp [Instr.findAsking, hb1, h1, Result.andThen], ?_⟩
   rcases h2 with ⟨rfl, h2⟩ | ⟨i, x, rfl, h3, h4⟩
   · refine .inl ⟨rfl, fun x hx => ?_⟩
     rcases List.mem_cons.1 hx with rfl | hx
     · exact fun e => by have := hb2.2 e; cases this
     · exact h2 x hx
   · exact .inr ⟨i + 1, x, by simp [Nat.add_assoc, Nat.add_comm 1 i], by simpa using h3, h4⟩
theorem sameBits_ints : ∀ (l : List Value), (∀ v ∈ l, ∃ k n, v = .int k n) → ∀ n, (l.zip l).all (fun (x, y) => Instr.sameBits n x y) = true
 | [], _, n => rfl
 | v :: l, h, n => by
  obtain ⟨k, x, rfl⟩ := h v (by simp)
  have := sameBits_ints l (fun u hu => h u (by simp [hu])) n
  cases n <;> simp_all [Instr.sameBits]
theorem part_int {e : TypeId} {q : IntKind} (he : P.underlying e = some (.int q)) {cs : Array Value} {i : Nat} {v : Value} (h : cs[i]? = some v) (w : World) : (part e cs i).run P w = .ok v w := by
 unfold part
 simp [isAgg, run_underlying he, Result.andThen, h]
theorem keyRun {kt : TypeId} {t : KeyT} (h : keyT P kt = some t) : KeyRun P m ml kt t := by
 unfold keyT at h
 split at h
 · rename_i q hu
   cases h
   refine ⟨fun k hk em w => ?_, fun k hk ces hc w => ?_, fun k hk w => ?_⟩
   · cases k <;> simp [isK] at hk
     exact MapKept.run_checkKey hu (by simp [conc, IsKey, hk]) em 9999
   · cases k <;> simp [isK] at hk
     rename_i q' x; subst hk
     obtain ⟨r, h1, h2⟩ := findNow_run (d := .int q') (K := .int q' x) ces 0 fun c hcm => by
      obtain ⟨k', hk', e⟩ := hc c hcm
      cases k' <;> simp [isK] at hk'
      rename_i q2 y; subst hk'
      rw [e]
      exact ⟨decide (x = y), by simp [conc, Instr.sameNow]; rw [Bool.eq_iff_iff]; simp, by simp [conc]; exact eq_comm⟩
     exact ⟨r, MapKept.run_findKey hu (by simpa [conc] using h1), by simpa [conc] using h2⟩
   · cases k <;> simp [isK] at hk
     simp [conc, Instr.keyThatStays, Instr.sameBits]
 · rename_i hu
   cases h
   refine ⟨fun k hk em w => ?_, fun k hk ces hc w => ?_, fun k hk w => ?_⟩
   · cases k <;> simp [isK] at hk
     exact MapKept.run_checkKey hu (by simp [conc, IsKey]) em 9999
   · cases k <;> simp [isK] at hk
     rename_i x
     obtain ⟨r, h1, h2⟩ := findNow_run (d := .string) (K := .string ⟨x.toArray⟩) ces 0 fun c hcm => by
      obtain ⟨k', hk', e⟩ := hc c hcm
      cases k' <;> simp [isK] at hk'
      rename_i y
      rw [e]
      refine ⟨decide (x = y), ?_, by simp only [conc, Value.string.injEq, decide_eq_true_eq]; exact ⟨fun e => by rw [e], fun e => (bytes_inj e).symm⟩⟩
      simp only [conc, Instr.sameNow, Option.some.injEq]
      by_cases hxy : x = y
      · subst hxy; simp [bytes_beq]
      · have : ¬ ((⟨x.toArray⟩ : ByteArray) == ⟨y.toArray⟩) = true := by rw [bytes_beq]; exact fun e => hxy (bytes_inj e)
        simp [hxy, this]
     exact ⟨r, MapKept.run_findKey hu (by simpa [conc] using h1), by simpa [conc] using h2⟩
   · cases k <;> simp [isK] at hk
     rename_i x
     have : ((⟨x.toArray⟩ : ByteArray) == ⟨x.toArray⟩) = true := by rw [bytes_beq]
     simp only [conc, Instr.keyThatStays, Instr.sameBits, this, if_true, Sem.run_pure]
 · rename_i n e hu
   split at h
   · rename_i q he hs1
     cases h
     have hc1 : P.cellsOf e = 1 := by simp only [Program.cellsOf]; simp only [szT] at hs1; rw [hs1]; rfl
     have form : ∀ k, isK (.arr q n) k = true → ∃ x : List Int, x.length = n ∧ conc m ml k = .agg (x.map (Value.int q)).toArray := by
      intro k hk
      cases k <;> simp [isK] at hk
      obtain ⟨x, hx⟩ := Option.isSome_iff_exists.1 hk.1
      have e := ints_spec hx
      subst e
      refine ⟨x, by simpa using hk.2, ?_⟩
      simp only [conc, concL_eq, List.map_map]
      congr 2
     obtain ⟨i, hi⟩ := info_of_underlying he
     have hcell : ∀ (x : List Int) (j : Nat), j < x.length → ((x.map (Value.int q)).toArray)[j]? = some (.int q (x.getD j 0)) := by
      intro x j hj
      simp [hj, List.getD_eq_getElem?_getD]
     refine ⟨fun k hk em w => ?_, fun k hk ces hc w => ?_, fun k hk w => ?_⟩
     · obtain ⟨x, hx, ex⟩ := form k hk
       rw [ex]
       show (Instr.checkKey em (9998 + 1 + 1) kt _).run P w = _
       rw [Instr.checkKey]
       simp only [Sem.run_bind, run_underlying hu, Result.andThen_ok]
       simp only [Std.Legacy.Range.forIn_eq_forIn_range', Std.Legacy.Range.size, Nat.sub_zero, Nat.add_one_sub_one, Nat.div_one]
       have key : ∀ (is : List Nat), (∀ j ∈ is, j < x.length) → (forIn is PUnit.unit (fun j (_ : PUnit) => do
           Instr.checkKey em (9998 + 1) e (← part e (x.map (Value.int q)).toArray (j * (← sizeOf e)))
           pure (ForInStep.yield PUnit.unit)) : Sem PUnit).run P w = .ok PUnit.unit w := by
        intro is
        induction is with
        | nil => intro _; simp
        | cons j is ih =>
         intro hj
         have hp : (part e (x.map (Value.int q)).toArray (j * P.cellsOf e)).run P w = .ok (.int q (x.getD j 0)) w := by
          rw [hc1, Nat.mul_one]; exact part_int he (hcell x j (hj j (by simp))) w
         simp only [List.forIn_cons, Sem.run_bind, run_sizeOf w hi, Result.andThen_ok, hp, MapKept.run_checkKey he (show IsKey (.int q) (.int q (x.getD j 0)) by simp [IsKey]) em 9998, Sem.run_pure]
         exact ih fun j hj' => hj j (by simp [hj'])
       have := key (List.range' 0 n 1) (fun j hj => by rw [hx]; simpa using hj)
       refine (congrArg (fun r : Result PUnit => Result.andThen r (fun (_ : PUnit) w' => Sem.run P (pure ()) w')) this).trans ?_
       simp
     · obtain ⟨x, hx, ex⟩ := form k hk
       have items : ∀ (y : List Int), y.length = n → ∀ (is : List Nat), (∀ j ∈ is, j < n) → (Op.eqItems 9999 e (P.cellsOf e) (x.map (Value.int q)).toArray (y.map (Value.int q)).toArray is).run P w = .ok (is.all fun j => decide (x.getD j 0 = y.getD j 0)) w := by
        intro y hy is
        induction is with
        | nil => intro _; simp [Op.eqItems]
        | cons j is ih =>
         intro hj
         have hjn := hj j (by simp)
         have p1 : (part e (x.map (Value.int q)).toArray (j * P.cellsOf e)).run P w = .ok (.int q (x.getD j 0)) w := by
          rw [hc1, Nat.mul_one]; exact part_int he (hcell x j (by omega)) w
         have p2 : (part e (y.map (Value.int q)).toArray (j * P.cellsOf e)).run P w = .ok (.int q (y.getD j 0)) w := by
          rw [hc1, Nat.mul_one]; exact part_int he (hcell y j (by omega)) w
         have p3 := run_equalIn_int (P := P) w 9998 e q q (x.getD j 0) (y.getD j 0) he
         simp only [Op.eqItems, Sem.run_bind, p1, p2, p3, Result.andThen_ok, List.all_cons]
         by_cases hxy : x.getD j 0 = y.getD j 0
         · simp only [hxy, beq_self_eq_true, Bool.not_true, Bool.false_eq_true, if_false, decide_true, Bool.true_and]
           exact ih fun j' hj' => hj j' (by simp [hj'])
         · have h1 : (x.getD j 0 == y.getD j 0) = false := by simpa using hxy
           simp only [h1, Bool.not_false, if_true, Sem.run_pure, hxy, decide_false, Bool.false_and]
       have eq1 : ∀ (y : List Int), y.length = n → ∃ b, (Op.equal kt (.agg (x.map (Value.int q)).toArray) (.agg (y.map (Value.int q)).toArray)).run P w = .ok b w ∧ (b = true ↔ y = x) := by
        intro y hy
        refine ⟨(List.range n).all fun j => decide (x.getD j 0 = y.getD j 0), ?_, ?_⟩
        · show (Op.equalIn (9999 + 1) kt _ _).run P w = _
          rw [run_equalIn_array w 9999 _ _ hu hi]
          exact items y hy (List.range n) (fun j hj => by simpa using hj)
        · rw [List.all_eq_true]
          constructor
          · intro h
            apply List.ext_getElem (by omega)
            intro j h1 h2
            have := h j (by simp; omega)
            simp only [decide_eq_true_eq, List.getD_eq_getElem?_getD, List.getElem?_eq_getElem h1, List.getElem?_eq_getElem h2, Option.getD_some] at this
            exact this.symm
          · rintro rfl j _; simp
       cases ces with
       | nil => exact ⟨none, by simp [Instr.findKey, run_underlying hu, Instr.findNow, Result.andThen], .inl ⟨rfl, by simp⟩⟩
       | cons c cs =>
        obtain ⟨r, h1, h2⟩ := findAsk_run (P := P) (kt := kt) (K := .agg (x.map (Value.int q)).toArray) (w := w) (c :: cs) 0 fun c' hc' => by
         obtain ⟨k', hk', e'⟩ := hc c' hc'
         obtain ⟨y, hy, ey⟩ := form k' hk'
         obtain ⟨b, b1, b2⟩ := eq1 y hy
         rw [e', ey]
         refine ⟨b, b1, b2.trans ?_⟩
         constructor
         · rintro rfl; rfl
         · intro e
           simp only [Value.agg.injEq] at e
           have := congrArg Array.toList e
           have inj : ∀ (a b : List Int), a.map (Value.int q) = b.map (Value.int q) → a = b := by
            intro a
            induction a with
            | nil => intro b h; cases b <;> simp_all
            | cons u a ih => intro b h; cases b with
             | nil => simp at h
             | cons v b => simp only [List.map_cons, List.cons.injEq, Value.int.injEq, true_and] at h; rw [h.1, ih b h.2]
           exact inj _ _ (by simpa using this)
        refine ⟨r, ?_, by rw [ex]; simpa using h2⟩
        rw [ex]
        have hn : Instr.findNow (.array n e) (.agg (x.map (Value.int q)).toArray) (c :: cs) 0 = none := by simp [Instr.findNow, Instr.sameNow]
        simp only [Instr.findKey, Sem.run_bind, run_underlying hu, Result.andThen_ok, hn]
        exact h1
     · obtain ⟨x, hx, ex⟩ := form k hk
       rw [ex]
       have hsb : Instr.sameBits 10000 (Value.agg (x.map (Value.int q)).toArray) (Value.agg (x.map (Value.int q)).toArray) = true := by
        show (_ && _) = true
        rw [Bool.and_eq_true]
        refine ⟨by simp, ?_⟩
        have := sameBits_ints (x.map (Value.int q)) (fun v hv => by obtain ⟨y, _, rfl⟩ := List.mem_map.1 hv; exact ⟨_, _, rfl⟩) 9999
        simpa using this
       simp only [Instr.keyThatStays, hsb, if_true, Sem.run_pure]
   · cases h
 · cases h
end
end Go.Wam
set_option linter.unusedVariables false
set_option linter.unusedSimpArgs false
namespace Go.Wam
open Go Go.MapKept
section
variable {P : Program} {s : St} {m : Nat → Loc} {ml : Nat → Nat} {w : World} {loc : List (Nat × List AV)} {H : AHeap}
theorem zeroV_run {t : TypeId} {z : AV} (h : zeroV P t = some z) (m : Nat → Loc) (ml : Nat → Nat) (p : Nat → Nat → Prop) :
    (∀ w, (zeroValue t).run P w = .ok (conc m ml z) w) ∧ z.okP p := by
 unfold zeroV at h
 cases hi : P.info? t with
 | none => simp [hi] at h
 | some i =>
  cases hz : i.zero with
  | none => simp [hi, hz] at h
  | some v =>
   simp only [hi, hz, Option.bind_some] at h
   have run : ∀ w, (zeroValue t).run P w = .ok v w := fun w => by simp [zeroValue, info_run hi, hz]
   have leaf : leafV v = some z → (∀ w, (zeroValue t).run P w = .ok (conc m ml z) w) ∧ z.okP p := fun h => by
    obtain ⟨f1, f2, _⟩ := leaf_conc h m ml p
    exact ⟨fun w => by rw [f1]; exact run w, f2⟩
   cases v with
   | agg cs =>
    simp only [Option.map_eq_some_iff] at h
    obtain ⟨l, hl, rfl⟩ := h
    obtain ⟨f1, f2, f3⟩ := leafs_conc hl m ml p
    refine ⟨fun w => ?_, by simpa [AV.okP] using ⟨f2, List.all_eq_true.1 f3⟩⟩
    rw [run]; simp [conc, f1]
   | _ => exact leaf h
theorem wrote_set {w : World} {b : Nat} {o o' : Obj} (h : w.heap[b]? = some o) : Wrote w { w with heap := w.heap.setIfInBounds b o' } b :=
 ⟨(Go.MapKept.heap_set h).2, by simp, rfl, rfl, rfl⟩
theorem findK_split {t : KeyT} {k : AV} : ∀ (es : List ME), (findK t k es = none ∧ (∀ e ∈ es, keyEq t k e.1 = false) ∧ delK t k es = es) ∨
    ∃ E1 e E2, es = E1 ++ e :: E2 ∧ keyEq t k e.1 = true ∧ findK t k es = some e.2 ∧ (∀ v, setK t k v es = E1 ++ (k, v, e.2.2) :: E2) ∧ delK t k es = E1 ++ E2
 | [] => .inl ⟨rfl, by simp, rfl⟩
 | e :: es => by
  cases hq : keyEq t k e.1 with
  | true => exact .inr ⟨[], e, es, rfl, hq, by simp [findK, hq], fun v => by simp [setK, hq], by simp [delK, hq]⟩
  | false =>
   rcases findK_split (t := t) (k := k) es with ⟨h1, h2, h3⟩ | ⟨E1, e', E2, h1, h2, h3, h4, h5⟩
   · refine .inl ⟨by simp [findK, hq, h1], fun x hx => ?_, by simp [delK, hq, h3]⟩
     rcases List.mem_cons.1 hx with rfl | hx
     · exact hq
     · exact h2 x hx
   · exact .inr ⟨e :: E1, e', E2, by rw [h1]; rfl, h2, by simp only [findK, hq]; exact h3, fun v => by simp only [setK, hq]; rw [h4]; rfl, by simp only [delK, hq]; rw [h5]; rfl⟩
theorem insK_perm (t : KeyT) (x : ME) : ∀ es : List ME, (insK t x es).Perm (x :: es)
 | [] => .refl _
 | e :: es => by
  simp only [insK]
  split
  · exact .refl _
  · exact ((insK_perm t x es).cons e).trans (.swap x e es)
def triple (c : MapEntry) : Value × Value × Nat := (c.key, c.val, c.born)
def concE (m : Nat → Loc) (ml : Nat → Nat) (e : ME) : Value × Value × Nat := (conc m ml e.1, conc m ml e.2.1, e.2.2)
theorem keysOk_mem {t : KeyT} {es : List ME} (h : keysOk t es = true) {e : ME} (he : e ∈ es) : isK t e.1 = true := List.all_eq_true.1 h e he
variable {ces : Array MapEntry} {es : List ME} {c : Nat} {t : KeyT} {k v : AV}
theorem MapAt.keys (M : MapAt m ml ces es c) (hK : keysOk t es = true) : ∀ ce ∈ ces.toList, ∃ k', isK t k' = true ∧ ce.key = conc m ml k' := by
 intro ce hce
 have h1 : triple ce ∈ ces.toList.map triple := List.mem_map_of_mem hce
 have h2 := M.1.mem_iff.1 h1
 obtain ⟨e, he, hee⟩ := List.mem_map.1 h2
 exact ⟨e.1, keysOk_mem hK he, (congrArg Prod.fst hee).symm⟩
theorem MapAt.found (M : MapAt m ml ces es c) (hK : keysOk t es = true) (hk : isK t k = true) {E1 E2 : List ME} {e : ME} (hs : es = E1 ++ e :: E2) (hq : keyEq t k e.1 = true) {i : Nat} {ce : MapEntry} (hi : ces[i]? = some ce) (hce : ce.key = conc m ml k) :
    ce.val = conc m ml e.2.1 ∧ ce.born = e.2.2 := by
 have hmem : ce ∈ ces.toList := by rw [Array.mem_toList_iff]; exact Array.mem_of_getElem? hi
 have h2 := M.1.mem_iff.1 (List.mem_map_of_mem (f := triple) hmem)
 obtain ⟨e', he', hee⟩ := List.mem_map.1 h2
 have heK : isK t e.1 = true := keysOk_mem hK (by rw [hs]; simp)
 have hkk : conc m ml e'.1 = conc m ml e.1 := by
  have h3 := congrArg Prod.fst hee
  simp only [triple] at h3
  rw [h3, hce]
  exact (conc_key hk heK).2 hq
 have hee' : e' = e := by
  have hnd := M.2.2.2
  obtain ⟨a, ha, hae⟩ := List.mem_iff_getElem.1 he'
  have heM : e ∈ es := by rw [hs]; simp
  obtain ⟨b, hb, hbe⟩ := List.mem_iff_getElem.1 heM
  have : a = b := by
   refine (List.getElem_inj (i := a) (j := b) (h₀ := by simpa using ha) (h₁ := by simpa using hb) hnd).1 ?_
   simp only [List.getElem_map, hae, hbe, hkk]
  subst this
  rw [← hae, ← hbe]
 subst hee'
 simp only [triple, Prod.mk.injEq] at hee
 exact ⟨hee.2.1.symm, hee.2.2.symm⟩
theorem mapKey_find {kt : TypeId} (KR : KeyRun P m ml kt t) (M : MapAt m ml ces es c) (hK : keysOk t es = true) (hk : isK t k = true) (w : World) :
    (findK t k es = none ∧ (Instr.findKey kt (conc m ml k) ces.toList).run P w = .ok none w) ∨
    ∃ E1 e E2 i ce, es = E1 ++ e :: E2 ∧ keyEq t k e.1 = true ∧ findK t k es = some e.2 ∧ (∀ v, setK t k v es = E1 ++ (k, v, e.2.2) :: E2) ∧ delK t k es = E1 ++ E2 ∧
     (Instr.findKey kt (conc m ml k) ces.toList).run P w = .ok (some (i, conc m ml e.2.1)) w ∧ ces[i]? = some ce ∧ ce.key = conc m ml k ∧ ce.val = conc m ml e.2.1 ∧ ce.born = e.2.2 := by
 obtain ⟨r, h1, h2⟩ := KR.fk k hk ces.toList (M.keys hK) w
 rcases findK_split (t := t) (k := k) es with ⟨f1, f2, f3⟩ | ⟨E1, e, E2, f1, f2, f3, f4, f5⟩
 · refine .inl ⟨f1, ?_⟩
   rcases h2 with ⟨rfl, _⟩ | ⟨i, ce, rfl, h3, h4⟩
   · exact h1
   · exfalso
     have hmem : ce ∈ ces.toList := List.mem_of_getElem? h3
     have := M.1.mem_iff.1 (List.mem_map_of_mem (f := triple) hmem)
     obtain ⟨e', he', hee⟩ := List.mem_map.1 this
     have h5 := congrArg Prod.fst hee
     simp only [triple] at h5
     have h6 := (conc_key (m := m) (ml := ml) hk (keysOk_mem hK he')).1 (by rw [h5, h4])
     rw [f2 e' he'] at h6; cases h6
 · refine .inr ?_
   rcases h2 with ⟨rfl, h3⟩ | ⟨i, ce, rfl, h3, h4⟩
   · exfalso
     have he : e ∈ es := by rw [f1]; simp
     have := M.1.mem_iff.2 (List.mem_map_of_mem (f := concE m ml) he)
     obtain ⟨ce, hce, hee⟩ := List.mem_map.1 this
     refine h3 ce hce ?_
     have h5 := congrArg Prod.fst hee
     simp only [concE] at h5
     rw [h5]
     exact ((conc_key hk (keysOk_mem hK he)).2 f2).symm
   · have hi : ces[i]? = some ce := by simpa using h3
     obtain ⟨g1, g2⟩ := M.found hK hk f1 f2 hi h4
     exact ⟨E1, e, E2, i, ce, f1, f2, f3, f4, f5, by rw [h1, g1], hi, h4, g1, g2⟩
theorem perm_set {α : Type} {l : List α} {i : Nat} {x : α} (y : α) (h : l[i]? = some x) : ∃ r, l.Perm (x :: r) ∧ (l.set i y).Perm (y :: r) ∧ (l.eraseIdx i).Perm r := by
 obtain ⟨hi, hx⟩ := List.getElem?_eq_some_iff.1 h
 refine ⟨l.take i ++ l.drop (i + 1), ?_, ?_, ?_⟩
 · have : l = l.take i ++ x :: l.drop (i + 1) := by rw [← hx]; simp
   conv => lhs; rw [this]
   exact List.perm_middle
 · rw [List.set_eq_take_append_cons_drop, if_pos hi]; exact List.perm_middle
 · rw [List.eraseIdx_eq_take_drop_succ]
theorem map_modify {ces : Array MapEntry} {i : Nat} {ce : MapEntry} (hi : ces[i]? = some ce) (f : MapEntry → MapEntry) : (ces.modify i f).toList.map triple = (ces.toList.map triple).set i (triple (f ce)) := by
 apply List.ext_getElem?
 intro j
 simp only [List.getElem?_map, Array.getElem?_toList, Array.getElem?_modify, List.getElem?_set]
 obtain ⟨hlt, rfl⟩ := Array.getElem?_eq_some_iff.1 hi
 by_cases h : i = j
 · subst h; simp [hi, hlt]
 · simp [h]
theorem MapAt.modify (M : MapAt m ml ces es c) (hK : keysOk t es = true) (hk : isK t k = true) {E1 E2 : List ME} {e : ME} (hs : es = E1 ++ e :: E2) (hq : keyEq t k e.1 = true) {i : Nat} {ce : MapEntry} (hi : ces[i]? = some ce) (hce : ce.key = conc m ml k) (hv : ce.val = conc m ml e.2.1) (hb : ce.born = e.2.2)
    (f : MapEntry → MapEntry) (v : AV) (hf : triple (f ce) = (conc m ml k, conc m ml v, e.2.2)) : MapAt m ml (ces.modify i f) (E1 ++ (k, v, e.2.2) :: E2) c := by
 have hke : conc m ml k = conc m ml e.1 := (conc_key hk (keysOk_mem hK (by rw [hs]; simp))).2 hq
 obtain ⟨p1, p2, p3, p4⟩ := M
 subst hs
 have hx : (ces.toList.map triple)[i]? = some (concE m ml e) := by
  simp only [List.getElem?_map, Array.getElem?_toList, hi, Option.map_some, triple, concE, hce, hke, hv, hb]
 obtain ⟨r, q1, q2, _⟩ := perm_set (concE m ml (k, v, e.2.2)) hx
 refine ⟨?_, ?_, ?_, ?_⟩
 · show ((ces.modify i f).toList.map triple).Perm ((E1 ++ (k, v, e.2.2) :: E2).map (concE m ml))
   rw [map_modify hi, hf]
   refine q2.trans ?_
   rw [List.map_append, List.map_cons]
   refine .trans ?_ List.perm_middle.symm
   refine .cons _ ?_
   have : ((E1 ++ e :: E2).map (concE m ml)).Perm (concE m ml e :: (E1.map (concE m ml) ++ E2.map (concE m ml))) := by rw [List.map_append, List.map_cons]; exact List.perm_middle
   exact ((q1.symm.trans p1).trans this).cons_inv
 · intro x hx
   simp only [List.mem_append, List.mem_cons] at hx
   rcases hx with hx | rfl | hx
   · exact p2 x (by simp [hx])
   · exact p2 e (by simp)
   · exact p2 x (by simp [hx])
 · simpa using p3
 · simpa [hke] using p4
theorem MapAt.push (M : MapAt m ml ces es c) (hK : keysOk t es = true) (hk : isK t k = true) (hn : ∀ e ∈ es, keyEq t k e.1 = false) (v : AV) :
    MapAt m ml (ces.push { key := conc m ml k, val := conc m ml v, born := c }) (insK t (k, v, c) es) (c + 1) := by
 obtain ⟨p1, p2, p3, p4⟩ := M
 have ip := insK_perm t (k, v, c) es
 refine ⟨?_, ?_, ?_, ?_⟩
 · show ((ces.push _).toList.map triple).Perm ((insK t (k, v, c) es).map (concE m ml))
   rw [Array.toList_push, List.map_append]
   refine (List.perm_append_comm).trans ?_
   refine .trans ?_ (ip.map (concE m ml)).symm
   exact .cons _ p1
 · intro x hx
   rcases List.mem_cons.1 (ip.mem_iff.1 hx) with rfl | hx
   · exact Nat.lt_succ_self _
   · exact Nat.lt_succ_of_lt (p2 x hx)
 · refine (ip.map (·.2.2)).nodup_iff.2 ?_
   simp only [List.map_cons, List.nodup_cons]
   refine ⟨fun hx => ?_, p3⟩
   obtain ⟨e, he, hee⟩ := List.mem_map.1 hx
   have := p2 e he
   omega
 · refine (ip.map (fun e => conc m ml e.1)).nodup_iff.2 ?_
   simp only [List.map_cons, List.nodup_cons]
   refine ⟨fun hx => ?_, p4⟩
   obtain ⟨e, he, hee⟩ := List.mem_map.1 hx
   have := (conc_key hk (keysOk_mem hK he)).1 hee.symm
   rw [hn e he] at this; cases this
theorem MapAt.erase (M : MapAt m ml ces es c) {E1 E2 : List ME} {e : ME} (hs : es = E1 ++ e :: E2) {i : Nat} {ce : MapEntry} (hi : ces[i]? = some ce) (ht : triple ce = concE m ml e) : MapAt m ml (ces.eraseIdxIfInBounds i) (E1 ++ E2) c := by
 obtain ⟨p1, p2, p3, p4⟩ := M
 subst hs
 have hx : (ces.toList.map triple)[i]? = some (concE m ml e) := by simp only [List.getElem?_map, Array.getElem?_toList, hi, Option.map_some, ht]
 obtain ⟨r, q1, _, q3⟩ := perm_set (concE m ml e) hx
 have sub : (E1 ++ E2).Sublist (E1 ++ e :: E2) := List.Sublist.append_left (List.sublist_cons_self e E2) E1
 refine ⟨?_, fun x hx => p2 x (sub.subset hx), p3.sublist (sub.map _), p4.sublist (sub.map _)⟩
 show ((ces.eraseIdxIfInBounds i).toList.map triple).Perm ((E1 ++ E2).map (concE m ml))
 have hl : (ces.eraseIdxIfInBounds i).toList = ces.toList.eraseIdx i := by simp
 have me : ∀ {α β : Type} (f : α → β) (l : List α) (j : Nat), (l.eraseIdx j).map f = (l.map f).eraseIdx j := by
  intro α β f l
  induction l with
  | nil => simp
  | cons a l ih => intro j; cases j <;> simp [ih]
 rw [hl, me]
 refine q3.trans ?_
 have : ((E1 ++ e :: E2).map (concE m ml)).Perm (concE m ml e :: (E1.map (concE m ml) ++ E2.map (concE m ml))) := by rw [List.map_append, List.map_cons]; exact List.perm_middle
 rw [List.map_append]
 exact ((q1.symm.trans p1).trans this).cons_inv
theorem lookupA_run {t kt e : TypeId} {kT : KeyT} {ok : Bool} {z x k r : AV} (ht : P.underlying t = some (.map kt e)) (hk : keyT P kt = some kT) (hz : zeroV P e = some z) (S : Sim P m ml loc H w) (h : lookupA H kT ok z x k = some r) :
    (Instr.lookup t (conc m ml x) (conc m ml k) ok).run P w = .ok (conc m ml r) w ∧ r.okP (good m H.n) := by
 have KR := keyRun (m := m) (ml := ml) hk
 obtain ⟨z1, z2⟩ := zeroV_run hz m ml (good m H.n)
 unfold lookupA at h
 cases hK : isK kT k with
 | false => simp [hK] at h
 | true =>
  rw [hK] at h
  simp only [Bool.true_eq_false, if_false] at h
  split at h
  · cases h
    obtain ⟨r0, f0, f1⟩ := KR.fk k hK [] (by simp) w
    have : r0 = none := by rcases f1 with ⟨h, _⟩ | ⟨i, c, _, h, _⟩; exact h; simp at h
    subst this
    cases ok
    · exact ⟨by simp [Instr.lookup, run_underlying ht, KR.ck k hK, f0, z1, conc, Result.andThen], z2⟩
    · exact ⟨by simp [Instr.lookup, run_underlying ht, KR.ck k hK, f0, z1, conc, concL, Result.andThen], by simp [AV.okP, AV.okPL, z2]⟩
  · rename_i id
    split at h
    · rename_i es c hi
      obtain ⟨ces, b1, M⟩ := S.obj id _ hi
      have hok := S.ok id _ hi
      split at h
      · rename_i hKs
        rcases mapKey_find KR M hKs hK w with ⟨f1, f2⟩ | ⟨E1, e', E2, i, ce, f1, f2, f3, f4, f5, f6, _⟩
        · rw [f1] at h
          cases h
          cases ok
          · exact ⟨by simp [Instr.lookup, run_underlying ht, Go.MapKept.run_getObj_map b1, KR.ck k hK, f2, z1, conc, Result.andThen], z2⟩
          · exact ⟨by simp [Instr.lookup, run_underlying ht, Go.MapKept.run_getObj_map b1, KR.ck k hK, f2, z1, conc, concL, Result.andThen], by simp [AV.okP, AV.okPL, z2]⟩
        · rw [f3] at h
          cases h
          have hv : e'.2.1.okP (good m H.n) := (hok e' (by rw [f1]; simp)).2
          cases ok
          · exact ⟨by simp [Instr.lookup, run_underlying ht, Go.MapKept.run_getObj_map b1, KR.ck k hK, f6, conc, Result.andThen], hv⟩
          · exact ⟨by simp [Instr.lookup, run_underlying ht, Go.MapKept.run_getObj_map b1, KR.ck k hK, f6, conc, concL, Result.andThen], by simp [AV.okP, AV.okPL, hv]⟩
      · cases h
    · cases h
  · cases h
theorem updA_run {t kt e : TypeId} {kT : KeyT} {x k v : AV} {H' : AHeap} (ht : P.underlying t = some (.map kt e)) (hk : keyT P kt = some kT) (S : Sim P m ml loc H w) (hkv : vOk (good m H.n) LT k) (hvv : vOk (good m H.n) LT v) (h : updA H kT x k v = some H') :
    ∃ w', (Instr.mapUpdate t (conc m ml x) (conc m ml k) (conc m ml v)).run P w = .ok () w' ∧ Sim P m ml loc H' w' ∧ Grow m ml loc H w m ml loc H' w' ∧ H'.n = H.n ∧ H'.dfs = H.dfs := by
 have KR := keyRun (m := m) (ml := ml) hk
 unfold updA at h
 cases hK : isK kT k with
 | false => simp [hK] at h
 | true =>
  rw [hK] at h
  simp only [Bool.true_eq_false, if_false] at h
  split at h
  · rename_i id
    split at h
    · rename_i es c hi
      obtain ⟨ces, b1, M⟩ := S.obj id _ hi
      have hok := S.ok id _ hi
      split at h
      · rename_i hn
        simp only [Bool.and_eq_true] at hn
        obtain ⟨⟨hn1, hn2⟩, hKs⟩ := hn
        have hk1 := hkv.noL hn1
        have hv1 := hvv.noL hn2
        rcases mapKey_find KR M hKs hK w with ⟨f1, f2⟩ | ⟨E1, e', E2, i, ce, f1, f2, f3, f4, f5, f6, f7, f8, f9, f10⟩
        · rw [f1] at h
          cases h
          have hnn : ∀ e ∈ es, keyEq kT k e.1 = false := by
           rcases findK_split (t := kT) (k := k) es with ⟨_, h, _⟩ | ⟨_, e, _, _, _, h, _⟩
           · exact h
           · rw [f1] at h; cases h
          refine ⟨{ w with heap := w.heap.setIfInBounds (m id).block (.map (ces.push { key := conc m ml k, val := conc m ml v, born := c }) (c + 1)) }, ?_,
           S.set_obj hi rfl ⟨_, (Go.MapKept.heap_set b1).1, M.push hKs hK hnn v⟩ ?_ rfl (wrote_set b1).other, .of_set S.wf hi rfl rfl (wrote_set b1), rfl, rfl⟩
          · simp [Instr.mapUpdate, conc, run_underlying ht, Go.MapKept.run_getObj_map b1, KR.ck k hK, f2, Go.MapKept.run_setObj_map _ b1, Result.andThen]
          · intro e he
            rcases List.mem_cons.1 ((insK_perm kT (k, v, c) es).mem_iff.1 he) with rfl | he
            · exact ⟨hk1, hv1⟩
            · exact hok e he
        · rw [f3] at h
          cases h
          rw [f4 v]
          refine ⟨{ w with heap := w.heap.setIfInBounds (m id).block (.map (ces.modify i fun e => { e with key := conc m ml k, val := conc m ml v }) c) }, ?_,
           S.set_obj hi rfl ⟨_, (Go.MapKept.heap_set b1).1, M.modify hKs hK f1 f2 f7 f8 f9 f10 _ v (by simp [triple, f10])⟩ ?_ rfl (wrote_set b1).other, .of_set S.wf hi rfl rfl (wrote_set b1), rfl, rfl⟩
          · simp [Instr.mapUpdate, conc, run_underlying ht, Go.MapKept.run_getObj_map b1, KR.ck k hK, f6, f7, f8, KR.ks k hK, Go.MapKept.run_setObj_map _ b1, Result.andThen]
          · intro e he
            rw [f1] at hok
            simp only [List.mem_append, List.mem_cons] at he
            rcases he with he | rfl | he
            · exact hok e (by simp [he])
            · exact ⟨hk1, hv1⟩
            · exact hok e (by simp [he])
      · cases h
    · cases h
  · cases h
theorem delA_run {t kt e ty : TypeId} {ts : Array TypeId} {kT : KeyT} {x k : AV} {H' : AHeap} (hts : ts[0]? = some t) (ht : P.underlying t = some (.map kt e)) (hk : keyT P kt = some kT) (S : Sim P m ml loc H w) (h : delA H kT x k = some H') :
    ∃ w', (Builtin.delete_ ts ty #[conc m ml x, conc m ml k]).run P w = .ok (.tuple #[]) w' ∧ Sim P m ml loc H' w' ∧ Grow m ml loc H w m ml loc H' w' ∧ H'.n = H.n ∧ H'.dfs = H.dfs := by
 have KR := keyRun (m := m) (ml := ml) hk
 unfold delA at h
 cases hK : isK kT k with
 | false => simp [hK] at h
 | true =>
  rw [hK] at h
  simp only [Bool.true_eq_false, if_false] at h
  split at h
  · cases h
    exact ⟨w, by simp [Builtin.delete_, hts, conc, run_underlying ht, KR.ck k hK, Result.andThen], S, .refl _ _ _ _ _, rfl, rfl⟩
  · rename_i id
    split at h
    · rename_i es c hi
      obtain ⟨ces, b1, M⟩ := S.obj id _ hi
      have hok := S.ok id _ hi
      split at h
      · rename_i hKs
        cases h
        rcases mapKey_find KR M hKs hK w with ⟨f1, f2⟩ | ⟨E1, e', E2, i, ce, f1, f2, f3, f4, f5, f6, f7, f8, f9, f10⟩
        · have hd : delK kT k es = es := by
            rcases findK_split (t := kT) (k := k) es with ⟨_, _, h⟩ | ⟨_, e, _, _, _, h, _⟩
            · exact h
            · rw [f1] at h; cases h
          rw [hd]
          refine ⟨{ w with heap := w.heap.setIfInBounds (m id).block (.map ces c) }, ?_, S.set_obj hi rfl ⟨_, (Go.MapKept.heap_set b1).1, M⟩ hok rfl (wrote_set b1).other, .of_set S.wf hi rfl rfl (wrote_set b1), rfl, rfl⟩
          simp [Builtin.delete_, hts, conc, run_underlying ht, Go.MapKept.run_getObj_map b1, KR.ck k hK, f2, Go.MapKept.run_setObj_map _ b1, Result.andThen]
        · rw [f5]
          have htr : triple ce = concE m ml e' := by
           simp only [triple, concE, f8, f9, f10, (conc_key hK (keysOk_mem hKs (by rw [f1]; simp))).2 f2]
          refine ⟨{ w with heap := w.heap.setIfInBounds (m id).block (.map (ces.eraseIdxIfInBounds i) c) }, ?_, S.set_obj hi rfl ⟨_, (Go.MapKept.heap_set b1).1, M.erase f1 f7 htr⟩ ?_ rfl (wrote_set b1).other, .of_set S.wf hi rfl rfl (wrote_set b1), rfl, rfl⟩
          · simp [Builtin.delete_, hts, conc, run_underlying ht, Go.MapKept.run_getObj_map b1, KR.ck k hK, f6, Go.MapKept.run_setObj_map _ b1, Result.andThen]
          · intro e he
            refine hok e ?_
            rw [f1]
            simp only [List.mem_append, List.mem_cons] at he ⊢
            rcases he with h | h
            · exact .inl h
            · exact .inr (.inr h)
      · cases h
    · cases h
  · cases h
theorem mapEntryA_run {t kt e : TypeId} {kT : KeyT} {z x k r : AV} {H' : AHeap} (ht : P.underlying t = some (.map kt e)) (hk : keyT P kt = some kT) (hz : zeroV P e = some z) (S : Sim P m ml loc H w) (hkv : vOk (good m H.n) LT k) (h : mapEntryA H kT z x k = some (r, H')) :
    ∃ w', (Instr.mapEntry t (conc m ml x) (conc m ml k)).run P w = .ok (conc m ml r) w' ∧ Sim P m ml loc H' w' ∧ Grow m ml loc H w m ml loc H' w' ∧ r.okP (good m H'.n) ∧ H'.dfs = H.dfs := by
 have KR := keyRun (m := m) (ml := ml) hk
 obtain ⟨z1, z2⟩ := zeroV_run hz m ml (good m H.n)
 unfold mapEntryA at h
 cases hK : isK kT k with
 | false => simp [hK] at h
 | true =>
  rw [hK] at h
  simp only [Bool.true_eq_false, if_false] at h
  split at h
  · rename_i id
    split at h
    · rename_i es c hi
      obtain ⟨ces, b1, M⟩ := S.obj id _ hi
      have hok := S.ok id _ hi
      split at h
      · rename_i hn
        simp only [Bool.and_eq_true] at hn
        obtain ⟨hn1, hKs⟩ := hn
        have hk1 := hkv.noL hn1
        rcases mapKey_find KR M hKs hK w with ⟨f1, f2⟩ | ⟨E1, e', E2, i, ce, f1, f2, f3, f4, f5, f6, f7, f8, f9, f10⟩
        · rw [f1] at h
          cases h
          have hnn : ∀ e ∈ es, keyEq kT k e.1 = false := by
           rcases findK_split (t := kT) (k := k) es with ⟨_, h, _⟩ | ⟨_, e, _, _, _, h, _⟩
           · exact h
           · rw [f1] at h; cases h
          refine ⟨{ w with heap := w.heap.setIfInBounds (m id).block (.map (ces.push { key := conc m ml k, val := conc m ml z, born := c }) (c + 1)) }, ?_,
           S.set_obj hi rfl ⟨_, (Go.MapKept.heap_set b1).1, M.push hKs hK hnn z⟩ ?_ rfl (wrote_set b1).other, .of_set S.wf hi rfl rfl (wrote_set b1), by simpa [AV.okP, AV.okPL] using z2, rfl⟩
          · simp [Instr.mapEntry, conc, concL, goInt, run_underlying ht, Go.MapKept.run_getObj_map b1, KR.ck k hK, f2, z1, Go.MapKept.run_setObj_map _ b1, Result.andThen]
          · intro e he
            rcases List.mem_cons.1 ((insK_perm kT (k, z, c) es).mem_iff.1 he) with rfl | he
            · exact ⟨hk1, z2⟩
            · exact hok e he
        · rw [f3] at h
          cases h
          rw [f4 e'.2.1]
          have hv : e'.2.1.okP (good m H.n) := (hok e' (by rw [f1]; simp)).2
          refine ⟨{ w with heap := w.heap.setIfInBounds (m id).block (.map (ces.modify i fun e => { e with key := conc m ml k }) c) }, ?_,
           S.set_obj hi rfl ⟨_, (Go.MapKept.heap_set b1).1, M.modify hKs hK f1 f2 f7 f8 f9 f10 _ e'.2.1 (by simp [triple, f9, f10])⟩ ?_ rfl (wrote_set b1).other, .of_set S.wf hi rfl rfl (wrote_set b1), by simpa [AV.okP, AV.okPL] using hv, rfl⟩
          · simp [Instr.mapEntry, conc, concL, goInt, run_underlying ht, Go.MapKept.run_getObj_map b1, KR.ck k hK, f6, f7, f8, f10, KR.ks k hK, Go.MapKept.run_setObj_map _ b1, Result.andThen]
          · intro e he
            rw [f1] at hok
            simp only [List.mem_append, List.mem_cons] at he
            rcases he with he | rfl | he
            · exact hok e (by simp [he])
            · exact ⟨hk1, hv⟩
            · exact hok e (by simp [he])
      · cases h
    · cases h
  · cases h
theorem setB_split {b : Int} {v : AV} : ∀ {es es' : List ME}, setB b v es = some es' → ∃ (E1 : List ME) (e : ME) (E2 : List ME), es = E1 ++ e :: E2 ∧ (e.2.2 : Int) = b ∧ es' = E1 ++ (e.1, v, e.2.2) :: E2
 | [], es', h => by simp [setB] at h
 | e :: es, es', h => by
  simp only [setB] at h
  split at h
  · rename_i hb; cases h; exact ⟨[], e, es, rfl, hb, rfl⟩
  · rw [Option.map_eq_some_iff] at h
    obtain ⟨l, hl, rfl⟩ := h
    obtain ⟨E1, e', E2, h1, h2, h3⟩ := setB_split hl
    exact ⟨e :: E1, e', E2, by rw [h1]; rfl, h2, by rw [h3]; rfl⟩
theorem born_unique (M : MapAt m ml ces es c) {e : ME} (he : e ∈ es) {ce : MapEntry} (hce : ce ∈ ces.toList) (hb : ce.born = e.2.2) : triple ce = concE m ml e := by
 have := M.1.mem_iff.1 (List.mem_map_of_mem (f := triple) hce)
 obtain ⟨e', he', hee⟩ := List.mem_map.1 this
 have : e' = e := by
  have hnd := M.2.2.1
  obtain ⟨a, ha, hae⟩ := List.mem_iff_getElem.1 he'
  obtain ⟨b, hb', hbe⟩ := List.mem_iff_getElem.1 he
  have hbb : e'.2.2 = e.2.2 := by have := congrArg (fun x => x.2.2) hee; simp only [triple] at this; rw [← hb]; exact this
  have : a = b := by
   refine (List.getElem_inj (i := a) (j := b) (h₀ := by simpa using ha) (h₁ := by simpa using hb') hnd).1 ?_
   simp only [List.getElem_map, hae, hbe, hbb]
  subst this
  rw [← hae, ← hbe]
 subst this
 exact hee.symm
theorem entryStoreA_run {t : TypeId} {x b v : AV} {H' : AHeap} (S : Sim P m ml loc H w) (hvv : vOk (good m H.n) LT v) (h : entryStoreA H x b v = some H') :
    ∃ w', (Instr.entryStore t (conc m ml x) (conc m ml b) (conc m ml v)).run P w = .ok () w' ∧ Sim P m ml loc H' w' ∧ Grow m ml loc H w m ml loc H' w' ∧ H'.n = H.n ∧ H'.dfs = H.dfs := by
 unfold entryStoreA at h
 split at h
 · rename_i id q bn
   split at h
   · rename_i es c hi
     obtain ⟨ces, b1, M⟩ := S.obj id _ hi
     have hok := S.ok id _ hi
     split at h
     · rename_i hl
       rw [Option.map_eq_some_iff] at h
       obtain ⟨es', hes, rfl⟩ := h
       obtain ⟨E1, e, E2, h1, h2, h3⟩ := setB_split hes
       subst h3
       have heM : e ∈ es := by rw [h1]; simp
       have hex : ∃ i, ces.findIdx? (fun x => (x.born : Int) == bn) = some i := by
        cases hf : ces.findIdx? (fun x => (x.born : Int) == bn) with
        | some i => exact ⟨i, rfl⟩
        | none =>
         exfalso
         have := M.1.mem_iff.2 (List.mem_map_of_mem (f := concE m ml) heM)
         obtain ⟨ce, hce, hee⟩ := List.mem_map.1 this
         rw [Array.findIdx?_eq_none_iff] at hf
         have h4 := hf ce (by simpa using hce)
         have h5 := congrArg (fun x => x.2.2) hee
         simp only [concE] at h5
         simp only [beq_eq_false_iff_ne, ne_eq] at h4
         exact h4 (by rw [h5]; exact h2)
       obtain ⟨i, hf⟩ := hex
       obtain ⟨hlt, hp, _⟩ := Array.findIdx?_eq_some_iff_getElem.1 hf
       have hget : ces[i]? = some ces[i] := by simp [hlt]
       have hb : ces[i].born = e.2.2 := by have := of_decide_eq_true (by simpa using hp : decide ((ces[i].born : Int) = bn) = true); omega
       have htr := born_unique M heM (ce := ces[i]) (by simp) hb
       have t1 := congrArg Prod.fst htr
       have t2 := congrArg (fun x => x.2.1) htr
       simp only [triple, concE] at t1 t2
       refine ⟨{ w with heap := w.heap.setIfInBounds (m id).block (.map (ces.modify i fun e => { e with val := conc m ml v }) c) }, ?_, S.set_obj hi rfl ⟨_, (Go.MapKept.heap_set b1).1, ?_⟩ ?_ rfl (wrote_set b1).other, .of_set S.wf hi rfl rfl (wrote_set b1), rfl, rfl⟩
       · simp [Instr.entryStore, conc, Go.MapKept.run_getObj_map b1, asInt, asIntOf, hf, Go.MapKept.run_setObj_map _ b1, Result.andThen]
       · obtain ⟨p1, p2, p3, p4⟩ := M
         subst h1
         have hx : (ces.toList.map triple)[i]? = some (concE m ml e) := by simp only [List.getElem?_map, Array.getElem?_toList, hget, Option.map_some, htr]
         obtain ⟨r, q1, q2, _⟩ := perm_set (concE m ml (e.1, v, e.2.2)) hx
         refine ⟨?_, ?_, by simpa using p3, by simpa using p4⟩
         · show ((ces.modify i _).toList.map triple).Perm ((E1 ++ (e.1, v, e.2.2) :: E2).map (concE m ml))
           rw [map_modify hget, show triple { ces[i] with val := conc m ml v } = concE m ml (e.1, v, e.2.2) by simp [triple, concE, t1, hb]]
           refine q2.trans ?_
           rw [List.map_append, List.map_cons]
           refine .trans ?_ List.perm_middle.symm
           refine .cons _ ?_
           have : ((E1 ++ e :: E2).map (concE m ml)).Perm (concE m ml e :: (E1.map (concE m ml) ++ E2.map (concE m ml))) := by rw [List.map_append, List.map_cons]; exact List.perm_middle
           exact ((q1.symm.trans p1).trans this).cons_inv
         · intro x hx
           simp only [List.mem_append, List.mem_cons] at hx
           rcases hx with hx | rfl | hx
           · exact p2 x (by simp [hx])
           · exact p2 e (by simp)
           · exact p2 x (by simp [hx])
       · intro x hx
         rw [h1] at hok
         simp only [List.mem_append, List.mem_cons] at hx
         rcases hx with hx | rfl | hx
         · exact hok x (by simp [hx])
         · exact ⟨(hok e (by simp)).1, hvv.noL hl⟩
         · exact hok x (by simp [hx])
     · cases h
   · cases h
 · cases h
theorem findB_spec {b : Nat} : ∀ {es : List ME} {e : ME}, findB b es = some e → e ∈ es ∧ e.2.2 = b
 | [], e, h => by simp [findB] at h
 | x :: es, e, h => by
  simp only [findB] at h
  split at h
  · rename_i hb; cases h; exact ⟨by simp, hb⟩
  · obtain ⟨h1, h2⟩ := findB_spec h; exact ⟨by simp [h1], h2⟩
theorem entryMA_run {u r : AV} (S : Sim P m ml loc H w) (h : entryMA H u = some r) : (Instr.entry (conc m ml u)).run P w = .ok (conc m ml r) w ∧ r.okP (good m H.n) := by
 unfold entryMA at h
 split at h
 · rename_i rr
   split at h
   · rename_i id since b seen last hi
     obtain ⟨b1, b2⟩ := S.obj rr _ hi
     have hl : conc m ml (.ptr rr 0) = .pointer (some ⟨(m rr).block, 0, none⟩) := by simp [conc, Loc.at, b2]
     split at h
     · rename_i es c hm
       obtain ⟨ces, c1, M⟩ := S.obj id _ hm
       have hok := S.ok id _ hm
       split at h
       · rename_i hcl
         rw [Option.map_eq_some_iff] at h
         obtain ⟨e, he, rfl⟩ := h
         obtain ⟨hm1, hm2⟩ := findB_spec he
         have hfind : ces.find? (fun x => x.born == b) = (ces.toList.find? fun x => x.born == b) := by simp
         have hex : ∃ ce, ces.find? (fun x => x.born == b) = some ce ∧ triple ce = concE m ml e := by
          cases hf : ces.toList.find? (fun x => x.born == b) with
          | none =>
           exfalso
           have := M.1.mem_iff.2 (List.mem_map_of_mem (f := concE m ml) hm1)
           obtain ⟨ce, hce, hee⟩ := List.mem_map.1 this
           have h4 := List.find?_eq_none.1 hf ce hce
           have h5 := congrArg (fun x => x.2.2) hee
           simp only [concE] at h5
           exact h4 (by rw [h5, hm2]; simp)
          | some ce =>
           refine ⟨ce, by rw [hfind, hf], born_unique M hm1 (List.mem_of_find?_eq_some hf) ?_⟩
           have := List.find?_some hf
           rw [hm2]; simpa using this
         obtain ⟨ce, f1, f2⟩ := hex
         have t1 := congrArg Prod.fst f2
         have t2 := congrArg (fun x => x.2.1) f2
         simp only [triple, concE] at t1 t2
         have hback : ((b :: seen).reverse.toArray).back? = some b := by simp
         obtain ⟨o1, o2⟩ := hok e hm1
         refine ⟨?_, by simp [AV.okP, AV.okPL, o1, o2]⟩
         rw [hl]
         simp only [Option.map_some] at b1
         simp [Instr.entry, getObj, Sem.run, b1, c1, hcl, f1, t1, t2, conc, concL, Result.andThen]
       · cases h
     · cases h
   · cases h
 · cases h
theorem rangeMA_run {t kt e : TypeId} {u r : AV} {H' : AHeap} (ht : P.underlying t = some (.map kt e)) (S : Sim P m ml loc H w) (h : rangeMA H u = some (r, H')) :
    ∃ m' w', (Instr.range t (conc m ml u)).run P w = .ok (conc m' ml r) w' ∧ Sim P m' ml loc H' w' ∧ Grow m ml loc H w m' ml loc H' w' ∧ r.okP (good m' H'.n) ∧ H'.dfs = H.dfs := by
 unfold rangeMA at h
 split at h
 · cases h
   have hp := pushed_mk w (.mapIter none 0 #[] 0)
   have S1 := S.frame (w' := { w with heap := w.heap.push (.mapIter none 0 #[] 0) }) fun b hb => hp.old (S.used_lt hb)
   refine ⟨upd m H.n ⟨w.heap.size, 0, 0⟩, _, ?_, S1.add_obj (o := .miter none 0 [] 0) (l := ⟨w.heap.size, 0, 0⟩) ⟨hp.new, rfl⟩ trivial (fun b hb e => by have := S.used_lt hb; simp only at e; omega) rfl, .of_push S.wf rfl hp rfl, by simp [AV.okP, good], rfl⟩
   simp [Instr.range, conc, run_underlying ht, Loc.at, Result.andThen]
 · rename_i id
   split at h
   · rename_i es c hi
     cases h
     obtain ⟨ces, b1, M⟩ := S.obj id _ hi
     have hp := pushed_mk w (.mapIter (some (m id).block) c #[] c)
     have S1 := S.frame (w' := { w with heap := w.heap.push (.mapIter (some (m id).block) c #[] c) }) fun b hb => hp.old (S.used_lt hb)
     refine ⟨upd m H.n ⟨w.heap.size, 0, 0⟩, _, ?_, S1.add_obj (o := .miter (some id) c [] c) (l := ⟨w.heap.size, 0, 0⟩) ⟨hp.new, rfl⟩ ⟨AHeap.get_lt hi S.wf, Nat.zero_le _⟩ (fun b hb e => by have := S.used_lt hb; simp only at e; omega) rfl, .of_push S.wf rfl hp rfl, by simp [AV.okP, good], rfl⟩
     simp [Instr.range, conc, run_underlying ht, Go.MapKept.run_getObj_map b1, Loc.at, Result.andThen]
   · cases h
 · cases h
theorem nextA_run {u r : AV} {H' : AHeap} {ty : TypeId} (S : Sim P m ml loc H w) (h : nextA H u = some (r, H')) :
    ∃ w', (Instr.next (conc m ml u) true ty).run P w = .ok (conc m ml r) w' ∧ Sim P m ml loc H' w' ∧ Grow m ml loc H w m ml loc H' w' ∧ r.okP (good m H'.n) := by
 unfold nextA at h
 split at h
 · rename_i id
   split at h
   · rename_i l pos hi
     obtain ⟨b1, b2⟩ := S.obj id _ hi
     have hl : conc m ml (.ptr id 0) = .pointer (some ⟨(m id).block, 0, none⟩) := by simp [conc, Loc.at, b2]
     split at h
     · rename_i hlt
       cases h
       refine ⟨{ w with heap := w.heap.setIfInBounds (m id).block (.stringIter ⟨l.toArray⟩ (pos + (Utf8.decode ⟨l.toArray⟩ pos).2)) }, ?_, S.set_obj hi rfl ⟨(Go.MapKept.heap_set b1).1, b2⟩ trivial rfl (wrote_set b1).other, .of_set S.wf hi rfl rfl (wrote_set b1), by simp [AV.okP, AV.okPL]⟩
       rw [hl]
       have hs : pos < (⟨l.toArray⟩ : ByteArray).size := hlt
       simp [Instr.next, getObj, setObj, Sem.run, b1, hs, Result.andThen, conc, concL, goInt]
     · rename_i hlt
       cases h
       have hs : ¬ pos < (⟨l.toArray⟩ : ByteArray).size := hlt
       exact ⟨w, by rw [hl]; simp [Instr.next, getObj, Sem.run, b1, hs, Result.andThen, conc, concL], S, .refl .., by simp [AV.okP, AV.okPL]⟩
   · cases h
 · cases h
end
end Go.Wam
