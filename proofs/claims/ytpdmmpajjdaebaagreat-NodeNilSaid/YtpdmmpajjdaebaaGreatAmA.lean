/- An abstract machine over the model's code: values, heap, our own form of the code, its meaning. No condition. -/
import GoSem.Step
set_option linter.unusedVariables false
set_option linter.unusedSimpArgs false
namespace Go.Wam

/-- Abstract values: ids in place of addresses; 'oslice': a slice whose capacity is as much as its row's room, kc elements at the least; 'eslice': what stands behind the last element of such a one; 'xslice': a slice without room, at an address that is told. -/
inductive AV where
  | bool (b : Bool)
  | int (k : IntKind) (n : Int)
  | str (s : List UInt8)
  | nilp
  | ptr (id off : Nat)
  | lptr (t off : Nat)
  | nils
  | slice (id off len cap : Nat)
  | oslice (id off len kc sz : Nat)
  | eslice (id off l sz : Nat)
  | xslice (b off : Nat) (spot : Option Nat)
  | nilm
  | map (id : Nat)
  | func (fn : Fn) (first captured : List AV)
  | yield (id : Nat)
  | nilFunc
  | iface (t : TypeId) (v : AV)
  | nilIface
  | agg (cells : List AV)
  | tuple (vs : List AV)
  deriving Inhabited

def undefA : AV := .tuple []

def AV.cells : AV → List AV
  | .agg cs => cs
  | v => [v]

/-- Is it no pointer to a local variable, and no tuple? -/
def AV.noL : AV → Bool
  | .lptr .. => false
  | .tuple _ => false
  | _ => true

/-- Does it take one cell? -/
def AV.one : AV → Bool
  | .lptr .. => false
  | .tuple _ => false
  | .agg _ => false
  | _ => true

mutual
/-- Each id below n, no pointer to a local variable. -/
def AV.okB (n : Nat) : AV → Bool
  | .ptr id _ => decide (id < n)
  | .lptr .. => false
  | .slice id _ _ _ => decide (id < n)
  | .oslice id _ _ _ _ => decide (id < n)
  | .eslice id _ _ _ => decide (id < n)
  | .map id => decide (id < n)
  | .yield id => decide (id < n)
  | .func _ fs cs => AV.okL n fs && AV.okL n cs
  | .iface _ v => v.okB n
  | .agg cs => AV.okL n cs && cs.all AV.one
  | .tuple vs => AV.okL n vs
  | _ => true
def AV.okL (n : Nat) : List AV → Bool
  | [] => true
  | v :: vs => v.okB n && AV.okL n vs
end

mutual
def AV.beq : AV → AV → Bool
  | .bool a, .bool b => a == b
  | .int k a, .int k' b => decide (k = k') && decide (a = b)
  | .str a, .str b => decide (a = b)
  | .nilp, .nilp => true
  | .ptr a b, .ptr c d => decide (a = c) && decide (b = d)
  | .lptr a b, .lptr c d => decide (a = c) && decide (b = d)
  | .nils, .nils => true
  | .slice a b c d, .slice a' b' c' d' => decide (a = a') && decide (b = b') && decide (c = c') && decide (d = d')
  | .oslice a b c k d, .oslice a' b' c' k' d' => decide (a = a') && decide (b = b') && decide (c = c') && decide (k = k') && decide (d = d')
  | .eslice a b c d, .eslice a' b' c' d' => decide (a = a') && decide (b = b') && decide (c = c') && decide (d = d')
  | .xslice a b c, .xslice a' b' c' => decide (a = a') && decide (b = b') && decide (c = c')
  | .nilm, .nilm => true
  | .map a, .map b => decide (a = b)
  | .yield a, .yield b => decide (a = b)
  | .func f a b, .func g c d => decide (f = g) && AV.beqL a c && AV.beqL b d
  | .nilFunc, .nilFunc => true
  | .iface t v, .iface u w => decide (t = u) && AV.beq v w
  | .nilIface, .nilIface => true
  | .agg a, .agg b => AV.beqL a b
  | .tuple a, .tuple b => AV.beqL a b
  | _, _ => false
def AV.beqL : List AV → List AV → Bool
  | [], [] => true
  | a :: as, b :: bs => AV.beq a b && AV.beqL as bs
  | _, _ => false
end

def look {α : Type} (t : Nat) : List (Nat × α) → Option α
  | [] => none
  | (k, v) :: r => if k = t then some v else look t r

inductive Opd where
  | tmp (t : Nat)
  | const (v : AV)
  | func (f : FuncId)

/-- How two values of a type are compared. -/
inductive EqT where
  | none
  | bool
  | int
  | str
  | ptr
  | slice
  | map
  | func
  | struct (fs : List (Nat × Bool × Nat × EqT))

inductive Conv where
  | toInt (k : IntKind)
  | strId
  | toBytes
  | ofBytes
  | ptrId

inductive SlKind where
  | str
  | slice (sz : Nat)
  | arr (n sz : Nat)

inductive LenKind where
  | str
  | slice
  | arr (n : Nat)
  | map

/-- Maps: keys are whole numbers, texts, or arrays of whole numbers. -/
inductive KeyT where
  | int (k : IntKind)
  | str
  | arr (k : IntKind) (n : Nat)
  deriving DecidableEq
inductive IOp where
  | move (x : Opd)
  | pick (c a b : Opd)
  | alloc (loc : Bool) (sz : Nat) (zero : List AV)
  | box (loc : Bool) (sz : Nat) (x : Opd)
  | build (zero : List AV) (parts : List (Nat × Nat × Opd))
  | buildSlice (sz len : Nat) (zero : List AV) (parts : List (Nat × Nat × Opd))
  | load (agg : Bool) (sz : Nat) (a : Opd)
  | store (sz : Nat) (a x : Opd)
  | nilCheck (x : Opd)
  | bin (op : BinOp) (e : EqT) (x y : Opd)
  | un (op : UnOp) (x : Opd)
  | conv (c : Conv) (x : Opd)
  | mkIface (t : TypeId) (x : Opd)
  | mkFunc (fn : Fn) (first captured : List Opd)
  | mkMap
  | mkSlice (sz bytes : Nat) (zero : List AV) (len cap : Opd)
  | slice (k : SlKind) (x : Opd) (lo hi mx : Option Opd)
  | fieldAddr (off : Nat) (x : Opd)
  | field (agg : Bool) (sz off : Nat) (x : Opd)
  | indexAddr (arr : Option Nat) (sz : Nat) (x i : Opd)
  | index (arr : Option (Nat × Bool × Nat)) (x i : Opd)
  | extract (x : Opd) (i : Nat)
  | call (f : Opd) (args : List Opd)
  | len (k : LenKind) (x : Opd)
  | append (sz bytes : Nat) (s x : Opd)
  | appendZ (sz bytes : Nat) (zero : List AV) (s x : Opd)
  | clear (sz : Nat) (zero : List AV) (x : Opd)
  | lookup (t : KeyT) (ok : Bool) (z : AV) (x k : Opd)
  | mapUpdate (t : KeyT) (x k v : Opd)
  | delete (t : KeyT) (x k : Opd)
  | rangeS (x : Opd)
  | nextS (x : Opd)
  | rangeM (x : Opd)
  | nextM (x : Opd)
  | entryM (x : Opd)
  | mapEntry (t : KeyT) (z : AV) (x k : Opd)
  | entryStore (x s v : Opd)
  | capS (x : Opd)
  | copy (sz : Nat) (d x : Opd)
  | ptrEq (neg : Bool) (x y : Opd)
  | isNilI (neg : Bool) (x : Opd)
  | defer (f : Opd) (args : List Opd)
  | maxs (x : Opd) (r : List Opd)
  | mins (x : Opd) (r : List Opd)
  | bad

structure IOper where
  dst : Option Nat
  op : IOp
  guard : Option (Nat × Bool)

inductive RV where
  | tmp (t : Nat)
  | cell (t : Nat) (agg : Bool) (sz : Nat)

inductive IC where
  | skip
  | region (ops : List IOper)
  | regionD (ops : List IOper) (checks : List (Nat × Nat))
  | seq (a b : IC)
  | cond (c : Opd) (a b : IC)
  | block (id : Nat) (b : IC)
  | loop (b : IC)
  | exit (id : Nat)
  | ret
  | rangeF (f : Opd) (ps : List Nat) (ia ib : IC)
  | mapR (d0 d1 : Nat) (it : Opd) (b : Nat) (ks ls : List Nat) (body : IC)
  | stuck
  | keep (ks ls : List Nat) (c : IC)

inductive AExit where
  | normal
  | exit (id : Nat)
  | ret
  deriving DecidableEq

inductive AObj where
  | row (ro : Bool) (sz : Nat) (cells : List AV)
  | map (es : List (AV × AV × Nat)) (clock : Nat)
  | siter (s : List UInt8) (pos : Nat)
  | miter (mid : Option Nat) (since : Nat) (seen : List Nat) (stepped : Nat)
  | loop (st : LoopState) (pend : Option AExit) (env : List (Nat × AV)) (ps : List Nat) (ia ib : IC)
  | dfd
  | dead
  deriving Inhabited

/-- A deferred call: the mark of a range over a function, or a call. -/
inductive Dfr where
  | mark (id : Nat)
  | call (g : FuncId) (args captured : List AV)
  deriving Inhabited

/-- Objects by their ids: a tree by the ids' figures. -/
inductive Tr where
  | leaf
  | node (v : Option AObj) (l r : Tr)
  deriving Inhabited

def pathF : Nat → Nat → List Bool
  | 0, _ => []
  | f + 1, i => if i = 0 then [] else if i % 2 = 1 then true :: pathF f (i / 2) else false :: pathF f (i / 2 - 1)
def path (i : Nat) : List Bool := pathF i i
def getP : List Bool → Tr → Option AObj
  | [], .leaf => none
  | [], .node v _ _ => v
  | _ :: _, .leaf => none
  | true :: p, .node _ l _ => getP p l
  | false :: p, .node _ _ r => getP p r
def setP (x : AObj) : List Bool → Tr → Tr
  | [], .leaf => .node (some x) .leaf .leaf
  | [], .node _ l r => .node (some x) l r
  | true :: p, .leaf => .node none (setP x p .leaf) .leaf
  | true :: p, .node v l r => .node v (setP x p l) r
  | false :: p, .leaf => .node none .leaf (setP x p .leaf)
  | false :: p, .node v l r => .node v l (setP x p r)

/-- 'n': how many ids were given; 'low': the least id written since the call began; 'dfs': what the frame has deferred. -/
structure AHeap where
  t : Tr
  n : Nat
  low : Nat
  dfs : List Dfr := []
  deriving Inhabited

def AHeap.get (H : AHeap) (i : Nat) : Option AObj := getP (path i) H.t
def AHeap.set (H : AHeap) (i : Nat) (x : AObj) : AHeap := { t := if i < H.n then setP x (path i) H.t else H.t, n := H.n, low := if i < H.low then i else H.low, dfs := H.dfs }
def AHeap.alloc (H : AHeap) (x : AObj) : AHeap := { t := setP x (path H.n) H.t, n := H.n + 1, low := H.low, dfs := H.dfs }

structure St where
  env : List (Nat × AV)
  loc : List (Nat × List AV)
  H : AHeap

def Opd.ev (env : List (Nat × AV)) : Opd → Option AV
  | .tmp t => look t env
  | .const v => some v
  | .func f => some (.func (.func f) [] [])

def rd (agg : Bool) (sz off : Nat) (cells : List AV) : Option AV :=
  if agg then (if off + sz ≤ cells.length then some (.agg ((cells.drop off).take sz)) else none) else cells[off]?

def wr {α : Type} (off : Nat) (vs cells : List α) : List α := cells.take off ++ (vs ++ cells.drop (off + vs.length))

mutual
def aeq : EqT → AV → AV → Option Bool
  | .int, .int k a, .int k' b => if k = k' then some (a == b) else none
  | .bool, .bool a, .bool b => some (a == b)
  | .str, .str a, .str b => some (a == b)
  | .ptr, .nilp, .nilp => some true
  | .ptr, .nilp, .ptr _ _ => some false
  | .ptr, .nilp, .lptr _ _ => some false
  | .ptr, .ptr _ _, .nilp => some false
  | .ptr, .lptr _ _, .nilp => some false
  | .slice, .nils, .nils => some true
  | .slice, .nils, .slice .. => some false
  | .slice, .nils, .oslice .. => some false
  | .slice, .nils, .eslice .. => some false
  | .slice, .nils, .xslice .. => some false
  | .slice, .slice .., .nils => some false
  | .slice, .oslice .., .nils => some false
  | .slice, .eslice .., .nils => some false
  | .slice, .xslice .., .nils => some false
  | .map, .nilm, .nilm => some true
  | .map, .nilm, .map _ => some false
  | .map, .map _, .nilm => some false
  | .func, .nilFunc, .nilFunc => some true
  | .func, .nilFunc, .func .. => some false
  | .func, .func .., .nilFunc => some false
  | .struct fs, .agg xs, .agg ys => aeqF fs xs ys
  | _, _, _ => none
def aeqF : List (Nat × Bool × Nat × EqT) → List AV → List AV → Option Bool
  | [], _, _ => some true
  | (off, agg, sz, e) :: r, xs, ys =>
    match rd agg sz off xs, rd agg sz off ys with
    | some x, some y => match aeq e x y with
      | some true => aeqF r xs ys
      | some false => some false
      | none => none
    | _, _ => none
end

def bytesLess : List UInt8 → List UInt8 → Bool
  | _, [] => false
  | [], _ :: _ => true
  | a :: x, b :: y => a < b || (a == b && bytesLess x y)

def strOp (op : BinOp) (x y : List UInt8) : Option AV :=
  match op with
  | .add => if x.length + y.length < 2 ^ 63 then some (.str (x ++ y)) else none
  | .eql => some (.bool (x == y))
  | .neq => some (.bool !(x == y))
  | .lss => some (.bool (bytesLess x y))
  | .leq => some (.bool (bytesLess x y || x == y))
  | .gtr => some (.bool !(bytesLess x y || x == y))
  | .geq => some (.bool !bytesLess x y)
  | _ => none

def bitsOp (op : BinOp) (k : IntKind) (x y : Int) : Option AV :=
  let a := BitVec.ofInt k.bits x
  let b := BitVec.ofInt k.bits y
  match op with
  | .and => some (.int k (k.wrap (a &&& b).toNat))
  | .or => some (.int k (k.wrap (a ||| b).toNat))
  | .xor => some (.int k (k.wrap (a ^^^ b).toNat))
  | .andNot => some (.int k (k.wrap (a &&& ~~~b).toNat))
  | _ => none

def intOp (op : BinOp) (k : IntKind) (x y : Int) : Option AV :=
  match op with
  | .add => some (.int k (k.wrap (x + y)))
  | .sub => some (.int k (k.wrap (x - y)))
  | .mul => some (.int k (k.wrap (x * y)))
  | .quo => if y = 0 then none else some (.int k (k.wrap (x.tdiv y)))
  | .rem => if y = 0 then none else some (.int k (x.tmod y))
  | .and => bitsOp .and k x y
  | .or => bitsOp .or k x y
  | .xor => bitsOp .xor k x y
  | .andNot => bitsOp .andNot k x y
  | .shl => none
  | .shr => none
  | .eql => some (.bool (x == y))
  | .neq => some (.bool (x != y))
  | .lss => some (.bool (x < y))
  | .leq => some (.bool (x ≤ y))
  | .gtr => some (.bool (x > y))
  | .geq => some (.bool (x ≥ y))

def shiftOp (op : BinOp) (k : IntKind) (x y : Int) : Option AV :=
  if y < 0 then none else
  match op with
  | .shl => some (.int k (k.wrap (x * 2 ^ (min y.toNat k.bits))))
  | .shr => some (.int k (x.fdiv (2 ^ (min y.toNat k.bits))))
  | _ => none

def binA (op : BinOp) (e : EqT) (x y : AV) : Option AV :=
  match op, x, y with
  | .shl, .int k a, .int _ b => shiftOp .shl k a b
  | .shr, .int k a, .int _ b => shiftOp .shr k a b
  | op, .int k a, .int k' b => if k = k' then intOp op k a b else none
  | op, .str a, .str b => strOp op a b
  | .eql, x, y => (aeq e x y).map .bool
  | .neq, x, y => (aeq e x y).map fun b => .bool !b
  | _, _, _ => none

def unA (op : UnOp) (x : AV) : Option AV :=
  match op, x with
  | .neg, .int k n => intOp .sub k 0 n
  | .xor, .int k n => bitsOp .xor k (if k.signed then -1 else k.max) n
  | .not, .bool b => some (.bool !b)
  | _, _ => none

def ints (q : IntKind) : List AV → Option (List Int)
  | [] => some []
  | .int j a :: r => if j = q then (ints q r).map (a :: ·) else none
  | _ => none
def isK : KeyT → AV → Bool
  | .int q, .int j _ => decide (j = q)
  | .str, .str _ => true
  | .arr q n, .agg cs => (ints q cs).isSome && cs.length == n
  | _, _ => false
def intsLt : List Int → List Int → Bool
  | a :: x, b :: y => decide (a < b) || (decide (a = b) && intsLt x y)
  | _, _ => false
/-- Which key comes first. -/
def keyLt : KeyT → AV → AV → Bool
  | .int _, .int _ a, .int _ b => decide (a < b)
  | .str, .str a, .str b => bytesLess a b
  | .arr q _, .agg a, .agg b => match ints q a, ints q b with
    | some x, some y => intsLt x y
    | _, _ => false
  | _, _, _ => false
def intsEq : List Int → List Int → Bool
  | [], [] => true
  | a :: x, b :: y => decide (a = b) && intsEq x y
  | _, _ => false
def keyEq : KeyT → AV → AV → Bool
  | .int _, .int _ a, .int _ b => decide (a = b)
  | .str, .str a, .str b => decide (a = b)
  | .arr q _, .agg a, .agg b => match ints q a, ints q b with
    | some x, some y => intsEq x y
    | _, _ => false
  | _, _, _ => false
abbrev ME := AV × AV × Nat
def findK (t : KeyT) (k : AV) : List ME → Option (AV × Nat)
  | [] => none
  | e :: es => if keyEq t k e.1 then some e.2 else findK t k es
def setK (t : KeyT) (k v : AV) : List ME → List ME
  | [] => []
  | e :: es => if keyEq t k e.1 then (k, v, e.2.2) :: es else e :: setK t k v es
def insK (t : KeyT) (x : ME) : List ME → List ME
  | [] => [x]
  | e :: es => if keyLt t x.1 e.1 then x :: e :: es else e :: insK t x es
def delK (t : KeyT) (k : AV) : List ME → List ME
  | [] => []
  | e :: es => if keyEq t k e.1 then es else e :: delK t k es
def keysOk (t : KeyT) (es : List ME) : Bool := es.all fun e => isK t e.1
def lookupA (H : AHeap) (t : KeyT) (ok : Bool) (z : AV) (x k : AV) : Option AV :=
  if isK t k = false then none else
  match x with
  | .nilm => some (if ok then .tuple [z, .bool false] else z)
  | .map id => match H.get id with
    | some (.map es _) => if keysOk t es then match findK t k es with
      | some (v, _) => some (if ok then .tuple [v, .bool true] else v)
      | none => some (if ok then .tuple [z, .bool false] else z)
      else none
    | _ => none
  | _ => none
def updA (H : AHeap) (t : KeyT) (x k v : AV) : Option AHeap :=
  if isK t k = false then none else
  match x with
  | .map id => match H.get id with
    | some (.map es c) => if k.noL && v.noL && keysOk t es then match findK t k es with
        | some _ => some (H.set id (.map (setK t k v es) c))
        | none => some (H.set id (.map (insK t (k, v, c) es) (c + 1)))
      else none
    | _ => none
  | _ => none
def delA (H : AHeap) (t : KeyT) (x k : AV) : Option AHeap :=
  if isK t k = false then none else
  match x with
  | .nilm => some H
  | .map id => match H.get id with
    | some (.map es c) => if keysOk t es then some (H.set id (.map (delK t k es) c)) else none
    | _ => none
  | _ => none
/-- An entry that is to be written: its value, its birth. -/
def mapEntryA (H : AHeap) (t : KeyT) (z : AV) (x k : AV) : Option (AV × AHeap) :=
  if isK t k = false then none else
  match x with
  | .map id => match H.get id with
    | some (.map es c) => if k.noL && keysOk t es then match findK t k es with
        | some (v, b) => some (.tuple [v, .int .i64 b], H.set id (.map (setK t k v es) c))
        | none => some (.tuple [z, .int .i64 c], H.set id (.map (insK t (k, z, c) es) (c + 1)))
      else none
    | _ => none
  | _ => none
def setB (b : Int) (v : AV) : List ME → Option (List ME)
  | [] => none
  | e :: es => if (e.2.2 : Int) = b then some ((e.1, v, e.2.2) :: es) else (setB b v es).map (e :: ·)
def entryStoreA (H : AHeap) (x s v : AV) : Option AHeap :=
  match x, s with
  | .map id, .int _ b => match H.get id with
    | some (.map es c) => if v.noL then (setB b v es).map fun es' => H.set id (.map es' c) else none
    | _ => none
  | _, _ => none
def rangeMA (H : AHeap) : AV → Option (AV × AHeap)
  | .nilm => some (.ptr H.n 0, H.alloc (.miter none 0 [] 0))
  | .map id => match H.get id with
    | some (.map _ c) => some (.ptr H.n 0, H.alloc (.miter (some id) c [] c))
    | _ => none
  | _ => none
def findB (b : Nat) : List ME → Option ME
  | [] => none
  | e :: es => if e.2.2 = b then some e else findB b es
def entryMA (H : AHeap) : AV → Option AV
  | .ptr r 0 => match H.get r with
    | some (.miter (some id) _ (b :: _) last) => match H.get id with
      | some (.map es c) => if c = last then (findB b es).map fun e => .tuple [e.1, e.2.1] else none
      | _ => none
    | _ => none
  | _ => none

/-- The next of a text. -/
def nextA (H : AHeap) : AV → Option (AV × AHeap)
  | .ptr id 0 => match H.get id with
    | some (.siter l pos) => if pos < l.length then some (.tuple [.bool true, .int .i64 pos, .int .i32 (Utf8.decode ⟨l.toArray⟩ pos).1], H.set id (.siter l (pos + (Utf8.decode ⟨l.toArray⟩ pos).2))) else some (.tuple [.bool false], H)
    | _ => none
  | _ => none

def evs (env : List (Nat × AV)) : List Opd → Option (List AV)
  | [] => some []
  | x :: r => match x.ev env, evs env r with
    | some v, some vs => some (v :: vs)
    | _, _ => none

def allNoL (vs : List AV) : Bool := vs.all AV.noL

/-- Parts of a literal laid into its cells. -/
def fillA (env : List (Nat × AV)) : List (Nat × Nat × Opd) → List AV → Option (List AV)
  | [], cells => some cells
  | (off, sz, x) :: r, cells => match x.ev env with
    | some v => if v.noL && v.cells.length = sz && off + sz ≤ cells.length then fillA env r (wr off v.cells cells) else none
    | none => none

def loadA (s : St) (agg : Bool) (sz : Nat) : AV → Option AV
  | .ptr id off => match s.H.get id with
    | some (.row _ _ cells) => rd agg sz off cells
    | _ => none
  | .lptr t off => match look t s.loc with
    | some cells => rd agg sz off cells
    | none => none
  | _ => none

def storeA (s : St) (sz : Nat) (v : AV) : AV → Option St
  | .ptr id off => match s.H.get id with
    | some (.row false e cells) =>
      if v.noL && v.cells.length = sz && off + sz ≤ cells.length then some { s with H := s.H.set id (.row false e (wr off v.cells cells)) } else none
    | _ => none
  | .lptr t off => match look t s.loc with
    | some cells => if v.noL && v.cells.length = sz && off + sz ≤ cells.length then some { s with loc := (t, wr off v.cells cells) :: s.loc } else none
    | none => none
  | _ => none

/-- No slot but t holds a pointer to the local variable t. -/
def freeL (t : Nat) (env : List (Nat × AV)) : Bool := env.all fun (k, v) => match v with | .lptr u _ => !(u == t) || k == t | _ => true

def rowOf (H : AHeap) (id : Nat) : Option (Bool × Nat × List AV) :=
  match H.get id with
  | some (.row ro e cells) => some (ro, e, cells)
  | _ => none

def cutA (H : AHeap) (id off k : Nat) : Option (List AV) :=
  match H.get id with
  | some (.row _ _ cells) => if off + k ≤ cells.length then some ((cells.drop off).take k) else none
  | _ => none

/-- The cells that are copied where a list grows. -/
def oldA (H : AHeap) (id off len sz : Nat) : Option (List AV) := if len = 0 then some [] else cutA H id off (len * sz)

/-- How many elements a list-like value has, and their cells. -/
def firstA (H : AHeap) (sz : Nat) : AV → Option (Nat × List AV)
  | .nils => some (0, [])
  | .eslice .. => some (0, [])
  | .xslice .. => some (0, [])
  | .slice id off len _ => if len = 0 then some (0, []) else (cutA H id off (len * sz)).map fun cs => (len, cs)
  | .oslice id off len _ _ => if len = 0 then some (0, []) else (cutA H id off (len * sz)).map fun cs => (len, cs)
  | .str s => if sz = 1 then some (s.length, s.map fun b => .int .u8 b.toNat) else none
  | _ => none

/-- The bytes of a slice, as a text. -/
def u8s : List AV → Option (List UInt8)
  | [] => some []
  | .int .u8 n :: r => (u8s r).map (UInt8.ofNat n.toNat :: ·)
  | _ => none
def bytesA (H : AHeap) : AV → Option (List UInt8)
  | .nils => some []
  | .eslice .. => some []
  | .xslice .. => some []
  | .slice id off len c => (firstA H 1 (.slice id off len c)).bind fun r => u8s r.2
  | .oslice id off len kc z => (firstA H 1 (.oslice id off len kc z)).bind fun r => u8s r.2
  | _ => none

/-- n elements, whose cells are xs, behind a list. -/
def appendX (H : AHeap) (sz bytes n : Nat) (xs : List AV) (s : AV) : Option (AV × AHeap) :=
  match s with
  | .nils => if n = 0 then some (.nils, H) else if n * bytes ≤ 2 ^ 47 then some (.oslice H.n 0 n n sz, H.alloc (.row false sz xs)) else none
  | .xslice a b c => if n = 0 then some (.xslice a b c, H) else if n * bytes ≤ 2 ^ 47 then some (.oslice H.n 0 n n sz, H.alloc (.row false sz xs)) else none
  | .eslice a b c d => if n = 0 then some (.eslice a b c d, H) else none
  | .slice id off len c =>
    if n = 0 ∧ len ≤ c then some (.slice id off len c, H) else
    if (len + n) * bytes > 2 ^ 47 then none else
    if len + n ≤ c then
      match H.get id with
      | some (.row false e cells) => if off + (len + n) * sz ≤ cells.length then some (.slice id off (len + n) c, H.set id (.row false e (wr (off + len * sz) xs cells))) else none
      | _ => none
    else
      match oldA H id off len sz with
      | some old => some (.oslice H.n 0 (len + n) (len + n) sz, H.alloc (.row false sz (old ++ xs)))
      | none => none
  | .oslice id off len kc z =>
    if z ≠ sz then none else
    if n = 0 then some (.oslice id off len kc z, H) else
    if (len + n) * bytes > 2 ^ 47 then none else
    match H.get id with
    | some (.row false e cells) =>
      if off + (len + n) * sz ≤ cells.length then some (.oslice id off (len + n) (max kc (len + n)) sz, H.set id (.row false e (wr (off + len * sz) xs cells)))
      else if off + len * sz ≤ cells.length ∧ (e = 1 → sz = 1) then some (.oslice H.n 0 (len + n) (len + n) sz, (H.set id .dead).alloc (.row false sz ((cells.drop off).take (len * sz) ++ xs)))
      else none
    | _ => none
  | _ => none

def appendA (H : AHeap) (sz bytes : Nat) (s x : AV) : Option (AV × AHeap) :=
  match firstA H sz x with
  | none => none
  | some (n, xs) => appendX H sz bytes n xs s

def zerosA (zero : List AV) : Nat → List AV
  | 0 => []
  | n + 1 => zero ++ zerosA zero n

/-- So many zeros behind a list. -/
def appendZ (H : AHeap) (sz bytes : Nat) (zero : List AV) (s : AV) : AV → Option (AV × AHeap)
  | .int .i64 l => if 0 ≤ l ∧ l < 2 ^ 63 then appendX H sz bytes l.toNat (zerosA zero l.toNat) s else none
  | _ => none

def intOf? : AV → Option Int
  | .int _ n => some n
  | _ => none

def optInt (env : List (Nat × AV)) (d : Nat) : Option Opd → Option Nat
  | none => some d
  | some x => match x.ev env with
    | some (.int _ n) => if 0 ≤ n then some n.toNat else none
    | _ => none

def optIntO (env : List (Nat × AV)) : Option Opd → Option (Option Nat)
  | none => some none
  | some x => (optInt env 0 (some x)).map some

/-- Are the bounds lo, hi, mx right, of a length and a capacity? -/
def inB (len cap lo : Nat) (hi mx : Option Nat) : Bool :=
  decide (mx.getD cap ≤ cap) && (decide (hi.getD len ≤ mx.getD cap) && (decide (lo ≤ hi.getD len) && (!mx.isSome || hi.isSome)))

def sliceA (k : SlKind) (x : AV) (lo : Nat) (hi mx : Option Nat) : Option AV :=
  match k, x with
  | .str, .str s => if !mx.isSome && inB s.length s.length lo hi none then some (.str ((s.drop lo).take (hi.getD s.length - lo))) else none
  | .slice sz, .slice id off len c => if inB len c lo hi mx then some (.slice id (if mx.getD c = lo then off else off + lo * sz) (hi.getD len - lo) (mx.getD c - lo)) else none
  | .slice sz, .oslice id off len kc z =>
    if z ≠ sz then none else
    match mx with
    | some m => if inB len kc lo hi (some m) then some (.slice id (if m = lo then off else off + lo * sz) (hi.getD len - lo) (m - lo)) else none
    | none => if inB len kc lo hi none then (if lo < kc then some (.oslice id (off + lo * sz) (hi.getD len - lo) (kc - lo) sz) else some (.eslice id off lo sz)) else none
  | .slice _, .nils => if inB 0 0 lo hi mx then some .nils else none
  | .slice _, .xslice a b c => if inB 0 0 lo hi mx then some (.xslice a b c) else none
  | .slice _, .eslice id off l z => if !mx.isSome && inB 0 0 lo hi none then some (.eslice id off l z) else none
  | .arr n sz, .ptr id off => if inB n n lo hi mx then some (.slice id (if mx.getD n = lo then off else off + lo * sz) (hi.getD n - lo) (mx.getD n - lo)) else none
  | _, _ => none

def max2A : AV → AV → Option AV
  | .int k x, .int _ y => some (.int k (if y > x then y else x))
  | .str x, .str y => some (.str (if !bytesLess x y then x else y))
  | _, _ => none
def min2A : AV → AV → Option AV
  | .int k x, .int _ y => some (.int k (if y < x then y else x))
  | .str x, .str y => some (.str (if bytesLess x y || x == y then x else y))
  | _, _ => none
def foldA (f : AV → AV → Option AV) : AV → List AV → Option AV
  | x, [] => some x
  | x, y :: r => match f x y with
    | some z => foldA f z r
    | none => none

def clearA (s : St) (sz : Nat) (zero : List AV) (id off len : Nat) : Option (AV × St) :=
  if len = 0 then some (undefA, s) else match s.H.get id with
  | some (.row false e cells) => if off + len * sz ≤ cells.length && zero.length = sz then some (undefA, { s with H := s.H.set id (.row false e (wr off (zerosA zero len) cells)) }) else none
  | _ => none

def lenX : AV → Option Nat
  | .nils => some 0
  | .eslice .. => some 0
  | .xslice .. => some 0
  | .slice _ _ len _ => some len
  | .oslice _ _ len _ _ => some len
  | .str s => some s.length
  | _ => none
/-- The cells of the first n elements, of one at the least. -/
def firstN (H : AHeap) (sz n : Nat) : AV → Option (List AV)
  | .slice id off _ _ => cutA H id off (n * sz)
  | .oslice id off _ _ _ => cutA H id off (n * sz)
  | .str s => if sz = 1 ∧ n ≤ s.length then some ((s.take n).map fun b => .int .u8 b.toNat) else none
  | _ => none
def copyTo (s : St) (sz n id off : Nat) (x : AV) : Option (AV × St) :=
  if n = 0 then some (.int .i64 0, s) else
  match firstN s.H sz n x, s.H.get id with
  | some xs, some (.row false e cells) => if off + n * sz ≤ cells.length then some (.int .i64 n, { s with H := s.H.set id (.row false e (wr off xs cells)) }) else none
  | _, _ => none
def copyA (s : St) (sz : Nat) (d x : AV) : Option (AV × St) :=
  match lenX x, d with
  | some _, .nils => some (.int .i64 0, s)
  | some _, .eslice .. => some (.int .i64 0, s)
  | some _, .xslice .. => some (.int .i64 0, s)
  | some lx, .slice id off len _ => copyTo s sz (min lx len) id off x
  | some lx, .oslice id off len _ _ => copyTo s sz (min lx len) id off x
  | _, _ => none

/-- Are two pointers one? -/
def ptrEqA (H : AHeap) : AV → AV → Option Bool
  | .nilp, .nilp => some true
  | .nilp, .ptr _ _ => some false
  | .nilp, .lptr _ _ => some false
  | .ptr _ _, .nilp => some false
  | .lptr _ _, .nilp => some false
  | .ptr a b, .ptr c d => match H.get a, H.get c with
    | some (.row false e xs), some (.row false f ys) => if b < xs.length && d < ys.length && decide (e ≠ 1) && decide (f ≠ 1) then some (decide (a = c) && decide (b = d)) else none
    | _, _ => none
  | _, _ => none

/-- What an operation that calls nothing comes to: its value, the state behind it (the slot is written by stepOp). -/
def evOp (dst : Option Nat) (s : St) : IOp → Option (AV × St)
  | .move x => (x.ev s.env).map fun v => (v, s)
  | .pick c a b => match c.ev s.env with
    | some (.bool true) => (a.ev s.env).map fun v => (v, s)
    | some (.bool false) => (b.ev s.env).map fun v => (v, s)
    | _ => none
  | .alloc true _ zero => match dst with
    | some t => if freeL t s.env then some (.lptr t 0, { s with loc := (t, zero) :: s.loc }) else none
    | none => none
  | .alloc false sz zero => some (.ptr s.H.n 0, { s with H := s.H.alloc (.row false sz zero) })
  | .box true _ x => match dst, x.ev s.env with
    | some t, some v => if freeL t s.env && v.noL then some (.lptr t 0, { s with loc := (t, v.cells) :: s.loc }) else none
    | _, _ => none
  | .box false sz x => match x.ev s.env with
    | some v => if v.noL then some (.ptr s.H.n 0, { s with H := s.H.alloc (.row false sz v.cells) }) else none
    | none => none
  | .build zero parts => (fillA s.env parts zero).map fun cs => (.agg cs, s)
  | .buildSlice sz len zero parts => (fillA s.env parts zero).map fun cs => (.slice s.H.n 0 len len, { s with H := s.H.alloc (.row false sz cs) })
  | .load agg sz a => match a.ev s.env with
    | some p => (loadA s agg sz p).map fun v => (v, s)
    | none => none
  | .store sz a x => match a.ev s.env, x.ev s.env with
    | some p, some v => (storeA s sz v p).map fun s' => (undefA, s')
    | _, _ => none
  | .nilCheck x => match x.ev s.env with
    | some .nilp => none
    | some .nilIface => none
    | some .nilFunc => none
    | some (.func (.method _) _ _) => none
    | some v => some (v, s)
    | none => none
  | .bin op e x y => match x.ev s.env, y.ev s.env with
    | some a, some b => (binA op e a b).map fun v => (v, s)
    | _, _ => none
  | .un op x => match x.ev s.env with
    | some a => (unA op a).map fun v => (v, s)
    | none => none
  | .conv c x => match c, x.ev s.env with
    | .toInt k, some (.int _ n) => some (.int k (k.wrap n), s)
    | .strId, some (.str l) => some (.str l, s)
    | .toBytes, some (.str l) => some (.oslice s.H.n 0 l.length l.length 1, { s with H := s.H.alloc (.row false 1 (l.map fun b => .int .u8 b.toNat)) })
    | .ofBytes, some v => (bytesA s.H v).map fun l => (.str l, s)
    | .ptrId, some (.ptr id off) => match s.H.get id with
      | some (.row false _ cells) => if off < cells.length then some (.ptr id off, s) else none
      | _ => none
    | _, _ => none
  | .mkIface t x => match x.ev s.env with
    | some v => if v.noL then some (.iface t v, s) else none
    | none => none
  | .mkFunc fn first captured => match evs s.env first, evs s.env captured with
    | some a, some b => if allNoL a && allNoL b then some (.func fn a b, s) else none
    | _, _ => none
  | .mkMap => some (.map s.H.n, { s with H := s.H.alloc (.map [] 0) })
  | .mkSlice sz bytes zero len cap => match len.ev s.env, cap.ev s.env with
    | some (.int .i64 l), some (.int .i64 c) =>
      if 0 ≤ l ∧ l ≤ c ∧ c * bytes ≤ 2 ^ 47 ∧ c < 2 ^ 63 then some (.slice s.H.n 0 l.toNat c.toNat, { s with H := s.H.alloc (.row false sz (zerosA zero c.toNat)) }) else none
    | _, _ => none
  | .slice k x lo hi mx => match x.ev s.env, optInt s.env 0 lo with
    | some v, some l => match optIntO s.env hi, optIntO s.env mx with
      | some h, some m => (sliceA k v l h m).map fun r => (r, s)
      | _, _ => none
    | _, _ => none
  | .fieldAddr off x => match x.ev s.env with
    | some (.ptr id o) => some (.ptr id (o + off), s)
    | some (.lptr t o) => some (.lptr t (o + off), s)
    | _ => none
  | .field agg sz off x => match x.ev s.env with
    | some (.agg cs) => (rd agg sz off cs).map fun v => (v, s)
    | _ => none
  | .indexAddr none sz x i => match x.ev s.env, i.ev s.env with
    | some (.slice id off len _), some (.int _ n) => if 0 ≤ n ∧ n < len then some (.ptr id (off + n.toNat * sz), s) else none
    | some (.oslice id off len _ _), some (.int _ n) => if 0 ≤ n ∧ n < len then some (.ptr id (off + n.toNat * sz), s) else none
    | _, _ => none
  | .indexAddr (some m) sz x i => match x.ev s.env, i.ev s.env with
    | some (.ptr id off), some (.int _ n) => if 0 ≤ n ∧ n < m then some (.ptr id (off + n.toNat * sz), s) else none
    | some (.lptr t off), some (.int _ n) => if 0 ≤ n ∧ n < m then some (.lptr t (off + n.toNat * sz), s) else none
    | _, _ => none
  | .index none x i => match x.ev s.env, i.ev s.env with
    | some (.str l), some (.int _ n) => if 0 ≤ n then (l[n.toNat]?).map fun b => (.int .u8 b.toNat, s) else none
    | _, _ => none
  | .index (some (m, agg, sz)) x i => match x.ev s.env, i.ev s.env with
    | some (.agg cs), some (.int _ n) => if 0 ≤ n ∧ n < m then (rd agg sz (n.toNat * sz) cs).map fun v => (v, s) else none
    | _, _ => none
  | .extract x i => match x.ev s.env with
    | some (.tuple vs) => (vs[i]?).map fun v => (v, s)
    | _ => none
  | .call _ _ => none
  | .len k x => match k, x.ev s.env with
    | .str, some (.str l) => some (.int .i64 l.length, s)
    | .slice, some .nils => some (.int .i64 0, s)
    | .slice, some (.slice _ _ n _) => some (.int .i64 n, s)
    | .slice, some (.oslice _ _ n _ _) => some (.int .i64 n, s)
    | .slice, some (.eslice ..) => some (.int .i64 0, s)
    | .slice, some (.xslice ..) => some (.int .i64 0, s)
    | .arr n, some _ => some (.int .i64 n, s)
    | .map, some .nilm => some (.int .i64 0, s)
    | .map, some (.map id) => match s.H.get id with
      | some (.map es _) => some (.int .i64 es.length, s)
      | _ => none
    | _, _ => none
  | .append sz bytes a x => match a.ev s.env, x.ev s.env with
    | some u, some v => (appendA s.H sz bytes u v).map fun (r, H) => (r, { s with H := H })
    | _, _ => none
  | .appendZ sz bytes z a x => match a.ev s.env, x.ev s.env with
    | some u, some v => (appendZ s.H sz bytes z u v).map fun (r, H) => (r, { s with H := H })
    | _, _ => none
  | .rangeS x => match x.ev s.env with
    | some (.str l) => some (.ptr s.H.n 0, { s with H := s.H.alloc (.siter l 0) })
    | _ => none
  | .nextS x => match x.ev s.env with
    | some v => (nextA s.H v).map fun r => (r.1, { s with H := r.2 })
    | none => none
  | .lookup t ok z x k => match x.ev s.env, k.ev s.env with
    | some u, some v => (lookupA s.H t ok z u v).map fun r => (r, s)
    | _, _ => none
  | .mapUpdate t x k v => match x.ev s.env, k.ev s.env, v.ev s.env with
    | some a, some b, some c => (updA s.H t a b c).map fun H => (undefA, { s with H := H })
    | _, _, _ => none
  | .delete t x k => match x.ev s.env, k.ev s.env with
    | some a, some b => (delA s.H t a b).map fun H => (undefA, { s with H := H })
    | _, _ => none
  | .clear sz zero x => match x.ev s.env with
    | some .nils => some (undefA, s)
    | some (.eslice ..) => some (undefA, s)
    | some (.xslice ..) => some (undefA, s)
    | some (.slice id off len _) => clearA s sz zero id off len
    | some (.oslice id off len _ _) => clearA s sz zero id off len
    | _ => none
  | .rangeM x => match x.ev s.env with
    | some v => (rangeMA s.H v).map fun r => (r.1, { s with H := r.2 })
    | none => none
  | .nextM _ => none
  | .entryM x => match x.ev s.env with
    | some v => (entryMA s.H v).map fun r => (r, s)
    | none => none
  | .mapEntry t z x k => match x.ev s.env, k.ev s.env with
    | some a, some b => (mapEntryA s.H t z a b).map fun r => (r.1, { s with H := r.2 })
    | _, _ => none
  | .entryStore x b v => match x.ev s.env, b.ev s.env, v.ev s.env with
    | some a, some b, some c => (entryStoreA s.H a b c).map fun H => (undefA, { s with H := H })
    | _, _, _ => none
  | .capS x => match x.ev s.env with
    | some .nils => some (.int .i64 0, s)
    | some (.slice _ _ _ c) => some (.int .i64 c, s)
    | some (.xslice ..) => some (.int .i64 0, s)
    | _ => none
  | .copy sz d x => match d.ev s.env, x.ev s.env with
    | some a, some b => copyA s sz a b
    | _, _ => none
  | .ptrEq neg x y => match x.ev s.env, y.ev s.env with
    | some a, some b => (ptrEqA s.H a b).map fun r => (.bool (r != neg), s)
    | _, _ => none
  | .isNilI neg x => match x.ev s.env with
    | some .nilIface => some (.bool !neg, s)
    | some (.iface ..) => some (.bool neg, s)
    | _ => none
  | .defer f args => match f.ev s.env, evs s.env args with
    | some (.func (.func g) first captured), some vs => if allNoL vs then some (undefA, { s with H := { s.H with dfs := .call g (first ++ vs) captured :: s.H.dfs } }) else none
    | _, _ => none
  | .maxs x r => match x.ev s.env, evs s.env r with
    | some v, some vs => (foldA max2A v vs).map fun z => (z, s)
    | _, _ => none
  | .mins x r => match x.ev s.env, evs s.env r with
    | some v, some vs => (foldA min2A v vs).map fun z => (z, s)
    | _, _ => none
  | .bad => none

def St.put (s : St) (dst : Option Nat) (v : AV) : St :=
  match dst with
  | some d => { s with env := (d, v) :: s.env }
  | none => s

/-- Is the operation wanted? none: the slot that guards it is not known. -/
def wantedA (s : St) : Option (Nat × Bool) → Option Bool
  | none => some true
  | some (g, want) => match look g s.env with
    | some (.bool b) => some (b == want)
    | some _ => some false
    | none => none

/-- The number under which a loop's body is called. -/
def yieldF : FuncId := 4294967296
/-- From here on: a function as a deferred call. -/
def deferF : FuncId := 8589934592

abbrev CallF := FuncId → List AV → AHeap → Option (AV × AHeap)

/-- What a call tells. -/
def callR (C : CallF) (f : AV) (vs : List AV) (H : AHeap) : Option (AV × AHeap) :=
  match f with
  | .func (.func g) first captured => if g < yieldF ∧ allNoL vs = true then C g (first ++ (vs ++ captured)) H else none
  | .yield id => if allNoL vs then C yieldF (.ptr id 0 :: vs) H else none
  | _ => none

def stepOp (C : CallF) (o : IOper) (s : St) : Option St :=
  match wantedA s o.guard with
  | none => none
  | some false => some (s.put o.dst undefA)
  | some true =>
    match o.op with
    | .call f args =>
      match f.ev s.env, evs s.env args with
      | some g, some vs => (callR C g vs s.H).map fun (v, H) => ({ s with H := H } : St).put o.dst v
      | _, _ => none
    | op => (evOp o.dst s op).map fun (v, s') => s'.put o.dst v

def stepOps (C : CallF) : List IOper → St → Option St
  | [], s => some s
  | o :: r, s => (stepOp C o s).bind (stepOps C r)

def prune {α : Type} (ks : List Nat) (l : List (Nat × α)) : List (Nat × α) := ks.filterMap fun k => (look k l).map fun v => (k, v)

/-- The states ahead of each operation, and behind the last. -/
def trace (C : CallF) : List IOper → St → Option (List St)
  | [], s => some [s]
  | o :: r, s => match stepOp C o s with
    | some s' => (trace C r s').map (s :: ·)
    | none => none

/-- Operation i would tell the same at the memory that stands ahead of operation p. -/
def checkAt (ops : List IOper) (tr : List St) (i p : Nat) : Bool :=
  match ops[i]?, tr[i]?, tr[p]?, tr[i + 1]? with
  | some o, some s, some m, some s' =>
    (match wantedA s o.guard with
     | some true => (match evOp o.dst { s with loc := m.loc, H := m.H } o.op, o.dst.bind (look · s'.env) with
       | some (v, _), some v' => AV.beq v v'
       | _, _ => false)
     | some false => true
     | none => false)
  | _, _, _, _ => false

/-- Local variables made in the region are not there ahead of it. -/
def freshD (ops : List IOper) (s : St) : Bool := ops.all fun o =>
  match o.op, o.dst with
  | .alloc true _ _, some t => (look t s.loc).isNone && s.env.all fun (_, v) => match v with | .lptr u _ => !(u == t) | _ => true
  | .box true _ _, some t => (look t s.loc).isNone && s.env.all fun (_, v) => match v with | .lptr u _ => !(u == t) | _ => true
  | _, _ => true

def isRead : IOp → Bool
  | .load .. => true
  | .lookup .. => true
  | .entryM _ => true
  | .ptrEq .. => true
  | .conv .ofBytes _ => true
  | .conv .ptrId _ => true
  | .len .map _ => true
  | _ => false

/-- What is read names nothing that was not there then. -/
def readsOk : List IOper → List St → Bool
  | o :: os, s :: s' :: tr => (!isRead o.op || (match o.dst.bind (look · s'.env) with | some v => v.okB s.H.n | none => true)) && readsOk os (s' :: tr)
  | _, _ => true

def drawCond (ops : List IOper) (checks : List (Nat × Nat)) (s : St) (tr : List St) : Bool :=
  freshD ops s && (readsOk ops tr && checks.all fun (i, p) => checkAt ops tr i p)

def runD (C : CallF) (ops : List IOper) (checks : List (Nat × Nat)) (s : St) : Option St :=
  match trace C ops s with
  | some tr => if drawCond ops checks s tr then tr.getLast? else none
  | none => none

def iter (f : St → Option (AExit × St)) : Nat → St → Option (AExit × St)
  | 0, _ => none
  | n + 1, s => match f s with
    | some (.normal, s') => iter f n s'
    | r => r

/-- What two orders of a range leave is one. -/
def beqEnv : List (Nat × AV) → List (Nat × AV) → Bool
  | [], [] => true
  | (a, v) :: x, (b, u) :: y => decide (a = b) && v.beq u && beqEnv x y
  | _, _ => false
def beqLoc : List (Nat × List AV) → List (Nat × List AV) → Bool
  | [], [] => true
  | (a, v) :: x, (b, u) :: y => decide (a = b) && AV.beqL v u && beqLoc x y
  | _, _ => false
def beqME : List ME → List ME → Bool
  | [], [] => true
  | (a, v, i) :: x, (b, u, j) :: y => a.beq b && v.beq u && decide (i = j) && beqME x y
  | _, _ => false
def AObj.beq : AObj → AObj → Bool
  | .row a b c, .row a' b' c' => decide (a = a') && decide (b = b') && AV.beqL c c'
  | .map a c, .map b d => beqME a b && decide (c = d)
  | .siter a b, .siter c d => decide (a = c) && decide (b = d)
  | .miter a b c d, .miter a' b' c' d' => decide (a = a') && decide (b = b') && decide (c = c') && decide (d = d')
  | .dfd, .dfd => true
  | .dead, .dead => true
  | _, _ => false
def beqO : Option AObj → Option AObj → Bool
  | some a, some b => a.beq b
  | none, none => true
  | _, _ => false
def beqFrom (A B : AHeap) (lo : Nat) : Nat → Bool
  | 0 => true
  | k + 1 => beqO (A.get (lo + k)) (B.get (lo + k)) && beqFrom A B lo k
def beqRes (p q : AExit × St) : Bool :=
  decide (p.1 = q.1) && beqEnv p.2.env q.2.env && beqLoc p.2.loc q.2.loc && decide (p.2.H.n = q.2.H.n) && decide (p.2.H.low = q.2.H.low) && p.2.H.dfs.isEmpty && q.2.H.dfs.isEmpty &&
    beqFrom p.2.H q.2.H p.2.H.low (p.2.H.n - p.2.H.low)

/-- Behind a range over a map: the iterator is done with. -/
def cleanA (ks ls : List Nat) (r : Nat) (x : AExit) (s : St) : Option (AExit × St) :=
  match s.H.get r with
  | some (.miter ..) => some (x, { env := prune ks s.env, loc := prune ls s.loc, H := s.H.set r .dead })
  | _ => none

/-- A range over a map in place: whatever the order, it comes to one. -/
def mapLoop (d0 d1 : Nat) (it : Opd) (b : Nat) (ks ls : List Nat) (f : St → Option (AExit × St)) : Nat → St → Option (AExit × St)
  | 0, _ => none
  | m + 1, s =>
    match it.ev s.env with
    | some (.ptr r 0) =>
      match s.H.get r with
      | some (.miter none _ _ _) => cleanA ks ls r .normal { s with env := (d1, .bool false) :: (d0, .tuple [.bool false]) :: s.env }
      | some (.miter (some id) since seen last) => match s.H.get id with
        | some (.map es c) =>
          if c = since ∧ last = since then
            match es.filter fun e => !seen.contains e.2.2 with
            | [] => cleanA ks ls r .normal { s with env := (d1, .bool false) :: (d0, .tuple [.bool false]) :: s.env }
            | e :: rest =>
              let one (e : ME) : Option (AExit × St) :=
                match f { s with H := s.H.set r (.miter (some id) since (e.2.2 :: seen) since), env := (d1, .bool true) :: (d0, .tuple [.bool true, e.1, e.2.1]) :: s.env } with
                | some (.normal, s') => mapLoop d0 d1 it b ks ls f m s'
                | some (x, s') => cleanA ks ls r (if x = .exit b then .normal else x) s'
                | none => none
              match one e with
              | some q => if rest.all (fun e' => match one e' with | some q' => beqRes q q' | none => false) then some q else none
              | none => none
          else none
        | _ => none
      | _ => none
    | _ => none

/-- The slots that hold no pointer to a local variable. -/
def envNoL (env : List (Nat × AV)) : List (Nat × AV) := env.filter fun e => match look e.1 env with | some v => v.noL | none => false

def evC (C : CallF) (n : Nat) : IC → St → Option (AExit × St)
  | .skip, s => some (.normal, s)
  | .region ops, s => (stepOps C ops s).map fun s' => (.normal, s')
  | .regionD ops cs, s => (runD C ops cs s).map fun s' => (.normal, s')
  | .seq a b, s => match evC C n a s with
    | some (.normal, s') => evC C n b s'
    | r => r
  | .cond c a b, s => match c.ev s.env with
    | some (.bool true) => evC C n a s
    | some (.bool false) => evC C n b s
    | _ => none
  | .block id b, s => match evC C n b s with
    | some (.exit j, s') => if j = id then some (.normal, s') else some (.exit j, s')
    | r => r
  | .loop b, s => iter (evC C n b) n s
  | .exit id, s => some (.exit id, s)
  | .ret, s => some (.ret, s)
  | .keep ks ls c, s => evC C n c { s with env := prune ks s.env, loc := prune ls s.loc }
  | .rangeF f ps ia ib, s => match f.ev s.env with
    | some (.func (.func g) [] captured) => if yieldF ≤ g then none else
      (C g (.yield (s.H.n + 1) :: captured) ((s.H.alloc .dfd).alloc (.loop .ready none (envNoL s.env) ps ia ib))).bind fun r =>
        match r.2.get (s.H.n + 1) with
        | some (.loop .busy ..) => none
        | some (.loop _ pend ..) => some (pend.getD .normal, { s with H := { r.2.set (s.H.n + 1) .dead with dfs := .mark s.H.n :: r.2.dfs } })
        | _ => none
    | _ => none
  | .mapR d0 d1 it b ks ls body, s => mapLoop d0 d1 it b ks ls (evC C n body) n s
  | .stuck, _ => none

structure FnIR where
  ntmps : Nat
  nargs : Nat
  results : List RV
  locals : List Nat
  body : IC

def RV.ev (s : St) : RV → Option AV
  | .tmp t => look t s.env
  | .cell t agg sz => match look t s.env with
    | some p => loadA s agg sz p
    | none => none

def rvs (s : St) : List RV → Option (List AV)
  | [] => some []
  | x :: r => match x.ev s, rvs s r with
    | some v, some vs => some (v :: vs)
    | _, _ => none

def packA : List AV → AV
  | [v] => v
  | vs => .tuple vs

def zipI : Nat → List AV → List (Nat × AV)
  | _, [] => []
  | i, v :: r => (i, v) :: zipI (i + 1) r

/-- Behind a call: what it made is forgotten where nothing of it can be reached. -/
def fin (H0 : AHeap) (v : AV) (H1 : AHeap) : AHeap :=
  if H0.n ≤ H1.low ∧ v.okB H0.n = true then H0 else { H1 with low := if H1.low < H0.low then H1.low else H0.low, dfs := H0.dfs }

def enterA (args : List AV) (H : AHeap) : St := { env := zipI 0 args, loc := [], H := { H with low := H.n, dfs := [] } }

/-- What a frame has deferred is done. -/
def runDfs (C : CallF) : List Dfr → AHeap → Option AHeap
  | [], H => some H
  | .mark id :: r, H => match H.get id with
    | some .dfd => runDfs C r (H.set id .dead)
    | _ => none
  | .call g args captured :: r, H => (C (deferF + g) (args ++ captured) H).bind fun x => runDfs C r x.2

def leaveA (C : CallF) (F : FnIR) (H0 : AHeap) (r : AExit × St) : Option (AV × AHeap) :=
  match r with
  | (.exit _, _) => none
  | (_, s) => (runDfs C s.H.dfs { s.H with dfs := [] }).bind fun H => match rvs { s with H := H } F.results with
    | some vs => if allNoL vs then some (packA vs, fin H0 (packA vs) H) else none
    | none => none

def runF (C : CallF) (n : Nat) (F : FnIR) (args : List AV) (H : AHeap) : Option (AV × AHeap) :=
  if args.length = F.nargs then (evC C n F.body (enterA args H)).bind (leaveA C F H) else none

/-- A function that is called by 'defer': it defers nothing itself. -/
def leaveD (F : FnIR) (H0 : AHeap) (r : AExit × St) : Option (AV × AHeap) :=
  match r with
  | (.exit _, _) => none
  | (_, s) => if s.H.dfs.isEmpty then match rvs s F.results with
      | some vs => if allNoL vs then some (packA vs, fin H0 (packA vs) s.H) else none
      | none => none
    else none
def runFD (C : CallF) (n : Nat) (F : FnIR) (args : List AV) (H : AHeap) : Option (AV × AHeap) :=
  if args.length = F.nargs then (evC C n F.body (enterA args H)).bind (leaveD F H) else none

/-- A round of a range over a function. -/
def runY (C : CallF) (n : Nat) (args : List AV) (H : AHeap) : Option (AV × AHeap) :=
  match args with
  | .ptr id 0 :: vs => match H.get id with
    | some (.loop .ready none env ps ia ib) => if vs.length = ps.length then
        match evC C n ia { env := (ps.zip vs).reverse ++ env, loc := [], H := { H with dfs := [] } } with
        | some (.normal, s1) => match s1.H.get id with
          | some (.loop .ready none env1 ps1 ia1 ib1) =>
            (evC C n ib { s1 with H := s1.H.set id (.loop .busy none env1 ps1 ia1 ib1) }).bind fun r =>
              if r.2.H.dfs.isEmpty then match r.2.H.get id with
                | some (.loop .busy none env2 ps2 ia2 ib2) =>
                  some (.bool (decide (r.1 = .normal)), { r.2.H.set id (.loop (if r.1 = .normal then .ready else .done) (if r.1 = .normal then none else some r.1) env2 ps2 ia2 ib2) with dfs := H.dfs })
                | _ => none
              else none
          | _ => none
        | _ => none
      else none
    | _ => none
  | _ => none

inductive FnDef where
  | ir (F : FnIR)
  | prim (g : List AV → AHeap → Option (AV × AHeap))
  | ext (g : List AV → AHeap → Option (AV × AHeap))

/-- What the frame has deferred is as it was. -/
def keepD (r : Option (AV × AHeap)) (H : AHeap) : Option (AV × AHeap) := match r with
  | some (v, H') => some (v, { t := H'.t, n := H'.n, low := H'.low, dfs := H.dfs })
  | none => none

def evF (T : FuncId → Option FnDef) : Nat → CallF
  | 0 => fun _ _ _ => none
  | n + 1 => fun f args H => if f = yieldF then runY (evF T n) n args H else if deferF ≤ f then match T (f - deferF) with
    | some (.ir F) => runFD (evF T n) n F args H
    | _ => none
    else match T f with
    | some (.ir F) => runF (evF T n) n F args H
    | some (.prim g) => keepD (g args H) H
    | some (.ext g) => match args with
      | .yield _ :: _ => none
      | _ => keepD (g args H) H
    | none => none

end Go.Wam
