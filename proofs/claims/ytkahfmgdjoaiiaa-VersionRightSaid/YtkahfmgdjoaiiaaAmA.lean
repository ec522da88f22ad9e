/- An abstract machine over the model's code: values, heap, our own form of the code, its meaning. No condition. -/
import GoSem.Step
set_option linter.unusedVariables false
set_option linter.unusedSimpArgs false
namespace Go.Wam

/-- Abstract values: ids in place of addresses; 'oslice': a slice whose capacity is as much as its row's room, kc elements at the least; 'eslice': what stands behind the last element of such a one; 'xslice': a slice without room, at an address that is told. -/
inductive AV where
  | bool (b : Bool)
  | int (k : IntKind) (n : Int)
  | str (s : List UInt8)
  | nilp
  | ptr (id off : Nat)
  | lptr (t off : Nat)
  | nils
  | slice (id off len cap : Nat)
  | oslice (id off len kc sz : Nat)
  | eslice (id off l sz : Nat)
  | xslice (b off : Nat) (spot : Option Nat)
  | nilm
  | map (id : Nat)
  | func (fn : Fn) (first captured : List AV)
  | nilFunc
  | iface (t : TypeId) (v : AV)
  | nilIface
  | agg (cells : List AV)
  | tuple (vs : List AV)
  deriving Inhabited

def undefA : AV := .tuple []

def AV.cells : AV → List AV
  | .agg cs => cs
  | v => [v]

/-- Is it no pointer to a local variable, and no tuple? -/
def AV.noL : AV → Bool
  | .lptr .. => false
  | .tuple _ => false
  | _ => true

/-- Does it take one cell? -/
def AV.one : AV → Bool
  | .lptr .. => false
  | .tuple _ => false
  | .agg _ => false
  | _ => true

mutual
/-- Each id below n, no pointer to a local variable. -/
def AV.okB (n : Nat) : AV → Bool
  | .ptr id _ => decide (id < n)
  | .lptr .. => false
  | .slice id _ _ _ => decide (id < n)
  | .oslice id _ _ _ _ => decide (id < n)
  | .eslice id _ _ _ => decide (id < n)
  | .map id => decide (id < n)
  | .func _ fs cs => AV.okL n fs && AV.okL n cs
  | .iface _ v => v.okB n
  | .agg cs => AV.okL n cs && cs.all AV.one
  | .tuple vs => AV.okL n vs
  | _ => true
def AV.okL (n : Nat) : List AV → Bool
  | [] => true
  | v :: vs => v.okB n && AV.okL n vs
end

mutual
def AV.beq : AV → AV → Bool
  | .bool a, .bool b => a == b
  | .int k a, .int k' b => decide (k = k') && decide (a = b)
  | .str a, .str b => decide (a = b)
  | .nilp, .nilp => true
  | .ptr a b, .ptr c d => decide (a = c) && decide (b = d)
  | .lptr a b, .lptr c d => decide (a = c) && decide (b = d)
  | .nils, .nils => true
  | .slice a b c d, .slice a' b' c' d' => decide (a = a') && decide (b = b') && decide (c = c') && decide (d = d')
  | .oslice a b c k d, .oslice a' b' c' k' d' => decide (a = a') && decide (b = b') && decide (c = c') && decide (k = k') && decide (d = d')
  | .eslice a b c d, .eslice a' b' c' d' => decide (a = a') && decide (b = b') && decide (c = c') && decide (d = d')
  | .xslice a b c, .xslice a' b' c' => decide (a = a') && decide (b = b') && decide (c = c')
  | .nilm, .nilm => true
  | .map a, .map b => decide (a = b)
  | .func f a b, .func g c d => decide (f = g) && AV.beqL a c && AV.beqL b d
  | .nilFunc, .nilFunc => true
  | .iface t v, .iface u w => decide (t = u) && AV.beq v w
  | .nilIface, .nilIface => true
  | .agg a, .agg b => AV.beqL a b
  | .tuple a, .tuple b => AV.beqL a b
  | _, _ => false
def AV.beqL : List AV → List AV → Bool
  | [], [] => true
  | a :: as, b :: bs => AV.beq a b && AV.beqL as bs
  | _, _ => false
end

inductive AObj where
  | row (ro : Bool) (sz : Nat) (cells : List AV)
  | map (es : List (AV × AV))
  | dead
  deriving Inhabited

/-- The newest object first; 'low': the least id written since the call began. -/
structure AHeap where
  objs : List AObj
  n : Nat
  low : Nat
  deriving Inhabited

def getL : List AObj → Nat → Nat → Option AObj
  | [], _, _ => none
  | o :: os, n, i => if i + 1 = n then some o else getL os (n - 1) i

def setL : List AObj → Nat → Nat → AObj → List AObj
  | [], _, _, _ => []
  | o :: os, n, i, x => if i + 1 = n then x :: os else o :: setL os (n - 1) i x

def AHeap.get (H : AHeap) (i : Nat) : Option AObj := getL H.objs H.n i
def AHeap.set (H : AHeap) (i : Nat) (x : AObj) : AHeap := { objs := setL H.objs H.n i x, n := H.n, low := if i < H.low then i else H.low }
def AHeap.alloc (H : AHeap) (x : AObj) : AHeap := { objs := x :: H.objs, n := H.n + 1, low := H.low }

def look {α : Type} (t : Nat) : List (Nat × α) → Option α
  | [] => none
  | (k, v) :: r => if k = t then some v else look t r

structure St where
  env : List (Nat × AV)
  loc : List (Nat × List AV)
  H : AHeap

inductive Opd where
  | tmp (t : Nat)
  | const (v : AV)
  | func (f : FuncId)

def Opd.ev (env : List (Nat × AV)) : Opd → Option AV
  | .tmp t => look t env
  | .const v => some v
  | .func f => some (.func (.func f) [] [])

/-- How two values of a type are compared. -/
inductive EqT where
  | none
  | bool
  | int
  | str
  | ptr
  | slice
  | map
  | func
  | struct (fs : List (Nat × Bool × Nat × EqT))

def rd (agg : Bool) (sz off : Nat) (cells : List AV) : Option AV :=
  if agg then (if off + sz ≤ cells.length then some (.agg ((cells.drop off).take sz)) else none) else cells[off]?

def wr {α : Type} (off : Nat) (vs cells : List α) : List α := cells.take off ++ (vs ++ cells.drop (off + vs.length))

mutual
def aeq : EqT → AV → AV → Option Bool
  | .int, .int k a, .int k' b => if k = k' then some (a == b) else none
  | .bool, .bool a, .bool b => some (a == b)
  | .str, .str a, .str b => some (a == b)
  | .ptr, .nilp, .nilp => some true
  | .ptr, .nilp, .ptr _ _ => some false
  | .ptr, .nilp, .lptr _ _ => some false
  | .ptr, .ptr _ _, .nilp => some false
  | .ptr, .lptr _ _, .nilp => some false
  | .slice, .nils, .nils => some true
  | .slice, .nils, .slice .. => some false
  | .slice, .nils, .oslice .. => some false
  | .slice, .nils, .eslice .. => some false
  | .slice, .nils, .xslice .. => some false
  | .slice, .slice .., .nils => some false
  | .slice, .oslice .., .nils => some false
  | .slice, .eslice .., .nils => some false
  | .slice, .xslice .., .nils => some false
  | .map, .nilm, .nilm => some true
  | .map, .nilm, .map _ => some false
  | .map, .map _, .nilm => some false
  | .func, .nilFunc, .nilFunc => some true
  | .func, .nilFunc, .func .. => some false
  | .func, .func .., .nilFunc => some false
  | .struct fs, .agg xs, .agg ys => aeqF fs xs ys
  | _, _, _ => none
def aeqF : List (Nat × Bool × Nat × EqT) → List AV → List AV → Option Bool
  | [], _, _ => some true
  | (off, agg, sz, e) :: r, xs, ys =>
    match rd agg sz off xs, rd agg sz off ys with
    | some x, some y => match aeq e x y with
      | some true => aeqF r xs ys
      | some false => some false
      | none => none
    | _, _ => none
end

def bytesLess : List UInt8 → List UInt8 → Bool
  | _, [] => false
  | [], _ :: _ => true
  | a :: x, b :: y => a < b || (a == b && bytesLess x y)

def strOp (op : BinOp) (x y : List UInt8) : Option AV :=
  match op with
  | .add => if x.length + y.length < 2 ^ 63 then some (.str (x ++ y)) else none
  | .eql => some (.bool (x == y))
  | .neq => some (.bool !(x == y))
  | .lss => some (.bool (bytesLess x y))
  | .leq => some (.bool (bytesLess x y || x == y))
  | .gtr => some (.bool !(bytesLess x y || x == y))
  | .geq => some (.bool !bytesLess x y)
  | _ => none

def bitsOp (op : BinOp) (k : IntKind) (x y : Int) : Option AV :=
  let a := BitVec.ofInt k.bits x
  let b := BitVec.ofInt k.bits y
  match op with
  | .and => some (.int k (k.wrap (a &&& b).toNat))
  | .or => some (.int k (k.wrap (a ||| b).toNat))
  | .xor => some (.int k (k.wrap (a ^^^ b).toNat))
  | .andNot => some (.int k (k.wrap (a &&& ~~~b).toNat))
  | _ => none

def intOp (op : BinOp) (k : IntKind) (x y : Int) : Option AV :=
  match op with
  | .add => some (.int k (k.wrap (x + y)))
  | .sub => some (.int k (k.wrap (x - y)))
  | .mul => some (.int k (k.wrap (x * y)))
  | .quo => if y = 0 then none else some (.int k (k.wrap (x.tdiv y)))
  | .rem => if y = 0 then none else some (.int k (x.tmod y))
  | .and => bitsOp .and k x y
  | .or => bitsOp .or k x y
  | .xor => bitsOp .xor k x y
  | .andNot => bitsOp .andNot k x y
  | .shl => none
  | .shr => none
  | .eql => some (.bool (x == y))
  | .neq => some (.bool (x != y))
  | .lss => some (.bool (x < y))
  | .leq => some (.bool (x ≤ y))
  | .gtr => some (.bool (x > y))
  | .geq => some (.bool (x ≥ y))

def shiftOp (op : BinOp) (k : IntKind) (x y : Int) : Option AV :=
  if y < 0 then none else
  match op with
  | .shl => some (.int k (k.wrap (x * 2 ^ (min y.toNat k.bits))))
  | .shr => some (.int k (x.fdiv (2 ^ (min y.toNat k.bits))))
  | _ => none

def binA (op : BinOp) (e : EqT) (x y : AV) : Option AV :=
  match op, x, y with
  | .shl, .int k a, .int _ b => shiftOp .shl k a b
  | .shr, .int k a, .int _ b => shiftOp .shr k a b
  | op, .int k a, .int k' b => if k = k' then intOp op k a b else none
  | op, .str a, .str b => strOp op a b
  | .eql, x, y => (aeq e x y).map .bool
  | .neq, x, y => (aeq e x y).map fun b => .bool !b
  | _, _, _ => none

def unA (op : UnOp) (x : AV) : Option AV :=
  match op, x with
  | .neg, .int k n => intOp .sub k 0 n
  | .xor, .int k n => bitsOp .xor k (if k.signed then -1 else k.max) n
  | .not, .bool b => some (.bool !b)
  | _, _ => none

inductive Conv where
  | toInt (k : IntKind)
  | strId
  | toBytes
  | ofBytes

inductive SlKind where
  | str
  | slice (sz : Nat)
  | arr (n sz : Nat)

inductive LenKind where
  | str
  | slice
  | arr (n : Nat)
  | map

inductive IOp where
  | move (x : Opd)
  | pick (c a b : Opd)
  | alloc (loc : Bool) (sz : Nat) (zero : List AV)
  | box (loc : Bool) (sz : Nat) (x : Opd)
  | build (zero : List AV) (parts : List (Nat × Nat × Opd))
  | buildSlice (sz len : Nat) (zero : List AV) (parts : List (Nat × Nat × Opd))
  | load (agg : Bool) (sz : Nat) (a : Opd)
  | store (sz : Nat) (a x : Opd)
  | nilCheck (x : Opd)
  | bin (op : BinOp) (e : EqT) (x y : Opd)
  | un (op : UnOp) (x : Opd)
  | conv (c : Conv) (x : Opd)
  | mkIface (t : TypeId) (x : Opd)
  | mkFunc (fn : Fn) (first captured : List Opd)
  | mkMap
  | mkSlice (sz bytes : Nat) (zero : List AV) (len cap : Opd)
  | slice (k : SlKind) (x : Opd) (lo hi mx : Option Opd)
  | fieldAddr (off : Nat) (x : Opd)
  | field (agg : Bool) (sz off : Nat) (x : Opd)
  | indexAddr (arr : Option Nat) (sz : Nat) (x i : Opd)
  | index (arr : Option (Nat × Bool × Nat)) (x i : Opd)
  | extract (x : Opd) (i : Nat)
  | call (f : Opd) (args : List Opd)
  | len (k : LenKind) (x : Opd)
  | append (sz bytes : Nat) (s x : Opd)
  | clear (sz : Nat) (zero : List AV) (x : Opd)
  | maxs (x : Opd) (r : List Opd)
  | mins (x : Opd) (r : List Opd)
  | bad

def evs (env : List (Nat × AV)) : List Opd → Option (List AV)
  | [] => some []
  | x :: r => match x.ev env, evs env r with
    | some v, some vs => some (v :: vs)
    | _, _ => none

def allNoL (vs : List AV) : Bool := vs.all AV.noL

/-- Parts of a literal laid into its cells. -/
def fillA (env : List (Nat × AV)) : List (Nat × Nat × Opd) → List AV → Option (List AV)
  | [], cells => some cells
  | (off, sz, x) :: r, cells => match x.ev env with
    | some v => if v.noL && v.cells.length = sz && off + sz ≤ cells.length then fillA env r (wr off v.cells cells) else none
    | none => none

def loadA (s : St) (agg : Bool) (sz : Nat) : AV → Option AV
  | .ptr id off => match s.H.get id with
    | some (.row _ _ cells) => rd agg sz off cells
    | _ => none
  | .lptr t off => match look t s.loc with
    | some cells => rd agg sz off cells
    | none => none
  | _ => none

def storeA (s : St) (sz : Nat) (v : AV) : AV → Option St
  | .ptr id off => match s.H.get id with
    | some (.row false e cells) =>
      if v.noL && v.cells.length = sz && off + sz ≤ cells.length then some { s with H := s.H.set id (.row false e (wr off v.cells cells)) } else none
    | _ => none
  | .lptr t off => match look t s.loc with
    | some cells => if v.noL && v.cells.length = sz && off + sz ≤ cells.length then some { s with loc := (t, wr off v.cells cells) :: s.loc } else none
    | none => none
  | _ => none

/-- No slot but t holds a pointer to the local variable t. -/
def freeL (t : Nat) (env : List (Nat × AV)) : Bool := env.all fun (k, v) => match v with | .lptr u _ => !(u == t) || k == t | _ => true

def rowOf (H : AHeap) (id : Nat) : Option (Bool × Nat × List AV) :=
  match H.get id with
  | some (.row ro e cells) => some (ro, e, cells)
  | _ => none

def cutA (H : AHeap) (id off k : Nat) : Option (List AV) :=
  match H.get id with
  | some (.row _ _ cells) => if off + k ≤ cells.length then some ((cells.drop off).take k) else none
  | _ => none

/-- The cells that are copied where a list grows. -/
def oldA (H : AHeap) (id off len sz : Nat) : Option (List AV) := if len = 0 then some [] else cutA H id off (len * sz)

/-- How many elements a list-like value has, and their cells. -/
def firstA (H : AHeap) (sz : Nat) : AV → Option (Nat × List AV)
  | .nils => some (0, [])
  | .eslice .. => some (0, [])
  | .xslice .. => some (0, [])
  | .slice id off len _ => if len = 0 then some (0, []) else (cutA H id off (len * sz)).map fun cs => (len, cs)
  | .oslice id off len _ _ => if len = 0 then some (0, []) else (cutA H id off (len * sz)).map fun cs => (len, cs)
  | .str s => if sz = 1 then some (s.length, s.map fun b => .int .u8 b.toNat) else none
  | _ => none

def appendA (H : AHeap) (sz bytes : Nat) (s x : AV) : Option (AV × AHeap) :=
  match firstA H sz x with
  | none => none
  | some (n, xs) =>
    match s with
    | .nils => if n = 0 then some (.nils, H) else if n * bytes ≤ 2 ^ 47 then some (.oslice H.n 0 n n sz, H.alloc (.row false sz xs)) else none
    | .xslice a b c => if n = 0 then some (.xslice a b c, H) else if n * bytes ≤ 2 ^ 47 then some (.oslice H.n 0 n n sz, H.alloc (.row false sz xs)) else none
    | .eslice a b c d => if n = 0 then some (.eslice a b c d, H) else none
    | .slice id off len c =>
      if n = 0 ∧ len ≤ c then some (.slice id off len c, H) else
      if (len + n) * bytes > 2 ^ 47 then none else
      if len + n ≤ c then
        match H.get id with
        | some (.row false e cells) => if off + (len + n) * sz ≤ cells.length then some (.slice id off (len + n) c, H.set id (.row false e (wr (off + len * sz) xs cells))) else none
        | _ => none
      else
        match oldA H id off len sz with
        | some old => some (.oslice H.n 0 (len + n) (len + n) sz, H.alloc (.row false sz (old ++ xs)))
        | none => none
    | .oslice id off len kc z =>
      if z ≠ sz then none else
      if n = 0 then some (.oslice id off len kc z, H) else
      if (len + n) * bytes > 2 ^ 47 then none else
      match H.get id with
      | some (.row false e cells) =>
        if off + (len + n) * sz ≤ cells.length then some (.oslice id off (len + n) (max kc (len + n)) sz, H.set id (.row false e (wr (off + len * sz) xs cells)))
        else if off + len * sz ≤ cells.length then some (.oslice H.n 0 (len + n) (len + n) sz, (H.set id .dead).alloc (.row false sz ((cells.drop off).take (len * sz) ++ xs)))
        else none
      | _ => none
    | _ => none

def zerosA (zero : List AV) : Nat → List AV
  | 0 => []
  | n + 1 => zero ++ zerosA zero n

def intOf? : AV → Option Int
  | .int _ n => some n
  | _ => none

def optInt (env : List (Nat × AV)) (d : Nat) : Option Opd → Option Nat
  | none => some d
  | some x => match x.ev env with
    | some (.int _ n) => if 0 ≤ n then some n.toNat else none
    | _ => none

def optIntO (env : List (Nat × AV)) : Option Opd → Option (Option Nat)
  | none => some none
  | some x => (optInt env 0 (some x)).map some

/-- Are the bounds lo, hi, mx right, of a length and a capacity? -/
def inB (len cap lo : Nat) (hi mx : Option Nat) : Bool :=
  decide (mx.getD cap ≤ cap) && (decide (hi.getD len ≤ mx.getD cap) && (decide (lo ≤ hi.getD len) && (!mx.isSome || hi.isSome)))

def sliceA (k : SlKind) (x : AV) (lo : Nat) (hi mx : Option Nat) : Option AV :=
  match k, x with
  | .str, .str s => if !mx.isSome && inB s.length s.length lo hi none then some (.str ((s.drop lo).take (hi.getD s.length - lo))) else none
  | .slice sz, .slice id off len c => if inB len c lo hi mx then some (.slice id (if mx.getD c = lo then off else off + lo * sz) (hi.getD len - lo) (mx.getD c - lo)) else none
  | .slice sz, .oslice id off len kc z =>
    if z ≠ sz then none else
    match mx with
    | some m => if inB len kc lo hi (some m) then some (.slice id (if m = lo then off else off + lo * sz) (hi.getD len - lo) (m - lo)) else none
    | none => if inB len kc lo hi none then (if lo < kc then some (.oslice id (off + lo * sz) (hi.getD len - lo) (kc - lo) sz) else some (.eslice id off lo sz)) else none
  | .slice _, .nils => if inB 0 0 lo hi mx then some .nils else none
  | .slice _, .xslice a b c => if inB 0 0 lo hi mx then some (.xslice a b c) else none
  | .slice _, .eslice id off l z => if !mx.isSome && inB 0 0 lo hi none then some (.eslice id off l z) else none
  | .arr n sz, .ptr id off => if inB n n lo hi mx then some (.slice id (if mx.getD n = lo then off else off + lo * sz) (hi.getD n - lo) (mx.getD n - lo)) else none
  | _, _ => none

def max2A : AV → AV → Option AV
  | .int k x, .int _ y => some (.int k (if y > x then y else x))
  | .str x, .str y => some (.str (if !bytesLess x y then x else y))
  | _, _ => none
def min2A : AV → AV → Option AV
  | .int k x, .int _ y => some (.int k (if y < x then y else x))
  | .str x, .str y => some (.str (if bytesLess x y || x == y then x else y))
  | _, _ => none
def foldA (f : AV → AV → Option AV) : AV → List AV → Option AV
  | x, [] => some x
  | x, y :: r => match f x y with
    | some z => foldA f z r
    | none => none

def clearA (s : St) (sz : Nat) (zero : List AV) (id off len : Nat) : Option (AV × St) :=
  if len = 0 then some (undefA, s) else match s.H.get id with
  | some (.row false e cells) => if off + len * sz ≤ cells.length && zero.length = sz then some (undefA, { s with H := s.H.set id (.row false e (wr off (zerosA zero len) cells)) }) else none
  | _ => none

/-- What an operation that calls nothing comes to: its value, the state behind it (the slot is written by stepOp). -/
def evOp (dst : Option Nat) (s : St) : IOp → Option (AV × St)
  | .move x => (x.ev s.env).map fun v => (v, s)
  | .pick c a b => match c.ev s.env with
    | some (.bool true) => (a.ev s.env).map fun v => (v, s)
    | some (.bool false) => (b.ev s.env).map fun v => (v, s)
    | _ => none
  | .alloc true _ zero => match dst with
    | some t => if freeL t s.env then some (.lptr t 0, { s with loc := (t, zero) :: s.loc }) else none
    | none => none
  | .alloc false sz zero => some (.ptr s.H.n 0, { s with H := s.H.alloc (.row false sz zero) })
  | .box true _ x => match dst, x.ev s.env with
    | some t, some v => if freeL t s.env && v.noL then some (.lptr t 0, { s with loc := (t, v.cells) :: s.loc }) else none
    | _, _ => none
  | .box false sz x => match x.ev s.env with
    | some v => if v.noL then some (.ptr s.H.n 0, { s with H := s.H.alloc (.row false sz v.cells) }) else none
    | none => none
  | .build zero parts => (fillA s.env parts zero).map fun cs => (.agg cs, s)
  | .buildSlice sz len zero parts => (fillA s.env parts zero).map fun cs => (.slice s.H.n 0 len len, { s with H := s.H.alloc (.row false sz cs) })
  | .load agg sz a => match a.ev s.env with
    | some p => (loadA s agg sz p).map fun v => (v, s)
    | none => none
  | .store sz a x => match a.ev s.env, x.ev s.env with
    | some p, some v => (storeA s sz v p).map fun s' => (undefA, s')
    | _, _ => none
  | .nilCheck x => match x.ev s.env with
    | some .nilp => none
    | some .nilIface => none
    | some .nilFunc => none
    | some (.func (.method _) _ _) => none
    | some v => some (v, s)
    | none => none
  | .bin op e x y => match x.ev s.env, y.ev s.env with
    | some a, some b => (binA op e a b).map fun v => (v, s)
    | _, _ => none
  | .un op x => match x.ev s.env with
    | some a => (unA op a).map fun v => (v, s)
    | none => none
  | .conv c x => match c, x.ev s.env with
    | .toInt k, some (.int _ n) => some (.int k (k.wrap n), s)
    | .strId, some (.str l) => some (.str l, s)
    | .toBytes, some (.str l) => some (.oslice s.H.n 0 l.length l.length 1, { s with H := s.H.alloc (.row false 1 (l.map fun b => .int .u8 b.toNat)) })
    | _, _ => none
  | .mkIface t x => match x.ev s.env with
    | some v => if v.noL then some (.iface t v, s) else none
    | none => none
  | .mkFunc fn first captured => match evs s.env first, evs s.env captured with
    | some a, some b => if allNoL a && allNoL b then some (.func fn a b, s) else none
    | _, _ => none
  | .mkMap => some (.map s.H.n, { s with H := s.H.alloc (.map []) })
  | .mkSlice sz bytes zero len cap => match len.ev s.env, cap.ev s.env with
    | some (.int .i64 l), some (.int .i64 c) =>
      if 0 ≤ l ∧ l ≤ c ∧ c * bytes ≤ 2 ^ 47 ∧ c < 2 ^ 63 then some (.slice s.H.n 0 l.toNat c.toNat, { s with H := s.H.alloc (.row false sz (zerosA zero c.toNat)) }) else none
    | _, _ => none
  | .slice k x lo hi mx => match x.ev s.env, optInt s.env 0 lo with
    | some v, some l => match optIntO s.env hi, optIntO s.env mx with
      | some h, some m => (sliceA k v l h m).map fun r => (r, s)
      | _, _ => none
    | _, _ => none
  | .fieldAddr off x => match x.ev s.env with
    | some (.ptr id o) => some (.ptr id (o + off), s)
    | some (.lptr t o) => some (.lptr t (o + off), s)
    | _ => none
  | .field agg sz off x => match x.ev s.env with
    | some (.agg cs) => (rd agg sz off cs).map fun v => (v, s)
    | _ => none
  | .indexAddr none sz x i => match x.ev s.env, i.ev s.env with
    | some (.slice id off len _), some (.int _ n) => if 0 ≤ n ∧ n < len then some (.ptr id (off + n.toNat * sz), s) else none
    | some (.oslice id off len _ _), some (.int _ n) => if 0 ≤ n ∧ n < len then some (.ptr id (off + n.toNat * sz), s) else none
    | _, _ => none
  | .indexAddr (some m) sz x i => match x.ev s.env, i.ev s.env with
    | some (.ptr id off), some (.int _ n) => if 0 ≤ n ∧ n < m then some (.ptr id (off + n.toNat * sz), s) else none
    | some (.lptr t off), some (.int _ n) => if 0 ≤ n ∧ n < m then some (.lptr t (off + n.toNat * sz), s) else none
    | _, _ => none
  | .index none x i => match x.ev s.env, i.ev s.env with
    | some (.str l), some (.int _ n) => if 0 ≤ n then (l[n.toNat]?).map fun b => (.int .u8 b.toNat, s) else none
    | _, _ => none
  | .index (some (m, agg, sz)) x i => match x.ev s.env, i.ev s.env with
    | some (.agg cs), some (.int _ n) => if 0 ≤ n ∧ n < m then (rd agg sz (n.toNat * sz) cs).map fun v => (v, s) else none
    | _, _ => none
  | .extract x i => match x.ev s.env with
    | some (.tuple vs) => (vs[i]?).map fun v => (v, s)
    | _ => none
  | .call _ _ => none
  | .len k x => match k, x.ev s.env with
    | .str, some (.str l) => some (.int .i64 l.length, s)
    | .slice, some .nils => some (.int .i64 0, s)
    | .slice, some (.slice _ _ n _) => some (.int .i64 n, s)
    | .slice, some (.oslice _ _ n _ _) => some (.int .i64 n, s)
    | .slice, some (.eslice ..) => some (.int .i64 0, s)
    | .slice, some (.xslice ..) => some (.int .i64 0, s)
    | .arr n, some _ => some (.int .i64 n, s)
    | .map, some .nilm => some (.int .i64 0, s)
    | .map, some (.map id) => match s.H.get id with
      | some (.map es) => some (.int .i64 es.length, s)
      | _ => none
    | _, _ => none
  | .append sz bytes a x => match a.ev s.env, x.ev s.env with
    | some u, some v => (appendA s.H sz bytes u v).map fun (r, H) => (r, { s with H := H })
    | _, _ => none
  | .clear sz zero x => match x.ev s.env with
    | some .nils => some (undefA, s)
    | some (.eslice ..) => some (undefA, s)
    | some (.xslice ..) => some (undefA, s)
    | some (.slice id off len _) => clearA s sz zero id off len
    | some (.oslice id off len _ _) => clearA s sz zero id off len
    | _ => none
  | .maxs x r => match x.ev s.env, evs s.env r with
    | some v, some vs => (foldA max2A v vs).map fun z => (z, s)
    | _, _ => none
  | .mins x r => match x.ev s.env, evs s.env r with
    | some v, some vs => (foldA min2A v vs).map fun z => (z, s)
    | _, _ => none
  | .bad => none

structure IOper where
  dst : Option Nat
  op : IOp
  guard : Option (Nat × Bool)

def St.put (s : St) (dst : Option Nat) (v : AV) : St :=
  match dst with
  | some d => { s with env := (d, v) :: s.env }
  | none => s

/-- Is the operation wanted? none: the slot that guards it is not known. -/
def wantedA (s : St) : Option (Nat × Bool) → Option Bool
  | none => some true
  | some (g, want) => match look g s.env with
    | some (.bool b) => some (b == want)
    | some _ => some false
    | none => none

abbrev CallF := FuncId → List AV → AHeap → Option (AV × AHeap)

def stepOp (C : CallF) (o : IOper) (s : St) : Option St :=
  match wantedA s o.guard with
  | none => none
  | some false => some (s.put o.dst undefA)
  | some true =>
    match o.op with
    | .call f args =>
      match f.ev s.env, evs s.env args with
      | some (.func (.func g) first captured), some vs =>
        if allNoL vs then (C g (first ++ (vs ++ captured)) s.H).map fun (v, H) => ({ s with H := H } : St).put o.dst v else none
      | _, _ => none
    | op => (evOp o.dst s op).map fun (v, s') => s'.put o.dst v

def stepOps (C : CallF) : List IOper → St → Option St
  | [], s => some s
  | o :: r, s => (stepOp C o s).bind (stepOps C r)

inductive RV where
  | tmp (t : Nat)
  | cell (t : Nat) (agg : Bool) (sz : Nat)

inductive IC where
  | skip
  | region (ops : List IOper)
  | regionD (ops : List IOper) (checks : List (Nat × Nat))
  | seq (a b : IC)
  | cond (c : Opd) (a b : IC)
  | block (id : Nat) (b : IC)
  | loop (b : IC)
  | exit (id : Nat)
  | ret
  | keep (ks ls : List Nat) (c : IC)

inductive AExit where
  | normal
  | exit (id : Nat)
  | ret
  deriving DecidableEq

def prune {α : Type} (ks : List Nat) (l : List (Nat × α)) : List (Nat × α) := ks.filterMap fun k => (look k l).map fun v => (k, v)

/-- The states ahead of each operation, and behind the last. -/
def trace (C : CallF) : List IOper → St → Option (List St)
  | [], s => some [s]
  | o :: r, s => match stepOp C o s with
    | some s' => (trace C r s').map (s :: ·)
    | none => none

/-- Operation i would tell the same at the memory that stands ahead of operation p. -/
def checkAt (ops : List IOper) (tr : List St) (i p : Nat) : Bool :=
  match ops[i]?, tr[i]?, tr[p]?, tr[i + 1]? with
  | some o, some s, some m, some s' =>
    (match wantedA s o.guard with
     | some true => (match evOp o.dst { s with loc := m.loc, H := m.H } o.op, o.dst.bind (look · s'.env) with
       | some (v, _), some v' => AV.beq v v'
       | _, _ => false)
     | some false => true
     | none => false)
  | _, _, _, _ => false

/-- Local variables made in the region are not there ahead of it. -/
def freshD (ops : List IOper) (s : St) : Bool := ops.all fun o =>
  match o.op, o.dst with
  | .alloc true _ _, some t => (look t s.loc).isNone && s.env.all fun (_, v) => match v with | .lptr u _ => !(u == t) | _ => true
  | .box true _ _, some t => (look t s.loc).isNone && s.env.all fun (_, v) => match v with | .lptr u _ => !(u == t) | _ => true
  | _, _ => true

def isRead : IOp → Bool
  | .load .. => true
  | .len .map _ => true
  | _ => false

/-- What is read names nothing that was not there then. -/
def readsOk : List IOper → List St → Bool
  | o :: os, s :: s' :: tr => (!isRead o.op || (match o.dst.bind (look · s'.env) with | some v => v.okB s.H.n | none => true)) && readsOk os (s' :: tr)
  | _, _ => true

def drawCond (ops : List IOper) (checks : List (Nat × Nat)) (s : St) (tr : List St) : Bool :=
  freshD ops s && (readsOk ops tr && checks.all fun (i, p) => checkAt ops tr i p)

def runD (C : CallF) (ops : List IOper) (checks : List (Nat × Nat)) (s : St) : Option St :=
  match trace C ops s with
  | some tr => if drawCond ops checks s tr then tr.getLast? else none
  | none => none

def iter (f : St → Option (AExit × St)) : Nat → St → Option (AExit × St)
  | 0, _ => none
  | n + 1, s => match f s with
    | some (.normal, s') => iter f n s'
    | r => r

def evC (C : CallF) (n : Nat) : IC → St → Option (AExit × St)
  | .skip, s => some (.normal, s)
  | .region ops, s => (stepOps C ops s).map fun s' => (.normal, s')
  | .regionD ops cs, s => (runD C ops cs s).map fun s' => (.normal, s')
  | .seq a b, s => match evC C n a s with
    | some (.normal, s') => evC C n b s'
    | r => r
  | .cond c a b, s => match c.ev s.env with
    | some (.bool true) => evC C n a s
    | some (.bool false) => evC C n b s
    | _ => none
  | .block id b, s => match evC C n b s with
    | some (.exit j, s') => if j = id then some (.normal, s') else some (.exit j, s')
    | r => r
  | .loop b, s => iter (evC C n b) n s
  | .exit id, s => some (.exit id, s)
  | .ret, s => some (.ret, s)
  | .keep ks ls c, s => evC C n c { s with env := prune ks s.env, loc := prune ls s.loc }

structure FnIR where
  ntmps : Nat
  nargs : Nat
  results : List RV
  locals : List Nat
  body : IC

def RV.ev (s : St) : RV → Option AV
  | .tmp t => look t s.env
  | .cell t agg sz => match look t s.env with
    | some p => loadA s agg sz p
    | none => none

def rvs (s : St) : List RV → Option (List AV)
  | [] => some []
  | x :: r => match x.ev s, rvs s r with
    | some v, some vs => some (v :: vs)
    | _, _ => none

def packA : List AV → AV
  | [v] => v
  | vs => .tuple vs

def zipI : Nat → List AV → List (Nat × AV)
  | _, [] => []
  | i, v :: r => (i, v) :: zipI (i + 1) r

/-- Behind a call: what it made is forgotten where nothing of it can be reached. -/
def fin (H0 : AHeap) (v : AV) (H1 : AHeap) : AHeap :=
  if H0.n ≤ H1.low ∧ v.okB H0.n = true then H0 else { H1 with low := if H1.low < H0.low then H1.low else H0.low }

def enterA (args : List AV) (H : AHeap) : St := { env := zipI 0 args, loc := [], H := { H with low := H.n } }

def leaveA (F : FnIR) (H0 : AHeap) (r : AExit × St) : Option (AV × AHeap) :=
  match r with
  | (.exit _, _) => none
  | (_, s) => match rvs s F.results with
    | some vs => if allNoL vs then some (packA vs, fin H0 (packA vs) s.H) else none
    | none => none

def runF (C : CallF) (n : Nat) (F : FnIR) (args : List AV) (H : AHeap) : Option (AV × AHeap) :=
  if args.length = F.nargs then (evC C n F.body (enterA args H)).bind (leaveA F H) else none

inductive FnDef where
  | ir (F : FnIR)
  | prim (g : List AV → AHeap → Option (AV × AHeap))

def evF (T : FuncId → Option FnDef) : Nat → CallF
  | 0 => fun _ _ _ => none
  | n + 1 => fun f args H => match T f with
    | some (.ir F) => runF (evF T n) n F args H
    | some (.prim g) => g args H
    | none => none

end Go.Wam
