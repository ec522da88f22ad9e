/- The abstract machine: our form of the code, made out of the model's. No condition. -/
import Derived.Test.YtpdmmpajjdaebaaGreatAmA
import Derived.Orders
set_option linter.unusedVariables false
set_option linter.unusedSimpArgs false
namespace Go.Wam

def leafV : Value → Option AV
  | .bool b => some (.bool b)
  | .int k n => some (.int k n)
  | .string s => some (.str s.data.toList)
  | .pointer none => some .nilp
  | .slice none 0 0 => some .nils
  | .map none => some .nilm
  | .nilFunc => some .nilFunc
  | .nilIface => some .nilIface
  | _ => none

def leafs : List Value → Option (List AV)
  | [] => some []
  | v :: r => match leafV v, leafs r with
    | some a, some as => some (a :: as)
    | _, _ => none

def toAV : Value → Option AV
  | .agg cs => (leafs cs.toList).map .agg
  | v => leafV v

def opd : Operand → Option Opd
  | .tmp t => some (.tmp t)
  | .const v => (toAV v).map .const
  | .func f => some (.func f)
  | .global _ => none

def opds : List Operand → Option (List Opd)
  | [] => some []
  | x :: r => match opd x, opds r with
    | some a, some as => some (a :: as)
    | _, _ => none

def opdO : Option Operand → Option (Option Opd)
  | none => some none
  | some x => (opd x).map some

def aggT (P : Program) (t : TypeId) : Option Bool :=
  match P.underlying t with
  | some (.struct _) => some true
  | some (.array _ _) => some true
  | some _ => some false
  | none => none

def szT (P : Program) (t : TypeId) : Option Nat := (P.info? t).map (·.size)

def zeroT (P : Program) (t : TypeId) : Option (List AV) :=
  match (P.info? t).bind (·.zero) with
  | some v => leafs v.cells.toList
  | none => none

/-- A part's size, not 0. -/
def pszT (P : Program) (t : TypeId) : Option Nat :=
  match szT P t with
  | some 0 => none
  | r => r

def eqFs (P : Program) (g : TypeId → Option EqT) : List Field → Option (List (Nat × Bool × Nat × EqT))
  | [] => some []
  | f :: r => match eqFs P g r with
    | none => none
    | some r' => if f.name = "_" then some r' else
      match aggT P f.type, szT P f.type, g f.type with
      | some a, some s, some e => some ((f.offset, a, s, e) :: r')
      | _, _, _ => none

def eqTs (P : Program) : Nat → TypeId → Option EqT
  | 0, _ => none
  | n + 1, t => match P.underlying t with
    | some .bool => some .bool
    | some (.int _) => some .int
    | some .string => some .str
    | some (.pointer _) => some .ptr
    | some (.slice _) => some .slice
    | some (.map _ _) => some .map
    | some (.func _ _ _) => some .func
    | some (.struct fs) => if P.stoodInHeld t then none else (eqFs P (eqTs P n) fs.toList).map .struct
    | _ => none

def places (P : Program) : List Field → Option (List (Nat × Nat))
  | [] => some []
  | f :: r => match szT P f.type, places P r with
    | some s, some ps => some ((f.offset, s) :: ps)
    | _, _ => none

def partsS (ps : List (Nat × Nat)) : List (Nat × Operand) → Option (List (Nat × Nat × Opd))
  | [] => some []
  | (i, x) :: r => match ps[i]?, opd x, partsS ps r with
    | some (off, s), some y, some r' => some ((off, s, y) :: r')
    | _, _, _ => none

def partsA (sz : Nat) : List (Nat × Operand) → Option (List (Nat × Nat × Opd))
  | [] => some []
  | (i, x) :: r => match opd x, partsA sz r with
    | some y, some r' => some ((i * sz, sz, y) :: r')
    | _, _ => none

def isInt (P : Program) (t : TypeId) : Bool :=
  match P.underlying t with
  | some (.int _) => true
  | _ => false

def isLocal (locals : List Nat) : Option Nat → Bool
  | some d => locals.contains d
  | none => false

def opt2 {α β γ : Type} (a : Option α) (b : Option β) (f : α → β → Option γ) : Option γ :=
  match a, b with
  | some x, some y => f x y
  | _, _ => none

def keyT (P : Program) (t : TypeId) : Option KeyT :=
  match P.underlying t with
  | some (.int k) => some (.int k)
  | some .string => some .str
  | some (.array n e) => match P.underlying e, szT P e with
    | some (.int k), some 1 => some (.arr k n)
    | _, _ => none
  | _ => none

/-- A type's zero value. -/
def zeroV (P : Program) (t : TypeId) : Option AV :=
  match (P.info? t).bind (·.zero) with
  | some (.agg cs) => (leafs cs.toList).map .agg
  | some v => leafV v
  | none => none

def compBuiltin (P : Program) (b : Builtin) (ats : Array TypeId) (args : Array Operand) : Option IOp :=
  match b, ats.toList, args.toList with
  | .len, [t], [x] => match P.underlying t, opd x with
    | some .string, some y => some (.len .str y)
    | some (.slice _), some y => some (.len .slice y)
    | some (.array n _), some y => some (.len (.arr n) y)
    | some (.map _ _), some y => some (.len .map y)
    | _, _ => none
  | .append, [t, u], [s, x] => match P.underlying t with
    | some (.slice e) => match pszT P e, (P.info? e).map (·.bytes), (P.info? e).bind (·.zero) with
      | some sz, some bytes, some z => if (P.underlying u).isNone || bytes = 0 || z.cells.size != sz then none else if isInt P u then match leafs z.cells.toList with
          | some zl => opt2 (opd s) (opd x) fun a b => some (.appendZ sz bytes zl a b)
          | none => none
        else opt2 (opd s) (opd x) fun a b => some (.append sz bytes a b)
      | _, _, _ => none
    | _ => none
  | .clear, [t], [x] => match P.underlying t with
    | some (.slice e) => match pszT P e, zeroT P e, opd x with
      | some sz, some z, some y => if z.length = sz then some (.clear sz z y) else none
      | _, _, _ => none
    | _ => none
  | .cap, [t], [x] => match P.underlying t, opd x with
    | some (.slice _), some y => some (.capS y)
    | _, _ => none
  | .copy, t :: _, [d, x] => match P.underlying t with
    | some (.slice e) => match pszT P e with
      | some sz => opt2 (opd d) (opd x) fun a b => some (.copy sz a b)
      | none => none
    | _ => none
  | .max, _, x :: r => opt2 (opd x) (opds r) fun a b => some (.maxs a b)
  | .min, _, x :: r => opt2 (opd x) (opds r) fun a b => some (.mins a b)
  | .delete, t :: _, [m, k] => match P.underlying t with
    | some (.map kt _) => match keyT P kt, opd m, opd k with
      | some t, some a, some b => some (.delete t a b)
      | _, _, _ => none
    | _ => none
  | _, _, _ => none

def slKind (P : Program) (t : TypeId) : Option SlKind :=
  match P.underlying t with
  | some .string => some SlKind.str
  | some (.slice e) => (pszT P e).map .slice
  | some (.array n e) => (pszT P e).map (.arr n)
  | _ => none

def compOp (P : Program) (locals : List Nat) (dst : Option Nat) : Op → Option IOp
  | .move x => (opd x).map .move
  | .assign x => (opd x).map .move
  | .pick c a b => match opd c, opd a, opd b with
    | some c, some a, some b => some (.pick c a b)
    | _, _, _ => none
  | .alloc e => opt2 (szT P e) (zeroT P e) fun sz z => some (.alloc (isLocal locals dst) sz z)
  | .box e x => opt2 (szT P e) (opd x) fun sz y => some (.box (isLocal locals dst) sz y)
  | .build t parts => match P.underlying t with
    | some (.struct fs) => match places P fs.toList with
      | some ps => opt2 (zeroT P t) (partsS ps parts.toList) fun z q => some (.build z q)
      | none => none
    | some (.array _ e) => match szT P e with
      | some sz => opt2 (zeroT P t) (partsA sz parts.toList) fun z q => some (.build z q)
      | none => none
    | _ => none
  | .buildSlice t len parts => match P.underlying t with
    | some (.slice e) => match pszT P e with
      | some sz => if len * sz > 2 ^ 24 then none else
        match (if len * sz = 0 then some #[] else ((P.info? e).bind (·.zero)).map (·.cells)) with
        | some zero => opt2 (leafs ((Array.range (len * sz)).map (zero[· % zero.size]!)).toList) (partsA sz parts.toList) fun z q => some (.buildSlice sz len z q)
        | none => none
      | none => none
    | _ => none
  | .load t a => match aggT P t, szT P t, opd a with
    | some g, some s, some x => some (.load g s x)
    | _, _, _ => none
  | .store t a v => match szT P t, opd a, opd v with
    | some s, some x, some y => some (.store s x y)
    | _, _, _ => none
  | .nilCheck x => (opd x).map .nilCheck
  | .binOp op t x y _ => match op with
    | .eql => match P.underlying t, x, y with
      | some (.interface _), _, .const .nilIface => (opd x).map (.isNilI false)
      | some (.pointer e), .tmp a, .tmp b => match szT P e with
        | some (_ + 1) => some (.ptrEq false (.tmp a) (.tmp b))
        | _ => none
      | _, _, _ => if P.eqGuardType P.depth t then none else match eqTs P 20 t, opd x, opd y with
      | some e, some a, some b => some (.bin .eql e a b)
      | _, _, _ => none
    | .neq => match P.underlying t, x, y with
      | some (.interface _), _, .const .nilIface => (opd x).map (.isNilI true)
      | some (.pointer e), .tmp a, .tmp b => match szT P e with
        | some (_ + 1) => some (.ptrEq true (.tmp a) (.tmp b))
        | _ => none
      | _, _, _ => if P.eqGuardType P.depth t then none else match eqTs P 20 t, opd x, opd y with
      | some e, some a, some b => some (.bin .neq e a b)
      | _, _, _ => none
    | op => opt2 (opd x) (opd y) fun a b => some (.bin op .none a b)
  | .unOp op _ x => (opd x).map (.un op)
  | .convert s d x => match P.underlying s, P.underlying d, opd x with
    | some (.int _), some (.int k), some y => some (.conv (.toInt k) y)
    | some .string, some .string, some y => some (.conv .strId y)
    | some .string, some (.slice e), some y => match P.underlying e, szT P e with
      | some (.int .u8), some 1 => some (.conv .toBytes y)
      | _, _ => none
    | some (.slice e), some .string, some y => match P.underlying e with
      | some (.int .u8) => some (.conv .ofBytes y)
      | _ => none
    | some (.pointer e), some .unsafePointer, some y => match szT P e with
      | some (_ + 1) => some (.conv .ptrId y)
      | _ => none
    | _, _, _ => none
  | .makeInterface t x => match P.underlying t, opd x with
    | some (.interface _), _ => none
    | some _, some y => some (.mkIface t y)
    | _, _ => none
  | .makeFunc fn first captured => opt2 (opds first.toList) (opds captured.toList) fun a b => some (.mkFunc fn a b)
  | .makeMap _ none => some .mkMap
  | .makeSlice t len cap => match P.underlying t with
    | some (.slice e) => match pszT P e, (P.info? e).map (·.bytes), zeroT P e with
      | some sz, some bytes, some z => if z.length = sz then opt2 (opd len) (opd cap) fun a b => some (.mkSlice sz bytes z a b) else none
      | _, _, _ => none
    | _ => none
  | .slice t x lo hi mx => match slKind P t, opd x, opdO lo, opdO hi, opdO mx with
    | some k, some y, some l, some h, some m => some (.slice k y l h m)
    | _, _, _, _, _ => none
  | .fieldAddr t x f => match P.underlying t with
    | some (.struct fs) => match fs[f]? with
      | some fd => opt2 (pszT P fd.type) (opd x) fun _ y => some (.fieldAddr fd.offset y)
      | none => none
    | _ => none
  | .field t x f => match P.underlying t with
    | some (.struct fs) => match fs[f]? with
      | some fd => match aggT P fd.type, szT P fd.type, opd x with
        | some g, some s, some y => some (.field g s fd.offset y)
        | _, _, _ => none
      | none => none
    | _ => none
  | .indexAddr t x i => match P.underlying t with
    | some (.slice e) => match pszT P e, opd x, opd i with
      | some s, some y, some j => some (.indexAddr none s y j)
      | _, _, _ => none
    | some (.array n e) => match pszT P e, opd x, opd i with
      | some s, some y, some j => some (.indexAddr (some n) s y j)
      | _, _, _ => none
    | _ => none
  | .index t x i => match P.underlying t with
    | some .string => opt2 (opd x) (opd i) fun y j => some (.index none y j)
    | some (.array n e) => match aggT P e, szT P e, opt2 (opd x) (opd i) fun y j => some (y, j) with
      | some g, some s, some (y, j) => some (.index (some (n, g, s)) y j)
      | _, _, _ => none
    | _ => none
  | .range t x => match P.underlying t with
    | some .string => (opd x).map .rangeS
    | some (.map _ _) => (opd x).map .rangeM
    | _ => none
  | .next x true => (opd x).map .nextS
  | .next x false => (opd x).map .nextM
  | .entry x => (opd x).map .entryM
  | .mapEntry t x k => match P.underlying t with
    | some (.map kt e) => match keyT P kt, zeroV P e, opd x, opd k with
      | some t, some z, some a, some b => some (.mapEntry t z a b)
      | _, _, _, _ => none
    | _ => none
  | .entryStore _ x s v => match opd x, opd s, opd v with
    | some a, some b, some c => some (.entryStore a b c)
    | _, _, _ => none
  | .defer { callee := .value f, args, .. } => opt2 (opd f) (opds args.toList) fun g as => some (.defer g as)
  | .lookup t x k ok => match P.underlying t with
    | some (.map kt e) => match keyT P kt, zeroV P e, opd x, opd k with
      | some t, some z, some a, some b => some (.lookup t ok z a b)
      | _, _, _, _ => none
    | _ => none
  | .mapUpdate t x k v | .insert t x k v => match P.underlying t with
    | some (.map kt _) => match keyT P kt, opd x, opd k, opd v with
      | some t, some a, some b, some c => some (.mapUpdate t a b c)
      | _, _, _, _ => none
    | _ => none
  | .extract x i => (opd x).map fun y => .extract y i
  | .panic _ => some .bad
  | .call { callee := .value f, args, .. } => opt2 (opd f) (opds args.toList) fun g as => some (.call g as)
  | .call { callee := .builtin b, args, argTypes } => compBuiltin P b argTypes args
  | _ => none

def compGuard (ops : Array Oper) : Option (Nat × Bool) → Option (Option (Nat × Bool))
  | none => some none
  | some (j, want) => match (ops[j]?).bind (·.dst) with
    | some d => some (some (d, want))
    | none => none

def dstOk (nt : Nat) : Option Nat → Bool
  | some d => decide (d < nt)
  | none => true

def compOper (P : Program) (nt : Nat) (locals : List Nat) (ops : Array Oper) (o : Oper) : Option IOper :=
  if dstOk nt o.dst then
    (compGuard ops o.guard).map fun g => { dst := o.dst, op := (compOp P locals o.dst o.op).getD .bad, guard := g }
  else none

def compOpers (P : Program) (nt : Nat) (locals : List Nat) (ops : Array Oper) : List Oper → Option (List IOper)
  | [] => some []
  | o :: r => match compOper P nt locals ops o, compOpers P nt locals ops r with
    | some i, some is => some (i :: is)
    | _, _ => none

/-! ## Regions that draw their order -/
def plainOp : IOp → Bool
  | .defer .. => false
  | _ => true

inductive Cls where
  | pure | read | alloc | effect
  deriving DecidableEq

def IOp.cls : IOp → Cls
  | .move _ | .pick .. | .build .. | .nilCheck _ | .bin .. | .un .. | .mkIface .. | .mkFunc .. | .slice .. | .fieldAddr .. | .field .. | .indexAddr .. | .index .. | .extract .. | .maxs .. | .mins .. => .pure
  | .conv .toBytes _ => .alloc
  | .conv .ofBytes _ => .read
  | .conv .ptrId _ => .read
  | .conv _ _ => .pure
  | .len .map _ => .read
  | .len _ _ => .pure
  | .capS _ | .isNilI .. => .pure
  | .load .. | .lookup .. | .entryM _ | .ptrEq .. => .read
  | .alloc .. | .box .. | .buildSlice .. | .mkMap | .rangeS _ | .mkSlice .. => .alloc
  | .store .. | .call .. | .append .. | .appendZ .. | .clear .. | .mapUpdate .. | .delete .. | .nextS _ | .rangeM _ | .nextM _ | .mapEntry .. | .entryStore .. | .copy .. | .defer .. | .bad => .effect

/-- The places in the order in which we carry the operations out: each effect behind all that it waits for, the rest last. -/
def canon (ops : Array Oper) (cls : Nat → Cls) : List Nat :=
  let b := Region.before ops
  let idx := List.range ops.size
  let effs := idx.filter fun i => cls i == .effect
  let out := effs.foldl (fun acc e => acc ++ (idx.filter fun i => (b.getD e 0).testBit i && !acc.contains i) ++ (if acc.contains e then [] else [e])) []
  out ++ idx.filter fun i => !out.contains i

/-- Reckoned ahead of what goes on with it (for the kernel). -/
def strictN {α : Type} (n : Nat) (k : Nat → α) : α := match n with | 0 => k 0 | p + 1 => k (p + 1)
theorem strictN_eq {α : Type} (n : Nat) (k : Nat → α) : strictN n k = k n := by cases n <;> rfl

/-- For each operation, all that it waits for: a bit each; the last one first. -/
def masksGo : List Oper → List Nat → Nat → List Nat
  | [], acc, _ => acc
  | o :: r, acc, n => strictN (o.after.toList.foldl (fun m e => if Region.binds .any e && decide (e.on < n) then (m ||| (1 <<< e.on)) ||| acc.getD (n - 1 - e.on) 0 else if Region.binds .any e then m ||| (1 <<< e.on) else m) 0) fun m =>
    strictN (n + 1) fun n' => masksGo r (m :: acc) n'

def preds (ops : Array Oper) : List (List Nat) := (masksGo ops.toList [] 0).reverse.map fun m => (List.range ops.size).filter fun j => m.testBit j

def compAt (P : Program) (nt : Nat) (locals : List Nat) (ops : Array Oper) : List Nat → Option (List IOper)
  | [] => some []
  | i :: r => match (ops[i]?).bind (compOper P nt locals ops), compAt P nt locals ops r with
    | some o, some os => some (o :: os)
    | _, _ => none

/-- The order in which we carry the operations out: each effect behind all that it waits for, the rest last. -/
def canonD (P : Program) (locals : List Nat) (ops : Array Oper) : List Nat :=
  let pr := preds ops
  let idx := List.range ops.size
  let isE := fun i => match ops[i]? with
    | some o => ((compOp P locals o.dst o.op).getD .bad).cls == .effect
    | none => false
  let out := (idx.filter isE).foldl (fun acc e => acc ++ (idx.filter fun i => (pr.getD e []).contains i && !acc.contains i) ++ (if acc.contains e then [] else [e])) []
  out ++ idx.filter fun i => !out.contains i

def usesOp : Opd → List Nat
  | .tmp t => [t]
  | _ => []

/-- The slots that an operation of the model looks at. -/
def usesOf (ops : Array Oper) (o : Oper) : List Nat := o.looksAt ops

/-- May two operations' slots meet? -/
def clash (ops : Array Oper) (x y : Oper) : Bool :=
  (match x.dst with | some d => (usesOf ops y).contains d || y.dst == some d | none => false) ||
  (match y.dst with | some d => (usesOf ops x).contains d | none => false)

def allocs (c : Cls) : Bool := c == .alloc || c == .effect

/-- The boundaries at which a read has to tell the same: behind no effect, or behind effect r - 1. -/
def needAt (pr : List (List Nat)) (ord : List Nat) (cls : List Cls) (q r : Nat) : Bool :=
  let n := ord.length
  let o := fun p => ord.getD p 0
  (r == 0 || cls.getD (r - 1) .pure == .effect) &&
  (List.range n).all fun e => cls.getD e .pure != .effect ||
    (if e < r then !(pr.getD (o e) []).contains (o q) else !(pr.getD (o q) []).contains (o e))

/-- No effect and nothing made between two places. -/
def quietIn (cls : List Cls) (r q : Nat) : Bool := (List.range q).all fun p => p < r || !allocs (cls.getD p .pure)

def checksOf (pr : List (List Nat)) (ord : List Nat) (cls : List Cls) : List (Nat × Nat) :=
  let n := ord.length
  (List.range n).flatMap fun q => if cls.getD q .pure == .read then
    (List.range (n + 1)).filterMap fun r => if needAt pr ord cls q r && !(decide (r ≤ q) && quietIn cls r q) then some (q, r) else none
  else []

def drawOk (ops : Array Oper) (ord : List Nat) (ios : List IOper) : Bool :=
  let pr := preds ops
  let n := ops.size
  let cls := ios.map (·.op.cls)
  let o := fun p => ord.getD p 0
  let op := fun p => ops.getD (o p) default
  (ord.length == n) && ((List.range n).all fun i => ord.contains i) && (ord.all fun i => decide (i < n)) &&
  ((List.range n).all fun q => (List.range q).all fun p => o p != o q) &&
  ((List.range n).all fun q => (List.range q).all fun p => (!(cls.getD q .pure == .effect) || !allocs (cls.getD p .pure) || (pr.getD (o q) []).contains (o p))) &&
  ((List.range n).all fun q => (List.range q).all fun p => (!clash ops (op p) (op q) || (pr.getD (o q) []).contains (o p))) &&
  ((List.range n).all fun q => (List.range q).all fun p => !(cls.getD p .pure == .alloc && cls.getD q .pure == .alloc && (op p).dst == (op q).dst)) &&
  ((List.range n).all fun i => (ops.getD i default).after.toList.all fun e => !Region.binds .any e || decide (e.on < i)) &&
  ((List.range n).all fun i => !(pr.getD i []).contains i)

/-- Looked at one by one, so that no kernel has to go deep. -/
def warm (ops : Array Oper) : Bool := (List.range ops.size).all fun i => ((preds ops).getD i []).all fun _ => true

def compD (P : Program) (nt : Nat) (locals : List Nat) (ops : Array Oper) : Option IC :=
  if warm ops = false then none else
  let ord := canonD P locals ops
  match compAt P nt locals ops ord with
  | some ios => if drawOk ops ord ios && ios.all (fun o => plainOp o.op) then some (.regionD ios (checksOf (preds ops) ord (ios.map (·.op.cls)))) else none
  | none => none


/-- Code without a range over a function, and without a deferred call. -/
def plainC : IC → Bool
  | .region ops => ops.all fun o => plainOp o.op
  | .regionD ops _ => ops.all fun o => plainOp o.op
  | .seq a b => plainC a && plainC b
  | .cond _ a b => plainC a && plainC b
  | .block _ b => plainC b
  | .loop b => plainC b
  | .keep _ _ c => plainC c
  | .rangeF .. => false
  | .mapR _ _ _ _ _ _ b => plainC b
  | _ => true

def compC (P : Program) (nt : Nat) (locals : List Nat) : Code → Option IC
  | .skip => some .skip
  | .region _ ops false => (compOpers P nt locals ops ops.toList).map .region
  | .region _ ops true => compD P nt locals ops
  | .seq a b => opt2 (compC P nt locals a) (compC P nt locals b) fun x y => some (.seq x y)
  | .cond c a b => match opd c with
    | some c' => opt2 (compC P nt locals a) (compC P nt locals b) fun x y => some (.cond c' x y)
    | none => none
  | .block id b => (compC P nt locals b).map (.block id)
  | .loop b => (compC P nt locals b).map .loop
  | .exit id => some (.exit id)
  | .ret => some .ret
  | .rangeFunc f ps a b => match opd f with
    | some f' => if ps.all fun p => decide (p < nt) then opt2 (compC P nt locals a) (compC P nt locals b) fun x y => if plainC x && plainC y then some (.rangeF f' ps.toList x y) else none else none
    | none => none
  | _ => some .stuck

def erase : IC → IC
  | .keep _ _ c => erase c
  | .seq a b => .seq (erase a) (erase b)
  | .cond c a b => .cond c (erase a) (erase b)
  | .block id b => .block id (erase b)
  | .loop b => .loop (erase b)
  | .rangeF f ps a b => .rangeF f ps (erase a) (erase b)
  | .mapR d0 d1 it b _ _ body => .block b (.loop (.seq (.region [⟨some d0, .nextM it, none⟩, ⟨some d1, .extract (.tmp d0) 0, none⟩]) (.seq (.cond (.tmp d1) .skip (.exit b)) (erase body))))
  | c => c

def compRes (P : Program) : List ResultVar → Option (List RV)
  | [] => some []
  | .tmp t :: r => (compRes P r).map (.tmp t :: ·)
  | .cell t ty :: r => match aggT P ty, szT P ty, compRes P r with
    | some g, some s, some r' => some (.cell t g s :: r')
    | _, _, _ => none

/-- Is F function f's form? -/
def FnFits (P : Program) (f : FuncId) (F : FnIR) : Prop :=
  ∃ fn c, P.funcs[f]? = some fn ∧ fn.body = some c ∧ (fn.name == "runtime.NumGoroutine") = false ∧ fn.ntmps = F.ntmps ∧ decide (F.nargs ≤ F.ntmps) = true ∧
    compC P F.ntmps F.locals c = some (erase F.body) ∧ compRes P fn.results.toList = some F.results

end Go.Wam
