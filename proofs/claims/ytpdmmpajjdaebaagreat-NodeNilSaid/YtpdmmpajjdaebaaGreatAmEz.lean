/- The abstract machine: an evaluator for the kernel: code and calls. No condition. -/
import Derived.Test.YtpdmmpajjdaebaaGreatAmEy
set_option linter.unusedVariables false
set_option linter.unusedSimpArgs false
namespace Go.Wam
noncomputable section

def sBool (v : AV) : Option Bool := AV.rec (motive_1 := fun _ => Option Bool) (motive_2 := fun _ => PUnit) (fun b => some b) (fun _ _ => none) (fun _ => none) (none) (fun _ _ => none) (fun _ _ => none) (none) (fun _ _ _ _ => none) (fun _ _ _ _ _ => none) (fun _ _ _ _ => none) (fun _ _ _ => none) (none) (fun _ => none) (fun _ _ _ _ _ => none) (fun _ => none) (none) (fun _ _ _ => none) (none) (fun _ _ => none) (fun _ _ => none) PUnit.unit (fun _ _ _ _ => PUnit.unit) v
theorem sBool_some {v : AV} {p : Bool} (h : sBool v = some p) : v = .bool p := by cases v <;> cases h <;> rfl
def sSl (v : AV) : Option (Nat × Nat × Nat) := AV.rec (motive_1 := fun _ => Option (Nat × Nat × Nat)) (motive_2 := fun _ => PUnit) (fun _ => none) (fun _ _ => none) (fun _ => none) (none) (fun _ _ => none) (fun _ _ => none) (none) (fun a b c _ => some (a, b, c)) (fun a b c _ _ => some (a, b, c)) (fun _ _ _ _ => none) (fun _ _ _ => none) (none) (fun _ => none) (fun _ _ _ _ _ => none) (fun _ => none) (none) (fun _ _ _ => none) (none) (fun _ _ => none) (fun _ _ => none) PUnit.unit (fun _ _ _ _ => PUnit.unit) v
def natI (i : Int) : Option Nat := Int.rec (fun n => some n) (fun _ => none) i
theorem natI_some {i : Int} {n : Nat} (h : natI i = some n) : i = n := by
  cases i with
  | ofNat a => cases (show some a = some n from h); rfl
  | negSucc a => cases h

abbrev Arm := Option Nat → St → Option (AV × St)
def xMove (x : Opd) : Arm := fun _ s => ob (opdX s.env x) fun v => some (v, s)
def xPick (c a b : Opd) : Arm := fun _ s => ob (opdX s.env c) fun v => ob (sBool v) fun t => ob (Bool.rec (opdX s.env b) (opdX s.env a) t) fun v => some (v, s)
def xAlloc (l : Bool) (sz : Nat) (z : List AV) : Arm := fun dst s => Bool.rec (ob (allocX s.H (.row false sz z)) fun H => some (.ptr s.H.n 0, ⟨s.env, s.loc, H⟩)) (evOp dst s (.alloc l sz z)) l
def xBox (l : Bool) (sz : Nat) (x : Opd) : Arm := fun dst s => Bool.rec (ob (opdX s.env x) fun v => bc (noLX v) (ob (allocX s.H (.row false sz v.cells)) fun H => some (.ptr s.H.n 0, ⟨s.env, s.loc, H⟩))) (evOp dst s (.box l sz x)) l
def xBuild (z : List AV) (ps : List (Nat × Nat × Opd)) : Arm := fun _ s => ob (fillX s.env ps z) fun c => some (.agg c, s)
def xBuildSlice (sz len : Nat) (z : List AV) (ps : List (Nat × Nat × Opd)) : Arm := fun _ s => ob (fillX s.env ps z) fun c => ob (allocX s.H (.row false sz c)) fun H => some (.slice s.H.n 0 len len, ⟨s.env, s.loc, H⟩)
def xLoad (g : Bool) (sz : Nat) (a : Opd) : Arm := fun _ s => ob (opdX s.env a) fun p => ob (loadX s g sz p) fun v => some (v, s)
def xStore (sz : Nat) (a x : Opd) : Arm := fun _ s => ob (opdX s.env a) fun p => ob (opdX s.env x) fun v => ob (storeX s sz v p) fun s' => some (undefA, s')
def okFn (f : Fn) : Bool := Fn.rec (fun _ => true) (fun _ => false) (fun _ _ => true) (fun _ _ _ _ => true) (fun _ => true) f
def okNil (v : AV) : Bool := AV.rec (motive_1 := fun _ => Bool) (motive_2 := fun _ => PUnit) (fun _ => true) (fun _ _ => true) (fun _ => true) (false) (fun _ _ => true) (fun _ _ => true) (true) (fun _ _ _ _ => true) (fun _ _ _ _ _ => true) (fun _ _ _ _ => true) (fun _ _ _ => true) (true) (fun _ => true) (fun f _ _ _ _ => okFn f) (fun _ => true) (false) (fun _ _ _ => true) (false) (fun _ _ => true) (fun _ _ => true) PUnit.unit (fun _ _ _ _ => PUnit.unit) v
def xNilCheck (x : Opd) : Arm := fun _ s => ob (opdX s.env x) fun v => bc (okNil v) (some (v, s))
def xBin (op : BinOp) (e : EqT) (x y : Opd) : Arm := fun _ s => ob (opdX s.env x) fun a => ob (opdX s.env y) fun b => ob (binX op e a b) fun v => some (v, s)
def xUn (op : UnOp) (x : Opd) : Arm := fun _ s => ob (opdX s.env x) fun a => UnOp.rec (ob (unA .neg a) fun v => some (v, s)) (ob (unA .xor a) fun v => some (v, s)) (ob (sBool a) fun b => some (.bool (nB b), s)) (ob (unA .plus a) fun v => some (v, s)) op
def xConv (c : Conv) (x : Opd) : Arm := fun dst s => Conv.rec (fun k => ob (opdX s.env x) fun v => ob (sInt v) fun p => some (.int k (wrapX k p.2), s)) (evOp dst s (.conv c x)) (evOp dst s (.conv c x)) (evOp dst s (.conv c x)) (evOp dst s (.conv c x)) c
def xIface (t : TypeId) (x : Opd) : Arm := fun _ s => ob (opdX s.env x) fun v => bc (noLX v) (some (.iface t v, s))
def xFunc (fn : Fn) (a b : List Opd) : Arm := fun _ s => ob (evsX s.env a) fun va => ob (evsX s.env b) fun vb => bc (allX noLX va) (bc (allX noLX vb) (some (.func fn va vb, s)))
def optIX (env : List (Nat × AV)) (d : Nat) (x : Option Opd) : Option Nat := Option.rec (some d) (fun x => ob (opdX env x) fun v => ob (sInt v) fun p => natI p.2) x
theorem optIX_le {env : List (Nat × AV)} {d : Nat} {x : Option Opd} {n : Nat} (h : optIX env d x = some n) : optInt env d x = some n := by
  cases x with
  | none => exact h
  | some x =>
    obtain ⟨v, h1, h⟩ := ob_some.1 (show ob (opdX env x) (fun v => ob (sInt v) fun p => natI p.2) = some n from h)
    obtain ⟨p, h2, h⟩ := ob_some.1 h
    rw [opdX_eq] at h1; rw [sInt_some h2, natI_some h] at h1
    simp only [optInt, h1]
    rw [if_pos (by omega)]; simp
def optOX (env : List (Nat × AV)) (x : Option Opd) : Option (Option Nat) := Option.rec (some none) (fun x => ob (opdX env x) fun v => ob (sInt v) fun p => ob (natI p.2) fun n => some (some n)) x
theorem optOX_le {env : List (Nat × AV)} {x : Option Opd} {n : Option Nat} (h : optOX env x = some n) : optIntO env x = some n := by
  cases x with
  | none => exact h
  | some x =>
    obtain ⟨v, h1, h⟩ := ob_some.1 (show ob (opdX env x) (fun v => ob (sInt v) fun p => ob (natI p.2) fun n => some (some n)) = some n from h)
    obtain ⟨p, h2, h⟩ := ob_some.1 h
    obtain ⟨m, h3, h⟩ := ob_some.1 h
    cases h
    rw [opdX_eq] at h1; rw [sInt_some h2, natI_some h3] at h1
    simp only [optIntO, optInt, h1]
    rw [if_pos (by omega)]; simp
def getDX (o : Option Nat) (d : Nat) : Nat := Option.rec d (fun n => n) o
def isNoneX {α : Type} (o : Option α) : Bool := Option.rec true (fun _ => false) o
def slFast (sz : Nat) (lo : Nat) (hi : Option Nat) : AV → Option AV
  | .slice id off len c => bc (Nat.ble (getDX hi len) c) (bc (Nat.ble lo (getDX hi len)) (some (.slice id (ifb (Nat.beq c lo) off (Nat.add off (Nat.mul lo sz))) (Nat.sub (getDX hi len) lo) (Nat.sub c lo))))
  | .oslice id off len kc z => bc (Nat.beq z sz) (bc (Nat.ble (getDX hi len) kc) (bc (Nat.ble lo (getDX hi len)) (ifb (Nat.blt lo kc) (some (.oslice id (Nat.add off (Nat.mul lo sz)) (Nat.sub (getDX hi len) lo) (Nat.sub kc lo) sz)) (some (.eslice id off lo sz)))))
  | v => sliceA (.slice sz) v lo hi none
theorem slFast_le {sz lo : Nat} {hi : Option Nat} {v r : AV} (h : slFast sz lo hi v = some r) : sliceA (.slice sz) v lo hi none = some r := by
  have hg : ∀ d, getDX hi d = hi.getD d := fun d => by cases hi <;> rfl
  cases v with
  | slice id off len c =>
    obtain ⟨h1, h⟩ := bc_some.1 (show bc _ _ = some r from h)
    obtain ⟨h2, h⟩ := bc_some.1 h
    have h1 := bleN h1; have h2 := bleN h2
    rw [hg] at h1 h2 h
    have hb : inB len c lo hi none = true := by simp [inB, h1, h2]
    simp only [sliceA, hb, if_true, Option.getD_none]
    rw [← h]
    by_cases hc : c = lo
    · subst hc; rw [Nat.beq_refl]; simp
    · rw [beqN_ne hc]; simp [hc]
  | oslice id off len kc z =>
    obtain ⟨h0, h⟩ := bc_some.1 (show bc _ _ = some r from h)
    obtain ⟨h1, h⟩ := bc_some.1 h
    obtain ⟨h2, h⟩ := bc_some.1 h
    have h0 := beqN_eq h0
    have h1 := bleN h1; have h2 := bleN h2
    rw [hg] at h1 h2 h
    rw [ifb_lt] at h
    subst h0
    have hb : inB len kc lo hi none = true := by simp [inB, h1, h2]
    simp only [sliceA, ne_eq, not_true, if_false, hb, if_true]
    rw [← h]
    split <;> rfl
  | _ => exact h
def slX (k : SlKind) (v : AV) (lo : Nat) (hi mx : Option Nat) : Option AV := SlKind.rec (sliceA k v lo hi mx) (fun sz => ifb (isNoneX mx) (slFast sz lo hi v) (sliceA k v lo hi mx)) (fun _ _ => sliceA k v lo hi mx) k
theorem slX_le {k : SlKind} {v r : AV} {lo : Nat} {hi mx : Option Nat} (h : slX k v lo hi mx = some r) : sliceA k v lo hi mx = some r := by
  cases k with
  | slice sz =>
    cases mx with
    | none => exact slFast_le h
    | some m => exact h
  | _ => exact h
def xSlice (k : SlKind) (x : Opd) (lo hi mx : Option Opd) : Arm := fun _ s => ob (opdX s.env x) fun v => ob (optIX s.env 0 lo) fun l => ob (optOX s.env hi) fun h => ob (optOX s.env mx) fun m => ob (slX k v l h m) fun r => some (r, s)
def ptrAddK (v : AV) : Nat → Option AV := AV.rec (motive_1 := fun _ => Nat → Option AV) (motive_2 := fun _ => PUnit) (fun _ _ => none) (fun _ _ _ => none) (fun _ _ => none) (fun _ => none) (fun id f o => some (.ptr id (Nat.add f o))) (fun t f o => some (.lptr t (Nat.add f o))) (fun _ => none) (fun _ _ _ _ _ => none) (fun _ _ _ _ _ _ => none) (fun _ _ _ _ _ => none) (fun _ _ _ _ => none) (fun _ => none) (fun _ _ => none) (fun _ _ _ _ _ _ => none) (fun _ _ => none) (fun _ => none) (fun _ _ _ _ => none) (fun _ => none) (fun _ _ _ => none) (fun _ _ _ => none) PUnit.unit (fun _ _ _ _ => PUnit.unit) v
def ptrAdd (o : Nat) (v : AV) : Option AV := ptrAddK v o
def xFieldAddr (o : Nat) (x : Opd) : Arm := fun _ s => ob (opdX s.env x) fun v => ob (ptrAdd o v) fun r => some (r, s)
def xField (g : Bool) (sz o : Nat) (x : Opd) : Arm := fun _ s => ob (opdX s.env x) fun v => ob (sAgg v) fun c => ob (rdX g sz o c) fun r => some (r, s)
def xIndexAddr (arr : Option Nat) (sz : Nat) (x i : Opd) : Arm := fun dst s => Option.rec (ob (opdX s.env x) fun v => ob (opdX s.env i) fun u => ob (sInt u) fun p => ob (natI p.2) fun n => ob (sSl v) fun q => bc (Nat.blt n q.2.2) (some (.ptr q.1 (Nat.add q.2.1 (Nat.mul n sz)), s)))
  (fun m => ob (opdX s.env x) fun v => ob (opdX s.env i) fun u => ob (sInt u) fun p => ob (natI p.2) fun n => bc (Nat.blt n m) (ob (ptrAdd (Nat.mul n sz) v) fun r => some (r, s))) arr
def xIndex (arr : Option (Nat × Bool × Nat)) (x i : Opd) : Arm := fun dst s => Option.rec (ob (opdX s.env x) fun v => ob (opdX s.env i) fun u => ob (sInt u) fun p => ob (natI p.2) fun n => ob (sStr v) fun l => ob (nthX l n) fun b => some (.int .u8 (Int.ofNat b.toNat), s))
  (fun m => ob (opdX s.env x) fun v => ob (opdX s.env i) fun u => ob (sInt u) fun p => ob (natI p.2) fun n => bc (Nat.blt n m.1) (ob (sAgg v) fun c => ob (rdX m.2.1 m.2.2 (Nat.mul n m.2.2) c) fun r => some (r, s))) arr
def xExtract (x : Opd) (i : Nat) : Arm := fun _ s => ob (opdX s.env x) fun v => ob (sTup v) fun vs => ob (nthX vs i) fun r => some (r, s)
def xCall (f : Opd) (args : List Opd) : Arm := fun _ _ => none
def lnX (v : AV) : Option Nat := AV.rec (motive_1 := fun _ => Option Nat) (motive_2 := fun _ => PUnit) (fun _ => none) (fun _ _ => none) (fun _ => none) (none) (fun _ _ => none) (fun _ _ => none) (some 0) (fun _ _ n _ => some n) (fun _ _ n _ _ => some n) (fun _ _ _ _ => some 0) (fun _ _ _ => some 0) (none) (fun _ => none) (fun _ _ _ _ _ => none) (fun _ => none) (none) (fun _ _ _ => none) (none) (fun _ _ => none) (fun _ _ => none) PUnit.unit (fun _ _ _ _ => PUnit.unit) v
def xLen (k : LenKind) (x : Opd) : Arm := fun dst s => LenKind.rec (ob (opdX s.env x) fun v => ob (sStr v) fun l => some (.int .i64 (Int.ofNat (lenB l)), s)) (ob (opdX s.env x) fun v => ob (lnX v) fun n => some (.int .i64 (Int.ofNat n), s)) (fun n => ob (opdX s.env x) fun _ => some (.int .i64 (Int.ofNat n), s)) (evOp dst s (.len k x)) k
where lenB (l : List UInt8) : Nat := List.rec 0 (fun _ _ ih => Nat.succ ih) l
theorem lenB_eq : ∀ l, xLen.lenB l = l.length
  | [] => rfl
  | _ :: l => congrArg Nat.succ (lenB_eq l)
def xAppend (sz bytes : Nat) (a x : Opd) : Arm := fun _ s => ob (opdX s.env a) fun u => ob (opdX s.env x) fun v => ob (appendA s.H sz bytes u v) fun r => some (r.1, ⟨s.env, s.loc, r.2⟩)
def xLookup (t : KeyT) (ok : Bool) (z : AV) (x k : Opd) : Arm := fun _ s => ob (opdX s.env x) fun u => ob (opdX s.env k) fun v => ob (lookupA s.H t ok z u v) fun r => some (r, s)
def xUpd (t : KeyT) (x k v : Opd) : Arm := fun _ s => ob (opdX s.env x) fun a => ob (opdX s.env k) fun b => ob (opdX s.env v) fun c => ob (updA s.H t a b c) fun H => some (undefA, ⟨s.env, s.loc, H⟩)
def xNextS (x : Opd) : Arm := fun _ s => ob (opdX s.env x) fun v => ob (nextA s.H v) fun r => some (r.1, ⟨s.env, s.loc, r.2⟩)

def opX (io : IOp) : Arm := IOp.rec (motive := fun _ => Arm) xMove xPick xAlloc xBox xBuild xBuildSlice xLoad xStore xNilCheck xBin xUn xConv xIface xFunc (fun dst s => evOp dst s .mkMap) (fun a b c d e dst s => evOp dst s (.mkSlice a b c d e)) xSlice xFieldAddr xField xIndexAddr xIndex xExtract xCall xLen
  xAppend (fun a b c d e dst s => evOp dst s (.appendZ a b c d e)) (fun a b c dst s => evOp dst s (.clear a b c)) xLookup xUpd (fun a b c dst s => evOp dst s (.delete a b c))
  (fun a dst s => evOp dst s (.rangeS a)) xNextS (fun a dst s => evOp dst s (.rangeM a)) (fun a dst s => evOp dst s (.nextM a)) (fun a dst s => evOp dst s (.entryM a)) (fun a b c d dst s => evOp dst s (.mapEntry a b c d)) (fun a b c dst s => evOp dst s (.entryStore a b c)) (fun a dst s => evOp dst s (.capS a))
  (fun a b c dst s => evOp dst s (.copy a b c)) (fun a b c dst s => evOp dst s (.ptrEq a b c)) (fun a b dst s => evOp dst s (.isNilI a b)) (fun a b dst s => evOp dst s (.defer a b)) (fun a b dst s => evOp dst s (.maxs a b)) (fun a b dst s => evOp dst s (.mins a b)) (fun dst s => evOp dst s .bad) io

theorem bool_rec {α : Type} {b : Bool} {x y : α} : (Bool.rec x y b : α) = if b = true then y else x := by cases b <;> rfl

theorem opX_le {io : IOp} {dst : Option Nat} {s : St} {r : AV × St} (h : opX io dst s = some r) : evOp dst s io = some r := by
  cases io
  case move x =>
    obtain ⟨v, h1, h⟩ := ob_some.1 (show ob (opdX s.env x) (fun v => some (v, s)) = some r from h)
    rw [opdX_eq] at h1; simp only [evOp, h1]; exact h
  case pick c a b =>
    obtain ⟨v, h1, h⟩ := ob_some.1 (show ob (opdX s.env c) _ = some r from h)
    obtain ⟨t, h2, h⟩ := ob_some.1 h
    rw [opdX_eq] at h1; rw [sBool_some h2] at h1
    simp only [evOp, h1]
    cases t
    · obtain ⟨u, h3, h⟩ := ob_some.1 (show ob (opdX s.env b) (fun v => some (v, s)) = some r from h)
      rw [opdX_eq] at h3; simp only [h3]; exact h
    · obtain ⟨u, h3, h⟩ := ob_some.1 (show ob (opdX s.env a) (fun v => some (v, s)) = some r from h)
      rw [opdX_eq] at h3; simp only [h3]; exact h
  case alloc l sz z =>
    cases l
    · obtain ⟨H, h1, h⟩ := ob_some.1 (show ob (allocX s.H (.row false sz z)) _ = some r from h)
      simp only [evOp]; rw [← allocX_le h1]; exact h
    · exact h
  case box l sz x =>
    cases l
    · obtain ⟨v, h1, h⟩ := ob_some.1 (show ob (opdX s.env x) _ = some r from h)
      obtain ⟨h2, h⟩ := bc_some.1 h
      obtain ⟨H, h3, h⟩ := ob_some.1 h
      rw [opdX_eq] at h1; rw [noLX_eq] at h2
      simp only [evOp, h1, h2, if_true]; rw [← allocX_le h3]; exact h
    · exact h
  case build z ps =>
    obtain ⟨c, h1, h⟩ := ob_some.1 (show ob (fillX s.env ps z) _ = some r from h)
    simp only [evOp, fillX_le h1]; exact h
  case buildSlice sz len z ps =>
    obtain ⟨c, h1, h⟩ := ob_some.1 (show ob (fillX s.env ps z) _ = some r from h)
    obtain ⟨H, h3, h⟩ := ob_some.1 h
    simp only [evOp, fillX_le h1, Option.map_some]; rw [← allocX_le h3]; exact h
  case load g sz a =>
    obtain ⟨p, h1, h⟩ := ob_some.1 (show ob (opdX s.env a) _ = some r from h)
    obtain ⟨v, h2, h⟩ := ob_some.1 h
    rw [opdX_eq] at h1
    simp only [evOp, h1, loadX_le h2]; exact h
  case store sz a x =>
    obtain ⟨p, h1, h⟩ := ob_some.1 (show ob (opdX s.env a) _ = some r from h)
    obtain ⟨v, h2, h⟩ := ob_some.1 h
    obtain ⟨s', h3, h⟩ := ob_some.1 h
    rw [opdX_eq] at h1 h2
    simp only [evOp, h1, h2, storeX_le h3]; exact h
  case nilCheck x =>
    obtain ⟨v, h1, h⟩ := ob_some.1 (show ob (opdX s.env x) _ = some r from h)
    obtain ⟨h2, h⟩ := bc_some.1 h
    rw [opdX_eq] at h1
    simp only [evOp, h1]
    rw [← h]
    revert h2
    cases v <;> intro h2 <;> first | rfl | (cases h2; done) | skip
    rename_i fn _ _ _
    revert h2
    cases fn <;> intro h2 <;> first | rfl | (cases h2; done)
  case bin op e x y =>
    obtain ⟨a, h1, h⟩ := ob_some.1 (show ob (opdX s.env x) _ = some r from h)
    obtain ⟨b, h2, h⟩ := ob_some.1 h
    obtain ⟨v, h3, h⟩ := ob_some.1 h
    rw [opdX_eq] at h1 h2
    simp only [evOp, h1, h2, binX_le h3]; exact h
  case un op x =>
    obtain ⟨a, h1, h⟩ := ob_some.1 (show ob (opdX s.env x) _ = some r from h)
    rw [opdX_eq] at h1
    simp only [evOp, h1]
    cases op
    case not =>
      obtain ⟨b, h3, h⟩ := ob_some.1 (show ob (sBool a) _ = some r from h)
      rw [sBool_some h3]
      cases b <;> exact h
    all_goals
      obtain ⟨v, h3, h⟩ := ob_some.1 h
      simp only [h3]; exact h
  case slice k x lo hi mx =>
    obtain ⟨v, h1, h⟩ := ob_some.1 (show ob (opdX s.env x) _ = some r from h)
    obtain ⟨l, h2, h⟩ := ob_some.1 h
    obtain ⟨u, h3, h⟩ := ob_some.1 h
    obtain ⟨m, h4, h⟩ := ob_some.1 h
    obtain ⟨q, h5, h⟩ := ob_some.1 h
    rw [opdX_eq] at h1
    simp only [evOp, h1, optIX_le h2, optOX_le h3, optOX_le h4, slX_le h5]; exact h
  case len k x =>
    cases k
    case str =>
      obtain ⟨v, h1, h⟩ := ob_some.1 (show ob (opdX s.env x) _ = some r from h)
      obtain ⟨l, h2, h⟩ := ob_some.1 h
      rw [opdX_eq] at h1; rw [sStr_some h2] at h1; rw [lenB_eq] at h
      simp only [evOp, h1]; exact h
    case slice =>
      obtain ⟨v, h1, h⟩ := ob_some.1 (show ob (opdX s.env x) _ = some r from h)
      obtain ⟨n, h2, h⟩ := ob_some.1 h
      rw [opdX_eq] at h1
      simp only [evOp, h1]
      cases v <;> cases h2 <;> exact h
    case arr n =>
      obtain ⟨v, h1, h⟩ := ob_some.1 (show ob (opdX s.env x) _ = some r from h)
      rw [opdX_eq] at h1
      simp only [evOp, h1]; exact h
    case map => exact h
  case append sz bytes a x =>
    obtain ⟨u, h1, h⟩ := ob_some.1 (show ob (opdX s.env a) _ = some r from h)
    obtain ⟨v, h2, h⟩ := ob_some.1 h
    obtain ⟨q, h3, h⟩ := ob_some.1 h
    rw [opdX_eq] at h1 h2
    simp only [evOp, h1, h2, h3]; exact h
  case lookup t ok z x k =>
    obtain ⟨u, h1, h⟩ := ob_some.1 (show ob (opdX s.env x) _ = some r from h)
    obtain ⟨v, h2, h⟩ := ob_some.1 h
    obtain ⟨q, h3, h⟩ := ob_some.1 h
    rw [opdX_eq] at h1 h2
    simp only [evOp, h1, h2, h3]; exact h
  case mapUpdate t x k v =>
    obtain ⟨u, h1, h⟩ := ob_some.1 (show ob (opdX s.env x) _ = some r from h)
    obtain ⟨y, h2, h⟩ := ob_some.1 h
    obtain ⟨c, h4, h⟩ := ob_some.1 h
    obtain ⟨q, h3, h⟩ := ob_some.1 h
    rw [opdX_eq] at h1 h2 h4
    simp only [evOp, h1, h2, h4, h3]; exact h
  case nextS x =>
    obtain ⟨u, h1, h⟩ := ob_some.1 (show ob (opdX s.env x) _ = some r from h)
    obtain ⟨q, h3, h⟩ := ob_some.1 h
    rw [opdX_eq] at h1
    simp only [evOp, h1, h3]; exact h
  case conv c x =>
    cases c
    · obtain ⟨v, h1, h⟩ := ob_some.1 (show ob (opdX s.env x) _ = some r from h)
      obtain ⟨p, h2, h⟩ := ob_some.1 h
      rw [opdX_eq] at h1; rw [sInt_some h2] at h1
      simp only [evOp, h1]; rw [wrapX_eq] at h; exact h
    all_goals exact h
  case mkIface t x =>
    obtain ⟨v, h1, h⟩ := ob_some.1 (show ob (opdX s.env x) _ = some r from h)
    obtain ⟨h2, h⟩ := bc_some.1 h
    rw [opdX_eq] at h1; rw [noLX_eq] at h2
    simp only [evOp, h1, h2, if_true]; exact h
  case mkFunc fn a b =>
    obtain ⟨va, h1, h⟩ := ob_some.1 (show ob (evsX s.env a) _ = some r from h)
    obtain ⟨vb, h2, h⟩ := ob_some.1 h
    obtain ⟨h3, h⟩ := bc_some.1 h
    obtain ⟨h4, h⟩ := bc_some.1 h
    rw [evsX_eq] at h1 h2
    have e : noLX = AV.noL := funext noLX_eq
    rw [allX_eq, e] at h3 h4
    simp only [evOp, h1, h2, allNoL, h3, h4, Bool.and_self, if_true]; exact h
  case fieldAddr o x =>
    obtain ⟨v, h1, h⟩ := ob_some.1 (show ob (opdX s.env x) _ = some r from h)
    obtain ⟨u, h2, h⟩ := ob_some.1 h
    rw [opdX_eq] at h1
    simp only [evOp, h1]
    cases v <;> cases h2 <;> exact h
  case field g sz o x =>
    obtain ⟨v, h1, h⟩ := ob_some.1 (show ob (opdX s.env x) _ = some r from h)
    obtain ⟨c, h2, h⟩ := ob_some.1 h
    obtain ⟨u, h3, h⟩ := ob_some.1 h
    rw [opdX_eq] at h1; rw [sAgg_some h2] at h1
    simp only [evOp, h1, rdX_le h3]; exact h
  case indexAddr arr sz x i =>
    cases arr with
    | none =>
      obtain ⟨v, h1, h⟩ := ob_some.1 (show ob (opdX s.env x) _ = some r from h)
      obtain ⟨u, h2, h⟩ := ob_some.1 h
      obtain ⟨p, h3, h⟩ := ob_some.1 h
      obtain ⟨n, h4, h⟩ := ob_some.1 h
      obtain ⟨q, h5, h⟩ := ob_some.1 h
      obtain ⟨h6, h⟩ := bc_some.1 h
      rw [opdX_eq] at h1 h2
      rw [sInt_some h3, natI_some h4] at h2
      have h6 := bltN h6
      simp only [evOp, h1, h2]
      cases v <;> cases h5
      all_goals
        simp only at h6 h ⊢
        rw [if_pos ⟨by omega, by omega⟩]
        exact h
    | some m =>
      obtain ⟨v, h1, h⟩ := ob_some.1 (show ob (opdX s.env x) _ = some r from h)
      obtain ⟨u, h2, h⟩ := ob_some.1 h
      obtain ⟨p, h3, h⟩ := ob_some.1 h
      obtain ⟨n, h4, h⟩ := ob_some.1 h
      obtain ⟨h6, h⟩ := bc_some.1 h
      obtain ⟨q, h5, h⟩ := ob_some.1 h
      rw [opdX_eq] at h1 h2
      rw [sInt_some h3, natI_some h4] at h2
      have h6 := bltN h6
      simp only [evOp, h1, h2]
      cases v <;> cases h5
      all_goals
        simp only
        rw [if_pos ⟨by omega, by omega⟩]
        exact h
  case index arr x i =>
    cases arr with
    | none =>
      obtain ⟨v, h1, h⟩ := ob_some.1 (show ob (opdX s.env x) _ = some r from h)
      obtain ⟨u, h2, h⟩ := ob_some.1 h
      obtain ⟨p, h3, h⟩ := ob_some.1 h
      obtain ⟨n, h4, h⟩ := ob_some.1 h
      obtain ⟨l, h5, h⟩ := ob_some.1 h
      obtain ⟨b, h6, h⟩ := ob_some.1 h
      rw [opdX_eq] at h1 h2
      rw [sInt_some h3, natI_some h4] at h2
      rw [sStr_some h5] at h1
      rw [nthX_eq] at h6
      simp only [evOp, h1, h2]
      rw [if_pos (by omega)]
      simp only [Int.toNat_natCast, h6]
      exact h
    | some m =>
      obtain ⟨v, h1, h⟩ := ob_some.1 (show ob (opdX s.env x) _ = some r from h)
      obtain ⟨u, h2, h⟩ := ob_some.1 h
      obtain ⟨p, h3, h⟩ := ob_some.1 h
      obtain ⟨n, h4, h⟩ := ob_some.1 h
      obtain ⟨h5, h⟩ := bc_some.1 h
      obtain ⟨c, h6, h⟩ := ob_some.1 h
      obtain ⟨q, h7, h⟩ := ob_some.1 h
      rw [opdX_eq] at h1 h2
      rw [sInt_some h3, natI_some h4] at h2
      rw [sAgg_some h6] at h1
      have h5 := bltN h5
      have h7 := rdX_le h7
      have h8 := h
      clear h
      obtain ⟨m, g, sz⟩ := m
      simp only at h5 h7
      simp only [evOp, h1, h2]
      rw [if_pos ⟨by omega, by omega⟩]
      simp only [Int.toNat_natCast, Option.map_some]
      rw [show rd g sz (n * sz) c = some q from h7]
      exact h8
  case extract x i =>
    obtain ⟨v, h1, h⟩ := ob_some.1 (show ob (opdX s.env x) _ = some r from h)
    obtain ⟨vs, h2, h⟩ := ob_some.1 h
    obtain ⟨u, h3, h⟩ := ob_some.1 h
    rw [opdX_eq] at h1; rw [sTup_some h2] at h1; rw [nthX_eq] at h3
    simp only [evOp, h1, h3]; exact h
  case call f args => cases h
  all_goals exact h

/-! ## Code -/
def putS (s : St) (dst : Option Nat) (v : AV) : St := Option.rec s (fun d => ⟨(d, v) :: s.env, s.loc, s.H⟩) dst
theorem putS_eq (s : St) (dst : Option Nat) (v : AV) : putS s dst v = s.put dst v := by cases dst <;> rfl
def callFn (fn : Fn) : List AV → List AV → CallF → List AV → AHeap → Option (AV × AHeap) := Fn.rec (motive := fun _ => List AV → List AV → CallF → List AV → AHeap → Option (AV × AHeap))
  (fun g first captured C vs H => bc (Nat.blt g 4294967296) (bc (allX noLX vs) (C g (appX first (appX vs captured)) H))) (fun _ _ _ _ _ _ => none) (fun _ _ _ _ _ _ _ => none) (fun _ _ _ _ _ _ _ _ _ => none) (fun _ _ _ _ _ _ => none) fn
def callK (v : AV) : CallF → List AV → AHeap → Option (AV × AHeap) := AV.rec (motive_1 := fun _ => CallF → List AV → AHeap → Option (AV × AHeap)) (motive_2 := fun _ => PUnit) (fun _ _ _ _ => none) (fun _ _ _ _ _ => none) (fun _ _ _ _ => none) (fun _ _ _ => none) (fun _ _ _ _ _ => none) (fun _ _ _ _ _ => none) (fun _ _ _ => none) (fun _ _ _ _ _ _ _ => none) (fun _ _ _ _ _ _ _ _ => none) (fun _ _ _ _ _ _ _ => none) (fun _ _ _ _ _ _ => none) (fun _ _ _ => none) (fun _ _ _ _ => none) (fun fn first captured _ _ C vs H => callFn fn first captured C vs H) (fun id C vs H => bc (allX noLX vs) (C yieldF (.ptr id 0 :: vs) H)) (fun _ _ _ => none) (fun _ _ _ _ _ _ => none) (fun _ _ _ => none) (fun _ _ _ _ _ => none) (fun _ _ _ _ _ => none) PUnit.unit (fun _ _ _ _ => PUnit.unit) v
def callX (C : CallF) (f : AV) (vs : List AV) (H : AHeap) : Option (AV × AHeap) := callK f C vs H
theorem callX_le {C : CallF} {f : AV} {vs : List AV} {H : AHeap} {r : AV × AHeap} (h : callX C f vs H = some r) : callR C f vs H = some r := by
  have e : noLX = AV.noL := funext noLX_eq
  cases f
  case func fn first captured =>
    cases fn
    case func g =>
      obtain ⟨h1, h⟩ := bc_some.1 (show bc _ _ = some r from h)
      obtain ⟨h2, h⟩ := bc_some.1 h
      rw [allX_eq, e] at h2
      rw [appX_eq, appX_eq] at h
      simp only [callR]
      rw [if_pos ⟨bltN h1, h2⟩]; exact h
    all_goals cases h
  case yield id =>
    obtain ⟨h2, h⟩ := bc_some.1 (show bc _ _ = some r from h)
    rw [allX_eq, e] at h2
    simp only [callR]
    rw [if_pos (show allNoL vs = true from h2)]; exact h
  all_goals cases h

def finA (g : Arm) (C : CallF) (dst : Option Nat) (s : St) : Option St := ob (g dst s) fun r => some (putS r.2 dst r.1)
abbrev Dsp := CallF → Option Nat → St → Option St
def dCall (f : Opd) (args : List Opd) : Dsp := fun C dst s => ob (opdX s.env f) fun g => ob (evsX s.env args) fun vs => ob (callX C g vs s.H) fun r => some (putS ⟨s.env, s.loc, r.2⟩ dst r.1)
def dispX (io : IOp) : Dsp := IOp.rec (motive := fun _ => Dsp) (fun a => finA (xMove a)) (fun a b c => finA (xPick a b c)) (fun a b c => finA (xAlloc a b c)) (fun a b c => finA (xBox a b c)) (fun a b => finA (xBuild a b)) (fun a b c d => finA (xBuildSlice a b c d)) (fun a b c => finA (xLoad a b c)) (fun a b c => finA (xStore a b c)) (fun a => finA (xNilCheck a)) (fun a b c d => finA (xBin a b c d)) (fun a b => finA (xUn a b)) (fun a b => finA (xConv a b)) (fun a b => finA (xIface a b)) (fun a b c => finA (xFunc a b c)) (finA fun dst s => evOp dst s .mkMap) (fun a b c d e => finA fun dst s => evOp dst s (.mkSlice a b c d e)) (fun a b c d e => finA (xSlice a b c d e)) (fun a b => finA (xFieldAddr a b)) (fun a b c d => finA (xField a b c d)) (fun a b c d => finA (xIndexAddr a b c d)) (fun a b c => finA (xIndex a b c)) (fun a b => finA (xExtract a b)) dCall (fun a b => finA (xLen a b))
  (fun a b c d => finA (xAppend a b c d)) (fun a b c d e => finA fun dst s => evOp dst s (.appendZ a b c d e)) (fun a b c => finA fun dst s => evOp dst s (.clear a b c)) (fun a b c d e => finA (xLookup a b c d e)) (fun a b c d => finA (xUpd a b c d)) (fun a b c => finA fun dst s => evOp dst s (.delete a b c))
  (fun a => finA fun dst s => evOp dst s (.rangeS a)) (fun a => finA (xNextS a)) (fun a => finA fun dst s => evOp dst s (.rangeM a)) (fun a => finA fun dst s => evOp dst s (.nextM a)) (fun a => finA fun dst s => evOp dst s (.entryM a)) (fun a b c d => finA fun dst s => evOp dst s (.mapEntry a b c d)) (fun a b c => finA fun dst s => evOp dst s (.entryStore a b c)) (fun a => finA fun dst s => evOp dst s (.capS a))
  (fun a b c => finA fun dst s => evOp dst s (.copy a b c)) (fun a b c => finA fun dst s => evOp dst s (.ptrEq a b c)) (fun a b => finA fun dst s => evOp dst s (.isNilI a b)) (fun a b => finA fun dst s => evOp dst s (.defer a b)) (fun a b => finA fun dst s => evOp dst s (.maxs a b)) (fun a b => finA fun dst s => evOp dst s (.mins a b)) (finA fun dst s => evOp dst s .bad) io
theorem dispX_le {io : IOp} {C : CallF} {dst : Option Nat} {s s' : St} (h : dispX io C dst s = some s') : stepOp C ⟨dst, io, none⟩ s = some s' := by
  by_cases hc : ∃ f a, io = .call f a
  · obtain ⟨f, a, rfl⟩ := hc
    obtain ⟨g, h1, h⟩ := ob_some.1 (show ob (opdX s.env f) _ = some s' from h)
    obtain ⟨vs, h2, h⟩ := ob_some.1 h
    obtain ⟨q, h3, h⟩ := ob_some.1 h
    rw [opdX_eq] at h1; rw [evsX_eq] at h2
    cases h
    simp only [stepOp, wantedA, h1, h2, callX_le h3, Option.map_some, putS_eq]
  · have h : finA (opX io) C dst s = some s' := by
      rw [← h]
      cases io <;> first | rfl | exact absurd ⟨_, _, rfl⟩ hc
    obtain ⟨r, h1, h⟩ := ob_some.1 (show ob (opX io dst s) _ = some s' from h)
    have h1 := opX_le h1
    cases h
    cases io <;> first | exact absurd ⟨_, _, rfl⟩ hc | simp only [stepOp, wantedA, h1, Option.map_some, putS_eq]
def wantB (v : AV) : Bool → Bool := AV.rec (motive_1 := fun _ => Bool → Bool) (motive_2 := fun _ => PUnit) (fun b want => Bool.rec (nB want) want b) (fun _ _ _ => false) (fun _ _ => false) (fun _ => false) (fun _ _ _ => false) (fun _ _ _ => false) (fun _ => false) (fun _ _ _ _ _ => false) (fun _ _ _ _ _ _ => false) (fun _ _ _ _ _ => false) (fun _ _ _ _ => false) (fun _ => false) (fun _ _ => false) (fun _ _ _ _ _ _ => false) (fun _ _ => false) (fun _ => false) (fun _ _ _ _ => false) (fun _ => false) (fun _ _ _ => false) (fun _ _ _ => false) PUnit.unit (fun _ _ _ _ => PUnit.unit) v
def stepX (o : IOper) (C : CallF) (s : St) : Option St :=
  Option.rec (dispX o.op C o.dst s) (fun g => ob (lookX g.1 s.env) fun v => ifb (wantB v g.2) (dispX o.op C o.dst s) (some (putS s o.dst undefA))) o.guard
theorem stepX_le {o : IOper} {C : CallF} {s s' : St} (h : stepX o C s = some s') : stepOp C o s = some s' := by
  obtain ⟨dst, op, g⟩ := o
  cases g with
  | none => exact dispX_le h
  | some g =>
    obtain ⟨g, want⟩ := g
    obtain ⟨v, h1, h⟩ := ob_some.1 (show ob (lookX g s.env) (fun v => ifb (wantB v want) (dispX op C dst s) (some (putS s dst undefA))) = some s' from h)
    rw [lookX_eq] at h1
    have hw : wantedA s (some (g, want)) = some (wantB v want) := by
      simp only [wantedA, h1]
      cases v <;> try rfl
      rename_i b
      cases b <;> cases want <;> rfl
    cases hb : wantB v want with
    | true =>
      rw [hb] at h hw
      have := dispX_le h
      simp only [stepOp, wantedA] at this
      simp only [stepOp, hw]; exact this
    | false =>
      rw [hb] at h hw
      cases h
      simp only [stepOp, hw, putS_eq]
def stepsX (os : List IOper) : CallF → St → Option St := List.rec (motive := fun _ => CallF → St → Option St) (fun _ s => some s) (fun o _ ih C s => ob (stepX o C s) fun s' => ih C s') os
theorem stepsX_le {C : CallF} : ∀ {os : List IOper} {s s' : St}, stepsX os C s = some s' → stepOps C os s = some s'
  | [], s, s', h => h
  | o :: os, s, s', h => by
    obtain ⟨s1, h1, h⟩ := ob_some.1 (show ob (stepX o C s) (fun s' => stepsX os C s') = some s' from h)
    simp only [stepOps, stepX_le h1]; exact stepsX_le h
def traceX (os : List IOper) : CallF → St → Option (List St) := List.rec (motive := fun _ => CallF → St → Option (List St)) (fun _ s => some [s]) (fun o _ ih C s => ob (stepX o C s) fun s' => ob (ih C s') fun l => some (s :: l)) os
theorem traceX_le {C : CallF} : ∀ {os : List IOper} {s : St} {l : List St}, traceX os C s = some l → trace C os s = some l
  | [], s, l, h => h
  | o :: os, s, l, h => by
    obtain ⟨s1, h1, h⟩ := ob_some.1 (show ob (stepX o C s) (fun s' => ob (traceX os C s') fun l => some (s :: l)) = some l from h)
    obtain ⟨l1, h2, h⟩ := ob_some.1 h
    cases h
    simp only [trace, stepX_le h1, traceX_le h2]; rfl
def locOp (io : IOp) : Bool := IOp.rec (fun _ => false) (fun _ _ _ => false) (fun l _ _ => l) (fun l _ _ => l) (fun _ _ => false) (fun _ _ _ _ => false) (fun _ _ _ => false) (fun _ _ _ => false) (fun _ => false) (fun _ _ _ _ => false) (fun _ _ => false) (fun _ _ => false) (fun _ _ => false) (fun _ _ _ => false) false (fun _ _ _ _ _ => false) (fun _ _ _ _ _ => false) (fun _ _ => false) (fun _ _ _ _ => false) (fun _ _ _ _ => false) (fun _ _ _ => false) (fun _ _ => false) (fun _ _ => false) (fun _ _ => false)
  (fun _ _ _ _ => false) (fun _ _ _ _ _ => false) (fun _ _ _ => false) (fun _ _ _ _ _ => false) (fun _ _ _ _ => false) (fun _ _ _ => false) (fun _ => false) (fun _ => false) (fun _ => false) (fun _ => false) (fun _ => false) (fun _ _ _ _ => false) (fun _ _ _ => false) (fun _ => false) (fun _ _ _ => false) (fun _ _ _ => false) (fun _ _ => false) (fun _ _ => false) (fun _ _ => false) (fun _ _ => false) false io
def noLoc (ops : List IOper) : Bool := List.rec true (fun o _ ih => ifb (locOp o.op) false ih) ops
theorem noLoc_fresh {s : St} : ∀ {ops : List IOper}, noLoc ops = true → freshD ops s = true
  | [], _ => rfl
  | o :: ops, h => by
    have h : ifb (locOp o.op) false (noLoc ops) = true := h
    cases hl : locOp o.op with
    | true => rw [hl] at h; cases h
    | false =>
      rw [hl] at h
      have ih := noLoc_fresh (s := s) (ops := ops) h
      unfold freshD at ih ⊢
      rw [List.all_cons, ih, Bool.and_true]
      obtain ⟨dst, op, g⟩ := o
      cases op <;> try rfl
      case alloc l sz z => cases l; · rfl
                           · cases hl
      case box l sz z => cases l; · rfl
                         · cases hl
def drawX (ops : List IOper) (checks : List (Nat × Nat)) (s : St) (tr : List St) : Bool := ifb (ifb (noLoc ops) true (freshD ops s)) (ifb (readsOk ops tr) (checks.all fun e => checkAt ops tr e.1 e.2) false) false
theorem drawX_le {ops : List IOper} {checks : List (Nat × Nat)} {s : St} {tr : List St} (h : drawX ops checks s tr = true) : drawCond ops checks s tr = true := by
  unfold drawX at h
  have h1 : freshD ops s = true := by
    cases hn : noLoc ops with
    | true => exact noLoc_fresh hn
    | false =>
      rw [hn] at h
      cases hf : freshD ops s with
      | true => rfl
      | false => simp only [hf, ifb_false] at h; cases h
  cases hn : ifb (noLoc ops) true (freshD ops s) with
  | false => rw [hn] at h; cases h
  | true =>
    rw [hn] at h
    simp only [ifb_true] at h
    cases hr : readsOk ops tr with
    | false => rw [hr] at h; cases h
    | true =>
      rw [hr] at h
      simp only [drawCond, h1, hr, Bool.true_and]; exact h
def runDX (ops : List IOper) (checks : List (Nat × Nat)) (C : CallF) (s : St) : Option St := ob (traceX ops C s) fun tr => bc (drawX ops checks s tr) tr.getLast?
theorem runDX_le {ops : List IOper} {checks : List (Nat × Nat)} {C : CallF} {s s' : St} (h : runDX ops checks C s = some s') : runD C ops checks s = some s' := by
  obtain ⟨tr, h1, h⟩ := ob_some.1 h
  obtain ⟨h2, h⟩ := bc_some.1 h
  simp only [runD, traceX_le h1, drawX_le h2, if_true]; exact h
def pruneX {α : Type} (ks : List Nat) (l : List (Nat × α)) : List (Nat × α) := List.rec [] (fun k _ ih => Option.rec ih (fun v => (k, v) :: ih) (lookX k l)) ks
theorem pruneX_eq {α : Type} (l : List (Nat × α)) : ∀ ks : List Nat, pruneX ks l = prune ks l
  | [] => rfl
  | k :: ks => by
    have e : pruneX (k :: ks) l = Option.rec (pruneX ks l) (fun v => (k, v) :: pruneX ks l) (lookX k l) := rfl
    rw [e, pruneX_eq l ks, lookX_eq]
    simp only [prune, List.filterMap_cons]
    cases look k l <;> rfl

abbrev Run := CallF → Nat → St → Option (AExit × St)
def onX (r : AExit × St) (k : St → Option (AExit × St)) : Option (AExit × St) := AExit.rec (k r.2) (fun _ => some r) (some r) r.1
def iterX (f : St → Option (AExit × St)) (n : Nat) : St → Option (AExit × St) := Nat.rec (motive := fun _ => St → Option (AExit × St)) (fun _ => none) (fun _ ih s => ob (f s) fun r => onX r ih) n
theorem iterX_le {f f' : St → Option (AExit × St)} (hf : ∀ s r, f s = some r → f' s = some r) : ∀ {n : Nat} {s : St} {r : AExit × St}, iterX f n s = some r → iter f' n s = some r
  | 0, s, r, h => by cases h
  | n + 1, s, r, h => by
    obtain ⟨⟨x, s1⟩, h1, h⟩ := ob_some.1 (show ob (f s) (fun r => onX r (iterX f n)) = some r from h)
    simp only [iter, hf _ _ h1]
    cases x with
    | normal => exact iterX_le hf h
    | exit j => exact h
    | ret => exact h

def evCX (ic : IC) : Run := IC.rec (motive := fun _ => Run)
  (fun _ _ s => some (.normal, s))
  (fun ops C _ s => ob (stepsX ops C s) fun s' => some (.normal, s'))
  (fun ops cs C _ s => ob (runDX ops cs C s) fun s' => some (.normal, s'))
  (fun _ _ fa fb C n s => ob (fa C n s) fun r => onX r (fb C n))
  (fun c _ _ fa fb C n s => ob (opdX s.env c) fun v => ob (sBool v) fun t => Bool.rec (fb C n s) (fa C n s) t)
  (fun id _ fb C n s => ob (fb C n s) fun r => AExit.rec (some r) (fun j => ifb (Nat.beq j id) (some (.normal, r.2)) (some r)) (some r) r.1)
  (fun _ fb C n s => iterX (fb C n) n s)
  (fun id _ _ s => some (.exit id, s))
  (fun _ _ s => some (.ret, s))
  (fun f ps ia ib _ _ C n s => evC C n (.rangeF f ps ia ib) s)
  (fun d0 d1 it b ks ls _ fb C n s => mapLoop d0 d1 it b ks ls (fb C n) n s)
  (fun _ _ _ => none)
  (fun ks ls _ fc C n s => fc C n ⟨pruneX ks s.env, pruneX ls s.loc, s.H⟩) ic

theorem evCX_le {C : CallF} : ∀ (ic : IC) {n : Nat} {s : St} {r : AExit × St}, evCX ic C n s = some r → evC C n ic s = some r := by
  intro ic
  induction ic with
  | skip => intro n s r h; exact h
  | region ops =>
    intro n s r h
    obtain ⟨s1, h1, h⟩ := ob_some.1 (show ob (stepsX ops C s) _ = some r from h)
    simp only [evC, stepsX_le h1]; exact h
  | regionD ops cs =>
    intro n s r h
    obtain ⟨s1, h1, h⟩ := ob_some.1 (show ob (runDX ops cs C s) _ = some r from h)
    simp only [evC, runDX_le h1]; exact h
  | seq a b iha ihb =>
    intro n s r h
    obtain ⟨⟨x, s1⟩, h1, h⟩ := ob_some.1 (show ob (evCX a C n s) (fun r => onX r (evCX b C n)) = some r from h)
    simp only [evC, iha h1]
    cases x with
    | normal => exact ihb h
    | exit j => exact h
    | ret => exact h
  | cond c a b iha ihb =>
    intro n s r h
    obtain ⟨v, h1, h⟩ := ob_some.1 (show ob (opdX s.env c) (fun v => ob (sBool v) fun t => Bool.rec (evCX b C n s) (evCX a C n s) t) = some r from h)
    obtain ⟨t, h2, h⟩ := ob_some.1 h
    rw [opdX_eq] at h1; rw [sBool_some h2] at h1
    simp only [evC, h1]
    cases t
    · exact ihb h
    · exact iha h
  | block id b ih =>
    intro n s r h
    obtain ⟨⟨x, s1⟩, h1, h⟩ := ob_some.1 (show ob (evCX b C n s) (fun r => AExit.rec (some r) (fun j => ifb (Nat.beq j id) (some (.normal, r.2)) (some r)) (some r) r.1) = some r from h)
    simp only [evC, ih h1]
    cases x with
    | normal => exact h
    | exit j =>
      simp only at h ⊢
      by_cases hj : j = id
      · subst hj; rw [Nat.beq_refl] at h; rw [if_pos rfl]; exact h
      · rw [beqN_ne hj] at h; rw [if_neg hj]; exact h
    | ret => exact h
  | loop b ih =>
    intro n s r h
    exact iterX_le (fun s r hs => ih hs) (show iterX (evCX b C n) n s = some r from h)
  | exit id => intro n s r h; exact h
  | ret => intro n s r h; exact h
  | rangeF f ps a b _ _ => intro n s r h; exact h
  | mapR d0 d1 it b ks ls body ih =>
    intro n s r h
    exact mapLoop_le (fun s r hs => ih hs) (Nat.le_refl _) (show mapLoop d0 d1 it b ks ls (evCX body C n) n s = some r from h)
  | stuck => intro n s r h; cases h
  | keep ks ls c ih =>
    intro n s r h
    have h := ih (show evCX c C n ⟨pruneX ks s.env, pruneX ls s.loc, s.H⟩ = some r from h)
    rw [pruneX_eq, pruneX_eq] at h
    exact h

/-! ## Calls -/
def zipX (l : List AV) : Nat → List (Nat × AV) := List.rec (motive := fun _ => Nat → List (Nat × AV)) (fun _ => []) (fun v _ ih i => (i, v) :: ih (Nat.add i 1)) l
theorem zipX_eq : ∀ (l : List AV) (i : Nat), zipX l i = zipI i l
  | [], i => rfl
  | v :: l, i => by
    show (i, v) :: zipX l (i + 1) = _
    rw [zipX_eq l]; rfl
def enterX (args : List AV) (H : AHeap) : St := ⟨zipX args 0, [], ⟨H.t, H.n, H.n, []⟩⟩
theorem enterX_eq (args : List AV) (H : AHeap) : enterX args H = enterA args H := by unfold enterX; rw [zipX_eq]; rfl
def rvX (s : St) : RV → Option AV
  | .tmp t => lookX t s.env
  | .cell t g sz => ob (lookX t s.env) fun p => loadX s g sz p
def rvsX (s : St) (l : List RV) : Option (List AV) := List.rec (some []) (fun x _ ih => ob (rvX s x) fun v => ob ih fun vs => some (v :: vs)) l
theorem rvsX_le {s : St} : ∀ {l : List RV} {vs : List AV}, rvsX s l = some vs → rvs s l = some vs
  | [], vs, h => h
  | x :: l, vs, h => by
    obtain ⟨v, h1, h⟩ := ob_some.1 (show ob (rvX s x) (fun v => ob (rvsX s l) fun vs => some (v :: vs)) = some vs from h)
    obtain ⟨us, h2, h⟩ := ob_some.1 h
    cases h
    have e : x.ev s = some v := by
      cases x with
      | tmp t => rw [rvX, lookX_eq] at h1; exact h1
      | cell t g sz =>
        obtain ⟨p, k1, k2⟩ := ob_some.1 (show ob (lookX t s.env) (fun p => loadX s g sz p) = some v from h1)
        rw [lookX_eq] at k1
        simp only [RV.ev, k1, loadX_le k2]
    simp only [rvs, e, rvsX_le h2]
def okM (n : Nat) : AV → Bool | .int .. => true | .bool _ => true | .str _ => true | .nilp => true | .nils => true | .ptr id _ => Nat.blt id n | v => v.okB n
def okK (v : AV) : Nat → Bool := AV.rec (motive_1 := fun _ => Nat → Bool) (motive_2 := fun _ => PUnit) (fun _ _ => true) (fun _ _ _ => true) (fun _ _ => true) (fun _ => true) (fun id _ n => Nat.blt id n) (fun a b n => (AV.lptr a b).okB n) (fun _ => true) (fun a b c d n => (AV.slice a b c d).okB n) (fun a b c d e n => (AV.oslice a b c d e).okB n) (fun a b c d n => (AV.eslice a b c d).okB n) (fun a b c n => (AV.xslice a b c).okB n) (fun n => AV.nilm.okB n) (fun a n => (AV.map a).okB n) (fun a b c _ _ n => (AV.func a b c).okB n) (fun a n => (AV.yield a).okB n) (fun n => AV.nilFunc.okB n) (fun a b _ n => (AV.iface a b).okB n) (fun n => AV.nilIface.okB n) (fun a _ n => (AV.agg a).okB n) (fun a _ n => (AV.tuple a).okB n) PUnit.unit (fun _ _ _ _ => PUnit.unit) v
def okX (n : Nat) (v : AV) : Bool := okK v n
theorem okX_eq (n : Nat) (v : AV) : okX n v = v.okB n := by cases v <;> first | rfl | exact blt_iff
def okTX (n : Nat) : AV → Bool | .tuple vs => allX (okX n) vs | v => okX n v
theorem okL_all (n : Nat) : ∀ l : List AV, AV.okL n l = l.all fun v => v.okB n
  | [] => rfl
  | v :: l => by simp only [AV.okL, List.all_cons, okL_all n l]
theorem okT_aux (n : Nat) (vs : List AV) : allX (okX n) vs = AV.okL n vs := by
  show allX (okX n) vs = AV.okL n vs
  rw [allX_eq, okL_all]
  congr 1
  funext v; exact okX_eq n v
theorem okTX_eq (n : Nat) (v : AV) : okTX n v = v.okB n := by
  cases v
  case tuple vs => exact okT_aux n vs
  all_goals first | rfl | exact blt_iff
def finX (H0 : AHeap) (v : AV) (H1 : AHeap) : AHeap := ifb (ifb (Nat.ble H0.n H1.low) (okTX H0.n v) false) H0 { t := H1.t, n := H1.n, low := ifb (Nat.blt H1.low H0.low) H1.low H0.low, dfs := H0.dfs }
theorem ble_iff {a b : Nat} : Nat.ble a b = decide (a ≤ b) := by
  cases h : Nat.ble a b with
  | true => simp [bleN h]
  | false =>
    symm; rw [decide_eq_false_iff_not]
    intro h2; rw [Nat.ble_eq_true_of_le h2] at h; cases h
theorem finX_eq (H0 : AHeap) (v : AV) (H1 : AHeap) : finX H0 v H1 = fin H0 v H1 := by
  unfold finX fin
  rw [ifb_lt, okTX_eq, ble_iff]
  by_cases h1 : H0.n ≤ H1.low <;> simp [h1]
  · by_cases h2 : v.okB H0.n = true
    · simp [h2]
    · simp only [Bool.not_eq_true] at h2; simp [h2]
def isNilD : List Dfr → Bool | [] => true | _ => false
def leaveX (C : CallF) (F : FnIR) (H0 : AHeap) (r : AExit × St) : Option (AV × AHeap) :=
  ifb (isNilD r.2.H.dfs) (bc (AExit.rec true (fun _ => false) true r.1) (ob (rvsX r.2 F.results) fun vs => bc (allX noLX vs) (some (packA vs, finX H0 (packA vs) r.2.H)))) (leaveA C F H0 r)
theorem leaveX_le {C : CallF} {F : FnIR} {H0 : AHeap} {r : AExit × St} {q : AV × AHeap} (h : leaveX C F H0 r = some q) : leaveA C F H0 r = some q := by
  unfold leaveX at h
  cases hd : isNilD r.2.H.dfs with
  | false => rw [hd] at h; exact h
  | true =>
    rw [hd] at h
    simp only [ifb_true] at h
    obtain ⟨x, ⟨e, l, ⟨t, n, low, dfs⟩⟩⟩ := r
    have : dfs = [] := by cases dfs with | nil => rfl | cons d ds => cases hd
    subst this
    obtain ⟨h1, h⟩ := bc_some.1 h
    obtain ⟨vs, h2, h⟩ := ob_some.1 h
    obtain ⟨h3, h⟩ := bc_some.1 h
    rw [allX_eq, show noLX = AV.noL from funext noLX_eq] at h3
    rw [finX_eq] at h
    cases x with
    | exit j => cases h1
    | normal => simp only [leaveA, runDfs, Option.bind_some, rvsX_le h2, allNoL, h3, if_true]; exact h
    | ret => simp only [leaveA, runDfs, Option.bind_some, rvsX_le h2, allNoL, h3, if_true]; exact h
def runFX (C : CallF) (n : Nat) (F : FnIR) (args : List AV) (H : AHeap) : Option (AV × AHeap) := bc (Nat.beq (lenX' args) F.nargs) (ob (evCX F.body C n (enterX args H)) fun r => leaveX C F H r)
theorem runFX_le {C : CallF} {n : Nat} {F : FnIR} {args : List AV} {H : AHeap} {q : AV × AHeap} (h : runFX C n F args H = some q) : runF C n F args H = some q := by
  obtain ⟨h1, h⟩ := bc_some.1 h
  obtain ⟨r, h2, h⟩ := ob_some.1 h
  have h1 := beqN_eq h1
  rw [lenX'_eq] at h1
  rw [enterX_eq] at h2
  simp only [runF, h1, if_true, evCX_le _ h2, Option.bind_some]
  exact leaveX_le h
def runFDX (C : CallF) (n : Nat) (F : FnIR) (args : List AV) (H : AHeap) : Option (AV × AHeap) := bc (Nat.beq (lenX' args) F.nargs) (ob (evCX F.body C n (enterX args H)) fun r => leaveD F H r)
theorem runFDX_le {C : CallF} {n : Nat} {F : FnIR} {args : List AV} {H : AHeap} {q : AV × AHeap} (h : runFDX C n F args H = some q) : runFD C n F args H = some q := by
  obtain ⟨h1, h⟩ := bc_some.1 h
  obtain ⟨r, h2, h⟩ := ob_some.1 h
  have h1 := beqN_eq h1
  rw [lenX'_eq] at h1
  rw [enterX_eq] at h2
  simp only [runFD, h1, if_true, evCX_le _ h2, Option.bind_some]
  exact h
def runYX (C : CallF) (n : Nat) (args : List AV) (H : AHeap) : Option (AV × AHeap) :=
  match args with
  | .ptr id 0 :: vs => match getX H id with
    | some (.loop .ready none env ps ia ib) => if vs.length = ps.length then
        match evCX ia C n { env := (ps.zip vs).reverse ++ env, loc := [], H := { H with dfs := [] } } with
        | some (.normal, s1) => match getX s1.H id with
          | some (.loop .ready none env1 ps1 ia1 ib1) =>
            ob (evCX ib C n { s1 with H := s1.H.set id (.loop .busy none env1 ps1 ia1 ib1) }) fun r =>
              if r.2.H.dfs.isEmpty then match getX r.2.H id with
                | some (.loop .busy none env2 ps2 ia2 ib2) =>
                  some (.bool (decide (r.1 = .normal)), { r.2.H.set id (.loop (if r.1 = .normal then .ready else .done) (if r.1 = .normal then none else some r.1) env2 ps2 ia2 ib2) with dfs := H.dfs })
                | _ => none
              else none
          | _ => none
        | _ => none
      else none
    | _ => none
  | _ => none
theorem runYX_le {C : CallF} {n : Nat} {args : List AV} {H : AHeap} {q : AV × AHeap} (h : runYX C n args H = some q) : runY C n args H = some q := by
  unfold runYX at h
  unfold runY
  split at h
  · split at h
    · rename_i hg
      simp only [getX_le hg]
      split at h
      · rename_i hl
        rw [if_pos hl]
        split at h
        · rename_i s1 h1
          rw [evCX_le _ h1]
          simp only
          split at h
          · rename_i hg1
            simp only [getX_le hg1]
            obtain ⟨r, h2, h⟩ := ob_some.1 h
            rw [evCX_le _ h2]
            simp only [Option.bind_some]
            split at h
            · rename_i hd
              rw [if_pos hd]
              split at h
              · rename_i hg2; simp only [getX_le hg2]; exact h
              · cases h
            · cases h
          · cases h
        · cases h
      · cases h
    · cases h
  · cases h
def isYl : List AV → Bool | .yield _ :: _ => true | _ => false
def callB (T : FuncId → Option FnDef) (C : CallF) (n : Nat) (f : FuncId) (args : List AV) (H : AHeap) : Option (AV × AHeap) :=
  ifb (Nat.blt f 4294967296) (ob (T f) fun d => FnDef.rec (fun F => runFX C n F args H) (fun g => keepD (g args H) H) (fun g => ifb (isYl args) none (keepD (g args H) H)) d)
    (ifb (Nat.beq f yieldF) (runYX C n args H) (ifb (Nat.ble deferF f) (ob (T (f - deferF)) fun d => FnDef.rec (fun F => runFDX C n F args H) (fun _ => none) (fun _ => none) d) none))
def evFX (T : FuncId → Option FnDef) (n : Nat) : CallF := Nat.rec (motive := fun _ => CallF) (fun _ _ _ => none) (fun n ih f args H => callB T ih n f args H) n
theorem evFX_le {T : FuncId → Option FnDef} : ∀ n, CLe (evFX T n) (evF T n)
  | 0 => fun g args H r h => by cases h
  | n + 1 => by
    intro f args H r h
    have ih := evFX_le (T := T) n
    have h : callB T (evFX T n) n f args H = some r := h
    unfold callB at h
    rw [evF]
    simp only
    cases h0 : Nat.blt f 4294967296 with
    | true =>
      rw [h0] at h
      simp only [ifb_true] at h
      have hf : f < yieldF := bltN h0
      have hd : ¬ deferF ≤ f := fun h => absurd (Nat.lt_of_lt_of_le hf (Nat.le_trans (show yieldF ≤ deferF by decide) h)) (Nat.lt_irrefl _)
      rw [if_neg (Nat.ne_of_lt hf), if_neg hd]
      obtain ⟨d, h1, h⟩ := ob_some.1 h
      simp only [h1]
      cases d with
      | ir F => exact runF_le ih (Nat.le_refl _) (runFX_le h)
      | prim g => exact h
      | ext g =>
        simp only at h ⊢
        cases hy : isYl args with
        | true => rw [hy] at h; cases h
        | false =>
          rw [hy] at h
          split
          · cases hy
          · exact h
    | false =>
      rw [h0] at h
      simp only [ifb_false] at h
      cases h1 : Nat.beq f yieldF with
      | true =>
        rw [h1] at h
        rw [if_pos (beqN_eq h1)]
        exact runY_le ih (Nat.le_refl _) (runYX_le h)
      | false =>
        rw [h1] at h
        simp only [ifb_false] at h
        have hne : ¬ f = yieldF := fun e => by subst e; rw [Nat.beq_refl] at h1; cases h1
        rw [if_neg hne]
        cases h2 : Nat.ble deferF f with
        | false => rw [h2] at h; cases h
        | true =>
          rw [h2] at h
          simp only [ifb_true] at h
          rw [if_pos (bleN h2)]
          obtain ⟨d, h3, h⟩ := ob_some.1 h
          simp only [h3]
          cases d with
          | ir F => exact runFD_le ih (Nat.le_refl _) (runFDX_le h)
          | prim g => cases h
          | ext g => cases h
theorem evFX_some {T : FuncId → Option FnDef} {n : Nat} {f : FuncId} {args : List AV} {H : AHeap} {r : AV × AHeap} (h : evFX T n f args H = some r) : evF T n f args H = some r := evFX_le n _ _ _ _ h

/-- A table as a tree. -/
inductive TT where
  | leaf
  | node (k : Nat) (d : FnDef) (l r : TT)
def TT.find (t : TT) (f : Nat) : Option FnDef := TT.rec none (fun k d _ _ fl fr => ifb (Nat.blt f k) fl (ifb (Nat.blt k f) fr (some d))) t
end
end Go.Wam
