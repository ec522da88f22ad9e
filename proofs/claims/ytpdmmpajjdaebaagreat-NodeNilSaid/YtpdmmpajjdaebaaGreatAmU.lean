/- The abstract machine: an equation for each operation. No condition. -/
import Derived.Test.YtpdmmpajjdaebaaGreatAmT
set_option linter.unusedVariables false
set_option linter.unusedSimpArgs false
namespace Go.Wam

section
variable (C : CallF) (dst : Option Nat) (s : St)

theorem st_gen (op : IOp) (h : ∀ f a, op ≠ .call f a) : stepOp C ⟨dst, op, none⟩ s = (evOp dst s op).map fun r => r.2.put dst r.1 := by
  unfold stepOp wantedA
  cases op <;> first | rfl | exact absurd rfl (h _ _)

theorem st_move (x : Opd) : stepOp C ⟨dst, .move x, none⟩ s = (x.ev s.env).map fun v => s.put dst v := by
  rw [st_gen _ _ _ _ (by simp)]; simp only [evOp]; cases x.ev s.env <;> rfl
theorem st_pick (c a b : Opd) : stepOp C ⟨dst, .pick c a b, none⟩ s = (pickB (c.ev s.env) (a.ev s.env) (b.ev s.env) s).map fun r => r.2.put dst r.1 := by
  rw [st_gen _ _ _ _ (by simp), ev_pick]
theorem st_allocL (d sz : Nat) (zero : List AV) : stepOp C ⟨some d, .alloc true sz zero, none⟩ s = if freeL d s.env = true then some ⟨(d, .lptr d 0) :: s.env, (d, zero) :: s.loc, s.H⟩ else none := by
  rw [st_gen _ _ _ _ (by simp)]; simp only [evOp]; split <;> rfl
theorem st_alloc (sz : Nat) (zero : List AV) : stepOp C ⟨dst, .alloc false sz zero, none⟩ s = some (({ s with H := s.H.alloc (.row false sz zero) } : St).put dst (.ptr s.H.n 0)) := by
  rw [st_gen _ _ _ _ (by simp)]; simp only [evOp]; rfl
theorem st_boxL (d sz : Nat) (x : Opd) : stepOp C ⟨some d, .box true sz x, none⟩ s = (x.ev s.env).bind fun v => if freeL d s.env = true ∧ v.noL = true then some ⟨(d, .lptr d 0) :: s.env, (d, v.cells) :: s.loc, s.H⟩ else none := by
  rw [st_gen _ _ _ _ (by simp)]; simp only [evOp]
  cases x.ev s.env with
  | none => rfl
  | some v => simp only [Option.bind_some, Bool.and_eq_true]; split <;> rfl
theorem st_box (sz : Nat) (x : Opd) : stepOp C ⟨dst, .box false sz x, none⟩ s = (x.ev s.env).bind fun v => if v.noL = true then some (({ s with H := s.H.alloc (.row false sz v.cells) } : St).put dst (.ptr s.H.n 0)) else none := by
  rw [st_gen _ _ _ _ (by simp)]; simp only [evOp]
  cases x.ev s.env with
  | none => rfl
  | some v => simp only [Option.bind_some]; split <;> rfl
theorem st_build (zero : List AV) (parts : List (Nat × Nat × Opd)) : stepOp C ⟨dst, .build zero parts, none⟩ s = (fillA s.env parts zero).map fun cs => s.put dst (.agg cs) := by
  rw [st_gen _ _ _ _ (by simp)]; simp only [evOp]; cases fillA s.env parts zero <;> rfl
theorem st_buildSlice (sz len : Nat) (zero : List AV) (parts : List (Nat × Nat × Opd)) : stepOp C ⟨dst, .buildSlice sz len zero parts, none⟩ s = (fillA s.env parts zero).map fun cs => ({ s with H := s.H.alloc (.row false sz cs) } : St).put dst (.slice s.H.n 0 len len) := by
  rw [st_gen _ _ _ _ (by simp)]; simp only [evOp]; cases fillA s.env parts zero <;> rfl
theorem st_load (agg : Bool) (sz : Nat) (a : Opd) : stepOp C ⟨dst, .load agg sz a, none⟩ s = (a.ev s.env).bind fun p => (loadA s agg sz p).map fun v => s.put dst v := by
  rw [st_gen _ _ _ _ (by simp)]; simp only [evOp]
  cases a.ev s.env with
  | none => rfl
  | some p => simp only [Option.bind_some]; cases loadA s agg sz p <;> rfl
theorem st_store (sz : Nat) (a x : Opd) : stepOp C ⟨dst, .store sz a x, none⟩ s = (a.ev s.env).bind fun p => (x.ev s.env).bind fun v => (storeA s sz v p).map fun s' => s'.put dst undefA := by
  rw [st_gen _ _ _ _ (by simp)]; simp only [evOp]
  cases a.ev s.env with
  | none => rfl
  | some p =>
    cases x.ev s.env with
    | none => rfl
    | some v => simp only [Option.bind_some]; cases storeA s sz v p <;> rfl
def nilC : AV → Option AV
  | .nilp => none
  | .nilIface => none
  | .nilFunc => none
  | .func (.method _) _ _ => none
  | v => some v
theorem st_nilCheck (x : Opd) : stepOp C ⟨dst, .nilCheck x, none⟩ s = (x.ev s.env).bind fun p => (nilC p).map fun v => s.put dst v := by
  rw [st_gen _ _ _ _ (by simp)]
  cases h : x.ev s.env with
  | none => simp only [evOp, h]; rfl
  | some v =>
    simp only [evOp, h, Option.bind_some]
    cases v with
    | func fn a b => cases fn <;> rfl
    | _ => rfl
theorem st_bin (op : BinOp) (t : EqT) (x y : Opd) : stepOp C ⟨dst, .bin op t x y, none⟩ s = (x.ev s.env).bind fun a => (y.ev s.env).bind fun b => (binA op t a b).map fun v => s.put dst v := by
  rw [st_gen _ _ _ _ (by simp)]; simp only [evOp]
  cases x.ev s.env with
  | none => rfl
  | some a =>
    cases y.ev s.env with
    | none => rfl
    | some b => simp only [Option.bind_some]; cases binA op t a b <;> rfl
theorem st_un (op : UnOp) (x : Opd) : stepOp C ⟨dst, .un op x, none⟩ s = (x.ev s.env).bind fun a => (unA op a).map fun v => s.put dst v := by
  rw [st_gen _ _ _ _ (by simp)]; simp only [evOp]
  cases x.ev s.env with
  | none => rfl
  | some a => simp only [Option.bind_some]; cases unA op a <;> rfl
def convI (k : IntKind) : AV → Option AV
  | .int _ n => some (.int k (k.wrap n))
  | _ => none
theorem st_convI (k : IntKind) (x : Opd) : stepOp C ⟨dst, .conv (.toInt k) x, none⟩ s = (x.ev s.env).bind fun a => (convI k a).map fun v => s.put dst v := by
  rw [st_gen _ _ _ _ (by simp)]; simp only [evOp]
  cases x.ev s.env with
  | none => rfl
  | some a => cases a <;> rfl
def convS : AV → Option AV
  | .str l => some (.str l)
  | _ => none
theorem st_convS (x : Opd) : stepOp C ⟨dst, .conv .strId x, none⟩ s = (x.ev s.env).bind fun a => (convS a).map fun v => s.put dst v := by
  rw [st_gen _ _ _ _ (by simp)]; simp only [evOp]
  cases x.ev s.env with
  | none => rfl
  | some a => cases a <;> rfl
def convB (s : St) (dst : Option Nat) : AV → Option St
  | .str l => some (({ s with H := s.H.alloc (.row false 1 (l.map fun b => .int .u8 b.toNat)) } : St).put dst (.oslice s.H.n 0 l.length l.length 1))
  | _ => none
theorem st_convO (x : Opd) : stepOp C ⟨dst, .conv .ofBytes x, none⟩ s = (x.ev s.env).bind fun v => (bytesA s.H v).map fun l => s.put dst (.str l) := by
  rw [st_gen _ _ _ _ (by simp)]; simp only [evOp]
  cases x.ev s.env with
  | none => rfl
  | some v => simp only [Option.bind_some]; cases bytesA s.H v <;> rfl
theorem st_convB (x : Opd) : stepOp C ⟨dst, .conv .toBytes x, none⟩ s = (x.ev s.env).bind (convB s dst) := by
  rw [st_gen _ _ _ _ (by simp)]; simp only [evOp]
  cases x.ev s.env with
  | none => rfl
  | some a => cases a <;> rfl
theorem st_mkIface (t : TypeId) (x : Opd) : stepOp C ⟨dst, .mkIface t x, none⟩ s = (x.ev s.env).bind fun v => if v.noL = true then some (s.put dst (.iface t v)) else none := by
  rw [st_gen _ _ _ _ (by simp)]; simp only [evOp]
  cases x.ev s.env with
  | none => rfl
  | some v => simp only [Option.bind_some]; split <;> rfl
theorem st_mkFunc (fn : Fn) (a b : List Opd) : stepOp C ⟨dst, .mkFunc fn a b, none⟩ s = (evs s.env a).bind fun u => (evs s.env b).bind fun v => if allNoL u = true ∧ allNoL v = true then some (s.put dst (.func fn u v)) else none := by
  rw [st_gen _ _ _ _ (by simp)]; simp only [evOp]
  cases evs s.env a with
  | none => rfl
  | some u =>
    cases evs s.env b with
    | none => rfl
    | some v => simp only [Option.bind_some, Bool.and_eq_true]; split <;> rfl
theorem st_mkMap : stepOp C ⟨dst, .mkMap, none⟩ s = some (({ s with H := s.H.alloc (.map [] 0) } : St).put dst (.map s.H.n)) := by
  rw [st_gen _ _ _ _ (by simp)]; simp only [evOp]; rfl
def mkSl (s : St) (dst : Option Nat) (sz bytes : Nat) (zero : List AV) : AV → AV → Option St
  | .int .i64 l, .int .i64 c => if 0 ≤ l ∧ l ≤ c ∧ c * bytes ≤ 2 ^ 47 ∧ c < 2 ^ 63 then some (({ s with H := s.H.alloc (.row false sz (zerosA zero c.toNat)) } : St).put dst (.slice s.H.n 0 l.toNat c.toNat)) else none
  | _, _ => none
theorem st_mkSlice (sz bytes : Nat) (zero : List AV) (a b : Opd) : stepOp C ⟨dst, .mkSlice sz bytes zero a b, none⟩ s = (a.ev s.env).bind fun u => (b.ev s.env).bind fun v => mkSl s dst sz bytes zero u v := by
  rw [st_gen _ _ _ _ (by simp)]; simp only [evOp]
  cases a.ev s.env with
  | none => rfl
  | some u =>
    cases b.ev s.env with
    | none => cases u with
      | int k n => cases k <;> rfl
      | _ => rfl
    | some v =>
      simp only [Option.bind_some]
      cases u with
      | int k n =>
        cases v with
        | int k' n' => cases k <;> cases k' <;> first | rfl | (simp only [mkSl]; split <;> rfl)
        | _ => cases k <;> rfl
      | _ => rfl
theorem st_slice (k : SlKind) (x : Opd) (lo hi mx : Option Opd) : stepOp C ⟨dst, .slice k x lo hi mx, none⟩ s = (x.ev s.env).bind fun v => (optInt s.env 0 lo).bind fun l => (optIntO s.env hi).bind fun h => (optIntO s.env mx).bind fun m => (sliceA k v l h m).map fun r => s.put dst r := by
  rw [st_gen _ _ _ _ (by simp)]; simp only [evOp]
  cases x.ev s.env with
  | none => rfl
  | some v =>
    cases optInt s.env 0 lo with
    | none => rfl
    | some l =>
      cases optIntO s.env hi with
      | none => rfl
      | some h =>
        cases optIntO s.env mx with
        | none => rfl
        | some m => simp only [Option.bind_some]; cases sliceA k v l h m <;> rfl
def fldA (off : Nat) : AV → Option AV
  | .ptr id o => some (.ptr id (o + off))
  | .lptr t o => some (.lptr t (o + off))
  | _ => none
theorem st_fieldAddr (off : Nat) (x : Opd) : stepOp C ⟨dst, .fieldAddr off x, none⟩ s = (x.ev s.env).bind fun v => (fldA off v).map fun r => s.put dst r := by
  rw [st_gen _ _ _ _ (by simp)]; simp only [evOp]
  cases x.ev s.env with
  | none => rfl
  | some v => cases v <;> rfl
def fldV (agg : Bool) (sz off : Nat) : AV → Option AV
  | .agg cs => rd agg sz off cs
  | _ => none
theorem st_field (agg : Bool) (sz off : Nat) (x : Opd) : stepOp C ⟨dst, .field agg sz off x, none⟩ s = (x.ev s.env).bind fun v => (fldV agg sz off v).map fun r => s.put dst r := by
  rw [st_gen _ _ _ _ (by simp)]; simp only [evOp]
  cases x.ev s.env with
  | none => rfl
  | some v =>
    cases v with
    | agg cs => simp only [Option.bind_some, fldV]; cases rd agg sz off cs <;> rfl
    | _ => rfl
theorem st_idx (sz : Nat) (x i : Opd) : stepOp C ⟨dst, .indexAddr none sz x i, none⟩ s = (x.ev s.env).bind fun v => (i.ev s.env).bind fun n => (idxS sz v n).map fun r => s.put dst r := by
  rw [st_gen _ _ _ _ (by simp), ev_idx dst s.env s.loc s.H]
  cases x.ev s.env with
  | none => rfl
  | some v =>
    cases i.ev s.env with
    | none => rfl
    | some n => simp only [Option.bind_some]; cases idxS sz v n <;> rfl
def idxArr (m sz : Nat) (v i : AV) : Option AV :=
  match v, i with
  | .ptr id off, .int _ n => if 0 ≤ n ∧ n < m then some (.ptr id (off + n.toNat * sz)) else none
  | .lptr t off, .int _ n => if 0 ≤ n ∧ n < m then some (.lptr t (off + n.toNat * sz)) else none
  | _, _ => none
theorem st_idxArr (m sz : Nat) (x i : Opd) : stepOp C ⟨dst, .indexAddr (some m) sz x i, none⟩ s = (x.ev s.env).bind fun v => (i.ev s.env).bind fun n => (idxArr m sz v n).map fun r => s.put dst r := by
  rw [st_gen _ _ _ _ (by simp)]; simp only [evOp]
  cases x.ev s.env with
  | none => rfl
  | some v =>
    cases i.ev s.env with
    | none => cases v <;> rfl
    | some n => cases v <;> cases n <;> first | rfl | (simp only [Option.bind_some, idxArr]; split <;> rfl)
def idxStr (v i : AV) : Option AV :=
  match v, i with
  | .str l, .int _ n => if 0 ≤ n then (l[n.toNat]?).map fun b => .int .u8 b.toNat else none
  | _, _ => none
theorem st_idxStr (x i : Opd) : stepOp C ⟨dst, .index none x i, none⟩ s = (x.ev s.env).bind fun v => (i.ev s.env).bind fun n => (idxStr v n).map fun r => s.put dst r := by
  rw [st_gen _ _ _ _ (by simp)]; simp only [evOp]
  cases x.ev s.env with
  | none => rfl
  | some v =>
    cases i.ev s.env with
    | none => cases v <;> rfl
    | some n =>
      cases v with
      | str l =>
        cases n with
        | int k n =>
          simp only [Option.bind_some, idxStr]
          split
          · cases l[n.toNat]? <;> rfl
          · rfl
        | _ => rfl
      | _ => cases n <;> rfl
def idxAgg (m : Nat) (agg : Bool) (sz : Nat) (v i : AV) : Option AV :=
  match v, i with
  | .agg cs, .int _ n => if 0 ≤ n ∧ n < m then rd agg sz (n.toNat * sz) cs else none
  | _, _ => none
theorem st_idxAgg (m : Nat) (agg : Bool) (sz : Nat) (x i : Opd) : stepOp C ⟨dst, .index (some (m, agg, sz)) x i, none⟩ s = (x.ev s.env).bind fun v => (i.ev s.env).bind fun n => (idxAgg m agg sz v n).map fun r => s.put dst r := by
  rw [st_gen _ _ _ _ (by simp)]; simp only [evOp]
  cases x.ev s.env with
  | none => rfl
  | some v =>
    cases i.ev s.env with
    | none => cases v <;> rfl
    | some n =>
      cases v with
      | agg cs =>
        cases n with
        | int k n =>
          simp only [Option.bind_some, idxAgg]
          split
          · cases rd agg sz (n.toNat * sz) cs <;> rfl
          · rfl
        | _ => rfl
      | _ => cases n <;> rfl
def extA (i : Nat) : AV → Option AV
  | .tuple vs => vs[i]?
  | _ => none
theorem st_extract (x : Opd) (i : Nat) : stepOp C ⟨dst, .extract x i, none⟩ s = (x.ev s.env).bind fun v => (extA i v).map fun r => s.put dst r := by
  rw [st_gen _ _ _ _ (by simp)]; simp only [evOp]
  cases x.ev s.env with
  | none => rfl
  | some v =>
    cases v with
    | tuple vs => simp only [Option.bind_some, extA]; cases vs[i]? <;> rfl
    | _ => rfl
def callA (C : CallF) (dst : Option Nat) (s : St) (f : AV) (vs : List AV) : Option St := (callR C f vs s.H).map fun r => ({ s with H := r.2 } : St).put dst r.1
theorem callA_func (g : FuncId) (a b vs : List AV) : callA C dst s (.func (.func g) a b) vs = if g < yieldF ∧ allNoL vs = true then (C g (a ++ (vs ++ b)) s.H).map fun r => ({ s with H := r.2 } : St).put dst r.1 else none := by
  simp only [callA, callR]
  split <;> rfl
theorem callA_lt {g : FuncId} (hg : g < yieldF) {a b vs : List AV} (h : allNoL vs = true) : callA C dst s (.func (.func g) a b) vs = (C g (a ++ (vs ++ b)) s.H).map fun r => ({ s with H := r.2 } : St).put dst r.1 := by rw [callA_func, if_pos ⟨hg, h⟩]
theorem st_call (f : Opd) (args : List Opd) : stepOp C ⟨dst, .call f args, none⟩ s = (f.ev s.env).bind fun g => (evs s.env args).bind fun vs => callA C dst s g vs := by
  unfold stepOp wantedA
  simp only
  cases f.ev s.env with
  | none => rfl
  | some g =>
    cases evs s.env args with
    | none => rfl
    | some vs => rfl
theorem st_len (x : Opd) : stepOp C ⟨dst, .len .slice x, none⟩ s = (x.ev s.env).bind fun v => (lenS v).map fun r => s.put dst r := by
  rw [st_gen _ _ _ _ (by simp), ev_len dst s.env s.loc s.H]
  cases x.ev s.env with
  | none => rfl
  | some v => simp only [Option.bind_some]; cases lenS v <;> rfl
def lenStr : AV → Option AV
  | .str l => some (.int .i64 l.length)
  | _ => none
theorem st_lenStr (x : Opd) : stepOp C ⟨dst, .len .str x, none⟩ s = (x.ev s.env).bind fun v => (lenStr v).map fun r => s.put dst r := by
  rw [st_gen _ _ _ _ (by simp)]; simp only [evOp]
  cases x.ev s.env with
  | none => rfl
  | some v => cases v <;> rfl
theorem st_lenArr (n : Nat) (x : Opd) : stepOp C ⟨dst, .len (.arr n) x, none⟩ s = (x.ev s.env).map fun _ => s.put dst (.int .i64 n) := by
  rw [st_gen _ _ _ _ (by simp)]; simp only [evOp]
  cases x.ev s.env with
  | none => rfl
  | some v => rfl
def lenMap (H : AHeap) : AV → Option AV
  | .nilm => some (.int .i64 0)
  | .map id => match H.get id with
    | some (.map es _) => some (.int .i64 es.length)
    | _ => none
  | _ => none
theorem st_lenMap (x : Opd) : stepOp C ⟨dst, .len .map x, none⟩ s = (x.ev s.env).bind fun v => (lenMap s.H v).map fun r => s.put dst r := by
  rw [st_gen _ _ _ _ (by simp)]; simp only [evOp]
  cases x.ev s.env with
  | none => rfl
  | some v =>
    cases v with
    | map id => simp only [Option.bind_some, lenMap]; split <;> simp_all
    | _ => rfl
def rangeH (H : AHeap) : AV → Option (AV × AHeap)
  | .str l => some (.ptr H.n 0, H.alloc (.siter l 0))
  | _ => none
theorem st_rangeS (x : Opd) : stepOp C ⟨dst, .rangeS x, none⟩ s = (x.ev s.env).bind fun v => (rangeH s.H v).map fun r => ({ s with H := r.2 } : St).put dst r.1 := by
  rw [st_gen _ _ _ _ (by simp)]; simp only [evOp]
  cases x.ev s.env with
  | none => rfl
  | some v => cases v <;> rfl
theorem st_nextS (x : Opd) : stepOp C ⟨dst, .nextS x, none⟩ s = (x.ev s.env).bind fun v => (nextA s.H v).map fun r => ({ s with H := r.2 } : St).put dst r.1 := by
  rw [st_gen _ _ _ _ (by simp)]; simp only [evOp]
  cases x.ev s.env with
  | none => rfl
  | some v => simp only [Option.bind_some]; cases nextA s.H v <;> rfl
theorem st_lookup (t : KeyT) (ok : Bool) (z : AV) (x k : Opd) : stepOp C ⟨dst, .lookup t ok z x k, none⟩ s = (x.ev s.env).bind fun u => (k.ev s.env).bind fun v => (lookupA s.H t ok z u v).map fun r => s.put dst r := by
  rw [st_gen _ _ _ _ (by simp)]; simp only [evOp]
  cases x.ev s.env with
  | none => rfl
  | some u => cases k.ev s.env with
    | none => rfl
    | some v => simp only [Option.bind_some]; cases lookupA s.H t ok z u v <;> rfl
theorem st_mapUpdate (t : KeyT) (x k v : Opd) : stepOp C ⟨dst, .mapUpdate t x k v, none⟩ s = (x.ev s.env).bind fun a => (k.ev s.env).bind fun b => (v.ev s.env).bind fun c => (updA s.H t a b c).map fun H => ({ s with H := H } : St).put dst undefA := by
  rw [st_gen _ _ _ _ (by simp)]; simp only [evOp]
  cases x.ev s.env with
  | none => rfl
  | some a => cases k.ev s.env with
    | none => rfl
    | some b => cases v.ev s.env with
      | none => rfl
      | some c => simp only [Option.bind_some]; cases updA s.H t a b c <;> rfl
theorem st_delete (t : KeyT) (x k : Opd) : stepOp C ⟨dst, .delete t x k, none⟩ s = (x.ev s.env).bind fun a => (k.ev s.env).bind fun b => (delA s.H t a b).map fun H => ({ s with H := H } : St).put dst undefA := by
  rw [st_gen _ _ _ _ (by simp)]; simp only [evOp]
  cases x.ev s.env with
  | none => rfl
  | some a => cases k.ev s.env with
    | none => rfl
    | some b => simp only [Option.bind_some]; cases delA s.H t a b <;> rfl
theorem st_append (sz bytes : Nat) (a x : Opd) : stepOp C ⟨dst, .append sz bytes a x, none⟩ s = (a.ev s.env).bind fun u => (x.ev s.env).bind fun v => (appendA s.H sz bytes u v).map fun r => ({ s with H := r.2 } : St).put dst r.1 := by
  rw [st_gen _ _ _ _ (by simp)]; simp only [evOp]
  cases a.ev s.env with
  | none => rfl
  | some u =>
    cases x.ev s.env with
    | none => rfl
    | some v => simp only [Option.bind_some]; cases appendA s.H sz bytes u v <;> rfl
def clearV (s : St) (dst : Option Nat) (sz : Nat) (zero : List AV) : AV → Option St
  | .nils => some (s.put dst undefA)
  | .eslice .. => some (s.put dst undefA)
  | .xslice .. => some (s.put dst undefA)
  | .slice id off len _ => (clearA s sz zero id off len).map fun r => r.2.put dst r.1
  | .oslice id off len _ _ => (clearA s sz zero id off len).map fun r => r.2.put dst r.1
  | _ => none
theorem st_clear (sz : Nat) (zero : List AV) (x : Opd) : stepOp C ⟨dst, .clear sz zero x, none⟩ s = (x.ev s.env).bind (clearV s dst sz zero) := by
  rw [st_gen _ _ _ _ (by simp)]; simp only [evOp]
  cases x.ev s.env with
  | none => rfl
  | some v => cases v <;> rfl
theorem st_maxs (x : Opd) (r : List Opd) : stepOp C ⟨dst, .maxs x r, none⟩ s = (x.ev s.env).bind fun v => (evs s.env r).bind fun vs => (foldA max2A v vs).map fun z => s.put dst z := by
  rw [st_gen _ _ _ _ (by simp)]; simp only [evOp]
  cases x.ev s.env with
  | none => rfl
  | some u =>
    cases evs s.env r with
    | none => rfl
    | some v => simp only [Option.bind_some]; cases foldA max2A u v <;> rfl
theorem st_mins (x : Opd) (r : List Opd) : stepOp C ⟨dst, .mins x r, none⟩ s = (x.ev s.env).bind fun v => (evs s.env r).bind fun vs => (foldA min2A v vs).map fun z => s.put dst z := by
  rw [st_gen _ _ _ _ (by simp)]; simp only [evOp]
  cases x.ev s.env with
  | none => rfl
  | some u =>
    cases evs s.env r with
    | none => rfl
    | some v => simp only [Option.bind_some]; cases foldA min2A u v <;> rfl
end
end Go.Wam

namespace Go.Wam
@[simp] theorem noL_bool (b : Bool) : (AV.bool b).noL = true := rfl
@[simp] theorem one_bool (b : Bool) : (AV.bool b).one = true := rfl
@[simp] theorem cells_bool (b : Bool) : (AV.bool b).cells = [(AV.bool b)] := rfl
@[simp] theorem noL_int (k : IntKind) (n : Int) : (AV.int k n).noL = true := rfl
@[simp] theorem one_int (k : IntKind) (n : Int) : (AV.int k n).one = true := rfl
@[simp] theorem cells_int (k : IntKind) (n : Int) : (AV.int k n).cells = [(AV.int k n)] := rfl
@[simp] theorem noL_str (l : List UInt8) : (AV.str l).noL = true := rfl
@[simp] theorem one_str (l : List UInt8) : (AV.str l).one = true := rfl
@[simp] theorem cells_str (l : List UInt8) : (AV.str l).cells = [(AV.str l)] := rfl
@[simp] theorem noL_nilp  : (AV.nilp).noL = true := rfl
@[simp] theorem one_nilp  : (AV.nilp).one = true := rfl
@[simp] theorem cells_nilp  : (AV.nilp).cells = [(AV.nilp)] := rfl
@[simp] theorem noL_ptr (i o : Nat) : (AV.ptr i o).noL = true := rfl
@[simp] theorem one_ptr (i o : Nat) : (AV.ptr i o).one = true := rfl
@[simp] theorem cells_ptr (i o : Nat) : (AV.ptr i o).cells = [(AV.ptr i o)] := rfl
@[simp] theorem noL_lptr (i o : Nat) : (AV.lptr i o).noL = false := rfl
@[simp] theorem one_lptr (i o : Nat) : (AV.lptr i o).one = false := rfl
@[simp] theorem cells_lptr (i o : Nat) : (AV.lptr i o).cells = [(AV.lptr i o)] := rfl
@[simp] theorem noL_nils  : (AV.nils).noL = true := rfl
@[simp] theorem one_nils  : (AV.nils).one = true := rfl
@[simp] theorem cells_nils  : (AV.nils).cells = [(AV.nils)] := rfl
@[simp] theorem noL_slice (i o n c : Nat) : (AV.slice i o n c).noL = true := rfl
@[simp] theorem one_slice (i o n c : Nat) : (AV.slice i o n c).one = true := rfl
@[simp] theorem cells_slice (i o n c : Nat) : (AV.slice i o n c).cells = [(AV.slice i o n c)] := rfl
@[simp] theorem noL_oslice (i o n c z : Nat) : (AV.oslice i o n c z).noL = true := rfl
@[simp] theorem one_oslice (i o n c z : Nat) : (AV.oslice i o n c z).one = true := rfl
@[simp] theorem cells_oslice (i o n c z : Nat) : (AV.oslice i o n c z).cells = [(AV.oslice i o n c z)] := rfl
@[simp] theorem noL_eslice (i o n c : Nat) : (AV.eslice i o n c).noL = true := rfl
@[simp] theorem one_eslice (i o n c : Nat) : (AV.eslice i o n c).one = true := rfl
@[simp] theorem cells_eslice (i o n c : Nat) : (AV.eslice i o n c).cells = [(AV.eslice i o n c)] := rfl
@[simp] theorem noL_xslice (i o : Nat) (s : Option Nat) : (AV.xslice i o s).noL = true := rfl
@[simp] theorem one_xslice (i o : Nat) (s : Option Nat) : (AV.xslice i o s).one = true := rfl
@[simp] theorem cells_xslice (i o : Nat) (s : Option Nat) : (AV.xslice i o s).cells = [(AV.xslice i o s)] := rfl
@[simp] theorem noL_nilm  : (AV.nilm).noL = true := rfl
@[simp] theorem one_nilm  : (AV.nilm).one = true := rfl
@[simp] theorem cells_nilm  : (AV.nilm).cells = [(AV.nilm)] := rfl
@[simp] theorem noL_map (i : Nat) : (AV.map i).noL = true := rfl
@[simp] theorem one_map (i : Nat) : (AV.map i).one = true := rfl
@[simp] theorem cells_map (i : Nat) : (AV.map i).cells = [(AV.map i)] := rfl
@[simp] theorem noL_func (f : Fn) (a b : List AV) : (AV.func f a b).noL = true := rfl
@[simp] theorem one_func (f : Fn) (a b : List AV) : (AV.func f a b).one = true := rfl
@[simp] theorem cells_func (f : Fn) (a b : List AV) : (AV.func f a b).cells = [(AV.func f a b)] := rfl
@[simp] theorem noL_nilFunc  : (AV.nilFunc).noL = true := rfl
@[simp] theorem one_nilFunc  : (AV.nilFunc).one = true := rfl
@[simp] theorem cells_nilFunc  : (AV.nilFunc).cells = [(AV.nilFunc)] := rfl
@[simp] theorem noL_iface (t : TypeId) (v : AV) : (AV.iface t v).noL = true := rfl
@[simp] theorem one_iface (t : TypeId) (v : AV) : (AV.iface t v).one = true := rfl
@[simp] theorem cells_iface (t : TypeId) (v : AV) : (AV.iface t v).cells = [(AV.iface t v)] := rfl
@[simp] theorem noL_nilIface  : (AV.nilIface).noL = true := rfl
@[simp] theorem one_nilIface  : (AV.nilIface).one = true := rfl
@[simp] theorem cells_nilIface  : (AV.nilIface).cells = [(AV.nilIface)] := rfl
@[simp] theorem noL_agg (l : List AV) : (AV.agg l).noL = true := rfl
@[simp] theorem one_agg (l : List AV) : (AV.agg l).one = false := rfl
@[simp] theorem cells_agg (l : List AV) : (AV.agg l).cells = l := rfl
@[simp] theorem noL_tuple (l : List AV) : (AV.tuple l).noL = false := rfl
@[simp] theorem one_tuple (l : List AV) : (AV.tuple l).one = false := rfl
@[simp] theorem cells_tuple (l : List AV) : (AV.tuple l).cells = [(AV.tuple l)] := rfl
end Go.Wam
namespace Go.Wam
/-! ## Slots that hold no pointer to a local variable -/
def frV (t k : Nat) (v : AV) : Bool := match v with | .lptr u _ => !(u == t) || k == t | _ => true
theorem freeL_nil (t : Nat) : freeL t [] = true := rfl
theorem freeL_cons (t k : Nat) (v : AV) (r : List (Nat × AV)) : freeL t ((k, v) :: r) = (frV t k v && freeL t r) := by cases v <;> rfl
theorem frV_lptr (t k u o : Nat) : frV t k (.lptr u o) = (!(u == t) || k == t) := rfl
theorem frV_tuple (t k : Nat) (l : List AV) : frV t k (.tuple l) = true := rfl
theorem frV_noL (t k : Nat) {v : AV} (h : v.noL = true) : frV t k v = true := by cases v <;> first | rfl | simp at h

/-! ## Reads that are checked -/
theorem ev_load (dst : Option Nat) (s : St) (agg : Bool) (sz : Nat) (a : Opd) : evOp dst s (.load agg sz a) = (a.ev s.env).bind fun p => (loadA s agg sz p).map fun v => (v, s) := by
  simp only [evOp]; cases a.ev s.env <;> rfl
mutual
theorem beq_same : ∀ v : AV, AV.beq v v = true
  | .bool _ | .int .. | .str _ | .nilp | .ptr .. | .lptr .. | .nils | .slice .. | .oslice .. | .eslice .. | .xslice .. | .nilm | .map _ | .yield _ | .nilFunc | .nilIface => by simp [AV.beq]
  | .func _ a b => by simp [AV.beq, beqL_same a, beqL_same b]
  | .iface _ v => by simp [AV.beq, beq_same v]
  | .agg a => by simp [AV.beq, beqL_same a]
  | .tuple a => by simp [AV.beq, beqL_same a]
theorem beqL_same : ∀ l : List AV, AV.beqL l l = true
  | [] => by simp [AV.beqL]
  | v :: l => by simp [AV.beqL, beq_same v, beqL_same l]
end

/-! ## Heaps that were added to -/
theorem get_alloc_eq (H : AHeap) (x : AObj) {j : Nat} (h : j = H.n) : (H.alloc x).get j = some x := by subst h; exact get_alloc_same H x
theorem rdAt_alloc_eq (H : AHeap) (ro : Bool) (e : Nat) (cells : List AV) {j : Nat} (h : j = H.n) (agg : Bool) (sz off : Nat) : (H.alloc (.row ro e cells)).rdAt j agg sz off = rd agg sz off cells := by subst h; exact rdAt_alloc_same ..
theorem set_alloc_eq (H : AHeap) (x y : AObj) {j : Nat} (h : j = H.n) (hl : H.low ≤ H.n) : (H.alloc x).set j y = H.alloc y := by subst h; exact set_alloc_same H x y hl
theorem set_alloc_ne (H : AHeap) (x y : AObj) {j : Nat} (h : j ≠ H.n) : (H.alloc x).set j y = (H.set j y).alloc x := by
  refine AHeap.eq ?_ rfl rfl
  show (if j < (H.alloc x).n then setP y (path j) (setP x (path H.n) H.t) else setP x (path H.n) H.t) = setP x (path H.n) (if j < H.n then setP y (path j) H.t else H.t)
  have e : (H.alloc x).n = H.n + 1 := rfl
  by_cases h1 : j < H.n
  · rw [if_pos (by omega), if_pos h1]
    exact setP_comm _ _ _ _ _ fun e => h (path_inj e).symm
  · rw [if_neg (by omega), if_neg h1]
/-! ## Guarded operations, without a case split -/
theorem if_put (c : Prop) [Decidable c] (d : Nat) (v w : AV) (e : List (Nat × AV)) (l : List (Nat × List AV)) (H : AHeap) : (if c then some (⟨(d, v) :: e, l, H⟩ : St) else some ⟨(d, w) :: e, l, H⟩) = some ⟨(d, if c then v else w) :: e, l, H⟩ := by split <;> rfl
theorem if_bool (c : Prop) [Decidable c] (a b : Bool) : (if c then AV.bool a else AV.bool b) = AV.bool (if c then a else b) := by split <;> rfl
theorem guardB_ite (c : Prop) [Decidable c] (v w : AV) (want : Bool) (x y : Option St) : guardB (some (if c then v else w)) want x y = if c then guardB (some v) want x y else guardB (some w) want x y := by split <;> rfl
theorem guardB_tuple (vs : List AV) (want : Bool) (x y : Option St) : guardB (some (.tuple vs)) want x y = y := rfl
theorem if_bind (c : Prop) [Decidable c] {α β : Type} (x y : Option α) (f : α → Option β) : (if c then x else y).bind f = if c then x.bind f else y.bind f := by split <;> rfl
theorem if_map (c : Prop) [Decidable c] {α β : Type} (x y : Option α) (f : α → β) : (if c then x else y).map f = if c then x.map f else y.map f := by split <;> rfl
theorem okR_if (c : Prop) [Decidable c] {α : Type} (x y : Option α) (P : α → Prop) : OkR (if c then x else y) P ↔ if c then OkR x P else OkR y P := by split <;> rfl
theorem if_some (c : Prop) [Decidable c] {α : Type} (a b : α) : (if c then some a else some b) = some (if c then a else b) := by split <;> rfl
end Go.Wam
