/- Our machine, with what comes behind: an evaluator whose slots are known by definition, sound for the machine's meaning. No condition. -/
import Derived.Test.YtpdmmpajjdaebaaGreatAmU
set_option linter.unusedVariables false
set_option linter.unusedSimpArgs false
namespace Go.Wam

def AV.notL : AV → Bool
  | .lptr .. => false
  | _ => true
theorem notL_of {v : AV} (h : v.noL = true) : v.notL = true := by cases v <;> first | rfl | (simp [AV.noL] at h)
/-- What a slot holds: a pointer to a local variable, or a value. -/
inductive Slt where
  | l (t off : Nat)
  | v (x : AV)
  | u
def Slt.av : Slt → AV
  | .l t o => .lptr t o
  | .v x => x
  | .u => undefA
def Slt.ok : Slt → Bool
  | .l .. => true
  | .v x => x.notL
  | .u => true
structure SK where
  env : List (Nat × Slt)
  loc : List (Nat × List AV)
  H : AHeap
structure SimK (s : SK) (st : St) : Prop where
  env : ∀ k, look k st.env = (look k s.env).map Slt.av
  mem : ∀ e ∈ st.env, ∃ sv, (e.1, sv) ∈ s.env ∧ sv.av = e.2
  ok : ∀ e ∈ s.env, e.2.ok = true
  loc : st.loc = s.loc
  H : st.H = s.H
def SK.put (s : SK) (dst : Option Nat) (v : Slt) : SK :=
  match dst with
  | some d => { s with env := (d, v) :: s.env }
  | none => s
def SK.putV (s : SK) (dst : Option Nat) (v : AV) : SK := s.put dst (.v v)
theorem look_mem {α : Type} {k : Nat} {v : α} : ∀ {l : List (Nat × α)}, look k l = some v → (k, v) ∈ l
  | [], h => by simp [look] at h
  | (j, w) :: r, h => by
    simp only [look] at h
    split at h
    · rename_i e; subst e; cases h; simp
    · exact List.mem_cons_of_mem _ (look_mem h)
theorem SimK.put {s : SK} {st : St} (h : SimK s st) (dst : Option Nat) {sv : Slt} (hs : sv.ok = true) : SimK (s.put dst sv) (st.put dst sv.av) := by
  cases dst with
  | none => exact h
  | some d =>
    refine ⟨fun k => ?_, fun e he => ?_, fun e he => ?_, h.loc, h.H⟩
    · simp only [SK.put, St.put, look]
      split
      · rfl
      · exact h.env k
    · simp only [SK.put, St.put, List.mem_cons] at he ⊢
      rcases he with rfl | he
      · exact ⟨sv, .inl rfl, rfl⟩
      · obtain ⟨sv', h1, h2⟩ := h.mem e he
        exact ⟨sv', .inr h1, h2⟩
    · simp only [SK.put, List.mem_cons] at he
      rcases he with rfl | he
      · exact hs
      · exact h.ok e he
theorem SimK.putV {s : SK} {st : St} (h : SimK s st) (dst : Option Nat) {v : AV} (hs : v.notL = true) : SimK (s.putV dst v) (st.put dst v) := h.put dst (sv := .v v) hs

def svO (x : Opd) (env : List (Nat × Slt)) : Option Slt :=
  match x with
  | .tmp t => look t env
  | .const v => (match v.notL with | true => some (.v v) | false => none)
  | .func f => some (.v (.func (.func f) [] []))
def valO (x : Opd) (env : List (Nat × Slt)) : Option AV :=
  match svO x env with
  | some (.v v) => some v
  | some .u => some undefA
  | _ => none
def valsO (env : List (Nat × Slt)) : List Opd → Option (List AV)
  | [] => some []
  | x :: r => match valO x env, valsO env r with
    | some v, some vs => some (v :: vs)
    | _, _ => none
def partsV (env : List (Nat × Slt)) : List (Nat × Nat × Opd) → Option (List (Nat × Nat × AV))
  | [] => some []
  | (a, b, x) :: r => match valO x env, partsV env r with
    | some v, some vs => some ((a, b, v) :: vs)
    | _, _ => none
def fillC : List (Nat × Nat × AV) → List AV → Option (List AV)
  | [], cells => some cells
  | (off, sz, v) :: r, cells => if v.noL && v.cells.length = sz && off + sz ≤ cells.length then fillC r (wr off v.cells cells) else none
def optV (env : List (Nat × Slt)) : Option Opd → Option (Option AV)
  | none => some none
  | some x => match valO x env with
    | some v => some (some v)
    | none => none
theorem svO_sim {s : SK} {st : St} (h : SimK s st) {x : Opd} {sv : Slt} (e : svO x s.env = some sv) : x.ev st.env = some sv.av ∧ sv.ok = true := by
  cases x with
  | tmp t =>
    simp only [svO] at e
    refine ⟨?_, h.ok (t, sv) (look_mem e)⟩
    show look t st.env = some sv.av
    rw [h.env, e]; rfl
  | const v =>
    simp only [svO] at e
    split at e
    · rename_i hv; cases e; exact ⟨rfl, hv⟩
    · cases e
  | func f => cases e; exact ⟨rfl, rfl⟩
theorem valO_sim {s : SK} {st : St} (h : SimK s st) {x : Opd} {v : AV} (e : valO x s.env = some v) : x.ev st.env = some v ∧ v.notL = true := by
  unfold valO at e
  split at e
  · rename_i sv hs; cases e; exact svO_sim h hs
  · rename_i hs; cases e; exact ⟨(svO_sim h hs).1, rfl⟩
  · cases e
theorem valsO_sim {s : SK} {st : St} (h : SimK s st) : ∀ {xs : List Opd} {vs : List AV}, valsO s.env xs = some vs → evs st.env xs = some vs ∧ ∀ v ∈ vs, v.notL = true
  | [], vs, e => by cases e; exact ⟨rfl, by simp⟩
  | x :: xs, vs, e => by
    simp only [valsO] at e
    split at e
    · rename_i v vs' h1 h2
      cases e
      obtain ⟨a, b⟩ := valO_sim h h1
      obtain ⟨c, d⟩ := valsO_sim h h2
      exact ⟨by simp only [evs, a, c], by simpa using ⟨b, d⟩⟩
    · cases e
theorem partsV_sim {s : SK} {st : St} (h : SimK s st) : ∀ {ps : List (Nat × Nat × Opd)} {qs : List (Nat × Nat × AV)} (z : List AV), partsV s.env ps = some qs → fillA st.env ps z = fillC qs z
  | [], qs, z, e => by cases e; rfl
  | (a, b, x) :: ps, qs, z, e => by
    simp only [partsV] at e
    split at e
    · rename_i v vs' h1 h2
      cases e
      obtain ⟨c, _⟩ := valO_sim h h1
      simp only [fillA, c, fillC]
      split
      · exact partsV_sim h _ h2
      · rfl
    · cases e

/-! ## Values -/
def pickV (c a b : AV) : Option AV :=
  match c with
  | .bool true => some a
  | .bool false => some b
  | _ => none
def ifaceV (t : TypeId) (v : AV) : Option AV := if v.noL = true then some (.iface t v) else none
def funcV (fn : Fn) (a b : List AV) : Option AV := if allNoL a = true ∧ allNoL b = true then some (.func fn a b) else none
def natV : AV → Option Nat
  | .int _ n => if 0 ≤ n then some n.toNat else none
  | _ => none
def nl (o : Option AV) : Option AV := o.bind fun v => if v.notL = true then some v else none
theorem nl_some {o : Option AV} {v : AV} (h : nl o = some v) : o = some v ∧ v.notL = true := by
  unfold nl at h
  cases o with
  | none => cases h
  | some w =>
    simp only [Option.bind_some] at h
    split at h
    · rename_i hw; cases h; exact ⟨rfl, hw⟩
    · cases h
def sliceV (k : SlKind) (v : AV) (l h m : Option AV) : Option AV :=
  match l, h, m with
  | none, none, none => sliceA k v 0 none none
  | some l, none, none => (natV l).bind fun l => sliceA k v l none none
  | none, some h, none => (natV h).bind fun h => sliceA k v 0 (some h) none
  | some l, some h, none => (natV l).bind fun l => (natV h).bind fun h => sliceA k v l (some h) none
  | none, some h, some m => (natV h).bind fun h => (natV m).bind fun m => sliceA k v 0 (some h) (some m)
  | some l, some h, some m => (natV l).bind fun l => (natV h).bind fun h => (natV m).bind fun m => sliceA k v l (some h) (some m)
  | _, none, some _ => none

def isNilV (neg : Bool) : AV → Option AV
  | .nilIface => some (.bool !neg)
  | .iface .. => some (.bool neg)
  | _ => none
def capV : AV → Option AV
  | .nils => some (.int .i64 0)
  | .slice _ _ _ c => some (.int .i64 c)
  | .xslice .. => some (.int .i64 0)
  | _ => none
def opV (s : SK) : IOp → Option AV
  | .pick c a b => match valO c s.env, valO a s.env, valO b s.env with
    | some c, some a, some b => pickV c a b
    | _, _, _ => none
  | .build z ps => match partsV s.env ps with
    | some qs => (fillC qs z).map .agg
    | none => none
  | .bin op e x y => match valO x s.env, valO y s.env with
    | some a, some b => nl (binA op e a b)
    | _, _ => none
  | .un op x => match valO x s.env with
    | some a => nl (unA op a)
    | none => none
  | .conv (.toInt k) x => match valO x s.env with
    | some a => convI k a
    | none => none
  | .conv .strId x => match valO x s.env with
    | some a => convS a
    | none => none
  | .mkIface t x => match valO x s.env with
    | some a => ifaceV t a
    | none => none
  | .mkFunc fn a b => match valsO s.env a, valsO s.env b with
    | some a, some b => funcV fn a b
    | _, _ => none
  | .slice k x lo hi mx => match valO x s.env, optV s.env lo, optV s.env hi, optV s.env mx with
    | some v, some l, some h, some m => nl (sliceV k v l h m)
    | _, _, _, _ => none
  | .field agg sz off x => match valO x s.env with
    | some v => nl (fldV agg sz off v)
    | none => none
  | .indexAddr none sz x i => match valO x s.env, valO i s.env with
    | some v, some n => nl (idxS sz v n)
    | _, _ => none
  | .index none x i => match valO x s.env, valO i s.env with
    | some v, some n => idxStr v n
    | _, _ => none
  | .index (some (m, agg, sz)) x i => match valO x s.env, valO i s.env with
    | some v, some n => nl (idxAgg m agg sz v n)
    | _, _ => none
  | .extract x i => match valO x s.env with
    | some v => nl (extA i v)
    | none => none
  | .len .slice x => match valO x s.env with
    | some v => lenS v
    | none => none
  | .len .str x => match valO x s.env with
    | some v => lenStr v
    | none => none
  | .len (.arr n) x => match svO x s.env with
    | some _ => some (.int .i64 n)
    | none => none
  | .len .map x => match valO x s.env with
    | some v => lenMap s.H v
    | none => none
  | .conv .ofBytes x => match valO x s.env with
    | some v => (bytesA s.H v).map .str
    | none => none
  | .lookup t ok z x k => match valO x s.env, valO k s.env with
    | some u, some v => nl (lookupA s.H t ok z u v)
    | _, _ => none
  | .maxs x r => match valO x s.env, valsO s.env r with
    | some v, some vs => nl (foldA max2A v vs)
    | _, _ => none
  | .mins x r => match valO x s.env, valsO s.env r with
    | some v, some vs => nl (foldA min2A v vs)
    | _, _ => none
  | .isNilI neg x => match valO x s.env with
    | some v => isNilV neg v
    | none => none
  | .capS x => match valO x s.env with
    | some v => capV v
    | none => none
  | .ptrEq neg x y => match valO x s.env, valO y s.env with
    | some a, some b => (ptrEqA s.H a b).map fun r => .bool (r != neg)
    | _, _ => none
  | _ => none

theorem natV_some {v : AV} {n : Nat} (h : natV v = some n) : ∃ k i, v = .int k i ∧ 0 ≤ i ∧ i.toNat = n := by
  cases v with
  | int k i =>
    simp only [natV] at h
    split at h
    · rename_i h0; cases h; exact ⟨k, i, rfl, h0, rfl⟩
    · cases h
  | _ => cases h
theorem optV_sim {s : SK} {st : St} (h : SimK s st) {x : Option Opd} {v : Option AV} (e : optV s.env x = some v) :
    (x = none ∧ v = none) ∨ ∃ y w, x = some y ∧ v = some w ∧ y.ev st.env = some w := by
  cases x with
  | none => cases e; exact .inl ⟨rfl, rfl⟩
  | some y =>
    simp only [optV] at e
    split at e
    · rename_i w hw; cases e; exact .inr ⟨y, w, rfl, rfl, (valO_sim h hw).1⟩
    · cases e

theorem opt_bind_some {α β : Type} {o : Option α} {f : α → Option β} {b : β} (h : o.bind f = some b) : ∃ a, o = some a ∧ f a = some b := by
  cases o with
  | none => cases h
  | some a => exact ⟨a, rfl, h⟩
theorem slice_sim {s : SK} {st : St} (h : SimK s st) (k : SlKind) {lo hi mx : Option Opd} {l u m : Option AV} {v r : AV} (hl : optV s.env lo = some l) (hu : optV s.env hi = some u) (hm : optV s.env mx = some m) (e : sliceV k v l u m = some r) :
    ((optInt st.env 0 lo).bind fun l => (optIntO st.env hi).bind fun h => (optIntO st.env mx).bind fun m => sliceA k v l h m) = some r := by
  have one : ∀ {x : Option Opd} {y : Opd} {w : AV} {n : Nat} (d : Nat), y.ev st.env = some w → natV w = some n → optInt st.env d (some y) = some n := by
    intro x y w n d h1 h2
    obtain ⟨k', i, rfl, h3, h4⟩ := natV_some h2
    simp only [optInt, h1, h3, if_true, h4]
  rcases optV_sim h hl with ⟨rfl, rfl⟩ | ⟨y1, w1, rfl, rfl, e1⟩ <;> rcases optV_sim h hu with ⟨rfl, rfl⟩ | ⟨y2, w2, rfl, rfl, e2⟩ <;> rcases optV_sim h hm with ⟨rfl, rfl⟩ | ⟨y3, w3, rfl, rfl, e3⟩ <;> simp only [sliceV] at e
  · simpa [optInt, optIntO] using e
  · cases e
  · obtain ⟨n2, g2, e⟩ := opt_bind_some e
    have a2 := one (x := none) 0 e2 g2
    simp only [optIntO, a2, Option.map_some, Option.bind_some]
    simp only [optInt, Option.bind_some]; exact e
  · obtain ⟨n2, g2, e⟩ := opt_bind_some e
    obtain ⟨n3, g3, e⟩ := opt_bind_some e
    have a2 := one (x := none) 0 e2 g2
    have a3 := one (x := none) 0 e3 g3
    simp only [optIntO, a2, a3, Option.map_some, Option.bind_some]
    simp only [optInt, Option.bind_some]; exact e
  · obtain ⟨n1, g1, e⟩ := opt_bind_some e
    have a1 := one (x := none) 0 e1 g1
    simp only [optIntO, a1, Option.map_some, Option.bind_some]; exact e
  · cases e
  · obtain ⟨n1, g1, e⟩ := opt_bind_some e
    obtain ⟨n2, g2, e⟩ := opt_bind_some e
    have a1 := one (x := none) 0 e1 g1
    have a2 := one (x := none) 0 e2 g2
    simp only [optIntO, a1, a2, Option.map_some, Option.bind_some]; exact e
  · obtain ⟨n1, g1, e⟩ := opt_bind_some e
    obtain ⟨n2, g2, e⟩ := opt_bind_some e
    obtain ⟨n3, g3, e⟩ := opt_bind_some e
    have a1 := one (x := none) 0 e1 g1
    have a2 := one (x := none) 0 e2 g2
    have a3 := one (x := none) 0 e3 g3
    simp only [optIntO, a1, a2, a3, Option.map_some, Option.bind_some]; exact e

theorem lenS_notL {v r : AV} (h : lenS v = some r) : r.notL = true := by cases v <;> first | (cases h; done) | (cases h; rfl)
theorem opV_sim {s : SK} {st : St} (h : SimK s st) (C : CallF) (dst : Option Nat) {op : IOp} {v : AV} (e : opV s op = some v) : stepOp C ⟨dst, op, none⟩ st = some (st.put dst v) ∧ v.notL = true := by
  cases op with
  | pick c a b =>
    simp only [opV] at e
    split at e
    · rename_i c' a' b' h1 h2 h3
      obtain ⟨c1, _⟩ := valO_sim h h1
      obtain ⟨c2, d2⟩ := valO_sim h h2
      obtain ⟨c3, d3⟩ := valO_sim h h3
      rw [st_pick, c1, c2, c3]
      unfold pickV at e
      split at e
      · cases e; exact ⟨rfl, d2⟩
      · cases e; exact ⟨rfl, d3⟩
      · cases e
    · cases e
  | isNilI neg x =>
    simp only [opV] at e
    split at e
    · rename_i a h1
      rw [st_gen _ _ _ _ (by simp)]
      simp only [evOp, (valO_sim h h1).1]
      cases a <;> simp only [isNilV] at e <;> first | (cases e; done) | (cases e; exact ⟨rfl, rfl⟩)
    · cases e
  | capS x =>
    simp only [opV] at e
    split at e
    · rename_i a h1
      rw [st_gen _ _ _ _ (by simp)]
      simp only [evOp, (valO_sim h h1).1]
      cases a <;> simp only [capV] at e <;> first | (cases e; done) | (cases e; exact ⟨rfl, rfl⟩)
    · cases e
  | ptrEq neg x y =>
    simp only [opV] at e
    split at e
    · rename_i a b h1 h2
      rw [st_gen _ _ _ _ (by simp)]
      simp only [evOp, (valO_sim h h1).1, (valO_sim h h2).1]
      rw [← h.H] at e
      cases hp : ptrEqA st.H a b with
      | none => rw [hp] at e; cases e
      | some r => rw [hp] at e; cases e; exact ⟨rfl, rfl⟩
    · cases e
  | build z ps =>
    simp only [opV] at e
    split at e
    · rename_i qs h1
      rw [st_build, partsV_sim h z h1]
      cases hf : fillC qs z with
      | none => rw [hf] at e; cases e
      | some cs => rw [hf] at e; cases e; exact ⟨rfl, rfl⟩
    · cases e
  | bin op t x y =>
    simp only [opV] at e
    split at e
    · rename_i a b h1 h2
      obtain ⟨e1, e2⟩ := nl_some e
      rw [st_bin, (valO_sim h h1).1, (valO_sim h h2).1]
      exact ⟨by simp only [Option.bind_some, e1, Option.map_some], e2⟩
    · cases e
  | un op x =>
    simp only [opV] at e
    split at e
    · rename_i a h1
      obtain ⟨e1, e2⟩ := nl_some e
      rw [st_un, (valO_sim h h1).1]
      exact ⟨by simp only [Option.bind_some, e1, Option.map_some], e2⟩
    · cases e
  | conv c x =>
    cases c with
    | toInt k =>
      simp only [opV] at e
      split at e
      · rename_i a h1
        rw [st_convI, (valO_sim h h1).1]
        exact ⟨by simp only [Option.bind_some, e, Option.map_some], by cases a <;> first | (cases e; done) | (cases e; rfl)⟩
      · cases e
    | strId =>
      simp only [opV] at e
      split at e
      · rename_i a h1
        rw [st_convS, (valO_sim h h1).1]
        exact ⟨by simp only [Option.bind_some, e, Option.map_some], by cases a <;> first | (cases e; done) | (cases e; rfl)⟩
      · cases e
    | ofBytes =>
      simp only [opV] at e
      split at e
      · rename_i a h1
        rw [st_convO, (valO_sim h h1).1, h.H]
        cases hb : bytesA s.H a with
        | none => rw [hb] at e; cases e
        | some l => rw [hb] at e; cases e; exact ⟨by simp only [Option.bind_some, hb, Option.map_some], rfl⟩
      · cases e
    | _ => cases e
  | mkIface t x =>
    simp only [opV] at e
    split at e
    · rename_i a h1
      unfold ifaceV at e
      split at e
      · rename_i hn
        cases e
        rw [st_mkIface, (valO_sim h h1).1]
        exact ⟨by simp only [Option.bind_some, hn, if_true], rfl⟩
      · cases e
    · cases e
  | mkFunc fn a b =>
    simp only [opV] at e
    split at e
    · rename_i a' b' h1 h2
      unfold funcV at e
      split at e
      · rename_i hn
        cases e
        rw [st_mkFunc, (valsO_sim h h1).1, (valsO_sim h h2).1]
        exact ⟨by simp only [Option.bind_some, hn, and_self, if_true], rfl⟩
      · cases e
    · cases e
  | slice k x lo hi mx =>
    simp only [opV] at e
    split at e
    · rename_i v' l u m h1 h2 h3 h4
      obtain ⟨e1, e2⟩ := nl_some e
      have := slice_sim h k h2 h3 h4 e1
      rw [st_slice, (valO_sim h h1).1]
      refine ⟨?_, e2⟩
      simp only [Option.bind_some]
      cases g1 : optInt st.env 0 lo with
      | none => rw [g1] at this; cases this
      | some a1 =>
        cases g2 : optIntO st.env hi with
        | none => rw [g1, g2] at this; cases this
        | some a2 =>
          cases g3 : optIntO st.env mx with
          | none => rw [g1, g2, g3] at this; cases this
          | some a3 =>
            rw [g1, g2, g3] at this
            simp only [Option.bind_some] at this ⊢
            rw [this]; rfl
    · cases e
  | field agg sz off x =>
    simp only [opV] at e
    split at e
    · rename_i a h1
      obtain ⟨e1, e2⟩ := nl_some e
      rw [st_field, (valO_sim h h1).1]
      exact ⟨by simp only [Option.bind_some, e1, Option.map_some], e2⟩
    · cases e
  | indexAddr m sz x i =>
    cases m with
    | none =>
      simp only [opV] at e
      split at e
      · rename_i a b h1 h2
        obtain ⟨e1, e2⟩ := nl_some e
        rw [st_idx, (valO_sim h h1).1, (valO_sim h h2).1]
        exact ⟨by simp only [Option.bind_some, e1, Option.map_some], e2⟩
      · cases e
    | some m => cases e
  | index m x i =>
    cases m with
    | none =>
      simp only [opV] at e
      split at e
      · rename_i a b h1 h2
        rw [st_idxStr, (valO_sim h h1).1, (valO_sim h h2).1]
        refine ⟨by simp only [Option.bind_some, e, Option.map_some], ?_⟩
        unfold idxStr at e
        split at e
        · split at e
          · simp only [Option.map_eq_some_iff] at e
            obtain ⟨_, _, rfl⟩ := e
            rfl
          · cases e
        · cases e
      · cases e
    | some q =>
      obtain ⟨m, agg, sz⟩ := q
      simp only [opV] at e
      split at e
      · rename_i a b h1 h2
        obtain ⟨e1, e2⟩ := nl_some e
        rw [st_idxAgg, (valO_sim h h1).1, (valO_sim h h2).1]
        exact ⟨by simp only [Option.bind_some, e1, Option.map_some], e2⟩
      · cases e
  | extract x i =>
    simp only [opV] at e
    split at e
    · rename_i a h1
      obtain ⟨e1, e2⟩ := nl_some e
      rw [st_extract, (valO_sim h h1).1]
      exact ⟨by simp only [Option.bind_some, e1, Option.map_some], e2⟩
    · cases e
  | len k x =>
    cases k with
    | slice =>
      simp only [opV] at e
      split at e
      · rename_i a h1
        rw [st_len, (valO_sim h h1).1]
        exact ⟨by simp only [Option.bind_some, e, Option.map_some], lenS_notL e⟩
      · cases e
    | str =>
      simp only [opV] at e
      split at e
      · rename_i a h1
        rw [st_lenStr, (valO_sim h h1).1]
        exact ⟨by simp only [Option.bind_some, e, Option.map_some], by cases a <;> first | (cases e; done) | (cases e; rfl)⟩
      · cases e
    | arr n =>
      simp only [opV] at e
      split at e
      · rename_i a h1
        cases e
        rw [st_lenArr, (svO_sim h h1).1]
        exact ⟨rfl, rfl⟩
      · cases e
    | map =>
      simp only [opV] at e
      split at e
      · rename_i a h1
        rw [st_lenMap, (valO_sim h h1).1, h.H]
        refine ⟨by simp only [Option.bind_some, e, Option.map_some], ?_⟩
        unfold lenMap at e
        split at e
        · cases e; rfl
        · split at e
          · cases e; rfl
          · cases e
        · cases e
      · cases e
  | lookup t ok z x k =>
    simp only [opV] at e
    split at e
    · rename_i a b h1 h2
      obtain ⟨e1, e2⟩ := nl_some e
      rw [st_lookup, (valO_sim h h1).1, (valO_sim h h2).1, h.H]
      exact ⟨by simp only [Option.bind_some, e1, Option.map_some], e2⟩
    · cases e
  | maxs x r =>
    simp only [opV] at e
    split at e
    · rename_i a b h1 h2
      obtain ⟨e1, e2⟩ := nl_some e
      rw [st_maxs, (valO_sim h h1).1, (valsO_sim h h2).1]
      exact ⟨by simp only [Option.bind_some, e1, Option.map_some], e2⟩
    · cases e
  | mins x r =>
    simp only [opV] at e
    split at e
    · rename_i a b h1 h2
      obtain ⟨e1, e2⟩ := nl_some e
      rw [st_mins, (valO_sim h h1).1, (valsO_sim h h2).1]
      exact ⟨by simp only [Option.bind_some, e1, Option.map_some], e2⟩
    · cases e
  | _ => cases e

/-! ## What changes the heap -/
def boxC (v : AV) : Option (List AV) := if v.noL = true then some v.cells else none
def stL (sz off : Nat) (v : AV) (cells : List AV) : Option (List AV) := if (v.noL && v.cells.length = sz && off + sz ≤ cells.length) = true then some (wr off v.cells cells) else none
def storeP (H : AHeap) (sz : Nat) (v : AV) : AV → Option AHeap
  | .ptr id off => match H.get id with
    | some (.row false e cells) => (stL sz off v cells).map fun cs => H.set id (.row false e cs)
    | _ => none
  | _ => none
def loadP (H : AHeap) (agg : Bool) (sz : Nat) : AV → Option AV
  | .ptr id off => H.rdAt id agg sz off
  | _ => none
def fldP (off : Nat) : AV → Option AV
  | .ptr id o => some (.ptr id (o + off))
  | _ => none
def idxP (m sz : Nat) : AV → AV → Option AV
  | .ptr id off, .int _ n => if 0 ≤ n ∧ n < m then some (.ptr id (off + n.toNat * sz)) else none
  | _, _ => none
def inN (m : Nat) : AV → Option Nat
  | .int _ n => if 0 ≤ n ∧ n < m then some n.toNat else none
  | _ => none
def clearP (H : AHeap) (sz : Nat) (zero : List AV) (id off len : Nat) : Option AHeap :=
  if len = 0 then some H else match H.get id with
  | some (.row false e cells) => if off + len * sz ≤ cells.length && zero.length = sz then some (H.set id (.row false e (wr off (zerosA zero len) cells))) else none
  | _ => none
def clearW (H : AHeap) (sz : Nat) (zero : List AV) : AV → Option AHeap
  | .nils => some H
  | .eslice .. => some H
  | .xslice .. => some H
  | .slice id off len _ => clearP H sz zero id off len
  | .oslice id off len _ _ => clearP H sz zero id off len
  | _ => none
def callN (C : CallF) (f : AV) (vs : List AV) (H : AHeap) : Option (AV × AHeap) :=
  match f with
  | .func (.func g) first captured => if g < 4294967296 then if allNoL vs = true then (C g (first ++ (vs ++ captured)) H).bind fun r => if r.1.notL = true then some r else none else none else none
  | _ => none
def nlR (o : Option (AV × AHeap)) : Option (AV × AHeap) := o.bind fun r => if r.1.notL = true then some r else none
theorem nlR_some {o : Option (AV × AHeap)} {v : AV × AHeap} (h : nlR o = some v) : o = some v ∧ v.1.notL = true := by
  unfold nlR at h
  cases o with
  | none => cases h
  | some w =>
    simp only [Option.bind_some] at h
    split at h
    · rename_i hw; cases h; exact ⟨rfl, hw⟩
    · cases h
def strV : AV → Option (List UInt8)
  | .str l => some l
  | _ => none
def mkSlV (sz bytes : Nat) (zero : List AV) (H : AHeap) : AV → AV → Option (AV × AHeap)
  | .int .i64 l, .int .i64 c => if 0 ≤ l ∧ l ≤ c ∧ c * bytes ≤ 2 ^ 47 ∧ c < 2 ^ 63 then some (.slice H.n 0 l.toNat c.toNat, H.alloc (.row false sz (zerosA zero c.toNat))) else none
  | _, _ => none

def opH (C : CallF) (s : SK) : IOp → Option (AV × AHeap)
  | .alloc false sz zero => some (.ptr s.H.n 0, s.H.alloc (.row false sz zero))
  | .box false sz x => match valO x s.env with
    | some v => (boxC v).map fun cs => (.ptr s.H.n 0, s.H.alloc (.row false sz cs))
    | none => none
  | .buildSlice sz len z ps => match partsV s.env ps with
    | some qs => (fillC qs z).map fun cs => (.slice s.H.n 0 len len, s.H.alloc (.row false sz cs))
    | none => none
  | .conv .toBytes x => match valO x s.env with
    | some v => (strV v).map fun l => (.oslice s.H.n 0 l.length l.length 1, s.H.alloc (.row false 1 (l.map fun b => .int .u8 b.toNat)))
    | none => none
  | .mkMap => some (.map s.H.n, s.H.alloc (.map [] 0))
  | .mkSlice sz bytes zero a b => match valO a s.env, valO b s.env with
    | some u, some v => mkSlV sz bytes zero s.H u v
    | _, _ => none
  | .append sz bytes a x => match valO a s.env, valO x s.env with
    | some u, some v => nlR (appendA s.H sz bytes u v)
    | _, _ => none
  | .clear sz zero x => match valO x s.env with
    | some v => (clearW s.H sz zero v).map fun H => (undefA, H)
    | none => none
  | .rangeS x => match valO x s.env with
    | some v => rangeH s.H v
    | none => none
  | .nextS x => match valO x s.env with
    | some v => nlR (nextA s.H v)
    | none => none
  | .mapUpdate t x k v => match valO x s.env, valO k s.env, valO v s.env with
    | some a, some b, some c => (updA s.H t a b c).map fun H => (undefA, H)
    | _, _, _ => none
  | .delete t x k => match valO x s.env, valO k s.env with
    | some a, some b => (delA s.H t a b).map fun H => (undefA, H)
    | _, _ => none
  | .call f args => match valO f s.env, valsO s.env args with
    | some g, some vs => callN C g vs s.H
    | _, _ => none
  | _ => none

theorem clearP_sim {st : St} {dst : Option Nat} {sz : Nat} {zero : List AV} {id off len : Nat} {H : AHeap} (e : clearP st.H sz zero id off len = some H) : clearA st sz zero id off len = some (undefA, { st with H := H }) := by
  unfold clearP at e
  unfold clearA
  split at e
  · cases e; rename_i h; rw [if_pos h]
  · rename_i h
    rw [if_neg h]
    split at e
    · rename_i e' cells hg
      rw [hg]
      simp only
      split at e
      · rename_i h2; cases e; rw [if_pos h2]
      · cases e
    · cases e
theorem opH_sim {s : SK} {st : St} (h : SimK s st) {C : CallF} (dst : Option Nat) {op : IOp} {r : AV × AHeap} (e : opH C s op = some r) : stepOp C ⟨dst, op, none⟩ st = some (({ st with H := r.2 } : St).put dst r.1) ∧ r.1.notL = true := by
  cases op with
  | alloc l sz zero =>
    cases l with
    | true => cases e
    | false => cases e; rw [st_alloc, h.H]; exact ⟨rfl, rfl⟩
  | box l sz x =>
    cases l with
    | true => cases e
    | false =>
      simp only [opH] at e
      split at e
      · rename_i v h1
        unfold boxC at e
        split at e
        · rename_i hn
          cases e
          rw [st_box, (valO_sim h h1).1, h.H]
          exact ⟨by simp only [Option.bind_some, hn, if_true], rfl⟩
        · cases e
      · cases e
  | buildSlice sz len z ps =>
    simp only [opH] at e
    split at e
    · rename_i qs h1
      rw [st_buildSlice, partsV_sim h z h1, h.H]
      cases hf : fillC qs z with
      | none => rw [hf] at e; cases e
      | some cs => rw [hf] at e; cases e; exact ⟨rfl, rfl⟩
    · cases e
  | conv c x =>
    cases c with
    | toBytes =>
      simp only [opH] at e
      split at e
      · rename_i v h1
        rw [st_convB, (valO_sim h h1).1, Option.bind_some]
        cases v <;> first | (cases e; done) | (cases e; exact ⟨by simp only [convB, h.H], rfl⟩)
      · cases e
    | _ => cases e
  | mkMap => cases e; rw [st_mkMap, h.H]; exact ⟨rfl, rfl⟩
  | mkSlice sz bytes zero a b =>
    simp only [opH] at e
    split at e
    · rename_i u v h1 h2
      rw [st_mkSlice, (valO_sim h h1).1, (valO_sim h h2).1, Option.bind_some, Option.bind_some]
      unfold mkSlV at e
      split at e
      · split at e
        · rename_i hc
          cases e
          exact ⟨by simp only [mkSl, hc, and_self, if_true, h.H], rfl⟩
        · cases e
      · cases e
    · cases e
  | append sz bytes a x =>
    simp only [opH] at e
    split at e
    · rename_i u v h1 h2
      obtain ⟨e1, e2⟩ := nlR_some e
      rw [st_append, (valO_sim h h1).1, (valO_sim h h2).1, Option.bind_some, Option.bind_some, h.H, e1]
      exact ⟨rfl, e2⟩
    · cases e
  | rangeS x =>
    simp only [opH] at e
    split at e
    · rename_i v h1
      rw [st_rangeS, (valO_sim h h1).1, Option.bind_some, h.H, e]
      refine ⟨rfl, ?_⟩
      cases v <;> first | (cases e; done) | (cases e; rfl)
    · cases e
  | nextS x =>
    simp only [opH] at e
    split at e
    · rename_i v h1
      obtain ⟨e1, e2⟩ := nlR_some e
      rw [st_nextS, (valO_sim h h1).1, Option.bind_some, h.H, e1]
      exact ⟨rfl, e2⟩
    · cases e
  | mapUpdate t x k v =>
    simp only [opH] at e
    split at e
    · rename_i a b c h1 h2 h3
      rw [st_mapUpdate, (valO_sim h h1).1, (valO_sim h h2).1, (valO_sim h h3).1, h.H]
      cases hc : updA s.H t a b c with
      | none => rw [hc] at e; cases e
      | some H' => rw [hc] at e; cases e; exact ⟨by simp only [Option.bind_some, hc, Option.map_some], rfl⟩
    · cases e
  | delete t x k =>
    simp only [opH] at e
    split at e
    · rename_i a b h1 h2
      rw [st_delete, (valO_sim h h1).1, (valO_sim h h2).1, h.H]
      cases hc : delA s.H t a b with
      | none => rw [hc] at e; cases e
      | some H' => rw [hc] at e; cases e; exact ⟨by simp only [Option.bind_some, hc, Option.map_some], rfl⟩
    · cases e
  | clear sz zero x =>
    simp only [opH] at e
    split at e
    · rename_i v h1
      rw [st_clear, (valO_sim h h1).1, Option.bind_some]
      cases hc : clearW s.H sz zero v with
      | none => rw [hc] at e; cases e
      | some H' =>
        rw [hc] at e
        cases e
        refine ⟨?_, rfl⟩
        rw [← h.H] at hc
        cases v with
        | nils => cases hc; rfl
        | eslice => cases hc; rfl
        | xslice => cases hc; rfl
        | slice id off len c => simp only [clearV, clearP_sim (dst := dst) hc, Option.map_some]
        | oslice id off len c z => simp only [clearV, clearP_sim (dst := dst) hc, Option.map_some]
        | _ => cases hc
    · cases e
  | call f args =>
    simp only [opH] at e
    split at e
    · rename_i g vs h1 h2
      rw [st_call, (valO_sim h h1).1, (valsO_sim h h2).1, Option.bind_some, Option.bind_some]
      unfold callN at e
      split at e
      · split at e
        · rename_i hg
          split at e
          · rename_i hn
            obtain ⟨r', e1, e2⟩ := opt_bind_some e
            split at e2
            · rename_i h3
              cases e2
              rw [callA_lt C dst st hg hn, h.H, e1]
              exact ⟨rfl, h3⟩
            · cases e2
          · cases e
        · cases e
      · cases e
    · cases e
  | _ => cases e

/-! ## One operation, and what comes behind it -/
def freeK (t : Nat) (env : List (Nat × Slt)) : Bool := env.all fun e => match e.2 with | .l u _ => !(u == t) || e.1 == t | _ => true
section
variable {R : Type}
def opK (C : CallF) (dst : Option Nat) (op : IOp) (s : SK) (k : SK → Option R) : Option R :=
  match op with
  | .move x => match svO x s.env with
    | some sv => k (s.put dst sv)
    | none => none
  | .nilCheck x => match svO x s.env with
    | some (.l t o) => k (s.put dst (.l t o))
    | some (.v v) => (nilC v).bind fun v => k (s.putV dst v)
    | _ => none
  | .alloc true sz zero => match dst with
    | some t => (match freeK t s.env with
      | true => k { env := (t, .l t 0) :: s.env, loc := (t, zero) :: s.loc, H := s.H }
      | false => none)
    | none => none
  | .box true sz x => match dst, valO x s.env with
    | some t, some v => (match freeK t s.env with
      | true => (boxC v).bind fun cs => k { env := (t, .l t 0) :: s.env, loc := (t, cs) :: s.loc, H := s.H }
      | false => none)
    | _, _ => none
  | .load agg sz a => match svO a s.env with
    | some (.l t off) => (match look t s.loc with
      | some cells => (nl (rd agg sz off cells)).bind fun v => k (s.putV dst v)
      | none => none)
    | some (.v p) => (nl (loadP s.H agg sz p)).bind fun v => k (s.putV dst v)
    | _ => none
  | .store sz a x => match svO a s.env, valO x s.env with
    | some (.l t off), some v => (match look t s.loc with
      | some cells => (stL sz off v cells).bind fun cs => k (({ s with loc := (t, cs) :: s.loc } : SK).putV dst undefA)
      | none => none)
    | some (.v p), some v => (storeP s.H sz v p).bind fun H => k (({ s with H := H } : SK).putV dst undefA)
    | _, _ => none
  | .fieldAddr off x => match svO x s.env with
    | some (.l t o) => k (s.put dst (.l t (o + off)))
    | some (.v p) => (fldP off p).bind fun v => k (s.putV dst v)
    | _ => none
  | .indexAddr (some m) sz x i => match svO x s.env, valO i s.env with
    | some (.l t off), some n => (inN m n).bind fun j => k (s.put dst (.l t (off + j * sz)))
    | some (.v p), some n => (idxP m sz p n).bind fun v => k (s.putV dst v)
    | _, _ => none
  | .alloc false sz zero => (opH C s (.alloc false sz zero)).bind fun r => k (({ s with H := r.2 } : SK).putV dst r.1)
  | .box false sz x => (opH C s (.box false sz x)).bind fun r => k (({ s with H := r.2 } : SK).putV dst r.1)
  | .buildSlice sz len z ps => (opH C s (.buildSlice sz len z ps)).bind fun r => k (({ s with H := r.2 } : SK).putV dst r.1)
  | .conv .toBytes x => (opH C s (.conv .toBytes x)).bind fun r => k (({ s with H := r.2 } : SK).putV dst r.1)
  | .mkMap => (opH C s .mkMap).bind fun r => k (({ s with H := r.2 } : SK).putV dst r.1)
  | .mkSlice sz bytes zero a b => (opH C s (.mkSlice sz bytes zero a b)).bind fun r => k (({ s with H := r.2 } : SK).putV dst r.1)
  | .append sz bytes a x => (opH C s (.append sz bytes a x)).bind fun r => k (({ s with H := r.2 } : SK).putV dst r.1)
  | .clear sz zero x => (opH C s (.clear sz zero x)).bind fun r => k (({ s with H := r.2 } : SK).putV dst r.1)
  | .rangeS x => (opH C s (.rangeS x)).bind fun r => k (({ s with H := r.2 } : SK).putV dst r.1)
  | .nextS x => (opH C s (.nextS x)).bind fun r => k (({ s with H := r.2 } : SK).putV dst r.1)
  | .mapUpdate t x i v => (opH C s (.mapUpdate t x i v)).bind fun r => k (({ s with H := r.2 } : SK).putV dst r.1)
  | .delete t x i => (opH C s (.delete t x i)).bind fun r => k (({ s with H := r.2 } : SK).putV dst r.1)
  | .call f args => (opH C s (.call f args)).bind fun r => k (({ s with H := r.2 } : SK).putV dst r.1)
  | op => (opV s op).bind fun v => k (s.putV dst v)

/-- A guard: both ways, the slot known from then on. -/
def guardK (g : AV) (w : Bool) (x y : Option R) : Option R :=
  match g with
  | .bool b => (match b == w with | true => x | false => y)
  | _ => none
def operK (C : CallF) (o : IOper) (s : SK) (k : SK → Option R) : Option R :=
  match o.guard with
  | none => opK C o.dst o.op s k
  | some (g, w) => match look g s.env with
    | some (.v t) => guardK t w (opK C o.dst o.op { s with env := (g, .v (.bool w)) :: s.env } k) (k (({ s with env := (g, .v (.bool !w)) :: s.env } : SK).put o.dst .u))
    | some .u => k (s.put o.dst .u)
    | _ => none
def opsK (C : CallF) : List IOper → SK → (SK → Option R) → Option R
  | [], s, k => k s
  | o :: r, s, k => operK C o s fun s' => opsK C r s' k
end

theorem OkR.bind {α β : Type} {o : Option α} {f : α → Option β} {P : β → Prop} (h : OkR (o.bind f) P) : ∃ a, o = some a ∧ OkR (f a) P := by
  obtain ⟨x, h, hp⟩ := h
  obtain ⟨a, h1, h2⟩ := opt_bind_some h
  exact ⟨a, h1, x, h2, hp⟩
theorem okR_none {α : Type} {P : α → Prop} : ¬ OkR none P := fun ⟨_, h, _⟩ => by cases h
theorem freeK_sim {s : SK} {st : St} (h : SimK s st) {t : Nat} (e : freeK t s.env = true) : freeL t st.env = true := by
  unfold freeK at e
  unfold freeL
  rw [List.all_eq_true] at e ⊢
  rintro ⟨k, v⟩ hm
  obtain ⟨sv, h1, h2⟩ := h.mem _ hm
  have := e _ h1
  simp only at h2 ⊢
  cases sv with
  | l u o => simp only [Slt.av] at h2; subst h2; exact this
  | v x =>
    simp only [Slt.av] at h2
    subst h2
    have := h.ok _ h1
    simp only [Slt.ok] at this
    cases x <;> first | rfl | (simp [AV.notL] at this)
  | u => simp only [Slt.av] at h2; subst h2; rfl
theorem SimK.newL {s : SK} {st : St} (h : SimK s st) (t : Nat) (cs : List AV) : SimK { env := (t, .l t 0) :: s.env, loc := (t, cs) :: s.loc, H := s.H } { env := (t, .lptr t 0) :: st.env, loc := (t, cs) :: st.loc, H := st.H } := by
  have := h.put (some t) (sv := .l t 0) rfl
  exact ⟨this.env, this.mem, this.ok, by simp [h.loc], h.H⟩
theorem SimK.withH {s : SK} {st : St} (h : SimK s st) (H : AHeap) : SimK { s with H := H } { st with H := H } := ⟨h.env, h.mem, h.ok, h.loc, rfl⟩
theorem SimK.withL {s : SK} {st : St} (h : SimK s st) (t : Nat) (cs : List AV) : SimK { s with loc := (t, cs) :: s.loc } { st with loc := (t, cs) :: st.loc } := ⟨h.env, h.mem, h.ok, by simp [h.loc], h.H⟩

section
variable {R : Type} {C : CallF}
theorem opK_V {s : SK} {st : St} (h : SimK s st) {dst : Option Nat} {op : IOp} {k : SK → Option R} {P : R → Prop} (e : OkR ((opV s op).bind fun v => k (s.putV dst v)) P) : ∃ st' s', stepOp C ⟨dst, op, none⟩ st = some st' ∧ SimK s' st' ∧ OkR (k s') P := by
  obtain ⟨v, e1, e2⟩ := e.bind
  obtain ⟨a, b⟩ := opV_sim h C dst e1
  exact ⟨_, _, a, h.putV dst b, e2⟩
theorem opK_H {s : SK} {st : St} (h : SimK s st) {dst : Option Nat} {op : IOp} {k : SK → Option R} {P : R → Prop} (e : OkR ((opH C s op).bind fun r => k (({ s with H := r.2 } : SK).putV dst r.1)) P) : ∃ st' s', stepOp C ⟨dst, op, none⟩ st = some st' ∧ SimK s' st' ∧ OkR (k s') P := by
  obtain ⟨v, e1, e2⟩ := e.bind
  obtain ⟨a, b⟩ := opH_sim h dst e1
  exact ⟨_, _, a, (h.withH v.2).putV dst b, e2⟩
theorem loadP_eq {s : SK} {st : St} (h : SimK s st) {agg : Bool} {sz : Nat} {p v : AV} (e : loadP s.H agg sz p = some v) : loadA st agg sz p = some v := by
  cases p with
  | ptr id off => rw [load_ptr st.env st.loc st.H, h.H]; exact e
  | _ => cases e
theorem opK_sim {s : SK} {st : St} (h : SimK s st) {dst : Option Nat} {op : IOp} {k : SK → Option R} {P : R → Prop} (e : OkR (opK C dst op s k) P) : ∃ st' s', stepOp C ⟨dst, op, none⟩ st = some st' ∧ SimK s' st' ∧ OkR (k s') P := by
  cases op with
  | move x =>
    simp only [opK] at e
    split at e
    · rename_i sv hs
      obtain ⟨a, b⟩ := svO_sim h hs
      exact ⟨_, _, by rw [st_move, a]; rfl, h.put dst b, e⟩
    · exact absurd e okR_none
  | nilCheck x =>
    simp only [opK] at e
    split at e
    · rename_i t o hs
      obtain ⟨a, b⟩ := svO_sim h hs
      exact ⟨_, _, by rw [st_nilCheck, a]; rfl, h.put dst b, e⟩
    · rename_i v hs
      obtain ⟨a, b⟩ := svO_sim h hs
      obtain ⟨w, e1, e2⟩ := e.bind
      refine ⟨_, _, by rw [st_nilCheck, a]; simp only [Slt.av, Option.bind_some, e1, Option.map_some], h.putV dst ?_, e2⟩
      have : w = v := by
        cases v with
        | func fn a b => cases fn <;> simp_all [nilC]
        | _ => simp_all [nilC]
      rw [this]; exact b
    · exact absurd e okR_none
  | alloc l sz zero =>
    cases l with
    | false => exact opK_H h e
    | true =>
      simp only [opK] at e
      split at e
      · rename_i t
        split at e
        · rename_i hf
          refine ⟨_, _, by rw [st_allocL, if_pos (freeK_sim h hf)], h.newL t zero, e⟩
        · exact absurd e okR_none
      · exact absurd e okR_none
  | box l sz x =>
    cases l with
    | false => exact opK_H h e
    | true =>
      simp only [opK] at e
      split at e
      · rename_i t v hs
        split at e
        · rename_i hf
          obtain ⟨cs, e1, e2⟩ := e.bind
          unfold boxC at e1
          split at e1
          · rename_i hn
            cases e1
            refine ⟨_, _, by rw [st_boxL, (valO_sim h hs).1, Option.bind_some, if_pos ⟨freeK_sim h hf, hn⟩], h.newL t v.cells, e2⟩
          · cases e1
        · exact absurd e okR_none
      · exact absurd e okR_none
  | load agg sz a =>
    simp only [opK] at e
    split at e
    · rename_i t off hs
      split at e
      · rename_i cells hc
        obtain ⟨v, e1, e2⟩ := e.bind
        obtain ⟨e3, e4⟩ := nl_some e1
        refine ⟨_, _, ?_, h.putV dst e4, e2⟩
        rw [st_load, (svO_sim h hs).1, Option.bind_some]
        show (loadA st agg sz (.lptr t off)).map _ = _
        rw [load_lptr st.env st.loc st.H, h.loc, hc]
        simp only [e3, Option.map_some]
      · exact absurd e okR_none
    · rename_i p hs
      obtain ⟨v, e1, e2⟩ := e.bind
      obtain ⟨e3, e4⟩ := nl_some e1
      refine ⟨_, _, ?_, h.putV dst e4, e2⟩
      rw [st_load, (svO_sim h hs).1, Option.bind_some]
      show (loadA st agg sz p).map _ = _
      rw [loadP_eq h e3, Option.map_some]
    · exact absurd e okR_none
  | store sz a x =>
    simp only [opK] at e
    split at e
    · rename_i t off v hs hv
      split at e
      · rename_i cells hc
        obtain ⟨cs, e1, e2⟩ := e.bind
        refine ⟨_, _, ?_, (h.withL t cs).putV dst rfl, e2⟩
        rw [st_store, (svO_sim h hs).1, Option.bind_some, (valO_sim h hv).1, Option.bind_some]
        show (storeA st sz v (.lptr t off)).map _ = _
        unfold stL at e1
        split at e1
        · rename_i hq
          cases e1
          simp only [storeA, h.loc, hc, hq, if_true, Option.map_some]
        · cases e1
      · exact absurd e okR_none
    · rename_i p v hs hv
      obtain ⟨H', e1, e2⟩ := e.bind
      refine ⟨_, _, ?_, (h.withH H').putV dst rfl, e2⟩
      rw [st_store, (svO_sim h hs).1, Option.bind_some, (valO_sim h hv).1, Option.bind_some]
      show (storeA st sz v p).map _ = _
      cases p with
      | ptr id off =>
        simp only [storeP] at e1
        simp only [storeA, h.H]
        split at e1
        · rename_i e' cells hg
          rw [hg]
          simp only
          unfold stL at e1
          split at e1
          · rename_i hq
            cases e1
            simp only [hq, if_true, Option.map_some]
          · cases e1
        · cases e1
      | _ => cases e1
    · exact absurd e okR_none
  | fieldAddr off x =>
    simp only [opK] at e
    split at e
    · rename_i t o hs
      refine ⟨_, _, by rw [st_fieldAddr, (svO_sim h hs).1]; rfl, h.put dst (sv := .l t (o + off)) rfl, e⟩
    · rename_i p hs
      obtain ⟨v, e1, e2⟩ := e.bind
      cases p with
      | ptr id o =>
        cases e1
        exact ⟨_, _, by rw [st_fieldAddr, (svO_sim h hs).1]; rfl, h.putV dst rfl, e2⟩
      | _ => cases e1
    · exact absurd e okR_none
  | indexAddr m sz x i =>
    cases m with
    | none => exact opK_V h e
    | some m =>
      simp only [opK] at e
      split at e
      · rename_i t off n hs hn
        obtain ⟨j, e1, e2⟩ := e.bind
        cases n with
        | int k' z =>
          simp only [inN] at e1
          split at e1
          · rename_i hz
            cases e1
            refine ⟨_, _, ?_, h.put dst (sv := .l t (off + z.toNat * sz)) rfl, e2⟩
            rw [st_idxArr, (svO_sim h hs).1, (valO_sim h hn).1]
            simp only [Option.bind_some, Slt.av, idxArr, hz, and_self, if_true, Option.map_some]
          · cases e1
        | _ => cases e1
      · rename_i p n hs hn
        obtain ⟨v, e1, e2⟩ := e.bind
        unfold idxP at e1
        split at e1
        · split at e1
          · rename_i hz
            cases e1
            refine ⟨_, _, ?_, h.putV dst rfl, e2⟩
            rw [st_idxArr, (svO_sim h hs).1, (valO_sim h hn).1]
            simp only [Option.bind_some, Slt.av, idxArr, hz, and_self, if_true, Option.map_some]
          · cases e1
        · cases e1
      · exact absurd e okR_none
  | conv c x =>
    cases c with
    | toBytes => exact opK_H h e
    | _ => exact opK_V h e
  | buildSlice sz len z ps => exact opK_H h e
  | mkMap => exact opK_H h e
  | mkSlice sz bytes zero a b => exact opK_H h e
  | append sz bytes a x => exact opK_H h e
  | clear sz zero x => exact opK_H h e
  | rangeS x => exact opK_H h e
  | nextS x => exact opK_H h e
  | mapUpdate t x i v => exact opK_H h e
  | delete t x i => exact opK_H h e
  | lookup t ok z x i => exact opK_V h e
  | call f args => exact opK_H h e
  | pick c a b => exact opK_V h e
  | build z ps => exact opK_V h e
  | bin op t x y => exact opK_V h e
  | un op x => exact opK_V h e
  | mkIface t x => exact opK_V h e
  | mkFunc fn a b => exact opK_V h e
  | slice k x lo hi mx => exact opK_V h e
  | field agg sz off x => exact opK_V h e
  | index m x i => exact opK_V h e
  | extract x i => exact opK_V h e
  | len k x => exact opK_V h e
  | maxs x r => exact opK_V h e
  | mins x r => exact opK_V h e
  | bad => exact opK_V h e
  | appendZ | rangeM | nextM | entryM | mapEntry | entryStore | capS | copy | ptrEq | isNilI | defer => exact opK_V h e

theorem SimK.again {s : SK} {st : St} (h : SimK s st) {g : Nat} {v : AV} (e : look g s.env = some (.v v)) : SimK { s with env := (g, .v v) :: s.env } st := by
  refine ⟨fun k => ?_, fun x hx => ?_, fun x hx => ?_, h.loc, h.H⟩
  · simp only [look]
    split
    · rename_i hk; subst hk; rw [h.env, e]
    · exact h.env k
  · obtain ⟨sv, h1, h2⟩ := h.mem x hx
    exact ⟨sv, by simp [h1], h2⟩
  · simp only [List.mem_cons] at hx
    rcases hx with rfl | hx
    · exact h.ok _ (look_mem e)
    · exact h.ok _ hx
theorem operK_sim {s : SK} {st : St} (h : SimK s st) {o : IOper} {k : SK → Option R} {P : R → Prop} (e : OkR (operK C o s k) P) : ∃ st' s', stepOp C o st = some st' ∧ SimK s' st' ∧ OkR (k s') P := by
  obtain ⟨dst, op, g⟩ := o
  cases g with
  | none => exact opK_sim h e
  | some gw =>
    obtain ⟨g, w⟩ := gw
    simp only [operK] at e
    split at e
    · rename_i t hg
      unfold guardK at e
      split at e
      · rename_i b
        have hl : look g st.env = some (.bool b) := by rw [h.env, hg]; rfl
        split at e
        · rename_i hb
          have hb' : b = w := by simpa using hb
          subst hb'
          obtain ⟨st', s', e1, e2, e3⟩ := opK_sim (h.again hg) e
          exact ⟨st', s', by rw [st_guard, hl]; simp only [guardB, if_true, e1], e2, e3⟩
        · rename_i hb
          have hb' : b = !w := by cases b <;> cases w <;> simp_all
          subst hb'
          exact ⟨_, _, by rw [st_guard, hl]; simp only [guardB]; rw [if_neg (by cases w <;> simp)]; rfl, (h.again hg).put dst (sv := .u) rfl, e⟩
      · exact absurd e okR_none
    · rename_i hg
      have hl : look g st.env = some undefA := by rw [h.env, hg]; rfl
      exact ⟨_, _, by rw [st_guard, hl]; rfl, h.put dst (sv := .u) rfl, e⟩
    · exact absurd e okR_none
end
section
variable {R : Type} {T : FuncId → Option FnDef}
theorem opsK_sim : ∀ {os : List IOper} {s : SK} {st : St} (h : SimK s st) {k : SK → Option R} {P : R → Prop} (e : OkR (opsK (call T) os s k) P), ∃ st' s', sops T os st = some st' ∧ SimK s' st' ∧ OkR (k s') P
  | [], s, st, h, k, P, e => ⟨st, s, sops_nil st, h, e⟩
  | o :: os, s, st, h, k, P, e => by
    obtain ⟨st1, s1, e1, h1, e2⟩ := operK_sim h e
    obtain ⟨st2, s2, e3, h2, e4⟩ := opsK_sim h1 e2
    exact ⟨st2, s2, by rw [sops_cons, e1, Option.bind_some, e3], h2, e4⟩
end

/-! ## Regions that draw their order -/
section
variable {R : Type}
def kB (b : Bool) (x : Option R) : Option R :=
  match b with
  | true => x
  | false => none
theorem okR_kB {b : Bool} {x : Option R} {P : R → Prop} (h : OkR (kB b x) P) : b = true ∧ OkR x P := by
  cases b with
  | true => exact ⟨rfl, h⟩
  | false => exact absurd h okR_none
def operDK (C : CallF) (o : IOper) (s : SK) (k : Bool → SK → Option R) : Option R :=
  match o.guard with
  | none => opK C o.dst o.op s (k true)
  | some (g, w) => match look g s.env with
    | some (.v t) => guardK t w (opK C o.dst o.op { s with env := (g, .v (.bool w)) :: s.env } (k true)) (k false (({ s with env := (g, .v (.bool !w)) :: s.env } : SK).put o.dst .u))
    | some .u => k false (s.put o.dst .u)
    | _ => none
def readK (o : IOper) (s s' : SK) : Bool :=
  match isRead o.op, o.dst with
  | true, some d => (match look d s'.env with
    | some sv => sv.av.okB s.H.n
    | none => true)
  | _, _ => true
def opsDK (C : CallF) : List IOper → SK → List (SK × Bool) → (List (SK × Bool) → SK → Option R) → Option R
  | [], s, acc, k => k acc s
  | o :: r, s, acc, k => operDK C o s fun f s' => kB (readK o s s') (opsDK C r s' ((s, f) :: acc) k)
def opRd (s m : SK) : IOp → Option AV
  | .load agg sz a => match svO a s.env with
    | some (.l t off) => (match look t m.loc with
      | some cells => rd agg sz off cells
      | none => none)
    | some (.v p) => loadP m.H agg sz p
    | _ => none
  | .len .map x => match valO x s.env with
    | some v => lenMap m.H v
    | none => none
  | .conv .ofBytes x => match valO x s.env with
    | some v => (bytesA m.H v).map .str
    | none => none
  | .lookup t ok z x i => match valO x s.env, valO i s.env with
    | some u, some v => lookupA m.H t ok z u v
    | _, _ => none
  | _ => none
def chk (o : Option AV) (v : AV) : Bool :=
  match o with
  | some w => AV.beq w v
  | none => false
def checkK (os : List IOper) (tr : List (SK × Bool)) (i p : Nat) : Bool :=
  match os[i]?, tr[i]?, tr[p]?, tr[i + 1]? with
  | some o, some (s, f), some (m, _), some (s', _) => (match f, o.dst with
    | true, some d => (match look d s'.env with
      | some (.v v) => chk (opRd s m o.op) v
      | _ => false)
    | true, none => false
    | false, _ => true)
  | _, _, _, _ => false
def checksK (os : List IOper) (tr : List (SK × Bool)) (x : Option R) : List (Nat × Nat) → Option R
  | [] => x
  | (i, p) :: r => kB (checkK os tr i p) (checksK os tr x r)
def freshK (os : List IOper) (s : SK) : Bool := os.all fun o =>
  match o.op, o.dst with
  | .alloc true _ _, some t => (look t s.loc).isNone && s.env.all fun e => match e.2 with | .l u _ => !(u == t) | _ => true
  | .box true _ _, some t => (look t s.loc).isNone && s.env.all fun e => match e.2 with | .l u _ => !(u == t) | _ => true
  | _, _ => true
end
section
variable {R : Type} {T : FuncId → Option FnDef} {C : CallF}
theorem operDK_sim {s : SK} {st : St} (h : SimK s st) {o : IOper} {k : Bool → SK → Option R} {P : R → Prop} (e : OkR (operDK C o s k) P) : ∃ st' s' f, stepOp C o st = some st' ∧ wantedA st o.guard = some f ∧ SimK s' st' ∧ OkR (k f s') P := by
  obtain ⟨dst, op, g⟩ := o
  cases g with
  | none =>
    obtain ⟨st', s', e1, e2, e3⟩ := opK_sim h e
    exact ⟨st', s', true, e1, rfl, e2, e3⟩
  | some gw =>
    obtain ⟨g, w⟩ := gw
    simp only [operDK] at e
    split at e
    · rename_i t hg
      unfold guardK at e
      split at e
      · rename_i b
        have hl : look g st.env = some (.bool b) := by rw [h.env, hg]; rfl
        split at e
        · rename_i hb
          have hb' : b = w := by simpa using hb
          subst hb'
          obtain ⟨st', s', e1, e2, e3⟩ := opK_sim (h.again hg) e
          exact ⟨st', s', true, by rw [st_guard, hl]; simp only [guardB, if_true, e1], by simp [wantedA, hl], e2, e3⟩
        · rename_i hb
          have hb' : b = !w := by cases b <;> cases w <;> simp_all
          subst hb'
          exact ⟨_, _, false, by rw [st_guard, hl]; simp only [guardB]; rw [if_neg (by cases w <;> simp)]; rfl, by simp [wantedA, hl], (h.again hg).put dst (sv := .u) rfl, e⟩
      · exact absurd e okR_none
    · rename_i hg
      have hl : look g st.env = some undefA := by rw [h.env, hg]; rfl
      exact ⟨_, _, false, by rw [st_guard, hl]; rfl, by simp [wantedA, hl, undefA], h.put dst (sv := .u) rfl, e⟩
    · exact absurd e okR_none
theorem readK_sim {o : IOper} {s s' : SK} {st st' : St} (h : SimK s st) (h' : SimK s' st') (e : readK o s s' = true) : readOk o st st' = true := by
  unfold readK at e
  unfold readOk
  cases hr : isRead o.op with
  | false => rfl
  | true =>
    cases hd : o.dst with
    | none => rfl
    | some d =>
      rw [hr, hd] at e
      simp only [Bool.not_true, Bool.false_or, Option.bind_some, h'.env d, h.H]
      simp only at e
      cases hl : look d s'.env with
      | none => rfl
      | some sv => rw [hl] at e; exact e
theorem opsDK_sim : ∀ (os : List IOper) {s : SK} {st : St} (h : SimK s st) {acc : List (SK × Bool)} {k : List (SK × Bool) → SK → Option R} {P : R → Prop} (e : OkR (opsDK (call T) os s acc k) P),
    ∃ (st' : St) (s' : SK) (tk : List (SK × Bool)) (tr : List St), traceT T os st = some (tr ++ [st']) ∧ readsOk os (tr ++ [st']) = true ∧ SimK s' st' ∧ tk.length = os.length ∧ tr.length = os.length ∧
      (∀ (i : Nat) (sk : SK) (f : Bool), tk[i]? = some (sk, f) → ∃ (sti : St) (o : IOper), tr[i]? = some sti ∧ os[i]? = some o ∧ SimK sk sti ∧ wantedA sti o.guard = some f) ∧ OkR (k (tk.reverse ++ acc) s') P
  | [], s, st, h, acc, k, P, e => ⟨st, s, [], [], by rw [trace_nil]; rfl, rfl, h, rfl, rfl, by simp, e⟩
  | o :: os, s, st, h, acc, k, P, e => by
    obtain ⟨st1, s1, f, e1, ew, h1, e2⟩ := operDK_sim h e
    obtain ⟨er, e3⟩ := okR_kB e2
    obtain ⟨st', s', tk, tr, a1, a2, a3, a4, a4', a5, a6⟩ := opsDK_sim os h1 e3
    obtain ⟨r, hr⟩ := trace_head os st1 (tr ++ [st']) a1
    refine ⟨st', s', (s, f) :: tk, st :: tr, ?_, ?_, a3, by simp [a4], by simp [a4'], ?_, by simpa using a6⟩
    · rw [trace_cons, e1, Option.bind_some, a1]; rfl
    · rw [List.cons_append, hr, readsOk_cons, readK_sim h h1 er, Bool.true_and, ← hr, a2]
    · intro i sk g hi
      cases i with
      | zero => simp only [List.getElem?_cons_zero, Option.some.injEq, Prod.mk.injEq] at hi; obtain ⟨rfl, rfl⟩ := hi; exact ⟨st, o, rfl, rfl, h, ew⟩
      | succ i => simp only [List.getElem?_cons_succ] at hi ⊢; exact a5 i sk g hi
theorem freshK_sim {s : SK} {st : St} (h : SimK s st) {os : List IOper} (e : freshK os s = true) : freshD os st = true := by
  unfold freshK at e
  unfold freshD
  rw [List.all_eq_true] at e ⊢
  intro o ho
  have := e o ho
  have key : ∀ t : Nat, ((look t s.loc).isNone && s.env.all fun e => match e.2 with | .l u _ => !(u == t) | _ => true) = true → ((look t st.loc).isNone && st.env.all fun x => match x.2 with | .lptr u _ => !(u == t) | _ => true) = true := by
    intro t ht
    simp only [Bool.and_eq_true, List.all_eq_true] at ht ⊢
    refine ⟨by rw [h.loc]; exact ht.1, ?_⟩
    rintro ⟨k, v⟩ hm
    obtain ⟨sv, h1, h2⟩ := h.mem _ hm
    have h3 := ht.2 _ h1
    simp only at h2 ⊢
    cases sv with
    | l u o => simp only [Slt.av] at h2; subst h2; exact h3
    | v x =>
      simp only [Slt.av] at h2
      subst h2
      have h4 := h.ok _ h1
      simp only [Slt.ok] at h4
      cases x <;> first | rfl | (simp [AV.notL] at h4)
    | u => simp only [Slt.av] at h2; subst h2; rfl
  cases hop : o.op with
  | alloc l sz z =>
    cases l with
    | false => rfl
    | true =>
      cases hd : o.dst with
      | none => rfl
      | some t => rw [hop, hd] at this; exact key t this
  | box l sz z =>
    cases l with
    | false => rfl
    | true =>
      cases hd : o.dst with
      | none => rfl
      | some t => rw [hop, hd] at this; exact key t this
  | _ => rfl
theorem opRd_sim {s m : SK} {st mt : St} (h : SimK s st) (hm : SimK m mt) {dst : Option Nat} {op : IOp} {v : AV} (e : opRd s m op = some v) : ∃ s', evOp dst { st with loc := mt.loc, H := mt.H } op = some (v, s') := by
  cases op with
  | load agg sz a =>
    simp only [opRd] at e
    rw [ev_load]
    split at e
    · rename_i t off hs
      rw [(svO_sim h hs).1, Option.bind_some]
      split at e
      · rename_i cells hc
        simp only [Slt.av, load_lptr, hm.loc, hc, e, Option.map_some]
        exact ⟨_, rfl⟩
      · cases e
    · rename_i p hs
      rw [(svO_sim h hs).1, Option.bind_some]
      simp only [Slt.av]
      cases p with
      | ptr id off =>
        rw [load_ptr, hm.H]
        simp only [loadP] at e
        rw [e]; exact ⟨_, rfl⟩
      | _ => cases e
    · cases e
  | len k x =>
    cases k with
    | map =>
      simp only [opRd] at e
      split at e
      · rename_i u hs
        simp only [evOp, (valO_sim h hs).1]
        unfold lenMap at e
        split at e
        · cases e; exact ⟨_, rfl⟩
        · split at e
          · rename_i es hg
            cases e
            simp only [hm.H, hg]; exact ⟨_, rfl⟩
          · cases e
        · cases e
      · cases e
    | _ => cases e
  | conv c x =>
    cases c with
    | ofBytes =>
      simp only [opRd] at e
      split at e
      · rename_i u h1
        cases hb : bytesA m.H u with
        | none => rw [hb] at e; cases e
        | some l => rw [hb] at e; cases e; simp only [evOp, (valO_sim h h1).1, hm.H, hb, Option.map_some]; exact ⟨_, rfl⟩
      · cases e
    | _ => cases e
  | lookup t ok z x i =>
    simp only [opRd] at e
    split at e
    · rename_i u v h1 h2
      simp only [evOp, (valO_sim h h1).1, (valO_sim h h2).1, hm.H, e]
      exact ⟨_, rfl⟩
    · cases e
  | _ => cases e
theorem checksK_all {os : List IOper} {tr : List (SK × Bool)} {x : Option R} {P : R → Prop} : ∀ {cs : List (Nat × Nat)}, OkR (checksK os tr x cs) P → (∀ c ∈ cs, checkK os tr c.1 c.2 = true) ∧ OkR x P
  | [], h => ⟨by simp, h⟩
  | (i, p) :: r, h => by
    obtain ⟨h1, h2⟩ := okR_kB h
    obtain ⟨h3, h4⟩ := checksK_all h2
    exact ⟨by simpa using ⟨h1, fun a b hc => h3 (a, b) hc⟩, h4⟩
end

theorem den_regionDK {T : FuncId → Option FnDef} {R : Type} {os : List IOper} {cs : List (Nat × Nat)} {s : SK} {st : St} (h : SimK s st) (hf : freshK os s = true) {k : SK → Option R} {P : R → Prop}
    (e : OkR (opsDK (call T) os s [] fun acc s' => checksK os ((s', true) :: acc).reverse (k s') cs) P) : ∃ st' s', den T (.regionD os cs) st = some (.normal, st') ∧ SimK s' st' ∧ OkR (k s') P := by
  obtain ⟨st', s', tk, tr, a1, a2, a3, a4, a4', a5, a6⟩ := opsDK_sim os h e
  rw [List.append_nil, List.reverse_cons, List.reverse_reverse] at a6
  obtain ⟨b1, b2⟩ := checksK_all a6
  refine ⟨st', s', ?_, a3, b2⟩
  rw [den_regionD, a1, Option.bind_some, if_pos, List.getLast?_append]
  · rfl
  · simp only [drawCond, freshK_sim h hf, a2, Bool.true_and, List.all_eq_true]
    rintro ⟨i, p⟩ hc
    have := b1 _ hc
    simp only [checkK] at this
    split at this
    · rename_i o s1 f m f2 s2 f3 ho h1 hp h2
      have get : ∀ i sk f, (tk ++ [(s', true)])[i]? = some (sk, f) → ∃ sti, (tr ++ [st'])[i]? = some sti ∧ SimK sk sti ∧ (i < tk.length → ∃ o : IOper, os[i]? = some o ∧ wantedA sti o.guard = some f) := by
        intro i sk f hi
        by_cases hlt : i < tk.length
        · rw [List.getElem?_append_left hlt] at hi
          obtain ⟨sti, o, c1, c2, c3, c4⟩ := a5 i sk f hi
          exact ⟨sti, by rw [List.getElem?_append_left (by omega)]; exact c1, c3, fun _ => ⟨o, c2, c4⟩⟩
        · rw [List.getElem?_append_right (by omega)] at hi
          have : i - tk.length = 0 := by
            have := (List.getElem?_eq_some_iff.1 hi).1
            simp at this; omega
          rw [this] at hi
          simp only [List.getElem?_cons_zero, Option.some.injEq, Prod.mk.injEq] at hi
          obtain ⟨rfl, rfl⟩ := hi
          refine ⟨st', by rw [List.getElem?_append_right (by omega)]; rw [show i - tr.length = 0 by omega]; rfl, a3, fun hc => by omega⟩
      have hi : i < tk.length := by have := (List.getElem?_eq_some_iff.1 ho).1; omega
      obtain ⟨st1, c1, c2, c3⟩ := get _ _ _ h1
      obtain ⟨mt, d1, d2, _⟩ := get _ _ _ hp
      obtain ⟨st2, e1, e2, _⟩ := get _ _ _ h2
      obtain ⟨o', o1, o2⟩ := c3 hi
      rw [ho] at o1; cases o1
      simp only [checkAt, ho, c1, d1, e1, o2]
      split at this
      · rename_i d hd
        split at this
        · rename_i v hv
          unfold chk at this
          split at this
          · rename_i w hw
            obtain ⟨sx, hx⟩ := opRd_sim c2 d2 (dst := o.dst) hw
            rw [hd] at hx
            simp only [hd, hx, Option.bind_some, e2.env d, hv, Option.map_some, Slt.av]
            exact this
          · cases this
        · cases this
      · cases this
      · rfl
    · cases this

/-! ## Code -/
def SK.toSt (s : SK) : St := { env := s.env.map fun e => (e.1, e.2.av), loc := s.loc, H := s.H }
def ofAV : AV → Slt
  | .lptr t o => .l t o
  | v => .v v
theorem ofAV_av (v : AV) : (ofAV v).av = v := by cases v <;> rfl
theorem ofAV_ok (v : AV) : (ofAV v).ok = true := by cases v <;> rfl
theorem ofAV_v {v : AV} (h : v.notL = true) : ofAV v = .v v := by cases v <;> first | rfl | (simp [AV.notL] at h)
def ofSt (s : St) : SK := { env := s.env.map fun e => (e.1, ofAV e.2), loc := s.loc, H := s.H }
def prK (ks ls : List Nat) (s : SK) : SK := { env := prune ks s.env, loc := prune ls s.loc, H := s.H }
theorem look_map {α β : Type} (f : α → β) (k : Nat) : ∀ l : List (Nat × α), look k (l.map fun e => (e.1, f e.2)) = (look k l).map f
  | [] => rfl
  | (j, w) :: r => by
    simp only [List.map_cons, look]
    split
    · rfl
    · exact look_map f k r
theorem prune_map {α β : Type} (f : α → β) (ks : List Nat) {l : List (Nat × α)} {m : List (Nat × β)} (h : ∀ k, look k m = (look k l).map f) : prune ks m = (prune ks l).map fun e => (e.1, f e.2) := by
  unfold prune
  induction ks with
  | nil => rfl
  | cons k ks ih =>
    simp only [List.filterMap_cons, h k]
    cases look k l with
    | none => exact ih
    | some v => simp only [Option.map_some, List.map_cons, ih]
theorem ofSt_sim (st : St) : SimK (ofSt st) st := by
  refine ⟨fun k => ?_, fun e he => ⟨ofAV e.2, ?_, ofAV_av _⟩, fun e he => ?_, rfl, rfl⟩
  · simp only [ofSt, look_map, Option.map_map]
    have : (Slt.av ∘ ofAV) = id := funext ofAV_av
    rw [this]; simp
  · simp only [ofSt, List.mem_map]
    exact ⟨e, he, rfl⟩
  · simp only [ofSt, List.mem_map] at he
    obtain ⟨e', _, rfl⟩ := he
    exact ofAV_ok _
theorem mem_prune {α : Type} {ks : List Nat} {l : List (Nat × α)} {e : Nat × α} (h : e ∈ prune ks l) : look e.1 l = some e.2 := by
  unfold prune at h
  simp only [List.mem_filterMap] at h
  obtain ⟨k, _, h⟩ := h
  cases hl : look k l with
  | none => rw [hl] at h; cases h
  | some v => rw [hl] at h; cases h; exact hl
theorem prK_st {s : SK} {st : St} (h : SimK s st) (ks ls : List Nat) : prS ks ls st = (prK ks ls s).toSt := by
  simp only [prS, prK, SK.toSt, h.loc, h.H, prune_map Slt.av ks h.env]
theorem toSt_sim {s : SK} (h : ∀ e ∈ s.env, e.2.ok = true) : SimK s s.toSt := by
  refine ⟨fun k => by simp only [SK.toSt, look_map], fun e he => ?_, h, rfl, rfl⟩
  simp only [SK.toSt, List.mem_map] at he
  obtain ⟨e', h1, rfl⟩ := he
  exact ⟨e'.2, h1, rfl⟩
theorem prK_sim {s : SK} {st : St} (h : SimK s st) (ks ls : List Nat) : SimK (prK ks ls s) (prS ks ls st) := by
  rw [prK_st h]
  refine toSt_sim fun e he => ?_
  exact h.ok _ (look_mem (mem_prune he))

section
variable {R : Type}
def condK (v : AV) (x y : Option R) : Option R :=
  match v with
  | .bool true => x
  | .bool false => y
  | _ => none
noncomputable def evK (C : CallF) (D : IC → St → Option (AExit × St)) : IC → SK → (AExit → SK → Option R) → Option R
  | .skip, s, k => k .normal s
  | .region os, s, k => opsK C os s (k .normal)
  | .regionD os cs, s, k => (match freshK os s with
    | true => opsDK C os s [] fun acc s' => checksK os ((s', true) :: acc).reverse (k .normal s') cs
    | false => none)
  | .seq a b, s, k => evK C D a s fun x s' => (match x with
    | .normal => evK C D b s' k
    | .exit j => k (.exit j) s'
    | .ret => k .ret s')
  | .cond c a b, s, k => (match valO c s.env with
    | some v => condK v (evK C D a s k) (evK C D b s k)
    | none => none)
  | .block id b, s, k => evK C D b s fun x s' => (match x with
    | .normal => k .normal s'
    | .exit j => (match Nat.beq j id with
      | true => k .normal s'
      | false => k (.exit j) s')
    | .ret => k .ret s')
  | .loop (.keep ks ls b), s, k => (D (.loop (.keep ks ls b)) (prK ks ls s).toSt).bind fun r => k r.1 (ofSt r.2)
  | .loop _, _, _ => none
  | .exit id, s, k => k (.exit id) s
  | .ret, s, k => k .ret s
  | .rangeF .., _, _ => none
  | .mapR .., _, _ => none
  | .stuck, _, _ => none
  | .keep ks ls c, s, k => evK C D c (prK ks ls s) k
end
section
variable {T : FuncId → Option FnDef} {R : Type}
theorem den_loop_pr (ks ls : List Nat) (b : IC) (st : St) : den T (.loop (.keep ks ls b)) (prS ks ls st) = den T (.loop (.keep ks ls b)) st := by
  have idem : ∀ {α : Type} (ks : List Nat) (l : List (Nat × α)), prune ks (prune ks l) = prune ks l := by
    intro α ks l
    have key : ∀ (ks' : List Nat), (∀ k ∈ ks', k ∈ ks) → prune ks' (prune ks l) = prune ks' l := by
      intro ks'
      induction ks' with
      | nil => intro _; rfl
      | cons k ks' ih =>
        intro hk
        have h1 : look k (prune ks l) = look k l := by
          have : ∀ ks : List Nat, k ∈ ks → look k (prune ks l) = look k l := by
            intro ks
            induction ks with
            | nil => intro h; cases h
            | cons j js ihj =>
              intro h
              simp only [prune, List.filterMap_cons]
              cases hl : look j l with
              | none =>
                simp only [Option.map_none]
                by_cases hjk : k = j
                · subst hjk
                  rw [hl]
                  cases hx : look k (List.filterMap (fun k => Option.map (fun v => (k, v)) (look k l)) js) with
                  | none => rfl
                  | some v => have := mem_prune (ks := js) (look_mem hx); rw [hl] at this; cases this
                · exact ihj (by rcases List.mem_cons.1 h with h | h; exact absurd h hjk; exact h)
              | some v =>
                simp only [Option.map_some, look]
                split
                · rename_i e; subst e; exact hl.symm
                · rename_i e; exact ihj (by rcases List.mem_cons.1 h with h | h; exact absurd h.symm e; exact h)
          exact this ks (hk k (by simp))
        have h2 := ih fun j hj => hk j (by simp [hj])
        simp only [prune, List.filterMap_cons] at h2 ⊢
        simp only [prune] at h1
        rw [h1, h2]
    exact key ks fun _ h => h
  rw [den_loop, den_loop, den_keep, den_keep]
  simp only [prS, idem]
theorem evK_sim : ∀ (ic : IC) {s : SK} {st : St} (h : SimK s st) {k : AExit → SK → Option R} {P : R → Prop} (e : OkR (evK (call T) (den T) ic s k) P), ∃ x st' s', den T ic st = some (x, st') ∧ SimK s' st' ∧ OkR (k x s') P := by
  intro ic
  induction ic with
  | skip => intro s st h k P e; exact ⟨_, _, _, den_skip st, h, e⟩
  | region os =>
    intro s st h k P e
    obtain ⟨st', s', e1, h1, e2⟩ := opsK_sim h e
    exact ⟨_, _, _, by rw [den_region, e1]; rfl, h1, e2⟩
  | regionD os cs =>
    intro s st h k P e
    simp only [evK] at e
    split at e
    · rename_i hf
      obtain ⟨st', s', e1, h1, e2⟩ := den_regionDK h hf e
      exact ⟨_, _, _, e1, h1, e2⟩
    · exact absurd e okR_none
  | seq a b iha ihb =>
    intro s st h k P e
    obtain ⟨x, st', s', e1, h1, e2⟩ := iha h e
    cases x with
    | normal =>
      obtain ⟨x, st2, s2, e3, h2, e4⟩ := ihb h1 e2
      exact ⟨_, _, _, by rw [den_seq, e1, Option.bind_some]; exact e3, h2, e4⟩
    | exit j => exact ⟨_, _, _, by rw [den_seq, e1, Option.bind_some]; rfl, h1, e2⟩
    | ret => exact ⟨_, _, _, by rw [den_seq, e1, Option.bind_some]; rfl, h1, e2⟩
  | cond c a b iha ihb =>
    intro s st h k P e
    simp only [evK] at e
    split at e
    · rename_i v hv
      unfold condK at e
      split at e
      · obtain ⟨x, st', s', e1, h1, e2⟩ := iha h e
        exact ⟨_, _, _, by rw [den_cond, (valO_sim h hv).1]; exact e1, h1, e2⟩
      · obtain ⟨x, st', s', e1, h1, e2⟩ := ihb h e
        exact ⟨_, _, _, by rw [den_cond, (valO_sim h hv).1]; exact e1, h1, e2⟩
      · exact absurd e okR_none
    · exact absurd e okR_none
  | block id b ih =>
    intro s st h k P e
    obtain ⟨x, st', s', e1, h1, e2⟩ := ih h e
    cases x with
    | normal => exact ⟨_, _, _, by rw [den_block, e1]; rfl, h1, e2⟩
    | exit j =>
      simp only at e2
      split at e2
      · rename_i hj
        have := Nat.eq_of_beq_eq_true hj
        subst this
        exact ⟨_, _, _, by rw [den_block, e1]; simp only [Option.map_some, outBlock, if_true], h1, e2⟩
      · rename_i hj
        exact ⟨_, _, _, by rw [den_block, e1]; simp only [Option.map_some, outBlock]; rw [if_neg (fun hc => by rw [hc, Nat.beq_refl] at hj; cases hj)], h1, e2⟩
    | ret => exact ⟨_, _, _, by rw [den_block, e1]; rfl, h1, e2⟩
  | loop b ih =>
    intro s st h k P e
    cases b with
    | keep ks ls b =>
      obtain ⟨r, e1, e2⟩ := OkR.bind e
      rw [← prK_st h, den_loop_pr] at e1
      exact ⟨r.1, r.2, _, e1, ofSt_sim r.2, e2⟩
    | _ => exact absurd e okR_none
  | rangeF | mapR | stuck => intro s st h k P e; exact absurd e okR_none
  | exit id => intro s st h k P e; exact ⟨_, _, _, den_exit id st, h, e⟩
  | ret => intro s st h k P e; exact ⟨_, _, _, den_ret st, h, e⟩
  | keep ks ls c ih =>
    intro s st h k P e
    obtain ⟨x, st', s', e1, h1, e2⟩ := ih (prK_sim h ks ls) e
    exact ⟨_, _, _, by rw [den_keep]; exact e1, h1, e2⟩

/-! ## Calls -/
def rvK (s : SK) : RV → Option AV
  | .tmp t => (match look t s.env with
    | some (.v v) => some v
    | _ => none)
  | .cell t agg sz => (match look t s.env with
    | some (.l u off) => (match look u s.loc with
      | some cells => rd agg sz off cells
      | none => none)
    | some (.v p) => loadP s.H agg sz p
    | _ => none)
def rvsK (s : SK) : List RV → Option (List AV)
  | [] => some []
  | x :: r => (rvK s x).bind fun v => (rvsK s r).bind fun vs => some (v :: vs)
def leaveK (rs : List RV) (H0 : AHeap) (x : AExit) (s : SK) : Option (AV × AHeap) :=
  match x with
  | .exit _ => none
  | _ => (rvsK s rs).bind fun vs => if allNoL vs = true then some (packA vs, fin H0 (packA vs) s.H) else none
def enterK (args : List AV) (H : AHeap) : SK := { env := zipI 0 (args) |>.map fun e => (e.1, .v e.2), loc := [], H := H.top }
theorem rvK_sim {s : SK} {st : St} (h : SimK s st) {r : RV} {v : AV} (e : rvK s r = some v) : r.ev st = some v := by
  cases r with
  | tmp t =>
    simp only [rvK] at e
    simp only [RV.ev, h.env]
    split at e
    · rename_i w hw; cases e; rw [hw]; rfl
    · cases e
  | cell t agg sz =>
    simp only [rvK] at e
    simp only [RV.ev, h.env]
    split at e
    · rename_i u off hu
      rw [hu]
      split at e
      · rename_i cells hc
        simp only [Option.map_some, Slt.av]
        rw [load_lptr st.env st.loc st.H, h.loc, hc]; exact e
      · cases e
    · rename_i p hp
      rw [hp]
      simp only [Option.map_some, Slt.av]
      exact loadP_eq h e
    · cases e
theorem rvsK_sim {s : SK} {st : St} (h : SimK s st) : ∀ {rs : List RV} {vs : List AV}, rvsK s rs = some vs → rvs st rs = some vs
  | [], vs, e => by cases e; rfl
  | r :: rs, vs, e => by
    obtain ⟨v, h1, e⟩ := opt_bind_some e
    obtain ⟨ws, h2, e⟩ := opt_bind_some e
    cases e
    simp only [rvs, rvK_sim h h1, rvsK_sim h h2]
theorem enterK_sim {args : List AV} {H : AHeap} (hn : args.all AV.notL = true) : SimK (enterK args H) (enterA args H) := by
  have : enterA args H = (enterK args H).toSt := by
    simp only [enterA, enterK, SK.toSt, List.map_map]
    congr 1
    rw [List.map_congr_left (g := id)]
    · simp
    · intro e _; rfl
  rw [this]
  refine toSt_sim fun e he => ?_
  simp only [enterK, List.mem_map] at he
  obtain ⟨⟨i, v⟩, h1, rfl⟩ := he
  have : ∀ (i : Nat) (args : List AV), (∀ v ∈ args, v.notL = true) → ∀ e ∈ zipI i args, e.2.notL = true := by
    intro i args
    induction args generalizing i with
    | nil => intro _ e he; cases he
    | cons a as ih =>
      intro ha e he
      simp only [zipI, List.mem_cons] at he
      rcases he with rfl | he
      · exact ha _ (by simp)
      · exact ih (i + 1) (fun v hv => ha v (by simp [hv])) e he
  exact this 0 args (by simpa using hn) _ h1
theorem call_evK {f : FuncId} {nt na : Nat} {rs : List RV} {ls : List Nat} {b : IC} (hF : T f = some (.ir ⟨nt, na, rs, ls, b⟩)) (hf : f < yieldF) (hp : plainC b = true) {args : List AV} {H : AHeap} {P : AV × AHeap → Prop} (hl : args.length = na) (hn : args.all AV.notL = true)
    (e : OkR (evK (call T) (den T) b (enterK args H) (leaveK rs H)) P) : OkR (call T f args H) P := by
  have hs := enterK_sim (H := H) hn
  obtain ⟨x, st', s', e1, h1, e2⟩ := evK_sim b hs e
  rw [call_at hF hf hp, if_pos hl, e1, Option.bind_some]
  have key : ∀ {x : AExit}, OkR ((rvsK s' rs).bind fun vs => if allNoL vs = true then some (packA vs, fin H (packA vs) s'.H) else none) P → OkR (match rvs st' rs with | some vs => if allNoL vs then some (packA vs, fin H (packA vs) st'.H) else none | none => none) P := by
    intro x e
    obtain ⟨vs, h2, e⟩ := e.bind
    rw [rvsK_sim h1 h2, h1.H]
    exact e
  cases x with
  | normal => exact key (x := .normal) e2
  | exit j => exact absurd e2 okR_none
  | ret => exact key (x := .ret) e2
def isNilF : List Dfr → Bool | [] => true | _ => false
/-- A call, whatever the body holds: what runs has deferred nothing. -/
theorem call_evK' {f : FuncId} {nt na : Nat} {rs : List RV} {ls : List Nat} {b : IC} (hF : T f = some (.ir ⟨nt, na, rs, ls, b⟩)) (hf : f < yieldF) {args : List AV} {H : AHeap} {P : AV × AHeap → Prop} (hl : args.length = na) (hn : args.all AV.notL = true)
    (e : OkR (evK (call T) (den T) b (enterK args H) fun x s => if isNilF s.H.dfs = true then leaveK rs H x s else none) P) : OkR (call T f args H) P := by
  have hs := enterK_sim (H := H) hn
  obtain ⟨x, st', s', e1, h1, e2⟩ := evK_sim b hs e
  rw [call_ir hF hf]
  show OkR (if args.length = na then (den T b (enterA args H)).bind (leaveT T ⟨nt, na, rs, ls, b⟩ H) else none) P
  rw [if_pos hl, e1, Option.bind_some]
  split at e2
  · rename_i hd
    have hd' : st'.H.dfs = [] := by
      rw [h1.H]
      cases hx : s'.H.dfs with
      | nil => rfl
      | cons d ds => rw [hx] at hd; cases hd
    rw [leaveT_0 hd']
    have key : ∀ {x : AExit}, OkR ((rvsK s' rs).bind fun vs => if allNoL vs = true then some (packA vs, fin H (packA vs) s'.H) else none) P → OkR (match rvs st' rs with | some vs => if allNoL vs then some (packA vs, fin H (packA vs) st'.H) else none | none => none) P := by
      intro x e
      obtain ⟨vs, h2, e⟩ := e.bind
      rw [rvsK_sim h1 h2, h1.H]
      exact e
    cases x with
    | normal => exact key (x := .normal) e2
    | exit j => exact absurd e2 okR_none
    | ret => exact key (x := .ret) e2
  · exact absurd e2 okR_none
theorem okR_eq {α : Type} {o : Option α} {a : α} (h : OkR o fun r => r = a) : o = some a := by obtain ⟨x, h, rfl⟩ := h; exact h

/-- A loop, with what stands at its head: each round leaves it, or stands at the head again with less to go. -/
theorem loop_invK {ks ls : List Nat} {b : IC} (I : Nat → SK → Prop) (Q : AExit → SK → Prop)
    (step : ∀ n s, I n s → ∀ P : AExit × SK → Prop, (∀ e l H m, m < n → I m ⟨prune ks e, prune ls l, H⟩ → P (.normal, ⟨e, l, H⟩)) → (∀ j s', Q (.exit j) s' → P (.exit j, s')) → (∀ s', Q .ret s' → P (.ret, s')) → OkR (evK (call T) (den T) b s fun x s' => some (x, s')) P) :
    ∀ n s, s.env.all (fun e => e.2.ok) = true → I n (prK ks ls s) → ∃ x st s', den T (.loop (.keep ks ls b)) s.toSt = some (x, st) ∧ SimK s' st ∧ Q x s' := by
  have main : ∀ n (s : SK) (st : St), SimK s st → I n (prK ks ls s) → ∃ x st' s', den T (.loop (.keep ks ls b)) st = some (x, st') ∧ SimK s' st' ∧ Q x s' := by
    intro n
    induction n using Nat.strongRecOn with
    | ind n ih =>
      intro s st hs hI
      obtain ⟨x, st', s', e1, h1, ⟨r, hr, hp⟩⟩ := evK_sim b (prK_sim hs ks ls) (step n _ hI (fun r => match r with
        | (.normal, s') => ∃ m, m < n ∧ I m (prK ks ls s')
        | (x, s') => Q x s') (fun e l H m hm hi => ⟨m, hm, hi⟩) (fun j s' h => h) (fun s' h => h))
      cases hr
      rw [den_loop, den_keep]
      have e : den T b { env := prune ks st.env, loc := prune ls st.loc, H := st.H } = some (x, st') := e1
      rw [e, Option.bind_some]
      cases x with
      | normal => obtain ⟨m, hm, hi⟩ := hp; exact ih m hm s' st' h1 hi
      | exit j => exact ⟨_, _, _, rfl, h1, hp⟩
      | ret => exact ⟨_, _, _, rfl, h1, hp⟩
  intro n s ho hI
  exact main n s _ (toSt_sim (by simpa using ho)) hI
end
end Go.Wam
