/- Our machine, with what comes behind: what simp needs. No condition. -/
import Derived.Test.YtpdmmpajjdaebaaGreatAmY
import Derived.KernelRfl
set_option linter.unusedVariables false
set_option linter.unusedSimpArgs false
namespace Go.Wam
section
variable {R : Type} (C : CallF) (D : IC → St → Option (AExit × St)) (s : SK) (k : AExit → SK → Option R)
noncomputable def seqK (b : IC) (k : AExit → SK → Option R) : AExit → SK → Option R := fun x s' => match x with
    | .normal => evK C D b s' k
    | .exit j => k (.exit j) s'
    | .ret => k .ret s'
def blockK (id : Nat) (k : AExit → SK → Option R) : AExit → SK → Option R := fun x s' => match x with
    | .normal => k .normal s'
    | .exit j => (match Nat.beq j id with
      | true => k .normal s'
      | false => k (.exit j) s')
    | .ret => k .ret s'
theorem seqK_normal (b : IC) : seqK C D b k .normal s = evK C D b s k := rfl
theorem seqK_exit (b : IC) (j : Nat) : seqK C D b k (.exit j) s = k (.exit j) s := rfl
theorem seqK_ret (b : IC) : seqK C D b k .ret s = k .ret s := rfl
theorem blockK_normal (id : Nat) : blockK id k .normal s = k .normal s := rfl
theorem blockK_exit (id j : Nat) : blockK id k (.exit j) s = if j = id then k .normal s else k (.exit j) s := by
  unfold blockK
  simp only
  split
  · rename_i h; rw [if_pos (Nat.eq_of_beq_eq_true h)]
  · rename_i h; rw [if_neg (fun e => by subst e; rw [Nat.beq_refl] at h; cases h)]
theorem blockK_ret (id : Nat) : blockK id k .ret s = k .ret s := rfl
def condO (o : Option AV) (x y : Option R) : Option R :=
  match o with
  | some v => condK v x y
  | none => none
theorem condO_bool (p : Bool) (x y : Option R) : condO (some (.bool p)) x y = if p = true then x else y := by cases p <;> rfl
theorem evK_skip : evK C D .skip s k = k .normal s := by rw [evK]
theorem evK_exit (id : Nat) : evK C D (.exit id) s k = k (.exit id) s := by rw [evK]
theorem evK_ret : evK C D .ret s k = k .ret s := by rw [evK]
theorem evK_keep (ks ls : List Nat) (c : IC) : evK C D (.keep ks ls c) s k = evK C D c (prK ks ls s) k := by rw [evK]
theorem evK_cond (c : Opd) (a b : IC) : evK C D (.cond c a b) s k = condO (valO c s.env) (evK C D a s k) (evK C D b s k) := by rw [evK]; rfl
theorem evK_block (id : Nat) (b : IC) : evK C D (.block id b) s k = evK C D b s (blockK id k) := by rw [evK]; rfl
theorem evK_seq (a b : IC) : evK C D (.seq a b) s k = evK C D a s (seqK C D b k) := by rw [evK]; rfl
theorem evK_seq_seq (a a' b : IC) : evK C D (.seq (.seq a a') b) s k = evK C D (.seq a a') s (seqK C D b k) := evK_seq ..
theorem evK_seq_cond (c : Opd) (a a' b : IC) : evK C D (.seq (.cond c a a') b) s k = evK C D (.cond c a a') s (seqK C D b k) := evK_seq ..
theorem evK_seq_block (id : Nat) (a b : IC) : evK C D (.seq (.block id a) b) s k = evK C D (.block id a) s (seqK C D b k) := evK_seq ..
theorem evK_seq_loop (a b : IC) : evK C D (.seq (.loop a) b) s k = evK C D (.loop a) s (seqK C D b k) := evK_seq ..
theorem evK_seq_skip (b : IC) : evK C D (.seq .skip b) s k = evK C D b s k := by rw [evK_seq, evK_skip, seqK_normal]
theorem evK_seq_keep (ks ls : List Nat) (a b : IC) : evK C D (.seq (.keep ks ls a) b) s k = evK C D (.keep ks ls a) s (seqK C D b k) := evK_seq ..
theorem evK_seq_exit (id : Nat) (b : IC) : evK C D (.seq (.exit id) b) s k = k (.exit id) s := by rw [evK_seq, evK_exit, seqK_exit]
theorem evK_seq_ret (b : IC) : evK C D (.seq .ret b) s k = k .ret s := by rw [evK_seq, evK_ret, seqK_ret]
theorem prK_eq (ks ls : List Nat) (e : List (Nat × Slt)) (l : List (Nat × List AV)) (H : AHeap) : prK ks ls ⟨e, l, H⟩ = ⟨prune ks e, prune ls l, H⟩ := rfl
theorem toSt_eq (e : List (Nat × Slt)) (l : List (Nat × List AV)) (H : AHeap) : SK.toSt ⟨e, l, H⟩ = ⟨e.map fun x => (x.1, x.2.av), l, H⟩ := rfl
theorem av_l (t o : Nat) : (Slt.l t o).av = .lptr t o := rfl
theorem av_v (v : AV) : (Slt.v v).av = v := rfl
def valS : Option Slt → Option AV
  | some (.v v) => some v
  | some .u => some undefA
  | _ => none
theorem valS_v (v : AV) : valS (some (.v v)) = some v := rfl
def valT : Option Slt → Option AV
  | some (.v v) => some v
  | _ => none
theorem valT_v (v : AV) : valT (some (.v v)) = some v := rfl
theorem valS_u : valS (some .u) = some undefA := rfl
theorem av_u : Slt.u.av = undefA := rfl
theorem valO_tmp (t : Nat) (env : List (Nat × Slt)) : valO (.tmp t) env = valS (look t env) := by
  simp only [valO, svO]
  cases look t env with
  | none => rfl
  | some v => cases v <;> rfl

/-! ## Values -/
theorem nl_eq (v : AV) : nl (some v) = if v.notL = true then some v else none := rfl
theorem nl_none : nl none = none := rfl
theorem nl_if (c : Prop) [Decidable c] (x y : Option AV) : nl (if c then x else y) = if c then nl x else nl y := by split <;> rfl
theorem nlR_eq (r : AV × AHeap) : nlR (some r) = if r.1.notL = true then some r else none := rfl
theorem boxC_eq (v : AV) : boxC v = if v.noL = true then some v.cells else none := rfl
theorem stL_eq (sz off : Nat) (v : AV) (cells : List AV) : stL sz off v cells = if v.noL = true ∧ v.cells.length = sz ∧ off + sz ≤ cells.length then some (cells.take off ++ (v.cells ++ cells.drop (off + v.cells.length))) else none := by
  unfold stL wr
  by_cases h : v.noL = true ∧ v.cells.length = sz ∧ off + sz ≤ cells.length
  · rw [if_pos h, if_pos (by simp [h.1, h.2.1, h.2.2])]
  · rw [if_neg h, if_neg (by simpa [and_assoc] using h)]
theorem storeP_ptr (H : AHeap) (sz : Nat) (v : AV) (id off : Nat) : storeP H sz v (.ptr id off) = match H.get id with
    | some (.row false e cells) => (stL sz off v cells).map fun cs => H.set id (.row false e cs)
    | _ => none := rfl
theorem loadP_ptr (H : AHeap) (agg : Bool) (sz id off : Nat) : loadP H agg sz (.ptr id off) = H.rdAt id agg sz off := rfl
theorem fldP_ptr (off id o : Nat) : fldP off (.ptr id o) = some (.ptr id (o + off)) := rfl
theorem idxP_ptr (m sz id off : Nat) (k : IntKind) (n : Int) : idxP m sz (.ptr id off) (.int k n) = if 0 ≤ n ∧ n < m then some (.ptr id (off + n.toNat * sz)) else none := rfl
theorem inN_int (m : Nat) (k : IntKind) (n : Int) : inN m (.int k n) = if 0 ≤ n ∧ n < m then some n.toNat else none := rfl
theorem callN_func (g : FuncId) (a b vs : List AV) (H : AHeap) : callN C (.func (.func g) a b) vs H = if g < 4294967296 then if allNoL vs = true then (C g (a ++ (vs ++ b)) H).bind fun r => if r.1.notL = true then some r else none else none else none := rfl
theorem strV_str (l : List UInt8) : strV (.str l) = some l := rfl
theorem fillC_nil (cells : List AV) : fillC [] cells = some cells := rfl
theorem fillC_cons (off sz : Nat) (v : AV) (r : List (Nat × Nat × AV)) (cells : List AV) : fillC ((off, sz, v) :: r) cells = if v.noL = true ∧ v.cells.length = sz ∧ off + sz ≤ cells.length then fillC r (cells.take off ++ (v.cells ++ cells.drop (off + v.cells.length))) else none := by
  simp only [fillC, wr]
  by_cases h : v.noL = true ∧ v.cells.length = sz ∧ off + sz ≤ cells.length
  · rw [if_pos h, if_pos (by simp [h.1, h.2.1, h.2.2])]
  · rw [if_neg h, if_neg (by simpa [and_assoc] using h)]
theorem pickV_bool (p : Bool) (a b : AV) : pickV (.bool p) a b = some (if p = true then a else b) := by cases p <;> rfl
theorem guardK_bool (b w : Bool) (x y : Option R) : guardK (.bool b) w x y = if b = w then x else y := by cases b <;> cases w <;> rfl
theorem kB_eq (b : Bool) (x : Option R) : kB b x = if b = true then x else none := by cases b <;> rfl
theorem chk_some (w v : AV) : chk (some w) v = AV.beq w v := rfl
theorem ifaceV_eq (t : TypeId) (v : AV) : ifaceV t v = if v.noL = true then some (.iface t v) else none := rfl
theorem funcV_eq (fn : Fn) (a b : List AV) : funcV fn a b = if allNoL a = true ∧ allNoL b = true then some (.func fn a b) else none := rfl
theorem natV_int (k : IntKind) (n : Int) : natV (.int k n) = if 0 ≤ n then some n.toNat else none := rfl
theorem notL_noL {v : AV} (h : v.noL = true) : v.notL = true := notL_of h
@[simp] theorem notL_bool (b : Bool) : (AV.bool b).notL = true := rfl
@[simp] theorem notL_int (k : IntKind) (n : Int) : (AV.int k n).notL = true := rfl
@[simp] theorem notL_str (l : List UInt8) : (AV.str l).notL = true := rfl
@[simp] theorem notL_nilp : AV.nilp.notL = true := rfl
@[simp] theorem notL_ptr (i o : Nat) : (AV.ptr i o).notL = true := rfl
@[simp] theorem notL_nils : AV.nils.notL = true := rfl
@[simp] theorem notL_slice (i o n c : Nat) : (AV.slice i o n c).notL = true := rfl
@[simp] theorem notL_oslice (i o n c z : Nat) : (AV.oslice i o n c z).notL = true := rfl
@[simp] theorem notL_eslice (i o n c : Nat) : (AV.eslice i o n c).notL = true := rfl
@[simp] theorem notL_xslice (i o : Nat) (s : Option Nat) : (AV.xslice i o s).notL = true := rfl
@[simp] theorem notL_nilm : AV.nilm.notL = true := rfl
@[simp] theorem notL_map (i : Nat) : (AV.map i).notL = true := rfl
@[simp] theorem notL_func (f : Fn) (a b : List AV) : (AV.func f a b).notL = true := rfl
@[simp] theorem notL_nilFunc : AV.nilFunc.notL = true := rfl
@[simp] theorem notL_iface (t : TypeId) (v : AV) : (AV.iface t v).notL = true := rfl
@[simp] theorem notL_nilIface : AV.nilIface.notL = true := rfl
@[simp] theorem notL_agg (l : List AV) : (AV.agg l).notL = true := rfl
@[simp] theorem notL_tuple (l : List AV) : (AV.tuple l).notL = true := rfl
/-! ## The end -/
theorem leaveK_ret (rs : List RV) (H0 : AHeap) : leaveK rs H0 .ret s = (rvsK s rs).bind fun vs => if allNoL vs = true then some (packA vs, fin H0 (packA vs) s.H) else none := rfl
theorem leaveK_normal (rs : List RV) (H0 : AHeap) : leaveK rs H0 .normal s = (rvsK s rs).bind fun vs => if allNoL vs = true then some (packA vs, fin H0 (packA vs) s.H) else none := rfl
theorem rvsK_nil : rvsK s [] = some [] := rfl
theorem rvsK_cons (x : RV) (r : List RV) : rvsK s (x :: r) = (rvK s x).bind fun v => (rvsK s r).bind fun vs => some (v :: vs) := rfl
theorem rvK_tmp (t : Nat) (e : List (Nat × Slt)) (l : List (Nat × List AV)) (H : AHeap) : rvK ⟨e, l, H⟩ (.tmp t) = valT (look t e) := by
  simp only [rvK]
  cases look t e with
  | none => rfl
  | some v => cases v <;> rfl
def rvC (l : List (Nat × List AV)) (H : AHeap) (agg : Bool) (sz : Nat) : Option Slt → Option AV
  | some (.l u off) => (look u l).bind (rd agg sz off)
  | some (.v p) => loadP H agg sz p
  | _ => none
theorem rvC_l (l : List (Nat × List AV)) (H : AHeap) (agg : Bool) (sz u off : Nat) : rvC l H agg sz (some (.l u off)) = (look u l).bind (rd agg sz off) := rfl
theorem rvC_v (l : List (Nat × List AV)) (H : AHeap) (agg : Bool) (sz : Nat) (p : AV) : rvC l H agg sz (some (.v p)) = loadP H agg sz p := rfl
theorem rvK_cell (t : Nat) (agg : Bool) (sz : Nat) (e : List (Nat × Slt)) (l : List (Nat × List AV)) (H : AHeap) : rvK ⟨e, l, H⟩ (.cell t agg sz) = rvC l H agg sz (look t e) := by
  simp only [rvK]
  cases look t e with
  | none => rfl
  | some v =>
    cases v with
    | l u off => simp only [rvC]; cases look u l <;> rfl
    | v p => rfl
    | u => rfl
theorem enterK_eq (args : List AV) (H : AHeap) : enterK args H = ⟨(zipI 0 args).map fun e => (e.1, .v e.2), [], H.top⟩ := rfl
end

def Slt.norm : Slt → Slt
  | .u => .v undefA
  | x => x
def SK.norm (s : SK) : SK := { env := s.env.map fun e => (e.1, e.2.norm), loc := s.loc, H := s.H }
theorem norm_eq (e : List (Nat × Slt)) (l : List (Nat × List AV)) (H : AHeap) : SK.norm ⟨e, l, H⟩ = ⟨e.map fun x => (x.1, x.2.norm), l, H⟩ := rfl
theorem norm_l (t o : Nat) : (Slt.l t o).norm = .l t o := rfl
theorem norm_v (v : AV) : (Slt.v v).norm = .v v := rfl
theorem norm_u : Slt.u.norm = .v undefA := rfl
theorem ofAV_of {sv : Slt} (h : sv.ok = true) : ofAV sv.av = sv.norm := by
  cases sv with
  | l t o => rfl
  | v x => exact ofAV_v h
  | u => rfl
theorem look_ofSt {s : SK} {st : St} (h : SimK s st) (k : Nat) : look k (ofSt st).env = (look k s.env).map Slt.norm := by
  simp only [ofSt, look_map, h.env]
  cases hl : look k s.env with
  | none => rfl
  | some sv => simp only [Option.map_some, ofAV_of (h.ok _ (look_mem hl))]
theorem prK_ofSt {s : SK} {st : St} (h : SimK s st) (ks ls : List Nat) : prK ks ls (ofSt st) = (prK ks ls s).norm := by
  have hl : (ofSt st).loc = s.loc := h.loc
  have hH : (ofSt st).H = s.H := h.H
  simp only [prK, SK.norm, hl, hH, prune_map Slt.norm ks (look_ofSt h)]
theorem rvsK_ofSt {s : SK} {st : St} (h : SimK s st) : ∀ (rs : List RV) (vs : List AV), rvsK s rs = some vs → rvsK (ofSt st) rs = some vs := by
  intro rs
  induction rs with
  | nil => intro vs e; exact e
  | cons r rs ih =>
    intro vs e
    rw [rvsK_cons] at e ⊢
    obtain ⟨v, h1, e⟩ := opt_bind_some e
    obtain ⟨ws, h2, e⟩ := opt_bind_some e
    have hl : (ofSt st).loc = s.loc := h.loc
    have hH : (ofSt st).H = s.H := h.H
    have : rvK (ofSt st) r = some v := by
      cases r with
      | tmp t =>
        simp only [rvK, look_ofSt h] at h1 ⊢
        cases hs : look t s.env with
        | none => rw [hs] at h1; cases h1
        | some sv => rw [hs] at h1; cases sv <;> first | (cases h1; done) | exact h1
      | cell t agg sz =>
        simp only [rvK, look_ofSt h, hl, hH] at h1 ⊢
        cases hs : look t s.env with
        | none => rw [hs] at h1; cases h1
        | some sv => rw [hs] at h1; cases sv <;> first | (cases h1; done) | exact h1
    rw [this, Option.bind_some, ih ws h2, Option.bind_some]
    exact e
/-- A loop: what goes on behind it sees what stands at its end. -/
theorem loopK {T : FuncId → Option FnDef} {ks ls : List Nat} {b L : IC} (hL : L = .keep ks ls b) (I : Nat → SK → Prop) (Q : AExit → SK → Prop)
    (step : ∀ n s, I n s → ∀ P : AExit × SK → Prop, (∀ e l H m, m < n → I m ⟨prune ks e, prune ls l, H⟩ → P (.normal, ⟨e, l, H⟩)) → (∀ j s', Q (.exit j) s' → P (.exit j, s')) → (∀ s', Q .ret s' → P (.ret, s')) → OkR (evK (call T) (den T) b s fun x s' => some (x, s')) P)
    (n : Nat) (s : SK) (ho : s.env.all (fun e => e.2.ok) = true) (hI : I n (prK ks ls s)) :
    ∃ x st s', den T (.loop L) s.toSt = some (x, st) ∧ Q x s' ∧ (∀ ks ls, prK ks ls (ofSt st) = (prK ks ls s').norm) ∧ (∀ rs vs, rvsK s' rs = some vs → rvsK (ofSt st) rs = some vs) ∧ (ofSt st).H = s'.H := by
  subst hL
  obtain ⟨x, st, s', h1, h2, h3⟩ := loop_invK I Q step n s ho hI
  exact ⟨x, st, s', h1, h3, prK_ofSt h2, rvsK_ofSt h2, h2.H⟩
theorem ok_l (t o : Nat) : (Slt.l t o).ok = true := rfl
theorem ok_u : Slt.u.ok = true := rfl
theorem ok_v (v : AV) : (Slt.v v).ok = v.notL := rfl

/-! ## Where simp goes -/
theorem bind_cg {α β : Type} {o o' : Option α} {f : α → Option β} (h : o = o') : o.bind f = o'.bind f := by rw [h]
theorem guardK_cg {R : Type} {g g' : AV} {w : Bool} {x y : Option R} (h : g = g') : guardK g w x y = guardK g' w x y := by rw [h]
theorem kB_cg {R : Type} {b b' : Bool} {x : Option R} (h : b = b') : kB b x = kB b' x := by rw [h]
theorem condO_cg {R : Type} {o o' : Option AV} {x y : Option R} (h : o = o') : condO o x y = condO o' x y := by rw [h]
theorem evK_cg {R : Type} {C : CallF} {D : IC → St → Option (AExit × St)} {c : IC} {s s' : SK} {k : AExit → SK → Option R} (h : s = s') : evK C D c s k = evK C D c s' k := by rw [h]
end Go.Wam
