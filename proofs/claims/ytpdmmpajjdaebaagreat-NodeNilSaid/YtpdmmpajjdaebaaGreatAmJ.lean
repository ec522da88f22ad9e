/- The abstract machine: calls, and regions in the order of the text. No condition. -/
import Derived.Test.YtpdmmpajjdaebaaGreatAmJs
import Derived.TacticsIn
import Derived.RangeFuncLeaves
import Derived.RangeFuncOwn
set_option linter.unusedVariables false
set_option linter.unusedSimpArgs false
namespace Go.Wam

def ml0 : Nat → Nat := fun _ => 0

/-- No fence: in a frame of its own, or in a round of a range over a function. -/
def FF (r : Option Nat) : Fence := { Fence.wide with round := r }
@[simp] theorem FF_round (r : Option Nat) : (FF r).round = r := rfl
theorem FF_depth (r : Option Nat) : (FF r).depth = none := rfl
theorem FF_fn (r : Option Nat) (f : FuncId) : (FF r).fn f := trivial
theorem FF_room (r : Option Nat) (k : Nat) : (FF r).room k := fun d hd => by rw [FF_depth] at hd; cases hd
theorem FF_enter (r : Option Nat) (n : Nat) : (FF r).depth.isSome = true → 1 ≤ n := fun h => by rw [FF_depth] at h; cases h
theorem callsIn_FF {P : Program} {r : Option Nat} {n : Nat} {f : FuncId} {args : Array Value} {w : World} {R : Ending → World → Prop} (h : Calls P f args w R) : CallsIn (FF r) n P f args w R :=
  ⟨trivial, fun cs _ => (callsIn_wide (n := n).2 h).2 cs (room_wide _)⟩
theorem calls_FF {P : Program} {r : Option Nat} {n : Nat} {f : FuncId} {args : Array Value} {w : World} {R : Ending → World → Prop} (h : CallsIn (FF r) n P f args w R) : Calls P f args w R :=
  callsIn_wide (n := n).1 ⟨trivial, fun cs _ => h.2 cs (FF_room _ _)⟩
theorem roundIn_FF {P : Program} {r r' : Option Nat} {n n' : Nat} {l : Nat} {f : FuncId} {tmps : Array Value} {x y : Code} {w : World} {R : Ending → World → Prop} (h : RoundIn (FF r) n P l f tmps x y w R) : RoundIn (FF r') n' P l f tmps x y w R :=
  ⟨trivial, fun c cs _ => h.2 c cs (FF_room _ _)⟩
theorem callsDIn_FF {P : Program} {r r' : Option Nat} {n n' : Nat} {f : FuncId} {args : Array Value} {u : FrameMode} {w : World} {R : Ending → FrameMode → World → Prop} (h : CallsDIn (FF r) n P f args u w R) : CallsDIn (FF r') n' P f args u w R :=
  ⟨trivial, fun c cs hu _ => h.2 c cs hu (FF_room _ _)⟩

/-- A function that is called as any. -/
def FOk (P : Program) (f : FuncId) : Prop := ∃ fn c, P.funcs[f]? = some fn ∧ fn.body = some c ∧ (fn.name == "runtime.NumGoroutine") = false

/-- What a call leaves behind. -/
def Left (P : Program) (m : Nat → Loc) (H : AHeap) (w : World) (v : AV) (H' : AHeap) (u : Value) (w' : World) : Prop :=
  ∃ m', u = conc m' ml0 v ∧ Sim P m' ml0 [] H' w' ∧ Grow m ml0 [] H w m' ml0 [] H' w' ∧ v.okP (good m' H'.n)

/-- What a call comes to, from every world that the heap stands for. -/
def ATrip (P : Program) (f : FuncId) (args : List AV) (H : AHeap) (v : AV) (H' : AHeap) : Prop :=
  FOk P f ∧ H.n ≤ H'.n ∧ ∀ m w, Sim P m ml0 [] H w → (∀ v ∈ args, v.okP (good m H.n)) →
    Calls P f (concL m ml0 args).toArray w fun e w' => ∃ u, e = .returned u ∧ Left P m H w v H' u w'

/-- A function that the model does at once. -/
def ETrip (P : Program) (f : FuncId) (args : List AV) (H : AHeap) (v : AV) (H' : AHeap) : Prop :=
  H.n ≤ H'.n ∧ ∀ m w, Sim P m ml0 [] H w → (∀ v ∈ args, v.okP (good m H.n)) →
    ∃ u w', (callFunc f (concL m ml0 args).toArray).run P w = .ok (.value u) w' ∧ Left P m H w v H' u w'

/-- A round of a range over a function. -/
def YTrip (P : Program) (args : List AV) (H : AHeap) (v : AV) (H' : AHeap) : Prop :=
  H.n ≤ H'.n ∧ ∃ id vs, args = .ptr id 0 :: vs ∧ ∀ m w, Sim P m ml0 [] H w → (∀ v ∈ args, v.okP (good m H.n)) →
    ∃ fn tmps x y, (Instr.yield (m id).block (concL m ml0 vs).toArray).run P w = .ok (.round (m id).block fn tmps x y) w ∧
      RoundIn (FF none) 0 P (m id).block fn tmps x y w fun e w' => ∃ u, e = .returned u ∧ Left P m H w v H' u w'

/-- A deferred call. -/
def DTrip (P : Program) (f : FuncId) (args : List AV) (H : AHeap) (v : AV) (H' : AHeap) : Prop :=
  FOk P f ∧ H.n ≤ H'.n ∧ ∀ m w, Sim P m ml0 [] H w → (∀ v ∈ args, v.okP (good m H.n)) →
    CallsDIn (FF none) 0 P f (concL m ml0 args).toArray .returning w fun e u' w' => u' = .returning ∧ ∃ u, e = .returned u ∧ Left P m H w v H' u w'

def CallOk (P : Program) (C : CallF) : Prop := ∀ g args H v H', C g args H = some (v, H') →
  H'.dfs = H.dfs ∧ (g = yieldF → YTrip P args H v H') ∧ (g < yieldF → ATrip P g args H v H' ∨ (ETrip P g args H v H' ∧ ∀ id r, args ≠ .yield id :: r)) ∧ (∀ f, g = deferF + f → DTrip P f args H v H')

/-- A deferred call, in the model. -/
def concD (m : Nat → Loc) : Dfr → Deferred
  | .mark id => { target := .collected (m id).block, args := #[] }
  | .call g args captured => { target := .fn (.func g) (concL m ml0 captured).toArray, args := (concL m ml0 args).toArray }
def Dfr.okP (p : Nat → Nat → Prop) : Dfr → Prop
  | .mark id => p id 0
  | .call _ args captured => AV.okPL p args ∧ AV.okPL p captured
theorem concD_congr {p : Nat → Nat → Prop} {m m' : Nat → Loc} (h : ∀ i k, p i k → m' i = m i) {d : Dfr} (hd : d.okP p) : concD m' d = concD m d := by
  cases d with
  | mark id => simp only [concD, h id 0 hd]
  | call g a b => simp only [concD, concL_congr ml0 ml0 h a hd.1, concL_congr ml0 ml0 h b hd.2]
theorem Dfr.okP_mono {p q : Nat → Nat → Prop} (h : ∀ i k, p i k → q i k) {d : Dfr} (hd : d.okP p) : d.okP q := by
  cases d with
  | mark id => exact h id 0 hd
  | call g a b => exact ⟨okPL_mono h a hd.1, okPL_mono h b hd.2⟩

section
variable {P : Program} {C : CallF} {m m' : Nat → Loc} {ml ml' : Nat → Nat} {loc : List (Nat × List AV)} {H H' : AHeap} {w w' : World}

theorem conc_ml {n : Nat} {v : AV} (h : v.okP (good m n)) (ml1 ml2 : Nat → Nat) : conc m ml1 v = conc m ml2 v := conc_congr ml2 ml1 (fun _ _ _ => rfl) v h
theorem concL_ml {n : Nat} {vs : List AV} (h : AV.okPL (good m n) vs) (ml1 ml2 : Nat → Nat) : concL m ml1 vs = concL m ml2 vs := concL_congr ml2 ml1 (fun _ _ _ => rfl) vs h

theorem good_mono (G : Grow m ml loc H w m' ml' loc H' w') : ∀ i k, good m H.n i k → good m' H'.n i k :=
  fun i k ⟨a, b⟩ => ⟨Nat.lt_of_lt_of_le a G.n_le, by rw [G.agree i a]; exact b⟩

theorem Sim.drop (S : Sim P m ml loc H w) (ml1 : Nat → Nat) : Sim P m ml1 [] H w where
  wf := S.wf
  obj := fun id o h => (S.obj id o h).rename (fun _ _ _ => rfl) (S.ok id o h)
  ok := S.ok
  inj := S.inj
  sep := S.sep
  locs := fun t c h => by simp [look] at h
  locok := fun t c h => by simp [look] at h
  locinj := fun t u c d h => by simp [look] at h
  locsep := fun t c i h => by simp [look] at h

/-- Behind a call the frame's own local variables stand as they stood. -/
theorem Sim.back (S : Sim P m ml loc H w) (S' : Sim P m' ml0 [] H' w') (G : Grow m ml0 [] H w m' ml0 [] H' w') : Sim P m' ml loc H' w' ∧ Grow m ml loc H w m' ml loc H' w' := by
  have hm : ∀ i k, good m H.n i k → m' i = m i := fun i k hi => G.agree i hi.1
  have hold : ∀ t c, look t loc = some c → w'.heap[ml t]? = w.heap[ml t]? := fun t c ht =>
    G.keep _ (S.used_lt (.inr ⟨t, c, ht, rfl⟩)) (fun id hid => S.locsep t c id ht (.inl hid)) (fun u d hu => by simp [look] at hu)
  refine ⟨⟨S'.wf, fun id o h => (S'.obj id o h).rename (fun _ _ _ => rfl) (S'.ok id o h), S'.ok, S'.inj, S'.sep, ?_, ?_, S.locinj, ?_⟩, ?_⟩
  · intro t c ht
    exact ((S.locs t c ht).congr (hold t c ht)).rename hm (S.locok t c ht).1
  · intro t c ht
    exact ⟨okPL_mono (fun i k ⟨a, b⟩ => ⟨Nat.lt_of_lt_of_le a G.n_le, by rw [G.agree i a]; exact b⟩) _ (S.locok t c ht).1, (S.locok t c ht).2⟩
  · intro t c i ht hi
    rcases hi with hi | hi
    · rcases G.own i hi with ⟨j, hj, he⟩ | he
      · rw [← he]; exact S.locsep t c j ht (.inl hj)
      · have := S.used_lt (.inr ⟨t, c, ht, rfl⟩); omega
    · have h0 := G.ro i hi
      rw [G.agree i (h0.lt S.wf)]
      exact S.locsep t c i ht (.inr h0)
  · exact ⟨G.n_le, G.agree, G.size, G.os, G.tape, G.output, fun b hb h1 h2 => G.keep b hb h1 (fun u d hu => by simp [look] at hu), G.own, fun t c ht => .inl ⟨c, ht, rfl⟩, G.low, G.pres, G.ro⟩

/-- How a frame of the model stands to a state of ours. -/
structure Rel P (m : Nat → Loc) (ml : Nat → Nat) (nt : Nat) (s : St) (a : Act) (w : World) : Prop where
  sim : Sim P m ml s.loc s.H w
  env : ∀ t v, look t s.env = some v → a.tmps.getD t undef = conc m ml v ∧ vOk (good m s.H.n) LT v
  size : a.tmps.size = nt
  defers : a.defers = s.H.dfs.map (concD m)
  dok : ∀ d ∈ s.H.dfs, d.okP (good m s.H.n)

theorem Rel.opR {nt : Nat} {s : St} {a : Act} (R : Rel P m ml nt s a w) (x : Operand) : OpR a.eval s.env m ml (good m s.H.n) LT x :=
  .of_act a x fun t v _ hv => R.env t v hv

theorem getD_put {a : Act} {d t : Nat} {v : Value} (hd : d < a.tmps.size) : (a.put (some d) v).tmps.getD t undef = if t = d then v else a.tmps.getD t undef := by
  simp only [Act.put, Array.getD_eq_getD_getElem?, Array.getElem?_setIfInBounds]
  by_cases h : d = t
  · subst h; simp [hd]
  · have : ¬ t = d := fun x => h x.symm
    simp [h, this]

theorem conc_lptr_ml {n : Nat} {v : AV} (h : vOk (good m n) LT v) (hm : ∀ i k, good m n i k → m' i = m i) (hl : ∀ t off, v = .lptr t off → ml' t = ml t) : conc m' ml' v = conc m ml v := by
  rcases h with h | ⟨t, off, rfl, _⟩
  · exact conc_congr ml ml' hm v h
  · simp [conc, hl t off rfl]

theorem freeL_spec {t : Nat} {env : List (Nat × AV)} (h : freeL t env = true) {k u off : Nat} (hk : look k env = some (.lptr u off)) : u ≠ t ∨ k = t := by
  induction env with
  | nil => simp [look] at hk
  | cons e env ih =>
    obtain ⟨k', v'⟩ := e
    simp only [freeL, List.all_cons, Bool.and_eq_true] at h
    simp only [look] at hk
    split at hk
    · rename_i e; subst e; cases hk
      have := h.1
      simp only [Bool.or_eq_true, Bool.not_eq_true', beq_eq_false_iff_ne, ne_eq, beq_iff_eq] at this
      exact this
    · exact ih (by simpa [freeL] using h.2) hk

/-- The slot that an operation writes. -/
theorem Rel.put {nt : Nat} {s s' : St} {a : Act} (R : Rel P m ml nt s a w) {dst : Option Nat} {v : AV} (hd : ∀ d, dst = some d → d < nt) (S' : Sim P m' ml' s'.loc s'.H w') (G : Grow m ml s.loc s.H w m' ml' s'.loc s'.H w')
    (hv : vOk (good m' s'.H.n) LT v) (he : s'.env = s.env) (hdf : s'.H.dfs = s.H.dfs) (hl : ∀ t, ml' t = ml t ∨ (dst = some t ∧ freeL t s.env = true)) {u : Value} (hu : u = conc m' ml' v) : Rel P m' ml' nt (s'.put dst v) (a.put dst u) w' := by
  have hm : ∀ i k, good m s.H.n i k → m' i = m i := fun i k hi => G.agree i hi.1
  have hg : ∀ i k, good m s.H.n i k → good m' s'.H.n i k := fun i k ⟨a, b⟩ => ⟨Nat.lt_of_lt_of_le a G.n_le, by rw [G.agree i a]; exact b⟩
  have old : ∀ t x, look t s.env = some x → dst ≠ some t → a.tmps.getD t undef = conc m' ml' x ∧ vOk (good m' s'.H.n) LT x := by
    intro t x hx hne
    obtain ⟨e1, e2⟩ := R.env t x hx
    refine ⟨?_, e2.mono hg fun _ h => h⟩
    rw [e1]
    refine (conc_lptr_ml e2 hm fun t' off hx' => ?_).symm
    subst hx'
    rcases hl t' with h | ⟨h1, h2⟩
    · exact h
    · rcases freeL_spec h2 hx with h3 | h3
      · exact absurd rfl h3
      · subst h3; exact absurd h1 hne
  have df : a.defers = s'.H.dfs.map (concD m') := by
    rw [hdf, R.defers]
    exact List.map_congr_left fun d hd => (concD_congr hm (R.dok d hd)).symm
  have dk : ∀ d ∈ s'.H.dfs, d.okP (good m' s'.H.n) := fun d hd => by rw [hdf] at hd; exact Dfr.okP_mono hg (R.dok d hd)
  cases dst with
  | none =>
    refine ⟨by simpa [St.put] using S', fun t x hx => ?_, by simpa [Act.put] using R.size, by simpa [Act.put, St.put] using df, by simpa [St.put] using dk⟩
    simp only [St.put, he] at hx
    simpa [Act.put, St.put] using old t x hx (by simp)
  | some d =>
    refine ⟨by simpa [St.put] using S', fun t x hx => ?_, by simpa [Act.put] using R.size, by simpa [Act.put, St.put] using df, by simpa [St.put] using dk⟩
    rw [getD_put (by rw [R.size]; exact hd d rfl)]
    simp only [St.put, look, he] at hx
    simp only [St.put]
    split at hx
    · rename_i e; subst e; cases hx; rw [if_pos rfl]; exact ⟨hu, hv⟩
    · rename_i e; rw [if_neg (fun x => e x.symm)]; exact old t x hx (fun h => e (by cases h; rfl))

theorem compOper_spec {nt : Nat} {locals : List Nat} {ops : Array Oper} {o : Oper} {io : IOper} (h : compOper P nt locals ops o = some io) :
    (∀ d, o.dst = some d → d < nt) ∧ (compOp P locals o.dst o.op).getD .bad = io.op ∧ compGuard ops o.guard = some io.guard ∧ io.dst = o.dst := by
  unfold compOper at h
  split at h
  · rename_i hd
    rw [Option.map_eq_some_iff] at h
    obtain ⟨g, h2, rfl⟩ := h
    refine ⟨fun d e => ?_, rfl, h2, rfl⟩
    simp only [e, dstOk, decide_eq_true_eq] at hd
    exact hd
  · cases h

theorem comp_of {locals : List Nat} {dst : Option Nat} {op : Op} {io : IOp} (h : (compOp P locals dst op).getD .bad = io) (hne : io ≠ .bad) : compOp P locals dst op = some io := by
  cases hc : compOp P locals dst op with
  | none => rw [hc] at h; exact absurd h.symm hne
  | some x => rw [hc] at h; simp at h; rw [h]

/-- Only a deferred call is made into one. -/
theorem comp_defer {locals : List Nat} {dst : Option Nat} {op : Op} {io : IOp} (h : compOp P locals dst op = some io) (hp : plainOp io = true) : ∀ c, op ≠ .defer c := by
  rintro ⟨callee, args, ats⟩ rfl
  cases callee <;> simp only [compOp] at h <;> first | (cases h; done) | (obtain ⟨_, _, _, _, h3⟩ := opt2_some h; cases h3; simp [plainOp] at hp)

theorem wanted_spec {nt : Nat} {ops : Array Oper} {s : St} {a : Act} {o : Oper} {g : Option (Nat × Bool)} {b : Bool} (R : ∀ t v, look t s.env = some v → a.tmps.getD t undef = conc m ml v) (hsz : ∀ (j d : Nat), (ops[j]?).bind (fun (x : Oper) => x.dst) = some d → d < a.tmps.size)
    (h : compGuard ops o.guard = some g) (hw : wantedA s g = some b) : Region.wanted o (yielded ops a.tmps) = b := by
  unfold Region.wanted
  cases hg : o.guard with
  | none =>
    rw [hg] at h; simp [compGuard] at h; subst h
    simp [wantedA] at hw; subst hw; rfl
  | some jw =>
    obtain ⟨j, want⟩ := jw
    rw [hg] at h
    simp only [compGuard] at h
    cases hd : (ops[j]?).bind (·.dst) with
    | none => simp [hd] at h
    | some d =>
      simp [hd] at h; subst h
      have hlt := hsz j d hd
      simp only [wantedA] at hw
      have hy : yielded ops a.tmps j = match a.tmps.getD d undef with | .bool b => some b | _ => none := by
        simp only [yielded, hd, Option.bind_some]
        have : a.tmps[d]? = some (a.tmps.getD d undef) := by
          rw [Array.getD_eq_getD_getElem?, Array.getElem?_eq_getElem hlt]; rfl
        rw [this]
        generalize a.tmps.getD d undef = u
        cases u <;> rfl
      simp only [hy]
      split at hw
      · rename_i b' hb
        cases hw
        rw [R d _ hb]
        simp [conc]
      · rename_i v hne hb
        cases hw
        rw [R d _ hb]
        cases v <;> simp_all [conc]
      · cases hw

theorem FOk.call {f : FuncId} (h : FOk P f) (args : Array Value) (w : World) : (callFunc f args).run P w = .ok (.enter f args) w := by
  obtain ⟨fn, c, h1, h2, h3⟩ := h
  have h4 : ¬ fn.name = "runtime.NumGoroutine" := by simpa using h3
  simp [callFunc, h1, h2, h4]

theorem comp_call {o : Op} {f : Opd} {args : List Opd} {locals : List Nat} {dst : Option Nat} (hc : compOp P locals dst o = some (.call f args)) :
    ∃ fo as ats, o = .call { callee := .value fo, args := as, argTypes := ats } ∧ opd fo = some f ∧ opds as.toList = some args := by
  cases o
  case call c =>
    obtain ⟨callee, as, ats⟩ := c
    cases callee with
    | value fo => simp only [compOp] at hc; obtain ⟨_, _, h1, h2, h3⟩ := opt2_some hc; cases h3; exact ⟨fo, as, ats, rfl, h1, h2⟩
    | invoke r n => simp [compOp] at hc
    | builtin b =>
      exfalso
      simp only [compOp, compBuiltin, opt2] at hc
      (repeat' (split at hc)) <;> cases hc
  case binOp op t x y yt => exfalso; rcases comp_bin hc with ⟨e, a, b, h, _⟩ | ⟨neg, a, h, _⟩ | ⟨neg, a, b, h, _⟩ <;> cases h
  case next x b => exfalso; cases b <;> simp [compOp] at hc
  case defer c =>
    exfalso
    obtain ⟨callee, as, ats⟩ := c
    cases callee <;> simp only [compOp] at hc <;> first | (cases hc; done) | (obtain ⟨_, _, _, _, h3⟩ := opt2_some hc; cases h3)
  case makeMap t r => exfalso; cases r <;> simp [compOp] at hc
  all_goals
    exfalso
    simp only [compOp, opt2] at hc
    first
      | (cases hc; done)
      | ((repeat' (split at hc)) <;> (try cases hc) <;> (try (rw [Option.map_eq_some_iff] at hc; obtain ⟨_, _, hc⟩ := hc; cases hc)))

/-- A call, in the model. -/
theorem call_upon (hC : CallOk P C) {s : St} {o : Oper} {f : Opd} {args : List Opd} {locals : List Nat} {dst : Option Nat} {ρ : Operand → Value} (hc : compOp P locals dst o.op = some (.call f args))
    (hρ : ∀ x ∈ o.op.operands, OpR ρ s.env m ml (good m s.H.n) LT x) (S : Sim P m ml s.loc s.H w) {g : AV} {vs : List AV} {v : AV}
    (hf : f.ev s.env = some g) (hvs : evs s.env args = some vs) (h : callR C g vs s.H = some (v, H')) (r : Option Nat) (n : Nat) {a : Act} {next : Act → World → Prop} {Q : Exit → Act → World → Prop}
    (hK : ∀ m' w', Sim P m' ml s.loc H' w' → Grow m ml s.loc s.H w m' ml s.loc H' w' → v.okP (good m' H'.n) → H'.dfs = s.H.dfs → next (a.put o.dst (conc m' ml v)) w') :
    o.uponIn (FF r) n P a next Q ((execOp ρ o).run P w) := by
  obtain ⟨dst', op, type, pos, after, guard⟩ := o
  simp only at hc hρ hK
  obtain ⟨fo, as, ats, rfl, h1, h2⟩ := comp_call hc
  obtain ⟨e1, e2⟩ := hρ fo (by simp [Op.operands, Call.operands]) _ _ h1 hf
  obtain ⟨f1, f2⟩ := opds_conc (m := m) (ml := ml) (p := good m s.H.n) (L := LT) h2 hvs (fun x hx => hρ x (by simp [Op.operands, Call.operands] at *; exact .inr hx))
  have ea : as.map ρ = (concL m ml vs).toArray := by apply Array.ext'; simp [f1]
  have back : ∀ {u : Value} {w' : World}, H'.dfs = s.H.dfs → Left P m s.H w v H' u w' → next (a.put dst' u) w' := by
    rintro u w' hd ⟨m', rfl, S', G', ok'⟩
    obtain ⟨b1, b2⟩ := S.back S' G'
    rw [conc_ml ok' ml0 ml]
    exact hK m' w' b1 b2 ok' hd
  unfold callR at h
  split at h
  · rename_i g first captured
    split at h
    · rename_i hl
      obtain ⟨hg, hl⟩ := hl
      have hok := e2.noL rfl
      simp only [AV.okP] at hok
      have hvok : AV.okPL (good m s.H.n) vs := (okPL_iff _ _).2 fun x hx => (f2 x hx).noL (List.all_eq_true.1 hl x hx)
      obtain ⟨hdf, _, hT, _⟩ := hC _ _ _ _ _ h
      have hall : ∀ x ∈ first ++ (vs ++ captured), x.okP (good m s.H.n) := by
        intro x hx
        rcases List.mem_append.1 hx with hx | hx
        · exact (okPL_iff _ _).1 hok.1 x hx
        · rcases List.mem_append.1 hx with hx | hx
          · exact (okPL_iff _ _).1 hvok x hx
          · exact (okPL_iff _ _).1 hok.2 x hx
      have e3 : (concL m ml first).toArray ++ (concL m ml vs).toArray ++ (concL m ml captured).toArray = (concL m ml0 (first ++ (vs ++ captured))).toArray := by
        rw [concL_ml ((okPL_iff _ _).2 hall) ml0 ml]
        simp [concL_eq]
      have er : (execOp ρ ⟨dst', .call { callee := .value fo, args := as, argTypes := ats }, type, pos, after, guard⟩).run P w = (callFunc g (concL m ml0 (first ++ (vs ++ captured))).toArray).run P w := by
        simp only [execOp, resolve, e1, ea, conc, Deferred.ofValue, pure_bind, invoke]
        rw [e3]
      rw [er]
      rcases hT hg with ⟨hF, _, hT⟩ | ⟨⟨_, hE⟩, _⟩
      · rw [hF.call]
        simp only [Oper.uponIn_enter]
        refine ⟨FF_enter r n, callsIn_FF ((hT m w (S.drop ml0) hall).mono ?_)⟩
        rintro e w' ⟨u, rfl, hL⟩
        exact back hdf hL
      · obtain ⟨u, w', hr, hL⟩ := hE m w (S.drop ml0) hall
        rw [hr]
        simp only [Oper.uponIn_value]
        exact back hdf hL
    · cases h
  · rename_i id
    split at h
    · rename_i hl
      have hok := e2.noL rfl
      simp only [AV.okP] at hok
      have hvok : AV.okPL (good m s.H.n) vs := (okPL_iff _ _).2 fun x hx => (f2 x hx).noL (List.all_eq_true.1 hl x hx)
      obtain ⟨hdf, hY, _, _⟩ := hC _ _ _ _ _ h
      obtain ⟨_, id', vs', he, hY⟩ := hY rfl
      simp only [List.cons.injEq, AV.ptr.injEq, and_true] at he
      obtain ⟨rfl, rfl⟩ := he
      have hall : ∀ x ∈ AV.ptr id 0 :: vs, x.okP (good m s.H.n) := by
        intro x hx
        rcases List.mem_cons.1 hx with rfl | hx
        · simpa [AV.okP] using hok
        · exact (okPL_iff _ _).1 hvok x hx
      obtain ⟨fn, tmps, x, y, hr, hR⟩ := hY m w (S.drop ml0) hall
      have e3 : #[] ++ (concL m ml vs).toArray = (concL m ml0 vs).toArray := by
        rw [concL_ml hvok ml0 ml]; simp
      have er : (execOp ρ ⟨dst', .call { callee := .value fo, args := as, argTypes := ats }, type, pos, after, guard⟩).run P w = (Instr.yield (m id).block (concL m ml0 vs).toArray).run P w := by
        simp only [execOp, resolve, e1, ea, conc, Deferred.ofValue, pure_bind, invoke]
        rw [e3]
      rw [er, hr]
      simp only [Oper.uponIn_round]
      refine ⟨FF_enter r n, (roundIn_FF hR).mono ?_⟩
      rintro e w' ⟨u, rfl, hL⟩
      exact back hdf hL
    · cases h
  · cases h

/-- One operation of a region in the order of the text. -/
theorem step_sound (hC : CallOk P C) (r : Option Nat) (n : Nat) {nt : Nat} {locals : List Nat} {ops : Array Oper} {o : Oper} {io : IOper} (hc : compOper P nt locals ops o = some io) (hp : r = none ∨ plainOp io.op = true) {s s' : St} {a : Act} (R : Rel P m ml nt s a w)
    (hsz : ∀ (j d : Nat), (ops[j]?).bind (fun (x : Oper) => x.dst) = some d → d < nt) (h : stepOp C io s = some s') {Q : Exit → Act → World → Prop} {K : Act → World → Prop}
    (hK : ∀ m' ml' w' a', Rel P m' ml' nt s' a' w' → Grow m ml s.loc s.H w m' ml' s'.loc s'.H w' → K a' w') :
    if Region.wanted o (yielded ops a.tmps) then o.wpIn (FF r) n P a w K Q else (∀ f, o.about P w a.eval = some f → (FF r).fn f) ∧ K (a.put o.dst undef) w := by
  obtain ⟨hd, h1, h2, h3⟩ := compOper_spec hc
  obtain ⟨idst, iop, ig⟩ := io
  simp only at h1 h2 h3 hp
  subst h3
  have hwt : ∀ b, wantedA s ig = some b → Region.wanted o (yielded ops a.tmps) = b := fun b hb =>
    wanted_spec (nt := nt) (m := m) (ml := ml) (fun t v hv => (R.env t v hv).1) (fun j d hj => by rw [R.size]; exact hsz j d hj) h2 hb
  unfold stepOp at h
  split at h
  · cases h
  · rename_i hw
    cases h
    rw [hwt _ hw]
    simp only [Bool.false_eq_true, if_false]
    refine ⟨fun _ _ => trivial, hK m ml w _ ?_ ?_⟩
    · exact R.put hd R.sim (.refl ..) (.of (by simp [undefA, AV.okP, AV.okPL])) rfl rfl (fun _ => .inl rfl) (by simp [undef, undefA, conc, concL])
    · cases o.dst <;> exact .refl ..
  · rename_i hw
    rw [hwt _ hw]
    simp only [if_true]
    refine ⟨fun _ _ => trivial, ?_⟩
    rw [FF_round]
    split at h
    · rename_i f args hop
      simp only at hop
      split at h
      · rename_i g vs hf hvs
        cases hcall : callR C g vs s.H with
        | none => simp [hcall] at h
        | some q =>
          obtain ⟨v, H'⟩ := q
          simp [hcall] at h
          subst h
          have hco : compOp P locals o.dst o.op = some (.call f args) := comp_of (by rw [h1]; exact hop) (by simp)
          rw [Oper.semAt_eq _ _ _ (comp_defer hco rfl)]
          refine call_upon (ρ := a.eval) hC hco (fun x _ => R.opR x) R.sim hf hvs hcall r n fun m' w' S' G' ok' hdf => hK m' ml w' _ ?_ ?_
          · exact R.put hd (s' := { s with H := H' }) S' G' (.of ok') rfl hdf (fun _ => .inl rfl) rfl
          · cases o.dst <;> exact G'
      · cases h
    · rename_i hne
      cases he : evOp o.dst s iop with
      | none => simp [he] at h
      | some q =>
        obtain ⟨v, s1⟩ := q
        simp [he] at h
        subst h
        have hco : compOp P locals o.dst o.op = some iop := comp_of h1 (by rintro rfl; simp [evOp] at he)
        by_cases hpl : plainOp iop = true
        · rw [Oper.semAt_eq _ _ _ (comp_defer hco hpl)]
          obtain ⟨m', ml', w', hrun, S', G', ok', henv, hml⟩ := op_sound (ρ := a.eval) hco hpl he (fun x _ => R.opR x) R.sim
          have hdf := evOp_dfs he hpl
          have hG : Grow m ml s.loc s.H w m' ml' (s1.put o.dst v).loc (s1.put o.dst v).H w' := by cases o.dst <;> exact G'
          rcases hrun with hrun | ⟨hrun, rfl⟩
          · simp only [hrun, Oper.uponIn_value]
            exact hK m' ml' w' _ (R.put hd S' G' ok' henv hdf hml rfl) hG
          · simp only [hrun, Oper.uponIn_skip]
            exact hK m' ml' w' _ (R.put hd S' G' ok' henv hdf hml (by simp [undef, undefA, conc, concL])) hG
        · rcases hp with rfl | hp
          · -- a deferred call
            rw [Oper.semAt_none]
            cases iop <;> simp [plainOp] at hpl
            rename_i f args
            obtain ⟨dst', op, type, pos, after, guard⟩ := o
            simp only at hco hd he hK ⊢
            have key : ∃ fo as ats, op = .defer { callee := .value fo, args := as, argTypes := ats } ∧ opd fo = some f ∧ opds as.toList = some args := by
              cases op
              case defer c =>
                obtain ⟨callee, as, ats⟩ := c
                cases callee <;> simp only [compOp] at hco <;> first | (cases hco; done) | (obtain ⟨_, _, k1, k2, h3⟩ := opt2_some hco; cases h3; exact ⟨_, _, _, rfl, k1, k2⟩)
              case binOp op t x y yt => exfalso; rcases comp_bin hco with ⟨e, a, b, h, _⟩ | ⟨neg, a, h, _⟩ | ⟨neg, a, b, h, _⟩ <;> cases h
              case call c =>
                exfalso
                obtain ⟨callee, as, ats⟩ := c
                cases callee with
                | value fo => simp only [compOp] at hco; obtain ⟨_, _, k1, k2, h3⟩ := opt2_some hco; cases h3
                | invoke r n => simp [compOp] at hco
                | builtin b =>
                  simp only [compOp, compBuiltin, opt2] at hco
                  (repeat' (split at hco)) <;> cases hco
              case next x b => exfalso; cases b <;> simp [compOp] at hco
              case makeMap t r => exfalso; cases r <;> simp [compOp] at hco
              all_goals
                exfalso
                simp only [compOp, opt2] at hco
                first
                  | (cases hco; done)
                  | ((repeat' (split at hco)) <;> (try cases hco) <;> (try (rw [Option.map_eq_some_iff] at hco; obtain ⟨_, _, hco⟩ := hco; cases hco)))
            obtain ⟨fo, as, ats, rfl, k1, k2⟩ := key
            simp only [evOp] at he
            split at he
            · rename_i g first captured vs hf hvs
              split at he
              · rename_i hl
                cases he
                obtain ⟨e1, e2⟩ := R.opR fo _ _ k1 hf
                obtain ⟨f1, f2⟩ := opds_conc (m := m) (ml := ml) (p := good m s.H.n) (L := LT) k2 hvs (fun x hx => R.opR x)
                have hok := e2.noL rfl
                simp only [AV.okP] at hok
                have hvok : AV.okPL (good m s.H.n) vs := (okPL_iff _ _).2 fun x hx => (f2 x hx).noL (List.all_eq_true.1 hl x hx)
                have hfv : AV.okPL (good m s.H.n) (first ++ vs) := (okPL_iff _ _).2 fun x hx => by
                  rcases List.mem_append.1 hx with hx | hx
                  · exact (okPL_iff _ _).1 hok.1 x hx
                  · exact (okPL_iff _ _).1 hvok x hx
                have ea : as.map a.eval = (concL m ml vs).toArray := by apply Array.ext'; simp [f1]
                have hrun : (execOp a.eval ⟨dst', .defer { callee := .value fo, args := as, argTypes := ats }, type, pos, after, guard⟩).run P w = .ok (.defer (concD m (.call g (first ++ vs) captured))) w := by
                  simp only [execOp, resolve, e1, ea, conc, Deferred.ofValue, pure_bind, Sem.run_pure, concD]
                  rw [concL_ml hfv ml0 ml, concL_ml hok.2 ml0 ml]
                  simp [concL_eq]
                rw [hrun]
                simp only [Oper.uponIn_defer]
                have R1 : Rel P m ml nt { s with H := { s.H with dfs := .call g (first ++ vs) captured :: s.H.dfs } } { a with defers := concD m (.call g (first ++ vs) captured) :: a.defers } w := by
                  refine ⟨⟨R.sim.wf, R.sim.obj, R.sim.ok, R.sim.inj, R.sim.sep, R.sim.locs, R.sim.locok, R.sim.locinj, R.sim.locsep⟩, R.env, R.size, by simp [R.defers], ?_⟩
                  intro d hd'
                  rcases List.mem_cons.1 hd' with rfl | hd'
                  · exact ⟨hfv, hok.2⟩
                  · exact R.dok d hd'
                have G1 : Grow m ml s.loc s.H w m ml s.loc { s.H with dfs := .call g (first ++ vs) captured :: s.H.dfs } w :=
                  ⟨Nat.le_refl _, fun _ _ => rfl, Nat.le_refl _, rfl, rfl, rfl, fun _ _ _ _ => rfl, fun id h => .inl ⟨id, h, rfl⟩, fun t c h => .inl ⟨c, h, rfl⟩, Nat.le_refl _, fun _ _ _ => rfl, fun _ h => h⟩
                refine hK m ml w _ (R1.put hd R1.sim (.refl ..) (.of (by simp [undefA, AV.okP, AV.okPL])) rfl rfl (fun _ => .inl rfl) (by simp [undef, undefA, conc, concL])) ?_
                cases dst' <;> exact G1
              · cases he
            · cases he
          · exact absurd hp hpl

/-- A region in the order of the text. -/
theorem steps_sound (hC : CallOk P C) (r : Option Nat) (n : Nat) {nt : Nat} {locals : List Nat} {ops : Array Oper} (hsz : ∀ (j d : Nat), (ops[j]?).bind (fun (x : Oper) => x.dst) = some d → d < nt) : ∀ (os : List Oper) (ios : List IOper), compOpers P nt locals ops os = some ios → (r = none ∨ (ios.all fun o => plainOp o.op) = true) →
    ∀ (m : Nat → Loc) (ml : Nat → Nat) (w : World) (s s' : St) (a : Act), Rel P m ml nt s a w → stepOps C ios s = some s' → ∀ (Q : Exit → Act → World → Prop),
    (∀ m' ml' w' a', Rel P m' ml' nt s' a' w' → Grow m ml s.loc s.H w m' ml' s'.loc s'.H w' → Q .normal a' w') → wpListIn (FF r) n P ops Q os a w := by
  intro os
  induction os with
  | nil =>
    intro ios hc hp m ml w s s' a R h Q hQ
    simp [compOpers] at hc; subst hc
    simp [stepOps] at h; subst h
    exact hQ m ml w a R (.refl ..)
  | cons o os ih =>
    intro ios hc hp m ml w s s' a R h Q hQ
    simp only [compOpers] at hc
    split at hc
    · rename_i i is h1 h2
      cases hc
      simp only [stepOps] at h
      have hp1 : r = none ∨ plainOp i.op = true := hp.imp id fun h => by simp only [List.all_cons, Bool.and_eq_true] at h; exact h.1
      have hp2 : r = none ∨ (is.all fun o => plainOp o.op) = true := hp.imp id fun h => by simp only [List.all_cons, Bool.and_eq_true] at h; exact h.2
      cases hs : stepOp C i s with
      | none => simp [hs] at h
      | some s1 =>
        simp [hs] at h
        refine wpListIn_step fun K hK => step_sound hC r n h1 hp1 R hsz hs fun m' ml' w' a' R' G' => hK a' w' ?_
        exact ih is h2 hp2 m' ml' w' s1 s' a' R' h Q fun m2 ml2 w2 a2 R2 G2 => hQ m2 ml2 w2 a2 R2 (G'.trans G2)
    · cases hc

end
end Go.Wam
