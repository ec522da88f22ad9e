/- The abstract machine: calls, and regions in the order of the text. No condition. -/
import Derived.Test.YtkahfmgdjoaiiaaAmI
import Derived.Tactics
set_option linter.unusedVariables false
set_option linter.unusedSimpArgs false
namespace Go.Wam

def ml0 : Nat → Nat := fun _ => 0

/-- A function that is called as any. -/
def FOk (P : Program) (f : FuncId) : Prop := ∃ fn c, P.funcs[f]? = some fn ∧ fn.body = some c ∧ (fn.name == "runtime.NumGoroutine") = false

/-- What a call comes to, from every world that the heap stands for. -/
def ATrip (P : Program) (f : FuncId) (args : List AV) (H : AHeap) (v : AV) (H' : AHeap) : Prop :=
  FOk P f ∧ H.n ≤ H'.n ∧ ∀ m w, Sim m ml0 [] H w → (∀ v ∈ args, v.okP (good m H.n)) →
    Calls P f (concL m ml0 args).toArray w fun e w' => ∃ m', e = .returned (conc m' ml0 v) ∧ Sim m' ml0 [] H' w' ∧ Grow m ml0 [] H w m' ml0 [] H' w' ∧ v.okP (good m' H'.n)

def CallOk (P : Program) (C : CallF) : Prop := ∀ g args H v H', C g args H = some (v, H') → ATrip P g args H v H'

section
variable {P : Program} {C : CallF} {m m' : Nat → Loc} {ml ml' : Nat → Nat} {loc : List (Nat × List AV)} {H H' : AHeap} {w w' : World}

theorem conc_ml {n : Nat} {v : AV} (h : v.okP (good m n)) (ml1 ml2 : Nat → Nat) : conc m ml1 v = conc m ml2 v := conc_congr ml2 ml1 (fun _ _ _ => rfl) v h
theorem concL_ml {n : Nat} {vs : List AV} (h : AV.okPL (good m n) vs) (ml1 ml2 : Nat → Nat) : concL m ml1 vs = concL m ml2 vs := concL_congr ml2 ml1 (fun _ _ _ => rfl) vs h

theorem good_mono (G : Grow m ml loc H w m' ml' loc H' w') : ∀ i k, good m H.n i k → good m' H'.n i k :=
  fun i k ⟨a, b⟩ => ⟨Nat.lt_of_lt_of_le a G.n_le, by rw [G.agree i a]; exact b⟩

theorem Sim.drop (S : Sim m ml loc H w) (ml1 : Nat → Nat) : Sim m ml1 [] H w where
  wf := S.wf
  obj := fun id o h => (S.obj id o h).rename (fun _ _ _ => rfl) (S.ok id o h)
  ok := S.ok
  inj := S.inj
  sep := S.sep
  locs := fun t c h => by simp [look] at h
  locok := fun t c h => by simp [look] at h
  locinj := fun t u c d h => by simp [look] at h
  locsep := fun t c i h => by simp [look] at h

/-- Behind a call the frame's own local variables stand as they stood. -/
theorem Sim.back (S : Sim m ml loc H w) (S' : Sim m' ml0 [] H' w') (G : Grow m ml0 [] H w m' ml0 [] H' w') : Sim m' ml loc H' w' ∧ Grow m ml loc H w m' ml loc H' w' := by
  have hm : ∀ i k, good m H.n i k → m' i = m i := fun i k hi => G.agree i hi.1
  have hold : ∀ t c, look t loc = some c → w'.heap[ml t]? = w.heap[ml t]? := fun t c ht =>
    G.keep _ (S.used_lt (.inr ⟨t, c, ht, rfl⟩)) (fun id hid => S.locsep t c id ht (.inl hid)) (fun u d hu => by simp [look] at hu)
  refine ⟨⟨S'.wf, fun id o h => (S'.obj id o h).rename (fun _ _ _ => rfl) (S'.ok id o h), S'.ok, S'.inj, S'.sep, ?_, ?_, S.locinj, ?_⟩, ?_⟩
  · intro t c ht
    exact ((S.locs t c ht).congr (hold t c ht)).rename hm (S.locok t c ht).1
  · intro t c ht
    exact ⟨okPL_mono (fun i k ⟨a, b⟩ => ⟨Nat.lt_of_lt_of_le a G.n_le, by rw [G.agree i a]; exact b⟩) _ (S.locok t c ht).1, (S.locok t c ht).2⟩
  · intro t c i ht hi
    rcases hi with hi | hi
    · rcases G.own i hi with ⟨j, hj, he⟩ | he
      · rw [← he]; exact S.locsep t c j ht (.inl hj)
      · have := S.used_lt (.inr ⟨t, c, ht, rfl⟩); omega
    · have h0 := G.ro i hi
      rw [G.agree i (h0.lt S.wf)]
      exact S.locsep t c i ht (.inr h0)
  · exact ⟨G.n_le, G.agree, G.size, G.os, G.tape, G.output, fun b hb h1 h2 => G.keep b hb h1 (fun u d hu => by simp [look] at hu), G.own, fun t c ht => .inl ⟨c, ht, rfl⟩, G.low, G.pres, G.ro⟩

/-- How a frame of the model stands to a state of ours. -/
structure Rel (m : Nat → Loc) (ml : Nat → Nat) (nt : Nat) (s : St) (a : Act) (w : World) : Prop where
  sim : Sim m ml s.loc s.H w
  env : ∀ t v, look t s.env = some v → a.tmps.getD t undef = conc m ml v ∧ vOk (good m s.H.n) LT v
  size : a.tmps.size = nt
  defers : a.defers = []

theorem Rel.opR {nt : Nat} {s : St} {a : Act} (R : Rel m ml nt s a w) (x : Operand) : OpR a.eval s.env m ml (good m s.H.n) LT x :=
  .of_act a x fun t v _ hv => R.env t v hv

theorem getD_put {a : Act} {d t : Nat} {v : Value} (hd : d < a.tmps.size) : (a.put (some d) v).tmps.getD t undef = if t = d then v else a.tmps.getD t undef := by
  simp only [Act.put, Array.getD_eq_getD_getElem?, Array.getElem?_setIfInBounds]
  by_cases h : d = t
  · subst h; simp [hd]
  · have : ¬ t = d := fun x => h x.symm
    simp [h, this]

theorem conc_lptr_ml {n : Nat} {v : AV} (h : vOk (good m n) LT v) (hm : ∀ i k, good m n i k → m' i = m i) (hl : ∀ t off, v = .lptr t off → ml' t = ml t) : conc m' ml' v = conc m ml v := by
  rcases h with h | ⟨t, off, rfl, _⟩
  · exact conc_congr ml ml' hm v h
  · simp [conc, hl t off rfl]

theorem freeL_spec {t : Nat} {env : List (Nat × AV)} (h : freeL t env = true) {k u off : Nat} (hk : look k env = some (.lptr u off)) : u ≠ t ∨ k = t := by
  induction env with
  | nil => simp [look] at hk
  | cons e env ih =>
    obtain ⟨k', v'⟩ := e
    simp only [freeL, List.all_cons, Bool.and_eq_true] at h
    simp only [look] at hk
    split at hk
    · rename_i e; subst e; cases hk
      have := h.1
      simp only [Bool.or_eq_true, Bool.not_eq_true', beq_eq_false_iff_ne, ne_eq, beq_iff_eq] at this
      exact this
    · exact ih (by simpa [freeL] using h.2) hk

/-- The slot that an operation writes. -/
theorem Rel.put {nt : Nat} {s s' : St} {a : Act} (R : Rel m ml nt s a w) {dst : Option Nat} {v : AV} (hd : ∀ d, dst = some d → d < nt) (S' : Sim m' ml' s'.loc s'.H w') (G : Grow m ml s.loc s.H w m' ml' s'.loc s'.H w')
    (hv : vOk (good m' s'.H.n) LT v) (he : s'.env = s.env) (hl : ∀ t, ml' t = ml t ∨ (dst = some t ∧ freeL t s.env = true)) {u : Value} (hu : u = conc m' ml' v) : Rel m' ml' nt (s'.put dst v) (a.put dst u) w' := by
  have hm : ∀ i k, good m s.H.n i k → m' i = m i := fun i k hi => G.agree i hi.1
  have hg : ∀ i k, good m s.H.n i k → good m' s'.H.n i k := fun i k ⟨a, b⟩ => ⟨Nat.lt_of_lt_of_le a G.n_le, by rw [G.agree i a]; exact b⟩
  have old : ∀ t x, look t s.env = some x → dst ≠ some t → a.tmps.getD t undef = conc m' ml' x ∧ vOk (good m' s'.H.n) LT x := by
    intro t x hx hne
    obtain ⟨e1, e2⟩ := R.env t x hx
    refine ⟨?_, e2.mono hg fun _ h => h⟩
    rw [e1]
    refine (conc_lptr_ml e2 hm fun t' off hx' => ?_).symm
    subst hx'
    rcases hl t' with h | ⟨h1, h2⟩
    · exact h
    · rcases freeL_spec h2 hx with h3 | h3
      · exact absurd rfl h3
      · subst h3; exact absurd h1 hne
  cases dst with
  | none =>
    refine ⟨by simpa [St.put] using S', fun t x hx => ?_, by simpa [Act.put] using R.size, by simpa [Act.put] using R.defers⟩
    simp only [St.put, he] at hx
    simpa [Act.put, St.put] using old t x hx (by simp)
  | some d =>
    refine ⟨by simpa [St.put] using S', fun t x hx => ?_, by simpa [Act.put] using R.size, by simpa [Act.put] using R.defers⟩
    rw [getD_put (by rw [R.size]; exact hd d rfl)]
    simp only [St.put, look, he] at hx
    simp only [St.put]
    split at hx
    · rename_i e; subst e; cases hx; rw [if_pos rfl]; exact ⟨hu, hv⟩
    · rename_i e; rw [if_neg (fun x => e x.symm)]; exact old t x hx (fun h => e (by cases h; rfl))

theorem compOper_spec {nt : Nat} {locals : List Nat} {ops : Array Oper} {o : Oper} {io : IOper} (h : compOper P nt locals ops o = some io) :
    (∀ d, o.dst = some d → d < nt) ∧ compOp P locals o.dst o.op = some io.op ∧ compGuard ops o.guard = some io.guard ∧ io.dst = o.dst := by
  unfold compOper at h
  split at h
  · rename_i hd
    obtain ⟨i, g, h1, h2, h3⟩ := opt2_some h
    cases h3
    refine ⟨fun d e => ?_, h1, h2, rfl⟩
    simp only [e, dstOk, decide_eq_true_eq] at hd
    exact hd
  · cases h

theorem wanted_spec {nt : Nat} {ops : Array Oper} {s : St} {a : Act} {o : Oper} {g : Option (Nat × Bool)} {b : Bool} (R : ∀ t v, look t s.env = some v → a.tmps.getD t undef = conc m ml v) (hsz : ∀ (j d : Nat), (ops[j]?).bind (fun (x : Oper) => x.dst) = some d → d < a.tmps.size)
    (h : compGuard ops o.guard = some g) (hw : wantedA s g = some b) : Region.wanted o (yielded ops a.tmps) = b := by
  unfold Region.wanted
  cases hg : o.guard with
  | none =>
    rw [hg] at h; simp [compGuard] at h; subst h
    simp [wantedA] at hw; subst hw; rfl
  | some jw =>
    obtain ⟨j, want⟩ := jw
    rw [hg] at h
    simp only [compGuard] at h
    cases hd : (ops[j]?).bind (·.dst) with
    | none => simp [hd] at h
    | some d =>
      simp [hd] at h; subst h
      have hlt := hsz j d hd
      simp only [wantedA] at hw
      have hy : yielded ops a.tmps j = match a.tmps.getD d undef with | .bool b => some b | _ => none := by
        simp only [yielded, hd, Option.bind_some]
        have : a.tmps[d]? = some (a.tmps.getD d undef) := by
          rw [Array.getD_eq_getD_getElem?, Array.getElem?_eq_getElem hlt]; rfl
        rw [this]
        generalize a.tmps.getD d undef = u
        cases u <;> rfl
      simp only [hy]
      split at hw
      · rename_i b' hb
        cases hw
        rw [R d _ hb]
        simp [conc]
      · rename_i v hne hb
        cases hw
        rw [R d _ hb]
        cases v <;> simp_all [conc]
      · cases hw

theorem FOk.call {f : FuncId} (h : FOk P f) (args : Array Value) (w : World) : (callFunc f args).run P w = .ok (.enter f args) w := by
  obtain ⟨fn, c, h1, h2, h3⟩ := h
  have h4 : ¬ fn.name = "runtime.NumGoroutine" := by simpa using h3
  simp [callFunc, h1, h2, h4]

/-- A call, in the model. -/
theorem call_sound (hC : CallOk P C) {s : St} {o : Oper} {f : Opd} {args : List Opd} {locals : List Nat} {dst : Option Nat} {ρ : Operand → Value} (hc : compOp P locals dst o.op = some (.call f args))
    (hρ : ∀ x ∈ o.op.operands, OpR ρ s.env m ml (good m s.H.n) LT x) (S : Sim m ml s.loc s.H w) {g : FuncId} {first captured vs : List AV} {v : AV}
    (hf : f.ev s.env = some (.func (.func g) first captured)) (hvs : evs s.env args = some vs) (hl : allNoL vs = true) (h : C g (first ++ (vs ++ captured)) s.H = some (v, H')) :
    ∃ cargs, (execOp ρ o).run P w = .ok (.enter g cargs) w ∧ Calls P g cargs w fun e w' => ∃ m', e = .returned (conc m' ml v) ∧ Sim m' ml s.loc H' w' ∧ Grow m ml s.loc s.H w m' ml s.loc H' w' ∧ v.okP (good m' H'.n) := by
  obtain ⟨dst', op, type, pos, after, guard⟩ := o
  simp only at hc hρ
  have key : ∃ fo as ats, op = .call { callee := .value fo, args := as, argTypes := ats } ∧ opd fo = some f ∧ opds as.toList = some args := by
    cases op
    case call c =>
      obtain ⟨callee, as, ats⟩ := c
      cases callee with
      | value fo => simp only [compOp] at hc; obtain ⟨_, _, h1, h2, h3⟩ := opt2_some hc; cases h3; exact ⟨fo, as, ats, rfl, h1, h2⟩
      | invoke r n => simp [compOp] at hc
      | builtin b =>
        exfalso
        simp only [compOp, compBuiltin, opt2] at hc
        (repeat' (split at hc)) <;> cases hc
    case makeMap t r => exfalso; cases r <;> simp [compOp] at hc
    all_goals
      exfalso
      simp only [compOp, opt2] at hc
      first
        | (cases hc; done)
        | ((repeat' (split at hc)) <;> (try cases hc) <;> (try (rw [Option.map_eq_some_iff] at hc; obtain ⟨_, _, hc⟩ := hc; cases hc)))
  obtain ⟨fo, as, ats, rfl, h1, h2⟩ := key
  obtain ⟨e1, e2⟩ := hρ fo (by simp [Op.operands, Call.operands]) _ _ h1 hf
  obtain ⟨f1, f2⟩ := opds_conc (m := m) (ml := ml) (p := good m s.H.n) (L := LT) h2 hvs (fun x hx => hρ x (by simp [Op.operands, Call.operands] at *; exact .inr hx))
  have hok := e2.noL rfl
  simp only [AV.okP] at hok
  have hvok : AV.okPL (good m s.H.n) vs := (okPL_iff _ _).2 fun x hx => (f2 x hx).noL (List.all_eq_true.1 hl x hx)
  obtain ⟨hF, _, hT⟩ := hC _ _ _ _ _ h
  have hall : ∀ x ∈ first ++ (vs ++ captured), x.okP (good m s.H.n) := by
    intro x hx
    rcases List.mem_append.1 hx with hx | hx
    · exact (okPL_iff _ _).1 hok.1 x hx
    · rcases List.mem_append.1 hx with hx | hx
      · exact (okPL_iff _ _).1 hvok x hx
      · exact (okPL_iff _ _).1 hok.2 x hx
  refine ⟨(concL m ml0 (first ++ (vs ++ captured))).toArray, ?_, ?_⟩
  · have ea : as.map ρ = (concL m ml vs).toArray := by apply Array.ext'; simp [f1]
    have e3 : (concL m ml first).toArray ++ (concL m ml vs).toArray ++ (concL m ml captured).toArray = (concL m ml0 (first ++ (vs ++ captured))).toArray := by
      rw [concL_ml ((okPL_iff _ _).2 hall) ml0 ml]
      simp [concL_eq]
    simp only [execOp, resolve, e1, ea, conc, Deferred.ofValue, pure_bind, invoke]
    rw [e3, hF.call]
  · refine (hT m w (S.drop ml0) hall).mono ?_
    rintro e w' ⟨m', rfl, S', G', ok'⟩
    obtain ⟨b1, b2⟩ := S.back S' G'
    exact ⟨m', by rw [conc_ml ok' ml0 ml], b1, b2, ok'⟩

/-- One operation of a region in the order of the text. -/
theorem step_sound (hC : CallOk P C) {nt : Nat} {locals : List Nat} {ops : Array Oper} {o : Oper} {io : IOper} (hc : compOper P nt locals ops o = some io) {s s' : St} {a : Act} (R : Rel m ml nt s a w)
    (hsz : ∀ (j d : Nat), (ops[j]?).bind (fun (x : Oper) => x.dst) = some d → d < nt) (h : stepOp C io s = some s') {Q : Exit → Act → World → Prop} {K : Act → World → Prop}
    (hK : ∀ m' ml' w' a', Rel m' ml' nt s' a' w' → Grow m ml s.loc s.H w m' ml' s'.loc s'.H w' → K a' w') :
    if Region.wanted o (yielded ops a.tmps) then o.wp P a w K Q else K (a.put o.dst undef) w := by
  obtain ⟨hd, h1, h2, h3⟩ := compOper_spec hc
  obtain ⟨idst, iop, ig⟩ := io
  simp only at h1 h2 h3
  subst h3
  have hwt : ∀ b, wantedA s ig = some b → Region.wanted o (yielded ops a.tmps) = b := fun b hb =>
    wanted_spec (nt := nt) (m := m) (ml := ml) (fun t v hv => (R.env t v hv).1) (fun j d hj => by rw [R.size]; exact hsz j d hj) h2 hb
  unfold stepOp at h
  split at h
  · cases h
  · rename_i hw
    cases h
    rw [hwt _ hw]
    simp only [Bool.false_eq_true, if_false]
    refine hK m ml w _ ?_ ?_
    · exact R.put hd R.sim (.refl ..) (.of (by simp [undefA, AV.okP, AV.okPL])) rfl (fun _ => .inl rfl) (by simp [undef, undefA, conc, concL])
    · cases o.dst <;> exact .refl ..
  · rename_i hw
    rw [hwt _ hw]
    simp only [if_true]
    split at h
    · rename_i f args hop
      split at h
      · rename_i g first captured vs hf hvs
        split at h
        · rename_i hl
          cases hcall : C g (first ++ (vs ++ captured)) s.H with
          | none => simp [hcall] at h
          | some r =>
            obtain ⟨v, H'⟩ := r
            simp [hcall] at h
            subst h
            obtain ⟨cargs, r1, r2⟩ := call_sound (ρ := a.eval) hC (by rw [h1]; exact congrArg some hop) (fun x _ => R.opR x) R.sim hf hvs hl hcall
            simp only [Oper.wp, r1, Oper.upon_enter]
            refine r2.mono ?_
            rintro e w' ⟨m', rfl, S', G', ok'⟩
            simp only
            refine hK m' ml w' _ ?_ ?_
            · exact R.put hd (s' := { s with H := H' }) S' G' (.of ok') rfl (fun _ => .inl rfl) rfl
            · cases o.dst <;> exact G'
        · cases h
      · cases h
    · rename_i hne
      cases he : evOp o.dst s iop with
      | none => simp [he] at h
      | some r =>
        obtain ⟨v, s1⟩ := r
        simp [he] at h
        subst h
        obtain ⟨m', ml', w', hrun, S', G', ok', henv, hml⟩ := op_sound (ρ := a.eval) h1 he (fun x _ => R.opR x) R.sim
        have hG : Grow m ml s.loc s.H w m' ml' (s1.put o.dst v).loc (s1.put o.dst v).H w' := by cases o.dst <;> exact G'
        rcases hrun with hrun | ⟨hrun, rfl⟩
        · simp only [Oper.wp, hrun, Oper.upon_value]
          exact hK m' ml' w' _ (R.put hd S' G' ok' henv hml rfl) hG
        · simp only [Oper.wp, hrun, Oper.upon_skip]
          exact hK m' ml' w' _ (R.put hd S' G' ok' henv hml (by simp [undef, undefA, conc, concL])) hG

/-- A region in the order of the text. -/
theorem steps_sound (hC : CallOk P C) {nt : Nat} {locals : List Nat} {ops : Array Oper} (hsz : ∀ (j d : Nat), (ops[j]?).bind (fun (x : Oper) => x.dst) = some d → d < nt) : ∀ (os : List Oper) (ios : List IOper), compOpers P nt locals ops os = some ios →
    ∀ (m : Nat → Loc) (ml : Nat → Nat) (w : World) (s s' : St) (a : Act), Rel m ml nt s a w → stepOps C ios s = some s' → ∀ (Q : Exit → Act → World → Prop),
    (∀ m' ml' w' a', Rel m' ml' nt s' a' w' → Grow m ml s.loc s.H w m' ml' s'.loc s'.H w' → Q .normal a' w') → wpList P ops Q os a w := by
  intro os
  induction os with
  | nil =>
    intro ios hc m ml w s s' a R h Q hQ
    simp [compOpers] at hc; subst hc
    simp [stepOps] at h; subst h
    exact hQ m ml w a R (.refl ..)
  | cons o os ih =>
    intro ios hc m ml w s s' a R h Q hQ
    simp only [compOpers] at hc
    split at hc
    · rename_i i is h1 h2
      cases hc
      simp only [stepOps] at h
      cases hs : stepOp C i s with
      | none => simp [hs] at h
      | some s1 =>
        simp [hs] at h
        refine wpList_step fun K hK => step_sound hC h1 R hsz hs fun m' ml' w' a' R' G' => hK a' w' ?_
        exact ih is h2 m' ml' w' s1 s' a' R' h Q fun m2 ml2 w2 a2 R2 G2 => hQ m2 ml2 w2 a2 R2 (G'.trans G2)
    · cases hc

end
end Go.Wam
