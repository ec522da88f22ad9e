/- The abstract machine: a range over a function; a range over a map in place. No condition. -/
import Derived.Test.YtpdmmpajjdaebaaGreatAmLm
import Derived.RangeFuncIn
import Derived.RangeFuncRecord
set_option linter.unusedVariables false
set_option linter.unusedSimpArgs false
namespace Go.Wam

theorem plainC_erase : ∀ ic : IC, plainC (erase ic) = plainC ic
  | .keep _ _ c => by simp only [erase, plainC]; exact plainC_erase c
  | .seq a b => by simp only [erase, plainC, plainC_erase a, plainC_erase b]
  | .cond _ a b => by simp only [erase, plainC, plainC_erase a, plainC_erase b]
  | .block _ b => by simp only [erase, plainC, plainC_erase b]
  | .loop b => by simp only [erase, plainC, plainC_erase b]
  | .rangeF .. => rfl
  | .mapR _ _ _ _ _ _ b => by simp [erase, plainC, plainC_erase b, plainOp]
  | .skip | .region _ | .regionD .. | .exit _ | .ret | .stuck => rfl

theorem look_envNoL {t : Nat} {v : AV} {env : List (Nat × AV)} (h : look t (envNoL env) = some v) : look t env = some v ∧ v.noL = true := by
  have key : ∀ (p : Nat → Bool) (l : List (Nat × AV)), look t (l.filter fun e => p e.1) = some v → look t l = some v ∧ p t = true := by
    intro p l
    induction l with
    | nil => intro h; simp [look] at h
    | cons e l ih =>
      obtain ⟨k, u⟩ := e
      intro h
      simp only [List.filter_cons] at h
      by_cases hk : k = t
      · subst hk
        cases hp : p k with
        | true => rw [hp] at h; simp [look] at h ⊢; exact h
        | false =>
          rw [hp] at h
          simp at h
          have := (ih h).2
          rw [hp] at this; cases this
      · have hl : look t ((k, u) :: l) = look t l := by simp [look, hk]
        rw [hl]
        split at h
        · rw [show look t ((k, u) :: l.filter fun e => p e.1) = look t (l.filter fun e => p e.1) by simp [look, hk]] at h
          exact ih h
        · exact ih h
  obtain ⟨h1, h2⟩ := key (fun k => match look k env with | some v => v.noL | none => false) env h
  rw [h1] at h2
  exact ⟨h1, h2⟩

def toExit : AExit → Exit
  | .normal => .normal
  | .exit id => .exit id
  | .ret => .ret

section
variable {P : Program} {C : CallF} {m m' : Nat → Loc} {ml ml' : Nat → Nat} {nt : Nat} {locals : List Nat} {w w' : World} {s s' : St} {a : Act}

theorem Sim.dfs {loc : List (Nat × List AV)} {H : AHeap} (S : Sim P m ml loc H w) (d : List Dfr) : Sim P m ml loc { H with dfs := d } w :=
  ⟨S.wf, S.obj, S.ok, S.inj, S.sep, S.locs, S.locok, S.locinj, S.locsep⟩
theorem Grow.dfs {loc loc' : List (Nat × List AV)} {H H' : AHeap} (G : Grow m ml loc H w m' ml' loc' H' w') (d : List Dfr) : Grow m ml loc H w m' ml' loc' { H' with dfs := d } w' :=
  ⟨G.n_le, G.agree, G.size, G.os, G.tape, G.output, G.keep, G.own, G.locs, G.low, G.pres, G.ro⟩
theorem Grow.dfs0 {loc loc' : List (Nat × List AV)} {H H' : AHeap} {d : List Dfr} (G : Grow m ml loc { H with dfs := d } w m' ml' loc' H' w') : Grow m ml loc H w m' ml' loc' H' w' :=
  ⟨G.n_le, G.agree, G.size, G.os, G.tape, G.output, G.keep, G.own, G.locs, G.low, G.pres, G.ro⟩

theorem wrote_put {w : World} {b : Nat} {o' : Obj} : Wrote w (w.putObj b o') b :=
  ⟨fun x hx => World.putObj_heap_other hx, by simp [World.putObj], rfl, rfl, rfl⟩

theorem look_prune {α : Type} {t : Nat} {v : α} : ∀ {ks : List Nat} {l : List (Nat × α)}, look t (prune ks l) = some v → look t l = some v := by
  intro ks
  induction ks with
  | nil => intro l h; simp [prune, look] at h
  | cons k ks ih =>
    intro l h
    simp only [prune, List.filterMap_cons] at h
    cases hk : look k l with
    | none => rw [hk] at h; exact ih h
    | some u =>
      rw [hk] at h
      simp only [Option.map_some, look] at h
      split at h
      · rename_i e; subst e; rw [hk]; exact h
      · exact ih h

theorem Sim.prune {loc : List (Nat × List AV)} {H : AHeap} (S : Sim P m ml loc H w) (ks : List Nat) : Sim P m ml (Go.Wam.prune ks loc) H w where
  wf := S.wf
  obj := S.obj
  ok := S.ok
  inj := S.inj
  sep := S.sep
  locs := fun t c h => S.locs t c (look_prune h)
  locok := fun t c h => S.locok t c (look_prune h)
  locinj := fun t u c d h k => S.locinj t u c d (look_prune h) (look_prune k)
  locsep := fun t c i h => S.locsep t c i (look_prune h)

/-- At the head of a loop. -/
def LoopAt (F : Fence) (n : Nat) (P : Program) (cb : Code) (Q : Exit → Act → World → Prop) (a : Act) (w : World) : Prop :=
  ∀ (b : Frame) (k : List Item) (cs : List Frame), b.roundOf = F.round → F.fn b.fn → F.room (cs.length + 1 + n) →
    ∃ e a' w', Q e a' w' ∧ ArrivesIn (Machine.fenced P F) P (lone (b.atR a (.code cb :: .inLoop cb :: k)) cs w) b k cs e a' w'
theorem wpIn_of_loopAt {F : Fence} {n : Nat} {cb : Code} {Q : Exit → Act → World → Prop} (h : LoopAt F n P cb Q a w) : (Code.loop cb).wpIn F n P Q a w := by
  intro b k cs hro hb hr
  obtain ⟨e, a', w', hq, harr⟩ := h b k cs hro hb hr
  exact ⟨e, a', w', hq, .of_steps (.one (fenced_calm hb hr rfl) stepR_loop) harr⟩
theorem loopAt_round {F : Fence} {n : Nat} {cb : Code} {Q : Exit → Act → World → Prop} (h : cb.wpIn F n P (fun e a' w' => match e with | .normal => LoopAt F n P cb Q a' w' | e => Q e a' w') a w) : LoopAt F n P cb Q a w := by
  intro b k cs hro hb hr
  obtain ⟨e, a₁, w₁, hq, harr⟩ := h b (.inLoop cb :: k) cs hro hb hr
  cases e with
  | normal =>
    obtain ⟨e₂, a₂, w₂, hq₂, harr₂⟩ := hq b k cs hro hb hr
    exact ⟨e₂, a₂, w₂, hq₂, .of_steps (StepsIn.trans harr (.one (fenced_calm hb hr rfl) stepR_inLoop)) harr₂⟩
  | exit id => exact ⟨_, a₁, w₁, hq, .pass (x := .inLoop cb) rfl (fun _ _ => .inl (by simp)) harr⟩
  | goto l => exact ⟨_, a₁, w₁, hq, .pass (x := .inLoop cb) rfl (fun _ _ => .inl (by simp)) harr⟩
  | ret => exact ⟨_, a₁, w₁, hq, .pass (x := .inLoop cb) rfl (fun _ _ => .inl (by simp)) harr⟩
  | panic ch => exact ⟨_, a₁, w₁, hq, .pass (x := .inLoop cb) rfl (fun _ _ => .inl (by simp)) harr⟩
  | outgrown => exact ⟨_, a₁, w₁, hq, .pass (x := .inLoop cb) rfl (fun _ _ => .inl (by simp)) harr⟩

theorem codeX_wp {F : Fence} {fu : Nat} (x : AExit) {Q : Exit → Act → World → Prop} (h : Q (toExit x) a w) : (codeX x).wpIn F fu P Q a w := by
  cases x with
  | normal => exact wpIn_skip h
  | exit id => exact wpIn_exit h
  | ret => exact wpIn_ret h

theorem rangeF_sound (hC : CallOk P C) {n fu : Nat} {g : Operand} {ps : Array Tmp} {ca cb : Code} {f : Opd} {ia ib : IC} (hf : opd g = some f) (hlt : ∀ p ∈ ps.toList, p < nt) (ha : compC P nt locals ca = some (erase ia)) (hb : compC P nt locals cb = some (erase ib))
    (hpa : plainC ia = true) (hpb : plainC ib = true) {x : AExit} (R : Rel P m ml nt s a w) (h : evC C n (.rangeF f ps.toList ia ib) s = some (x, s')) {Q : Exit → Act → World → Prop}
    (hQ : ∀ m' ml' w' a', Rel P m' ml' nt s' a' w' → Grow m ml s.loc s.H w m' ml' s'.loc s'.H w' → Q (toExit x) a' w') : (Code.rangeFunc g ps ca cb).wpIn (FF none) fu P Q a w := by
  simp only [evC] at h
  split at h
  · rename_i gf captured hev
    split at h
    · cases h
    rename_i hg
    obtain ⟨e1, e2⟩ := R.opR g _ _ hf hev
    have hok := e2.noL rfl
    simp only [AV.okP] at hok
    cases hcall : C gf (.yield (s.H.n + 1) :: captured) ((s.H.alloc .dfd).alloc (.loop .ready none (envNoL s.env) ps.toList ia ib)) with
    | none => simp [hcall] at h
    | some q =>
      obtain ⟨v, H'⟩ := q
      simp only [hcall, Option.bind_some] at h
      obtain ⟨hdf, _, hT, _⟩ := hC _ _ _ _ _ hcall
      obtain ⟨hF, _, hT⟩ : ATrip P gf _ _ v H' := (hT (Nat.not_le.1 hg)).resolve_right fun hx => absurd rfl (hx.2 _ _)
      have hst : ∃ st pend env ps' ia' ib', H'.get (s.H.n + 1) = some (.loop st pend env ps' ia' ib') ∧ st ≠ .busy ∧ x = pend.getD .normal ∧ s' = { s with H := { H'.set (s.H.n + 1) .dead with dfs := .mark s.H.n :: H'.dfs } } := by
        split at h
        · cases h
        · rename_i st pend env ps' ia' ib' hne hgt
          simp only [Option.some.injEq, Prod.mk.injEq] at h
          refine ⟨st, pend, env, ps', ia', ib', hgt, ?_, h.1.symm, h.2.symm⟩
          rintro rfl
          exact hne rfl
        · cases h
      obtain ⟨st, pend, env', ps', ia', ib', hgt, hnb, rfl, rfl⟩ := hst
      refine wpIn_rangeFunc fun fn _ => ?_
      rw [FF_round]
      -- the two blocks
      have hp1 := pushed_mk w (.deferred (some []))
      have hp2 := pushed_mk (w.alloc (.deferred (some []))) (.loop { state := .ready, pending := none, fn, tmps := a.tmps, params := ps, assign := ca, body := cb, defers := w.heap.size })
      have hsz1 : (w.alloc (.deferred (some []))).heap.size = w.heap.size + 1 := World.size_alloc ..
      have S1 := R.sim.frame (w' := w.alloc (.deferred (some []))) fun b hb => hp1.old (R.sim.used_lt hb)
      have S1' := S1.add_obj (o := .dfd) (l := ⟨w.heap.size, 0, 0⟩) hp1.new trivial (fun b hb e => by have := R.sim.used_lt hb; simp only at e; omega) rfl
      have G1 : Grow m ml s.loc s.H w _ ml s.loc (s.H.alloc .dfd) (w.alloc (.deferred (some []))) := .of_push (o' := .dfd) (l := ⟨w.heap.size, 0, 0⟩) R.sim.wf rfl hp1 rfl
      have S2 := S1'.frame (w' := (w.alloc (.deferred (some []))).alloc (.loop { state := .ready, pending := none, fn, tmps := a.tmps, params := ps, assign := ca, body := cb, defers := w.heap.size })) fun b hb => hp2.old (S1'.used_lt hb)
      have hm1 : ∀ i k, good m s.H.n i k → upd m s.H.n ⟨w.heap.size, 0, 0⟩ i = m i := fun i k hi => upd_ne _ _ (by have := hi.1; omega)
      have hg1 : ∀ i k, good m s.H.n i k → good (upd m s.H.n ⟨w.heap.size, 0, 0⟩) (s.H.alloc .dfd).n i k := fun i k hi => ⟨by have := hi.1; simp; omega, by rw [hm1 i k hi]; exact hi.2⟩
      have henv : ∀ t v, look t (envNoL s.env) = some v → a.tmps.getD t undef = conc m ml v ∧ v.okP (good m s.H.n) := fun t v ht => by
        obtain ⟨h1, h2⟩ := look_envNoL ht
        obtain ⟨k1, k2⟩ := R.env t v h1
        exact ⟨k1, k2.noL h2⟩
      have S2' := S2.add_obj (o := .loop .ready none (envNoL s.env) ps.toList ia ib) (l := ⟨w.heap.size + 1, 0, 0⟩)
        ⟨_, by have := hp2.new; rw [hsz1] at this; exact this, rfl, rfl, fun t v ht => by rw [(henv t v ht).1]; exact (conc_congr ml ml hm1 v (henv t v ht).2).symm,
          ⟨rfl, fun p hp => by rw [R.size]; exact hlt p hp, ⟨locals, by rw [R.size]; exact ha, by rw [R.size]; exact hb⟩, hpa, hpb⟩⟩
        (fun t v ht => okP_mono hg1 v (henv t v ht).2) (fun b hb e => by have := S1'.used_lt hb; rw [hsz1] at this; simp only at e; omega) rfl
      have G2 : Grow m ml s.loc s.H w _ ml s.loc _ ((w.alloc (.deferred (some []))).alloc (.loop { state := .ready, pending := none, fn, tmps := a.tmps, params := ps, assign := ca, body := cb, defers := w.heap.size })) := G1.trans (.of_push (o' := .loop .ready none (envNoL s.env) ps.toList ia ib) (l := ⟨w.heap.size + 1, 0, 0⟩) S1'.wf rfl hp2 hsz1.symm)
      have hn1 : (s.H.alloc .dfd).n = s.H.n + 1 := rfl
      rw [hn1] at S2' G2
      generalize hW2 : (w.alloc (.deferred (some []))).alloc (.loop { state := .ready, pending := none, fn, tmps := a.tmps, params := ps, assign := ca, body := cb, defers := w.heap.size }) = W2 at S2 S2' G2 hp2
      have hmn : upd (upd m s.H.n ⟨w.heap.size, 0, 0⟩) (s.H.n + 1) ⟨w.heap.size + 1, 0, 0⟩ s.H.n = ⟨w.heap.size, 0, 0⟩ := by rw [upd_ne _ _ (by omega), upd_same]
      have hmn1 : upd (upd m s.H.n ⟨w.heap.size, 0, 0⟩) (s.H.n + 1) ⟨w.heap.size + 1, 0, 0⟩ (s.H.n + 1) = ⟨w.heap.size + 1, 0, 0⟩ := upd_same ..
      generalize hM2 : upd (upd m s.H.n ⟨w.heap.size, 0, 0⟩) (s.H.n + 1) ⟨w.heap.size + 1, 0, 0⟩ = m2 at S2' G2 hmn hmn1
      generalize hH2 : (s.H.alloc .dfd).alloc (.loop .ready none (envNoL s.env) ps.toList ia ib) = H2 at S2' G2 hcall hT hdf
      have hH2n : H2.n = s.H.n + 2 := by rw [← hH2]; rfl
      have hH2d : H2.dfs = s.H.dfs := by rw [← hH2]; rfl
      have hcap : AV.okPL (good m2 H2.n) captured := okPL_mono (fun i k hi => ⟨by have := hi.1; omega, by rw [G2.agree i hi.1]; exact hi.2⟩) _ hok.2
      have hargs : ∀ v ∈ AV.yield (s.H.n + 1) :: captured, v.okP (good m2 H2.n) := by
        intro v hv
        rcases List.mem_cons.1 hv with rfl | hv
        · exact ⟨by omega, Nat.zero_le _⟩
        · exact (okPL_iff _ _).1 hcap v hv
      have hcl : concL m ml captured = concL m2 ml0 captured := by
        rw [concL_ml hcap ml0 ml]
        exact (concL_congr ml ml (fun i k hi => G2.agree i hi.1) captured hok.2).symm
      refine ⟨w.heap.size + 1, [{ target := .collected w.heap.size, args := #[] }], W2, { target := .fn (.func gf) (concL m ml captured).toArray, args := #[.func (.yield (w.heap.size + 1)) #[] #[]] }, W2, gf,
        (concL m2 ml0 (.yield (s.H.n + 1) :: captured)).toArray, W2, ?_, ?_, fun _ _ => trivial, ?_, FF_enter none fu, ?_⟩
      · rw [← hW2]; exact run_enterLoop_outer _ _ _ _ _
      · simp only [resolve, e1, conc, Deferred.ofValue]
        simp [go_sem, concL, Act.eval]
      · have e3 : #[Value.func (.yield (w.heap.size + 1)) #[] #[]] ++ (concL m ml captured).toArray = (concL m2 ml0 (.yield (s.H.n + 1) :: captured)).toArray := by
          rw [hcl]; simp [concL, conc, hmn1]
        simp only [invoke]
        rw [e3]
        exact hF.call _ _
      · refine callsIn_FF ((hT m2 W2 (S2'.drop ml0) hargs).mono ?_)
        rintro e w3 ⟨u, rfl, m3, _, S3, G3, _⟩
        obtain ⟨rec, r1, r2, r3, r4, r5⟩ := S3.obj _ _ hgt
        have hm3 : m3 (s.H.n + 1) = ⟨w.heap.size + 1, 0, 0⟩ := by rw [G3.agree _ (by omega), hmn1]
        have hm3' : m3 s.H.n = ⟨w.heap.size, 0, 0⟩ := by rw [G3.agree _ (by omega), hmn]
        rw [hm3] at r1
        obtain ⟨S4, G4⟩ := S2'.back S3 G3
        have G5 := G2.trans G4
        have S6 : Sim P m3 ml s.loc (H'.set (s.H.n + 1) .dead) (w3.putObj (w.heap.size + 1) (.loop { rec with state := .exhausted })) := S4.set_obj hgt rfl trivial trivial rfl (by rw [hm3]; exact wrote_put.other)
        have G6 := G5.trans (Grow.of_set (o' := .dead) S4.wf hgt rfl rfl (by rw [hm3]; exact wrote_put (o' := .loop { rec with state := .exhausted })))
        refine ⟨rec.pending, _, run_endLoop r1 (by rw [r2]; exact hnb), ?_⟩
        have hag : ∀ i k, good m s.H.n i k → m3 i = m i := fun i k hi => G6.agree i hi.1
        have hn3 : s.H.n + 2 ≤ H'.n := by have := G3.n_le; omega
        have hgo : ∀ i k, good m s.H.n i k → good m3 H'.n i k := fun i k hi => ⟨by have := hi.1; omega, by rw [hag i k hi]; exact hi.2⟩
        have R6 : Rel P m3 ml nt { s with H := { H'.set (s.H.n + 1) .dead with dfs := .mark s.H.n :: H'.dfs } } { a with defers := [{ target := .collected w.heap.size, args := #[] }] ++ a.defers } (w3.putObj (w.heap.size + 1) (.loop { rec with state := .exhausted })) := by
          refine ⟨S6.dfs _, fun t v ht => ?_, R.size, ?_, ?_⟩
          · obtain ⟨k1, k2⟩ := R.env t v ht
            exact ⟨by rw [k1]; exact (conc_lptr_ml k2 hag (fun _ _ _ => rfl)).symm, k2.mono hgo fun _ h => h⟩
          · simp only [List.singleton_append, List.map_cons, concD, hm3', hdf, hH2d, R.defers]
            congr 1
            exact List.map_congr_left fun d hd => (concD_congr hag (R.dok d hd)).symm
          · intro d hd
            simp only [List.mem_cons] at hd
            rcases hd with rfl | hd
            · exact ⟨by simp; omega, Nat.zero_le _⟩
            · rw [hdf, hH2d] at hd
              exact Dfr.okP_mono hgo (R.dok d hd)
        have hq := hQ _ _ _ _ R6 (G6.dfs _)
        rw [r3] at hq ⊢
        cases pend with
        | none => exact hq
        | some c => exact codeX_wp c hq
  · cases h

/-! ## A range over a map -/
theorem compC_noD {id : Nat} {ops : Array Oper} {d : Bool} {x : IC} (h : compC P nt locals (.region id ops d) = some x) : (∃ ios, x = .region ios ∧ d = false ∧ compOpers P nt locals ops ops.toList = some ios) ∨ ∃ ios cs, x = .regionD ios cs := by
  cases d
  · simp only [compC, Option.map_eq_some_iff] at h
    obtain ⟨ios, h1, h2⟩ := h
    exact .inl ⟨ios, h2.symm, rfl, h1⟩
  · simp only [compC] at h
    right
    unfold compD at h
    simp only at h
    split at h
    · cases h
    split at h
    · split at h
      · cases h; exact ⟨_, _, rfl⟩
      · cases h
    · cases h

theorem compC_block {code : Code} {b : Nat} {y : IC} (h : compC P nt locals code = some (.block b y)) : ∃ cb, code = .block b cb ∧ compC P nt locals cb = some y := by
  cases code
  case block id cb =>
    simp only [compC, Option.map_eq_some_iff] at h
    obtain ⟨z, h1, h2⟩ := h
    cases h2; exact ⟨cb, rfl, h1⟩
  case region id ops d => rcases compC_noD h with ⟨_, h, _⟩ | ⟨_, _, h⟩ <;> cases h
  all_goals (simp only [compC, opt2] at h; first | (cases h; done) | ((repeat' (split at h)) <;> first | (cases h; done) | (simp at h; done)) | (simp at h; done))
theorem compC_loop {code : Code} {y : IC} (h : compC P nt locals code = some (.loop y)) : ∃ cb, code = .loop cb ∧ compC P nt locals cb = some y := by
  cases code
  case loop cb =>
    simp only [compC, Option.map_eq_some_iff] at h
    obtain ⟨z, h1, h2⟩ := h
    cases h2; exact ⟨cb, rfl, h1⟩
  case region id ops d => rcases compC_noD h with ⟨_, h, _⟩ | ⟨_, _, h⟩ <;> cases h
  all_goals (simp only [compC, opt2] at h; first | (cases h; done) | ((repeat' (split at h)) <;> first | (cases h; done) | (simp at h; done)) | (simp at h; done))
theorem compC_seq {code : Code} {x y : IC} (h : compC P nt locals code = some (.seq x y)) : ∃ ca cb, code = .seq ca cb ∧ compC P nt locals ca = some x ∧ compC P nt locals cb = some y := by
  cases code
  case seq ca cb =>
    simp only [compC] at h
    obtain ⟨_, _, h1, h2, h3⟩ := opt2_some h
    cases h3; exact ⟨ca, cb, rfl, h1, h2⟩
  case region id ops d => rcases compC_noD h with ⟨_, h, _⟩ | ⟨_, _, h⟩ <;> cases h
  all_goals (simp only [compC, opt2] at h; first | (cases h; done) | ((repeat' (split at h)) <;> first | (cases h; done) | (simp at h; done)) | (simp at h; done))
theorem compC_cond {code : Code} {c : Opd} {x y : IC} (h : compC P nt locals code = some (.cond c x y)) : ∃ cc ca cb, code = .cond cc ca cb ∧ opd cc = some c ∧ compC P nt locals ca = some x ∧ compC P nt locals cb = some y := by
  cases code
  case cond cc ca cb =>
    simp only [compC] at h
    split at h
    · rename_i c' hc
      obtain ⟨_, _, h1, h2, h3⟩ := opt2_some h
      cases h3; exact ⟨cc, ca, cb, rfl, hc, h1, h2⟩
    · cases h
  case region id ops d => rcases compC_noD h with ⟨_, h, _⟩ | ⟨_, _, h⟩ <;> cases h
  all_goals (simp only [compC, opt2] at h; first | (cases h; done) | ((repeat' (split at h)) <;> first | (cases h; done) | (simp at h; done)) | (simp at h; done))
theorem compC_skip {code : Code} (h : compC P nt locals code = some .skip) : code = .skip := by
  cases code
  case skip => rfl
  case region id ops d => rcases compC_noD h with ⟨_, h, _⟩ | ⟨_, _, h⟩ <;> cases h
  all_goals (simp only [compC, opt2] at h; first | (cases h; done) | ((repeat' (split at h)) <;> first | (cases h; done) | (simp at h; done)) | (simp at h; done))
theorem compC_exit {code : Code} {id : Nat} (h : compC P nt locals code = some (.exit id)) : code = .exit id := by
  cases code
  case exit id' => simp only [compC] at h; cases h; rfl
  case region id ops d => rcases compC_noD h with ⟨_, h, _⟩ | ⟨_, _, h⟩ <;> cases h
  all_goals (simp only [compC, opt2] at h; first | (cases h; done) | ((repeat' (split at h)) <;> first | (cases h; done) | (simp at h; done)) | (simp at h; done))
theorem compC_region {code : Code} {ios : List IOper} (h : compC P nt locals code = some (.region ios)) : ∃ id ops, code = .region id ops false ∧ compOpers P nt locals ops ops.toList = some ios := by
  cases code
  case region id ops d =>
    rcases compC_noD h with ⟨_, h1, h2, h3⟩ | ⟨_, _, h⟩
    · cases h1; subst h2; exact ⟨id, ops, rfl, h3⟩
    · cases h
  all_goals (simp only [compC, opt2] at h; first | (cases h; done) | ((repeat' (split at h)) <;> first | (cases h; done) | (simp at h; done)) | (simp at h; done))

theorem comp_nextM {o : Op} {it : Opd} {dst : Option Nat} (hc : compOp P locals dst o = some (.nextM it)) : ∃ x, o = .next x false ∧ opd x = some it := by
  cases o
  case next x b =>
    cases b
    · simp only [compOp, Option.map_eq_some_iff] at hc
      obtain ⟨y, h1, h2⟩ := hc
      cases h2; exact ⟨x, rfl, h1⟩
    · simp [compOp] at hc
  case binOp op t x y yt => exfalso; rcases comp_bin hc with ⟨e, a, b, h, _⟩ | ⟨neg, a, h, _⟩ | ⟨neg, a, b, h, _⟩ <;> cases h
  case call c =>
    exfalso
    obtain ⟨callee, as, ats⟩ := c
    cases callee with
    | value fo => simp only [compOp] at hc; obtain ⟨_, _, k1, k2, h3⟩ := opt2_some hc; cases h3
    | invoke r n => simp [compOp] at hc
    | builtin b =>
      simp only [compOp, compBuiltin, opt2] at hc
      (repeat' (split at hc)) <;> cases hc
  case defer c =>
    exfalso
    obtain ⟨callee, as, ats⟩ := c
    cases callee <;> simp only [compOp] at hc <;> first | (cases hc; done) | (obtain ⟨_, _, _, _, h3⟩ := opt2_some hc; cases h3)
  case makeMap t r => exfalso; cases r <;> simp [compOp] at hc
  all_goals
    exfalso
    simp only [compOp, opt2] at hc
    first
      | (cases hc; done)
      | ((repeat' (split at hc)) <;> (try cases hc) <;> (try (rw [Option.map_eq_some_iff] at hc; obtain ⟨_, _, hc⟩ := hc; cases hc)))

theorem compGuard_none {ops : Array Oper} {g : Option (Nat × Bool)} (h : compGuard ops g = some none) : g = none := by
  cases g with
  | none => rfl
  | some jw =>
    obtain ⟨j, want⟩ := jw
    simp only [compGuard] at h
    split at h <;> cases h

/-- The step of a range over a map: the two operations. -/
theorem mapStep_sound (hC : CallOk P C) {rd : Option Nat} {fu : Nat} {d0 d1 : Nat} {it : Opd} {ops : Array Oper} (hc : compOpers P nt locals ops ops.toList = some [⟨some d0, .nextM it, none⟩, ⟨some d1, .extract (.tmp d0) 0, none⟩])
    (R : Rel P m ml nt s a w) {u : AV} (hit : it.ev s.env = some u) {Q : Exit → Act → World → Prop}
    (hstep : ∀ ty, ∃ (b : Bool) (vs : List AV) (H' : AHeap) (w1 : World), (Instr.next (conc m ml u) false ty).run P w = .ok (conc m ml (.tuple (.bool b :: vs))) w1 ∧ Sim P m ml s.loc H' w1 ∧ Grow m ml s.loc s.H w m ml s.loc H' w1 ∧ (AV.tuple (.bool b :: vs)).okP (good m H'.n) ∧ H'.dfs = s.H.dfs ∧
      ∀ m' ml' w' a', Rel P m' ml' nt { s with H := H', env := (d1, .bool b) :: (d0, .tuple (.bool b :: vs)) :: s.env } a' w' → Grow m ml s.loc s.H w m' ml' s.loc H' w' → Q .normal a' w') {id : Nat} : (Code.region id ops false).wpIn (FF rd) fu P Q a w := by
  refine wpIn_region_list ?_
  have hsz : ∀ (j d : Nat), (ops[j]?).bind (fun (x : Oper) => x.dst) = some d → d < nt := by
    intro j d hj
    cases hoj : ops[j]? with
    | none => simp [hoj] at hj
    | some o =>
      simp [hoj] at hj
      have : ∀ {os : List Oper} {ios : List IOper}, compOpers P nt locals ops os = some ios → ∀ o ∈ os, ∀ d, o.dst = some d → d < nt := by
        intro os
        induction os with
        | nil => intro ios h o ho; simp at ho
        | cons x os ih =>
          intro ios h o ho d hd
          simp only [compOpers] at h
          split at h
          · rename_i i is h1 h2
            rcases List.mem_cons.1 ho with rfl | ho
            · exact (compOper_spec h1).1 d hd
            · exact ih h2 o ho d hd
          · cases h
      exact this hc o (by simpa using Array.mem_of_getElem? hoj) d hj
  generalize hol : ops.toList = os at hc
  match os, hc with
  | [], hc => simp [compOpers] at hc
  | [o], hc =>
    simp only [compOpers] at hc
    split at hc
    · rename_i h1 h2; cases h2; cases hc
    · cases hc
  | o1 :: o2 :: o3 :: rest, hc =>
    simp only [compOpers] at hc
    split at hc
    · rename_i h1 h2
      split at h2
      · rename_i h3 h4
        split at h4
        · cases h4; cases h2; cases hc
        · cases h4
      · cases h2
    · cases hc
  | [o1, o2], hc =>
    simp only [compOpers] at hc
    split at hc
    · rename_i i1 is h1 h2
      split at h2
      · rename_i i2 is2 h3 h4
        cases h4; cases h2; cases hc
        obtain ⟨k1, k2, k3, k4⟩ := compOper_spec h1
        have k2 := comp_of k2 (by simp)
        simp only at k2 k3 k4
        obtain ⟨x, hop, hx⟩ := comp_nextM k2
        obtain ⟨b, vs, H', w1, hrun, S1, G1, hok, hdf, hQ⟩ := hstep o1.type
        refine wpListIn_plain (compGuard_none k3) fun K hK => ?_
        refine ⟨fun _ _ => trivial, ?_⟩
        rw [FF_round, Oper.semAt_eq _ _ _ (by rw [hop]; intro c h; cases h)]
        have e1 := (R.opR x _ _ hx hit).1
        have hexec : (execOp a.eval o1).run P w = .ok (.value (conc m ml (.tuple (.bool b :: vs)))) w1 := by
          obtain ⟨dst', op, type, pos, after, guard⟩ := o1
          simp only at hop hrun; subst hop
          simp only [execOp, e1, Sem.run_bind, hrun, Result.andThen_ok, Sem.run_pure]
        rw [hexec]
        simp only [Oper.uponIn_value]
        refine hK _ _ ?_
        rw [← k4]
        have R1 := R.put (s' := { s with H := H' }) (dst := some d0) (v := .tuple (.bool b :: vs)) (fun d hd => k1 d (by rw [← k4]; exact hd)) S1 G1 (.of hok) rfl hdf (fun _ => .inl rfl) rfl
        refine wpListIn_step fun K hK => ?_
        refine step_sound (C := C) hC rd fu h3 (.inr rfl) R1 hsz (s' := { s with H := H', env := (d1, .bool b) :: (d0, .tuple (.bool b :: vs)) :: s.env }) ?_ fun m' ml' w' a' R' G' => hK a' w' ?_
        · simp [stepOp, wantedA, evOp, Opd.ev, St.put, look]
        · exact hQ m' ml' w' a' R' (G1.trans G')
      · cases h2
    · cases hc

theorem cleanA_ok {r : Nat} {ks ls : List Nat} {x y : AExit} {s0 : St} {m0 : Nat → Loc} {ml1 : Nat → Nat} {w0 : World} (h : cleanA ks ls r x s = some (y, s')) (R : Rel P m ml nt s a w) (G : Grow m0 ml1 s0.loc s0.H w0 m ml s.loc s.H w) :
    y = x ∧ Rel P m ml nt s' a w ∧ Grow m0 ml1 s0.loc s0.H w0 m ml s'.loc s'.H w := by
  unfold cleanA at h
  split at h
  · rename_i hr
    cases h
    have S1 : Sim P m ml s.loc (s.H.set r .dead) w := R.sim.set_obj hr rfl trivial trivial rfl (fun _ _ => rfl)
    have G1 := G.trans (.of_set (o' := .dead) R.sim.wf hr rfl rfl (.refl w _))
    refine ⟨rfl, ⟨S1.prune ls, fun t v h => R.env t v (look_prune h), R.size, R.defers, R.dok⟩, ?_⟩
    exact ⟨G1.n_le, G1.agree, G1.size, G1.os, G1.tape, G1.output, G1.keep, G1.own, fun t c h => G1.locs t c (look_prune h), G1.low, G1.pres, G1.ro⟩
  · cases h

/-! ### Results that are one -/
theorem beqEnv_eq : ∀ {a b : List (Nat × AV)}, beqEnv a b = true → a = b
  | [], [], _ => rfl
  | [], _ :: _, h | _ :: _, [], h => by simp [beqEnv] at h
  | (a, v) :: x, (b, u) :: y, h => by
    simp only [beqEnv, Bool.and_eq_true, decide_eq_true_eq] at h
    rw [h.1.1, AV.beq_eq _ _ h.1.2, beqEnv_eq h.2]
theorem beqLoc_eq : ∀ {a b : List (Nat × List AV)}, beqLoc a b = true → a = b
  | [], [], _ => rfl
  | [], _ :: _, h | _ :: _, [], h => by simp [beqLoc] at h
  | (a, v) :: x, (b, u) :: y, h => by
    simp only [beqLoc, Bool.and_eq_true, decide_eq_true_eq] at h
    rw [h.1.1, AV.beqL_eq _ _ h.1.2, beqLoc_eq h.2]
theorem beqME_eq : ∀ {a b : List ME}, beqME a b = true → a = b
  | [], [], _ => rfl
  | [], _ :: _, h | _ :: _, [], h => by simp [beqME] at h
  | (a, v, i) :: x, (b, u, j) :: y, h => by
    simp only [beqME, Bool.and_eq_true, decide_eq_true_eq] at h
    rw [AV.beq_eq _ _ h.1.1.1, AV.beq_eq _ _ h.1.1.2, h.1.2, beqME_eq h.2]
theorem AObj.beq_eq {a b : AObj} (h : AObj.beq a b = true) : a = b := by
  cases a <;> cases b <;> simp only [AObj.beq, Bool.false_eq_true, Bool.and_eq_true, decide_eq_true_eq] at h <;> try rfl
  · rw [h.1.1, h.1.2, AV.beqL_eq _ _ h.2]
  · rw [beqME_eq h.1, h.2]
  · rw [h.1, h.2]
  · rw [h.1.1.1, h.1.1.2, h.1.2, h.2]
theorem beqO_eq {a b : Option AObj} (h : beqO a b = true) : a = b := by
  cases a <;> cases b <;> simp only [beqO, Bool.false_eq_true] at h
  · rfl
  · rw [AObj.beq_eq h]
theorem beqFrom_eq {A B : AHeap} {lo : Nat} : ∀ {k : Nat}, beqFrom A B lo k = true → ∀ i, lo ≤ i → i < lo + k → A.get i = B.get i
  | 0, _, i, h1, h2 => by omega
  | k + 1, h, i, h1, h2 => by
    simp only [beqFrom, Bool.and_eq_true] at h
    by_cases e : i = lo + k
    · subst e; exact beqO_eq h.1
    · exact beqFrom_eq h.2 i h1 (by omega)

/-- One state in another's place. -/
theorem same_ok {s0 s1 s2 : St} {m0 : Nat → Loc} {ml1 : Nat → Nat} {w0 : World} (henv : s1.env = s2.env) (hloc : s1.loc = s2.loc) (hn : s1.H.n = s2.H.n) (hlow : s1.H.low = s2.H.low) (hd : s1.H.dfs = s2.H.dfs) (hget : ∀ i, s1.H.get i = s2.H.get i)
    (R : Rel P m ml nt s2 a w) (G : Grow m0 ml1 s0.loc s0.H w0 m ml s2.loc s2.H w) : Rel P m ml nt s1 a w ∧ Grow m0 ml1 s0.loc s0.H w0 m ml s1.loc s1.H w := by
  have own : ∀ i, Owned s1.H i → Owned s2.H i := fun i ⟨o, h1, h2⟩ => ⟨o, by rw [← hget]; exact h1, h2⟩
  have ro : ∀ i, IsRo s1.H i → IsRo s2.H i := fun i ⟨o, h1, h2⟩ => ⟨o, by rw [← hget]; exact h1, h2⟩
  have S := R.sim
  refine ⟨⟨⟨fun i => by rw [hget, hn]; exact S.wf i, fun i o h => S.obj i o (by rw [← hget]; exact h), fun i o h => by rw [hn]; exact S.ok i o (by rw [← hget]; exact h), fun i j h1 h2 => S.inj i j (own i h1) (own j h2), fun i j h1 h2 => S.sep i j (own i h1) (ro j h2),
    fun t c h => S.locs t c (by rw [← hloc]; exact h), fun t c h => by rw [hn]; exact S.locok t c (by rw [← hloc]; exact h), fun t u c d h1 h2 => S.locinj t u c d (by rw [← hloc]; exact h1) (by rw [← hloc]; exact h2), fun t c i h1 h2 => S.locsep t c i (by rw [← hloc]; exact h1) (h2.imp (own i) (ro i))⟩,
    fun t v h => by rw [hn]; exact R.env t v (by rw [← henv]; exact h), R.size, by rw [hd]; exact R.defers, fun d h => by rw [hn]; exact R.dok d (by rw [← hd]; exact h)⟩, ?_⟩
  exact ⟨by rw [hn]; exact G.n_le, G.agree, G.size, G.os, G.tape, G.output, G.keep, fun i h => G.own i (own i h), fun t c h => G.locs t c (by rw [← hloc]; exact h), by rw [hlow]; exact G.low, fun i h1 h2 => by rw [hget]; exact G.pres i (by rw [← hlow]; exact h1) h2, fun i h => G.ro i (ro i h)⟩

/-- What runs in the model leaves something. -/
theorem loopAt_some {rd : Option Nat} {fu : Nat} {cb : Code} {Q : Exit → Act → World → Prop} (h : LoopAt (FF rd) fu P cb Q a w) : ∃ e a' w', Q e a' w' :=
  let ⟨e, a', w', q, _⟩ := h { (default : Frame) with roundOf := rd } [] [] rfl trivial (FF_room _ _)
  ⟨e, a', w', q⟩
theorem wpIn_some {rd : Option Nat} {fu : Nat} {cb : Code} {Q : Exit → Act → World → Prop} (h : cb.wpIn (FF rd) fu P Q a w) : ∃ e a' w', Q e a' w' :=
  let ⟨e, a', w', q, _⟩ := h { (default : Frame) with roundOf := rd } [] [] rfl trivial (FF_room _ _)
  ⟨e, a', w', q⟩

theorem compOpers_dst' {ops : Array Oper} : ∀ {os : List Oper} {ios : List IOper}, compOpers P nt locals ops os = some ios → ∀ io ∈ ios, ∀ d, io.dst = some d → d < nt := by
  intro os
  induction os with
  | nil => intro ios h io hi; simp [compOpers] at h; subst h; cases hi
  | cons x os ih =>
    intro ios h io hi d hd
    simp only [compOpers] at h
    split at h
    · rename_i i is h1 h2
      cases h
      rcases List.mem_cons.1 hi with rfl | hi
      · have := compOper_spec h1; exact this.1 d (by rw [← this.2.2.2]; exact hd)
      · exact ih h2 io hi d hd
    · cases h

theorem inBlock_some {b : Nat} {Q : Act → World → Prop} {e : Exit} (h : Exit.inBlock b (fun _ => Q) e a w) : Q a w := by
  cases e <;> simp only [Exit.inBlock] at h <;> first | exact h | (split at h <;> exact h)

/-- A range over a map, at the head of its loop. -/
theorem mapLoop_sound (hC : CallOk P C) {rd : Option Nat} {fu d0 d1 b : Nat} {ks ls : List Nat} {it : Opd} {ops : Array Oper} {id : Nat} {cc : Operand} {cb : Code} {f : St → Option (AExit × St)}
    (hc : compOpers P nt locals ops ops.toList = some [⟨some d0, .nextM it, none⟩, ⟨some d1, .extract (.tmp d0) 0, none⟩]) (hcc : opd cc = some (.tmp d1))
    (hf : ∀ (m : Nat → Loc) (ml : Nat → Nat) (w : World) (s s' : St) (a : Act) (x : AExit), Rel P m ml nt s a w → f s = some (x, s') → ∀ (Q : Exit → Act → World → Prop), (∀ m' ml' w' a', Rel P m' ml' nt s' a' w' → Grow m ml s.loc s.H w m' ml' s'.loc s'.H w' → Q (toExit x) a' w') → cb.wpIn (FF rd) fu P Q a w) :
    ∀ (k : Nat) (m : Nat → Loc) (ml : Nat → Nat) (w : World) (s : St) (a : Act) (x : AExit) (s' : St), Rel P m ml nt s a w → mapLoop d0 d1 it b ks ls f k s = some (x, s') → ∀ (Q : Exit → Act → World → Prop),
      (∀ m' ml' w' a', Rel P m' ml' nt s' a' w' → Grow m ml s.loc s.H w m' ml' s'.loc s'.H w' → Q (toExit x) a' w') →
      LoopAt (FF rd) fu P (.seq (.region id ops false) (.seq (.cond cc .skip (.exit b)) cb)) (Exit.inBlock b Q) a w := by
  intro k
  induction k with
  | zero => intro m ml w s a x s' R h; simp [mapLoop] at h
  | succ k ih =>
    intro m ml w s a x s' R h Q hQ
    simp only [mapLoop] at h
    split at h
    · rename_i r hit
      -- the end
      have over : ∀ {s1 : St}, s1 = { s with env := (d1, .bool false) :: (d0, .tuple [.bool false]) :: s.env } → cleanA ks ls r .normal s1 = some (x, s') →
          (∀ ty, (Instr.next (conc m ml (.ptr r 0)) false ty).run P w = .ok (conc m ml (.tuple [.bool false])) w) → LoopAt (FF rd) fu P (.seq (.region id ops false) (.seq (.cond cc .skip (.exit b)) cb)) (Exit.inBlock b Q) a w := by
        rintro s1 rfl hcl hrun
        refine loopAt_round (wpIn_seq_k fun K hK => mapStep_sound hC hc R hit fun ty => ⟨false, [], s.H, w, hrun ty, R.sim, .refl .., by simp [AV.okP, AV.okPL], rfl, fun m' ml' w' a' R' G' => hK a' w' ?_⟩)
        refine wpIn_seq_k fun K2 hK2 => wpIn_cond_false ?_ (wpIn_exit ?_)
        · have := (R'.opR cc (.tmp d1) (.bool false) hcc (by simp [Opd.ev, look])).1
          simpa [conc] using this
        · simp only [Exit.then, Exit.inBlock, if_true]
          obtain ⟨rfl, k1, k2⟩ := cleanA_ok (s0 := s) (m0 := m) (ml1 := ml) (w0 := w) hcl R' G'
          exact hQ _ _ _ _ k1 k2
      split at h
      · rename_i hr
        refine over rfl h fun ty => ?_
        obtain ⟨b1, b2⟩ := R.sim.obj r _ hr
        simp only [Option.map_none] at b1
        simp [Instr.next, conc, concL, Loc.at, b2, getObj, Sem.run, b1, Result.andThen]
      · rename_i id' since seen last hr
        split at h
        · rename_i es c hid
          split at h
          · rename_i hcs
            obtain ⟨rfl, rfl⟩ := hcs
            split at h
            · rename_i hnil
              refine over rfl h fun ty => ?_
              rcases nextM_run (ty := ty) R.sim hr hid with ⟨_, h1⟩ | ⟨e, he, _⟩
              · exact h1
              · rw [hnil] at he; cases he
            · rename_i e0 rest hne
              obtain ⟨one, hone⟩ : ∃ one : ME → Option (AExit × St), one = fun (e : ME) => (match f { s with H := s.H.set r (.miter (some id') last (e.2.2 :: seen) last), env := (d1, .bool true) :: (d0, .tuple [.bool true, e.1, e.2.1]) :: s.env } with
                | some (.normal, s') => mapLoop d0 d1 it b ks ls f k s'
                | some (x, s') => cleanA ks ls r (if x = .exit b then .normal else x) s'
                | none => none : Option (AExit × St)) := ⟨_, rfl⟩
              replace h : (match one e0 with
                | some q => if rest.all (fun e' => match one e' with | some q' => beqRes q q' | none => false) then some q else none
                | none => none) = some (x, s') := by rw [hone]; exact h
              have hone' : ∀ e, one e = (match f { s with H := s.H.set r (.miter (some id') last (e.2.2 :: seen) last), env := (d1, .bool true) :: (d0, .tuple [.bool true, e.1, e.2.1]) :: s.env } with
                | some (.normal, s') => mapLoop d0 d1 it b ks ls f k s'
                | some (x, s') => cleanA ks ls r (if x = .exit b then .normal else x) s'
                | none => none : Option (AExit × St)) := fun e => by rw [hone]
              clear hone
              -- a round, whichever entry
              have key : ∀ (e : ME) (xe : AExit) (se : St), one e = some (xe, se) → ∀ (m1 : Nat → Loc) (ml1 : Nat → Nat) (w1 : World) (a1 : Act),
                  Rel P m1 ml1 nt { s with H := s.H.set r (.miter (some id') last (e.2.2 :: seen) last), env := (d1, .bool true) :: (d0, .tuple [.bool true, e.1, e.2.1]) :: s.env } a1 w1 → ∀ (Q : Exit → Act → World → Prop),
                  (∀ m' ml' w' a', Rel P m' ml' nt se a' w' → Grow m1 ml1 s.loc (s.H.set r (.miter (some id') last (e.2.2 :: seen) last)) w1 m' ml' se.loc se.H w' → Q (toExit xe) a' w') →
                  cb.wpIn (FF rd) fu P (fun e a' w' => match e with | .normal => LoopAt (FF rd) fu P (.seq (.region id ops false) (.seq (.cond cc .skip (.exit b)) cb)) (Exit.inBlock b Q) a' w' | e => Exit.inBlock b Q e a' w') a1 w1 := by
                intro e xe se h1 m1 ml1 w1 a1 R1 Q hQ
                rw [hone'] at h1
                split at h1
                · rename_i s2 hfe
                  exact hf m1 ml1 w1 _ s2 a1 .normal R1 hfe _ fun m2 ml2 w2 a2 R2 G2 => ih m2 ml2 w2 s2 a2 xe se R2 h1 Q fun m3 ml3 w3 a3 R3 G3 => hQ m3 ml3 w3 a3 R3 (G2.trans G3)
                · rename_i y s2 hny hfe
                  refine hf m1 ml1 w1 _ s2 a1 y R1 hfe _ fun m2 ml2 w2 a2 R2 G2 => ?_
                  obtain ⟨rfl, k1, k2⟩ := cleanA_ok (s0 := { s with H := s.H.set r (.miter (some id') last (e.2.2 :: seen) last) }) (m0 := m1) (ml1 := ml1) (w0 := w1) h1 R2 G2
                  have := hQ _ _ _ _ k1 k2
                  cases y with
                  | normal => exact (hny rfl).elim
                  | exit j =>
                    simp only [toExit, Exit.inBlock]
                    by_cases hj : j = b
                    · subst hj; simp only [if_true] at this ⊢; exact this
                    · rw [if_neg hj]; rw [if_neg (by simp [hj])] at this; exact this
                  | ret => simpa [toExit, Exit.inBlock] using this
                · cases h1
              split at h
              · rename_i q hq
                split at h
                · rename_i hall
                  cases h
                  have hmem : ∀ e ∈ es.filter fun e => !seen.contains e.2.2, e ∈ es := fun e he => (List.mem_filter.1 he).1
                  have hd0 : d0 < nt := compOpers_dst' hc ⟨some d0, .nextM it, none⟩ (by simp) d0 rfl
                  have hd1 : d1 < nt := compOpers_dst' hc ⟨some d1, .extract (.tmp d0) 0, none⟩ (by simp) d1 rfl
                  -- what the first order leaves
                  have hyp : ∃ m' ml' w' a', Rel P m' ml' nt s' a' w' ∧ Grow m ml s.loc s.H w m' ml' s'.loc s'.H w' ∧ s'.H.low ≤ r := by
                    obtain ⟨S1, G1, ok1⟩ := nextM_sim R.sim hr hid (hmem e0 (by rw [hne]; simp)) w.drawn
                    have R1 := R.put (s' := { s with H := s.H.set r (.miter (some id') last (e0.2.2 :: seen) last) }) (dst := some d0) (v := .tuple [.bool true, e0.1, e0.2.1]) (fun d hd => by cases hd; exact hd0) S1 G1 (.of (by simpa using ok1)) rfl rfl (fun _ => .inl rfl) rfl
                    have R2 := R1.put (s' := { s with H := s.H.set r (.miter (some id') last (e0.2.2 :: seen) last), env := (d0, .tuple [.bool true, e0.1, e0.2.1]) :: s.env }) (dst := some d1) (v := .bool true) (fun d hd => by cases hd; exact hd1) R1.sim (.refl ..) (.of (by simp [AV.okP])) rfl rfl (fun _ => .inl rfl) rfl
                    have hlow : (s.H.set r (.miter (some id') last (e0.2.2 :: seen) last)).low ≤ r := by
                      simp only [AHeap.set]; split <;> omega
                    have := key e0 x s' hq m ml _ _ R2 (fun _ a' w' => ∃ m' ml', Rel P m' ml' nt s' a' w' ∧ Grow m ml s.loc s.H w m' ml' s'.loc s'.H w' ∧ s'.H.low ≤ r) fun m' ml' w' a' R' G' => ⟨m', ml', R', G1.trans G', Nat.le_trans G'.low hlow⟩
                    obtain ⟨e, a', w', hx⟩ := wpIn_some this
                    have fin : ∀ {e a' w'}, Exit.inBlock b (fun _ a' w' => ∃ m' ml', Rel P m' ml' nt s' a' w' ∧ Grow m ml s.loc s.H w m' ml' s'.loc s'.H w' ∧ s'.H.low ≤ r) e a' w' → ∃ m' ml' w' a', Rel P m' ml' nt s' a' w' ∧ Grow m ml s.loc s.H w m' ml' s'.loc s'.H w' ∧ s'.H.low ≤ r := fun h => by
                      obtain ⟨m', ml', h⟩ := inBlock_some h; exact ⟨m', ml', _, _, h⟩
                    cases e with
                    | normal => obtain ⟨e2, a2, w2, h2⟩ := loopAt_some hx; exact fin h2
                    | exit j => exact fin hx
                    | ret => exact fin hx
                    | goto j => exact fin hx
                    | panic j => exact fin hx
                    | outgrown => exact fin hx
                  obtain ⟨mh, mlh, wh, ah, Rh, Gh, hlow⟩ := hyp
                  refine loopAt_round (wpIn_seq_k fun K hK => mapStep_sound hC hc R hit fun ty => ?_)
                  rcases nextM_run (ty := ty) R.sim hr hid with ⟨hnil, _⟩ | ⟨e, he, d, hrun⟩
                  · rw [hne] at hnil; cases hnil
                  obtain ⟨S1, G1, ok1⟩ := nextM_sim R.sim hr hid (hmem e he) d
                  refine ⟨true, [e.1, e.2.1], _, _, hrun, S1, G1, by simpa using ok1, rfl, fun m' ml' w' a' R' G' => hK a' w' ?_⟩
                  refine wpIn_seq_k fun K2 hK2 => wpIn_cond_true ?_ (wpIn_skip (hK2 a' w' ?_))
                  · have := (R'.opR cc (.tmp d1) (.bool true) hcc (by simp [Opd.ev, look])).1
                    simpa [conc] using this
                  have hres : ∃ xe se, one e = some (xe, se) ∧ ((xe = x ∧ se = s') ∨ beqRes (x, s') (xe, se) = true) := by
                    rw [hne] at he
                    rcases List.mem_cons.1 he with rfl | he
                    · exact ⟨x, s', hq, .inl ⟨rfl, rfl⟩⟩
                    · have := List.all_eq_true.1 hall e he
                      split at this
                      · rename_i q' hq'
                        exact ⟨q'.1, q'.2, hq', .inr this⟩
                      · cases this
                  obtain ⟨xe, se, h1, h2⟩ := hres
                  refine key e xe se h1 m' ml' w' a' R' Q fun m2 ml2 w2 a2 R2 G2 => ?_
                  rcases h2 with ⟨rfl, rfl⟩ | h2
                  · exact hQ _ _ _ _ R2 (G'.trans G2)
                  · simp only [beqRes, Bool.and_eq_true, decide_eq_true_eq, List.isEmpty_iff] at h2
                    obtain ⟨⟨⟨⟨⟨⟨⟨b1, b2⟩, b3⟩, b4⟩, b5⟩, b6⟩, b7⟩, b8⟩ := h2
                    have Gt := G'.trans G2
                    have hrn := AHeap.get_lt hr R.sim.wf
                    have hget : ∀ i, s'.H.get i = se.H.get i := by
                      intro i
                      by_cases i1 : i < s'.H.low
                      · rw [Gh.pres i i1 (by omega), Gt.pres i (by omega) (by omega)]
                      · by_cases i2 : i < s'.H.n
                        · exact beqFrom_eq b8 i (by omega) (by omega)
                        · have n1 : s'.H.get i = none := by
                            cases hx : s'.H.get i with
                            | none => rfl
                            | some o => exact absurd (AHeap.get_lt hx Rh.sim.wf) i2
                          have n2 : se.H.get i = none := by
                            cases hx : se.H.get i with
                            | none => rfl
                            | some o => exact absurd (AHeap.get_lt hx R2.sim.wf) (by omega)
                          rw [n1, n2]
                    obtain ⟨k1, k2⟩ := same_ok (s0 := s) (s1 := s') (s2 := se) (m0 := m) (ml1 := ml) (w0 := w) (beqEnv_eq b2) (beqLoc_eq b3) b4 b5 (b6.trans b7.symm) hget R2 Gt
                    rw [← b1]; exact hQ _ _ _ _ k1 k2
                · cases h
              · cases h
          · cases h
        · cases h
      · cases h
    · cases h
end
end Go.Wam
