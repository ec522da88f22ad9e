/- The abstract machine: whole functions. No condition. -/
import Derived.Test.YtkahfmgdjoaiiaaAmP
set_option linter.unusedVariables false
set_option linter.unusedSimpArgs false
namespace Go.Wam

def compC (P : Program) (nt : Nat) (locals : List Nat) : Code → Option IC
  | .skip => some .skip
  | .region _ ops false => (compOpers P nt locals ops ops.toList).map .region
  | .region _ ops true => compD P nt locals ops
  | .seq a b => opt2 (compC P nt locals a) (compC P nt locals b) fun x y => some (.seq x y)
  | .cond c a b => match opd c with
    | some c' => opt2 (compC P nt locals a) (compC P nt locals b) fun x y => some (.cond c' x y)
    | none => none
  | .block id b => (compC P nt locals b).map (.block id)
  | .loop b => (compC P nt locals b).map .loop
  | .exit id => some (.exit id)
  | .ret => some .ret
  | _ => none

theorem compD_form {P : Program} {nt : Nat} {locals : List Nat} {ops : Array Oper} {x : IC} (h : compD P nt locals ops = some x) : ∃ ios cs, x = .regionD ios cs := by
  unfold compD at h
  simp only at h
  split at h
  · cases h
  split at h
  · split at h
    · cases h; exact ⟨_, _, rfl⟩
    · cases h
  · cases h

def erase : IC → IC
  | .keep _ _ c => erase c
  | .seq a b => .seq (erase a) (erase b)
  | .cond c a b => .cond c (erase a) (erase b)
  | .block id b => .block id (erase b)
  | .loop b => .loop (erase b)
  | c => c

def compRes (P : Program) : List ResultVar → Option (List RV)
  | [] => some []
  | .tmp t :: r => (compRes P r).map (.tmp t :: ·)
  | .cell t ty :: r => match aggT P ty, szT P ty, compRes P r with
    | some g, some s, some r' => some (.cell t g s :: r')
    | _, _, _ => none

/-- Is F function f's form? -/
def FnFits (P : Program) (f : FuncId) (F : FnIR) : Prop :=
  ∃ fn c, P.funcs[f]? = some fn ∧ fn.body = some c ∧ (fn.name == "runtime.NumGoroutine") = false ∧ fn.ntmps = F.ntmps ∧ decide (F.nargs ≤ F.ntmps) = true ∧
    compC P F.ntmps F.locals c = some (erase F.body) ∧ compRes P fn.results.toList = some F.results

def toExit : AExit → Exit
  | .normal => .normal
  | .exit id => .exit id
  | .ret => .ret

section
variable {P : Program} {C : CallF} {m m' : Nat → Loc} {ml ml' : Nat → Nat} {nt : Nat} {locals : List Nat} {w w' : World} {s s' : St} {a : Act}

theorem look_prune {α : Type} {t : Nat} {v : α} : ∀ {ks : List Nat} {l : List (Nat × α)}, look t (prune ks l) = some v → look t l = some v := by
  intro ks
  induction ks with
  | nil => intro l h; simp [prune, look] at h
  | cons k ks ih =>
    intro l h
    simp only [prune, List.filterMap_cons] at h
    cases hk : look k l with
    | none => rw [hk] at h; exact ih h
    | some u =>
      rw [hk] at h
      simp only [Option.map_some, look] at h
      split at h
      · rename_i e; subst e; rw [hk]; exact h
      · exact ih h

theorem Sim.prune {loc : List (Nat × List AV)} {H : AHeap} (S : Sim m ml loc H w) (ks : List Nat) : Sim m ml (Go.Wam.prune ks loc) H w where
  wf := S.wf
  obj := S.obj
  ok := S.ok
  inj := S.inj
  sep := S.sep
  locs := fun t c h => S.locs t c (look_prune h)
  locok := fun t c h => S.locok t c (look_prune h)
  locinj := fun t u c d h k => S.locinj t u c d (look_prune h) (look_prune k)
  locsep := fun t c i h => S.locsep t c i (look_prune h)

theorem Grow.prune {loc loc' : List (Nat × List AV)} {H H' : AHeap} {ks : List Nat} (G : Grow m ml (Go.Wam.prune ks loc) H w m' ml' loc' H' w') : Grow m ml loc H w m' ml' loc' H' w' :=
  ⟨G.n_le, G.agree, G.size, G.os, G.tape, G.output, fun b hb h1 h2 => G.keep b hb h1 fun t c h => h2 t c (look_prune h), G.own,
    fun t c h => (G.locs t c h).imp (fun ⟨d, h1, h2⟩ => ⟨d, look_prune h1, h2⟩) id, G.low, G.pres, G.ro⟩

theorem Rel.keep (R : Rel m ml nt s a w) (ks ls : List Nat) : Rel m ml nt { s with env := Go.Wam.prune ks s.env, loc := Go.Wam.prune ls s.loc } a w :=
  ⟨R.sim.prune ls, fun t v h => R.env t v (look_prune h), R.size, R.defers⟩

theorem compOpers_dst {ops : Array Oper} : ∀ {os : List Oper} {ios : List IOper}, compOpers P nt locals ops os = some ios → ∀ o ∈ os, ∀ d, o.dst = some d → d < nt := by
  intro os
  induction os with
  | nil => intro ios h o ho; simp at ho
  | cons x os ih =>
    intro ios h o ho d hd
    simp only [compOpers] at h
    split at h
    · rename_i i is h1 h2
      rcases List.mem_cons.1 ho with rfl | ho
      · exact (compOper_spec h1).1 d hd
      · exact ih h2 o ho d hd
    · cases h

/-- Our meaning of a piece of code is the model's. -/
theorem code_sound (hm : P.follows .mixedOrders = true) (hC : CallOk P C) (n : Nat) : ∀ (ic : IC) (code : Code), compC P nt locals code = some (erase ic) → ∀ (m : Nat → Loc) (ml : Nat → Nat) (w : World) (s s' : St) (a : Act) (x : AExit),
    Rel m ml nt s a w → evC C n ic s = some (x, s') → ∀ (Q : Exit → Act → World → Prop), (∀ m' ml' w' a', Rel m' ml' nt s' a' w' → Grow m ml s.loc s.H w m' ml' s'.loc s'.H w' → Q (toExit x) a' w') → code.wp P Q a w := by
  intro ic
  induction ic with
  | skip =>
    intro code hc m ml w s s' a x R h Q hQ
    simp only [evC, Option.some.injEq, Prod.mk.injEq] at h
    obtain ⟨rfl, rfl⟩ := h
    simp only [erase] at hc
    cases code <;> (try simp only [compC, opt2] at hc)
    case skip => exact wp_skip (hQ m ml w a R (.refl ..))
    case region id ops d => cases d <;> simp only [compC] at hc <;> first | (obtain ⟨_, _, e⟩ := compD_form hc; cases e; done) | (simp at hc; done)
    all_goals (first | (cases hc; done) | ((repeat' (split at hc)) <;> cases hc) | (simp at hc))
  | region ios =>
    intro code hc m ml w s s' a x R h Q hQ
    simp only [evC] at h
    cases hs : stepOps C ios s with
    | none => simp [hs] at h
    | some s1 =>
      simp [hs] at h
      obtain ⟨rfl, rfl⟩ := h
      simp only [erase] at hc
      cases code <;> (try simp only [compC, opt2] at hc)
      case region id ops d =>
        cases d
        · simp only [compC] at hc
          cases ho : compOpers P nt locals ops ops.toList with
          | none => simp [ho] at hc
          | some is =>
            simp [ho] at hc; subst hc
            refine wp_region_list (steps_sound hC (fun j d hj => ?_) ops.toList is ho m ml w s s1 a R hs Q hQ)
            cases hoj : ops[j]? with
            | none => simp [hoj] at hj
            | some o => simp [hoj] at hj; exact compOpers_dst ho o (by simpa using Array.mem_of_getElem? hoj) d hj
        · simp only [compC] at hc
          obtain ⟨_, _, e⟩ := compD_form hc; cases e
      all_goals (first | (cases hc; done) | ((repeat' (split at hc)) <;> cases hc) | (simp at hc))
  | regionD ios checks =>
    intro code hc m ml w s s' a x R h Q hQ
    simp only [evC] at h
    cases hs : runD C ios checks s with
    | none => simp [hs] at h
    | some s1 =>
      simp [hs] at h
      obtain ⟨rfl, rfl⟩ := h
      simp only [erase] at hc
      cases code <;> (try simp only [compC, opt2] at hc)
      case region id ops d =>
        cases d
        · simp only [compC] at hc
          cases ho : compOpers P nt locals ops ops.toList <;> simp [ho] at hc
        · exact regionD_sound hm hC hc R hs hQ
      all_goals (first | (cases hc; done) | ((repeat' (split at hc)) <;> cases hc) | (simp at hc))
  | seq ia ib iha ihb =>
    intro code hc m ml w s s' a x R h Q hQ
    simp only [erase] at hc
    cases code <;> (try simp only [compC] at hc)
    case seq ca cb =>
      obtain ⟨y, z, h1, h2, h3⟩ := opt2_some hc
      cases h3
      simp only [evC] at h
      split at h
      · rename_i s1 he
        refine wp_seq_k fun K hK => iha ca h1 m ml w s s1 a .normal R he _ fun m1 ml1 w1 a1 R1 G1 => ?_
        simp only [toExit, Exit.then]
        exact hK a1 w1 (ihb cb h2 m1 ml1 w1 s1 s' a1 x R1 h Q fun m2 ml2 w2 a2 R2 G2 => hQ m2 ml2 w2 a2 R2 (G1.trans G2))
      · rename_i hne
        cases x with
        | normal => exact absurd h (hne s')
        | exit id =>
          exact wp_seq_k fun K hK => iha ca h1 m ml w s s' a _ R h _ fun m1 ml1 w1 a1 R1 G1 => hQ m1 ml1 w1 a1 R1 G1
        | ret =>
          exact wp_seq_k fun K hK => iha ca h1 m ml w s s' a _ R h _ fun m1 ml1 w1 a1 R1 G1 => hQ m1 ml1 w1 a1 R1 G1
    case region id ops d => cases d <;> simp only [compC] at hc <;> first | (obtain ⟨_, _, e⟩ := compD_form hc; cases e; done) | (simp at hc; done)
    all_goals (first | (cases hc; done) | (simp only [opt2] at hc; (repeat' (split at hc)) <;> cases hc) | (simp at hc))
  | cond c ia ib iha ihb =>
    intro code hc m ml w s s' a x R h Q hQ
    simp only [erase] at hc
    cases code <;> (try simp only [compC] at hc)
    case cond cc ca cb =>
      split at hc
      · rename_i c' hcc
        obtain ⟨y, z, h1, h2, h3⟩ := opt2_some hc
        cases h3
        simp only [evC] at h
        split at h
        · rename_i hv
          refine wp_cond_true ?_ (iha ca h1 m ml w s s' a x R h Q hQ)
          have := (R.opR cc _ _ hcc hv).1
          simpa [conc] using this
        · rename_i hv
          refine wp_cond_false ?_ (ihb cb h2 m ml w s s' a x R h Q hQ)
          have := (R.opR cc _ _ hcc hv).1
          simpa [conc] using this
        · cases h
      · cases hc
    case region id ops d => cases d <;> simp only [compC] at hc <;> first | (obtain ⟨_, _, e⟩ := compD_form hc; cases e; done) | (simp at hc; done)
    all_goals (first | (cases hc; done) | (simp only [opt2] at hc; (repeat' (split at hc)) <;> cases hc) | (simp at hc))
  | block id ib ih =>
    intro code hc m ml w s s' a x R h Q hQ
    simp only [erase] at hc
    cases code <;> (try simp only [compC] at hc)
    case block id' cb =>
      cases hb : compC P nt locals cb with
      | none => simp [hb] at hc
      | some y =>
        simp [hb] at hc
        obtain ⟨rfl, rfl⟩ := hc
        simp only [evC] at h
        refine wp_block ?_
        split at h
        · rename_i j s1 he
          refine ih cb hb m ml w s s1 a _ R he _ fun m1 ml1 w1 a1 R1 G1 => ?_
          simp only [toExit, Exit.inBlock]
          split at h
          · rename_i hj; cases h; rw [if_pos hj]; exact hQ m1 ml1 w1 a1 R1 G1
          · rename_i hj; cases h; rw [if_neg hj]; exact hQ m1 ml1 w1 a1 R1 G1
        · rename_i hne
          refine ih cb hb m ml w s s' a _ R h _ fun m1 ml1 w1 a1 R1 G1 => ?_
          cases x with
          | normal => exact hQ m1 ml1 w1 a1 R1 G1
          | exit j => exact absurd h (hne j s')
          | ret => exact hQ m1 ml1 w1 a1 R1 G1
    case region id ops d => cases d <;> simp only [compC] at hc <;> first | (obtain ⟨_, _, e⟩ := compD_form hc; cases e; done) | (simp at hc; done)
    all_goals (first | (cases hc; done) | (simp only [opt2] at hc; (repeat' (split at hc)) <;> cases hc) | (simp at hc))
  | loop ib ih =>
    intro code hc m ml w s s' a x R h Q hQ
    simp only [erase] at hc
    cases code <;> (try simp only [compC] at hc)
    case loop cb =>
      cases hb : compC P nt locals cb with
      | none => simp [hb] at hc
      | some y =>
        simp [hb] at hc
        subst hc
        simp only [evC] at h
        have key : ∀ (k : Nat) (m : Nat → Loc) (ml : Nat → Nat) (w : World) (s : St) (a : Act), Rel m ml nt s a w → iter (evC C n ib) k s = some (x, s') →
            (∀ m' ml' w' a', Rel m' ml' nt s' a' w' → Grow m ml s.loc s.H w m' ml' s'.loc s'.H w' → Q (toExit x) a' w') →
            ∀ (b : Frame) (kk : List Item) (cs : List Frame), ∃ e a' w', Q e a' w' ∧ Arrives P (lone (b.at a (.code cb :: .inLoop cb :: kk)) cs w) b kk cs e a' w' := by
          intro k
          induction k with
          | zero => intro m ml w s a R h; simp [iter] at h
          | succ k ihk =>
            intro m ml w s a R h hQ b kk cs
            simp only [iter] at h
            have hne' : x ≠ .normal ∨ True := .inr trivial
            split at h
            · rename_i s1 he
              -- the round ends, another one begins
              have hw := ih cb hb m ml w s s1 a .normal R he (fun e a1 w1 => e = .normal ∧ ∀ (b : Frame) (kk : List Item) (cs : List Frame), ∃ e a' w', Q e a' w' ∧ Arrives P (lone (b.at a1 (.code cb :: .inLoop cb :: kk)) cs w1) b kk cs e a' w')
                fun m1 ml1 w1 a1 R1 G1 => ⟨rfl, ihk m1 ml1 w1 s1 a1 R1 h fun m2 ml2 w2 a2 R2 G2 => hQ m2 ml2 w2 a2 R2 (G1.trans G2)⟩
              obtain ⟨e, a1, w1, ⟨rfl, hq⟩, harr⟩ := hw b (.inLoop cb :: kk) cs
              obtain ⟨e2, a2, w2, hq2, harr2⟩ := hq b kk cs
              exact ⟨e2, a2, w2, hq2, .of_steps (Steps.trans harr (.one step_inLoop)) harr2⟩
            · rename_i hne
              have hx : x ≠ .normal := by
                rintro rfl
                exact hne _ h
              obtain ⟨e, a1, w1, ⟨hq, rfl⟩, harr⟩ := ih cb hb m ml w s s' a x R h (fun e a' w' => Q e a' w' ∧ e = toExit x) (fun m1 ml1 w1 a1 R1 G1 => ⟨hQ m1 ml1 w1 a1 R1 G1, rfl⟩) b (.inLoop cb :: kk) cs
              refine ⟨_, a1, w1, hq, .pass (x := .inLoop cb) rfl (fun _ _ => .inl ?_) harr⟩
              cases x <;> simp_all [toExit]
        intro b kk cs
        obtain ⟨e, a', w', hq, harr⟩ := key n m ml w s a R h hQ b kk cs
        exact ⟨e, a', w', hq, .of_steps (.one step_loop) harr⟩
    case region id ops d => cases d <;> simp only [compC] at hc <;> first | (obtain ⟨_, _, e⟩ := compD_form hc; cases e; done) | (simp at hc; done)
    all_goals (first | (cases hc; done) | (simp only [opt2] at hc; (repeat' (split at hc)) <;> cases hc) | (simp at hc))
  | exit id =>
    intro code hc m ml w s s' a x R h Q hQ
    simp only [evC, Option.some.injEq, Prod.mk.injEq] at h
    obtain ⟨rfl, rfl⟩ := h
    simp only [erase] at hc
    cases code <;> (try simp only [compC, opt2] at hc)
    case exit id' => cases hc; exact wp_exit (hQ m ml w a R (.refl ..))
    case region id ops d => cases d <;> simp only [compC] at hc <;> first | (obtain ⟨_, _, e⟩ := compD_form hc; cases e; done) | (simp at hc; done)
    all_goals (first | (cases hc; done) | ((repeat' (split at hc)) <;> cases hc) | (simp at hc))
  | ret =>
    intro code hc m ml w s s' a x R h Q hQ
    simp only [evC, Option.some.injEq, Prod.mk.injEq] at h
    obtain ⟨rfl, rfl⟩ := h
    simp only [erase] at hc
    cases code <;> (try simp only [compC, opt2] at hc)
    case ret => exact wp_ret (hQ m ml w a R (.refl ..))
    case region id ops d => cases d <;> simp only [compC] at hc <;> first | (obtain ⟨_, _, e⟩ := compD_form hc; cases e; done) | (simp at hc; done)
    all_goals (first | (cases hc; done) | ((repeat' (split at hc)) <;> cases hc) | (simp at hc))
  | keep ks ls c ih =>
    intro code hc m ml w s s' a x R h Q hQ
    simp only [evC] at h
    exact ih code hc m ml w _ s' a x (R.keep ks ls) h Q fun m' ml' w' a' R' G' => hQ m' ml' w' a' R' G'.prune

end
end Go.Wam
