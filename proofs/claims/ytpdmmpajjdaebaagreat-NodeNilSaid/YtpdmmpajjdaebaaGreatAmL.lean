/- The abstract machine: whole functions. No condition. -/
import Derived.Test.YtpdmmpajjdaebaaGreatAmLr
set_option linter.unusedVariables false
set_option linter.unusedSimpArgs false
namespace Go.Wam

theorem compD_form {P : Program} {nt : Nat} {locals : List Nat} {ops : Array Oper} {x : IC} (h : compD P nt locals ops = some x) : ∃ ios cs, x = .regionD ios cs := by
  unfold compD at h
  simp only at h
  split at h
  · cases h
  split at h
  · split at h
    · cases h; exact ⟨_, _, rfl⟩
    · cases h
  · cases h

section
variable {P : Program} {C : CallF} {m m' : Nat → Loc} {ml ml' : Nat → Nat} {nt : Nat} {locals : List Nat} {w w' : World} {s s' : St} {a : Act}

theorem Grow.prune {loc loc' : List (Nat × List AV)} {H H' : AHeap} {ks : List Nat} (G : Grow m ml (Go.Wam.prune ks loc) H w m' ml' loc' H' w') : Grow m ml loc H w m' ml' loc' H' w' :=
  ⟨G.n_le, G.agree, G.size, G.os, G.tape, G.output, fun b hb h1 h2 => G.keep b hb h1 fun t c h => h2 t c (look_prune h), G.own,
    fun t c h => (G.locs t c h).imp (fun ⟨d, h1, h2⟩ => ⟨d, look_prune h1, h2⟩) id, G.low, G.pres, G.ro⟩

theorem Rel.keep (R : Rel P m ml nt s a w) (ks ls : List Nat) : Rel P m ml nt { s with env := Go.Wam.prune ks s.env, loc := Go.Wam.prune ls s.loc } a w :=
  ⟨R.sim.prune ls, fun t v h => R.env t v (look_prune h), R.size, R.defers, R.dok⟩

theorem compOpers_dst {ops : Array Oper} : ∀ {os : List Oper} {ios : List IOper}, compOpers P nt locals ops os = some ios → ∀ o ∈ os, ∀ d, o.dst = some d → d < nt := by
  intro os
  induction os with
  | nil => intro ios h o ho; simp at ho
  | cons x os ih =>
    intro ios h o ho d hd
    simp only [compOpers] at h
    split at h
    · rename_i i is h1 h2
      rcases List.mem_cons.1 ho with rfl | ho
      · exact (compOper_spec h1).1 d hd
      · exact ih h2 o ho d hd
    · cases h

/-- Our meaning of a piece of code is the model's. -/
theorem code_sound (hm : P.follows .mixedOrders = true) (hC : CallOk P C) (n : Nat) (rd : Option Nat) (fu : Nat) : ∀ (ic : IC) (code : Code), compC P nt locals code = some (erase ic) → (rd = none ∨ plainC ic = true) → ∀ (m : Nat → Loc) (ml : Nat → Nat) (w : World) (s s' : St) (a : Act) (x : AExit),
    Rel P m ml nt s a w → evC C n ic s = some (x, s') → ∀ (Q : Exit → Act → World → Prop), (∀ m' ml' w' a', Rel P m' ml' nt s' a' w' → Grow m ml s.loc s.H w m' ml' s'.loc s'.H w' → Q (toExit x) a' w') → code.wpIn (FF rd) fu P Q a w := by
  intro ic
  induction ic with
  | skip =>
    intro code hc hpl m ml w s s' a x R h Q hQ
    simp only [evC, Option.some.injEq, Prod.mk.injEq] at h
    obtain ⟨rfl, rfl⟩ := h
    simp only [erase] at hc
    cases code <;> (try simp only [compC, opt2] at hc)
    case skip => exact wpIn_skip (hQ m ml w a R (.refl ..))
    case region id ops d => cases d <;> simp only [compC] at hc <;> first | (obtain ⟨_, _, e⟩ := compD_form hc; cases e; done) | (simp at hc; done)
    all_goals (first | (cases hc; done) | ((repeat' (split at hc)) <;> cases hc) | (simp at hc))
  | region ios =>
    intro code hc hpl m ml w s s' a x R h Q hQ
    simp only [evC] at h
    cases hs : stepOps C ios s with
    | none => simp [hs] at h
    | some s1 =>
      simp [hs] at h
      obtain ⟨rfl, rfl⟩ := h
      simp only [erase] at hc
      cases code <;> (try simp only [compC, opt2] at hc)
      case region id ops d =>
        cases d
        · simp only [compC] at hc
          cases ho : compOpers P nt locals ops ops.toList with
          | none => simp [ho] at hc
          | some is =>
            simp [ho] at hc; subst hc
            refine wpIn_region_list (steps_sound hC rd fu (fun j d hj => ?_) ops.toList is ho (by simpa only [plainC] using hpl) m ml w s s1 a R hs Q hQ)
            cases hoj : ops[j]? with
            | none => simp [hoj] at hj
            | some o => simp [hoj] at hj; exact compOpers_dst ho o (by simpa using Array.mem_of_getElem? hoj) d hj
        · simp only [compC] at hc
          obtain ⟨_, _, e⟩ := compD_form hc; cases e
      all_goals (first | (cases hc; done) | ((repeat' (split at hc)) <;> cases hc) | (simp at hc))
  | regionD ios checks =>
    intro code hc hpl m ml w s s' a x R h Q hQ
    simp only [evC] at h
    cases hs : runD C ios checks s with
    | none => simp [hs] at h
    | some s1 =>
      simp [hs] at h
      obtain ⟨rfl, rfl⟩ := h
      simp only [erase] at hc
      cases code <;> (try simp only [compC, opt2] at hc)
      case region id ops d =>
        cases d
        · simp only [compC] at hc
          cases ho : compOpers P nt locals ops ops.toList <;> simp [ho] at hc
        · exact regionD_sound hm hC hc R hs hQ rd fu
      all_goals (first | (cases hc; done) | ((repeat' (split at hc)) <;> cases hc) | (simp at hc))
  | seq ia ib iha ihb =>
    intro code hc hpl m ml w s s' a x R h Q hQ
    simp only [erase] at hc
    cases code <;> (try simp only [compC] at hc)
    case seq ca cb =>
      obtain ⟨y, z, h1, h2, h3⟩ := opt2_some hc
      cases h3
      have hpa : rd = none ∨ plainC ia = true := hpl.imp id fun h => by simp only [plainC, Bool.and_eq_true] at h; exact h.1
      have hpb : rd = none ∨ plainC ib = true := hpl.imp id fun h => by simp only [plainC, Bool.and_eq_true] at h; exact h.2
      simp only [evC] at h
      split at h
      · rename_i s1 he
        refine wpIn_seq_k fun K hK => iha ca h1 hpa m ml w s s1 a .normal R he _ fun m1 ml1 w1 a1 R1 G1 => ?_
        simp only [toExit, Exit.then]
        exact hK a1 w1 (ihb cb h2 hpb m1 ml1 w1 s1 s' a1 x R1 h Q fun m2 ml2 w2 a2 R2 G2 => hQ m2 ml2 w2 a2 R2 (G1.trans G2))
      · rename_i hne
        cases x with
        | normal => exact absurd h (hne s')
        | exit id =>
          exact wpIn_seq_k fun K hK => iha ca h1 hpa m ml w s s' a _ R h _ fun m1 ml1 w1 a1 R1 G1 => hQ m1 ml1 w1 a1 R1 G1
        | ret =>
          exact wpIn_seq_k fun K hK => iha ca h1 hpa m ml w s s' a _ R h _ fun m1 ml1 w1 a1 R1 G1 => hQ m1 ml1 w1 a1 R1 G1
    case region id ops d => cases d <;> simp only [compC] at hc <;> first | (obtain ⟨_, _, e⟩ := compD_form hc; cases e; done) | (simp at hc; done)
    all_goals (first | (cases hc; done) | (simp only [opt2] at hc; (repeat' (split at hc)) <;> cases hc) | (simp at hc))
  | cond c ia ib iha ihb =>
    intro code hc hpl m ml w s s' a x R h Q hQ
    simp only [erase] at hc
    cases code <;> (try simp only [compC] at hc)
    case cond cc ca cb =>
      split at hc
      · rename_i c' hcc
        obtain ⟨y, z, h1, h2, h3⟩ := opt2_some hc
        cases h3
        have hpa : rd = none ∨ plainC ia = true := hpl.imp id fun h => by simp only [plainC, Bool.and_eq_true] at h; exact h.1
        have hpb : rd = none ∨ plainC ib = true := hpl.imp id fun h => by simp only [plainC, Bool.and_eq_true] at h; exact h.2
        simp only [evC] at h
        split at h
        · rename_i hv
          refine wpIn_cond_true ?_ (iha ca h1 hpa m ml w s s' a x R h Q hQ)
          have := (R.opR cc _ _ hcc hv).1
          simpa [conc] using this
        · rename_i hv
          refine wpIn_cond_false ?_ (ihb cb h2 hpb m ml w s s' a x R h Q hQ)
          have := (R.opR cc _ _ hcc hv).1
          simpa [conc] using this
        · cases h
      · cases hc
    case region id ops d => cases d <;> simp only [compC] at hc <;> first | (obtain ⟨_, _, e⟩ := compD_form hc; cases e; done) | (simp at hc; done)
    all_goals (first | (cases hc; done) | (simp only [opt2] at hc; (repeat' (split at hc)) <;> cases hc) | (simp at hc))
  | block id ib ih =>
    intro code hc hpl m ml w s s' a x R h Q hQ
    simp only [erase] at hc
    cases code <;> (try simp only [compC] at hc)
    case block id' cb =>
      cases hb : compC P nt locals cb with
      | none => simp [hb] at hc
      | some y =>
        simp [hb] at hc
        obtain ⟨rfl, rfl⟩ := hc
        simp only [evC] at h
        refine wpIn_block ?_
        split at h
        · rename_i j s1 he
          refine ih cb hb (by simpa only [plainC] using hpl) m ml w s s1 a _ R he _ fun m1 ml1 w1 a1 R1 G1 => ?_
          simp only [toExit, Exit.inBlock]
          split at h
          · rename_i hj; cases h; rw [if_pos hj]; exact hQ m1 ml1 w1 a1 R1 G1
          · rename_i hj; cases h; rw [if_neg hj]; exact hQ m1 ml1 w1 a1 R1 G1
        · rename_i hne
          refine ih cb hb (by simpa only [plainC] using hpl) m ml w s s' a _ R h _ fun m1 ml1 w1 a1 R1 G1 => ?_
          cases x with
          | normal => exact hQ m1 ml1 w1 a1 R1 G1
          | exit j => exact absurd h (hne j s')
          | ret => exact hQ m1 ml1 w1 a1 R1 G1
    case region id ops d => cases d <;> simp only [compC] at hc <;> first | (obtain ⟨_, _, e⟩ := compD_form hc; cases e; done) | (simp at hc; done)
    all_goals (first | (cases hc; done) | (simp only [opt2] at hc; (repeat' (split at hc)) <;> cases hc) | (simp at hc))
  | loop ib ih =>
    intro code hc hpl m ml w s s' a x R h Q hQ
    simp only [erase] at hc
    cases code <;> (try simp only [compC] at hc)
    case loop cb =>
      cases hb : compC P nt locals cb with
      | none => simp [hb] at hc
      | some y =>
        simp [hb] at hc
        subst hc
        simp only [evC] at h
        have key : ∀ (k : Nat) (m : Nat → Loc) (ml : Nat → Nat) (w : World) (s : St) (a : Act), Rel P m ml nt s a w → iter (evC C n ib) k s = some (x, s') →
            (∀ m' ml' w' a', Rel P m' ml' nt s' a' w' → Grow m ml s.loc s.H w m' ml' s'.loc s'.H w' → Q (toExit x) a' w') →
            LoopAt (FF rd) fu P cb Q a w := by
          intro k
          induction k with
          | zero => intro m ml w s a R h; simp [iter] at h
          | succ k ihk =>
            intro m ml w s a R h hQ
            simp only [iter] at h
            split at h
            · rename_i s1 he
              exact loopAt_round (ih cb hb (by simpa only [plainC] using hpl) m ml w s s1 a .normal R he _ fun m1 ml1 w1 a1 R1 G1 => ihk m1 ml1 w1 s1 a1 R1 h fun m2 ml2 w2 a2 R2 G2 => hQ m2 ml2 w2 a2 R2 (G1.trans G2))
            · rename_i hne
              have hx : x ≠ .normal := by
                rintro rfl
                exact hne _ h
              refine loopAt_round (ih cb hb (by simpa only [plainC] using hpl) m ml w s s' a x R h _ fun m1 ml1 w1 a1 R1 G1 => ?_)
              have := hQ m1 ml1 w1 a1 R1 G1
              cases x with
              | normal => exact absurd rfl hx
              | exit id => exact this
              | ret => exact this
        exact wpIn_of_loopAt (key n m ml w s a R h hQ)
    case region id ops d => cases d <;> simp only [compC] at hc <;> first | (obtain ⟨_, _, e⟩ := compD_form hc; cases e; done) | (simp at hc; done)
    all_goals (first | (cases hc; done) | (simp only [opt2] at hc; (repeat' (split at hc)) <;> cases hc) | (simp at hc))
  | exit id =>
    intro code hc hpl m ml w s s' a x R h Q hQ
    simp only [evC, Option.some.injEq, Prod.mk.injEq] at h
    obtain ⟨rfl, rfl⟩ := h
    simp only [erase] at hc
    cases code <;> (try simp only [compC, opt2] at hc)
    case exit id' => cases hc; exact wpIn_exit (hQ m ml w a R (.refl ..))
    case region id ops d => cases d <;> simp only [compC] at hc <;> first | (obtain ⟨_, _, e⟩ := compD_form hc; cases e; done) | (simp at hc; done)
    all_goals (first | (cases hc; done) | ((repeat' (split at hc)) <;> cases hc) | (simp at hc))
  | ret =>
    intro code hc hpl m ml w s s' a x R h Q hQ
    simp only [evC, Option.some.injEq, Prod.mk.injEq] at h
    obtain ⟨rfl, rfl⟩ := h
    simp only [erase] at hc
    cases code <;> (try simp only [compC, opt2] at hc)
    case ret => exact wpIn_ret (hQ m ml w a R (.refl ..))
    case region id ops d => cases d <;> simp only [compC] at hc <;> first | (obtain ⟨_, _, e⟩ := compD_form hc; cases e; done) | (simp at hc; done)
    all_goals (first | (cases hc; done) | ((repeat' (split at hc)) <;> cases hc) | (simp at hc))
  | rangeF f ps ia ib iha ihb =>
    intro code hc hpl m ml w s s' a x R h Q hQ
    have hrd : rd = none := hpl.resolve_right (by simp [plainC])
    subst hrd
    simp only [erase] at hc
    cases code <;> (try simp only [compC] at hc)
    case rangeFunc g ps' ca cb =>
      split at hc
      · rename_i f' hf
        split at hc
        · rename_i hps
          obtain ⟨y, z, h1, h2, h3⟩ := opt2_some hc
          split at h3
          · rename_i hp
            simp only [Option.some.injEq, IC.rangeF.injEq] at h3
            obtain ⟨rfl, rfl, rfl, rfl⟩ := h3
            rw [Bool.and_eq_true, plainC_erase, plainC_erase] at hp
            exact rangeF_sound hC hf (fun p hp => by
              rw [← Array.all_toList] at hps
              exact of_decide_eq_true (List.all_eq_true.1 hps p hp)) h1 h2 hp.1 hp.2 R h hQ
          · cases h3
        · cases hc
      · cases hc
    case region id ops d => cases d <;> simp only [compC] at hc <;> first | (obtain ⟨_, _, e⟩ := compD_form hc; cases e; done) | (simp at hc; done)
    all_goals (first | (cases hc; done) | (simp only [opt2] at hc; (repeat' (split at hc)) <;> cases hc) | (simp at hc))
  | mapR d0 d1 it b ks ls body ih =>
    intro code hc hpl m ml w s s' a x R h Q hQ
    simp only [erase] at hc
    obtain ⟨c1, rfl, hc1⟩ := compC_block hc
    obtain ⟨c2, rfl, hc2⟩ := compC_loop hc1
    obtain ⟨c3, c4, rfl, hc3, hc4⟩ := compC_seq hc2
    obtain ⟨id, ops, rfl, hc3'⟩ := compC_region hc3
    obtain ⟨c5, cb, rfl, hc5, hcb⟩ := compC_seq hc4
    obtain ⟨cc, c6, c7, rfl, hcc, hc6, hc7⟩ := compC_cond hc5
    cases compC_skip hc6
    cases compC_exit hc7
    simp only [evC] at h
    refine wpIn_block (wpIn_of_loopAt (mapLoop_sound hC hc3' hcc (f := evC C n body) (fun m ml w s s' a x R h Q hQ => ih cb hcb (by simpa only [plainC] using hpl) m ml w s s' a x R h Q hQ) n m ml w s a x s' R h Q hQ))
  | stuck =>
    intro code hc hpl m ml w s s' a x R h Q hQ
    simp [evC] at h
  | keep ks ls c ih =>
    intro code hc hpl m ml w s s' a x R h Q hQ
    simp only [evC] at h
    exact ih code hc (by simpa only [plainC] using hpl) m ml w _ s' a x (R.keep ks ls) h Q fun m' ml' w' a' R' G' => hQ m' ml' w' a' R' G'.prune

end
end Go.Wam
