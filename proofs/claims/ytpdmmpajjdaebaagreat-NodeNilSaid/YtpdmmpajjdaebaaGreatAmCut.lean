/- The abstract machine: what a piece of code comes to, and how pieces are joined; what a state no longer needs is forgotten. No condition. -/
import Derived.Test.YtpdmmpajjdaebaaGreatAmNil
import Derived.Test.YtpdmmpajjdaebaaGreatAmCd
set_option linter.unusedVariables false
set_option linter.unusedSimpArgs false
namespace Go.Wam

/-! ## Less is told -/
/-- A knows less than B: the same ids, of each the same, or nothing. -/
structure SubH (A B : AHeap) : Prop where
  n : A.n = B.n
  dfs : A.dfs = B.dfs
  low : A.low = 0
  has : ∀ i, (A.get i).isSome = (B.get i).isSome
  get : ∀ i o, A.get i = some o → o = .dead ∨ B.get i = some o
structure SubSt (s t : St) : Prop where
  env : ∀ k v, look k s.env = some v → look k t.env = some v
  loc : ∀ k v, look k s.loc = some v → look k t.loc = some v
  H : SubH s.H t.H

section
variable {P : Program} {m m' : Nat → Loc} {ml ml' : Nat → Nat} {loc loc' : List (Nat × List AV)} {A B H' : AHeap} {w w' : World}
theorem SubH.owned (h : SubH A B) {i : Nat} (ho : Owned A i) : Owned B i := by
  obtain ⟨o, h1, h2⟩ := ho
  rcases h.get i o h1 with rfl | h3
  · cases h2
  · exact ⟨o, h3, h2⟩
theorem SubH.ro (h : SubH A B) {i : Nat} (ho : IsRo A i) : IsRo B i := by
  obtain ⟨o, h1, h2⟩ := ho
  rcases h.get i o h1 with rfl | h3
  · cases h2
  · exact ⟨o, h3, h2⟩
theorem Sim.sub (S : Sim P m ml loc B w) (h : SubH A B) (hl : ∀ k v, look k loc' = some v → look k loc = some v) : Sim P m ml loc' A w where
  wf := fun i => by rw [h.has, h.n]; exact S.wf i
  obj := fun i o hi => by
    rcases h.get i o hi with rfl | h3
    · trivial
    · exact S.obj i o h3
  ok := fun i o hi => by
    rcases h.get i o hi with rfl | h3
    · trivial
    · rw [h.n]; exact S.ok i o h3
  inj := fun i j hi hj => S.inj i j (h.owned hi) (h.owned hj)
  sep := fun i j hi hj => S.sep i j (h.owned hi) (h.ro hj)
  locs := fun t c hc => S.locs t c (hl t c hc)
  locok := fun t c hc => by rw [h.n]; exact S.locok t c (hl t c hc)
  locinj := fun t u c d h1 h2 => S.locinj t u c d (hl t c h1) (hl u d h2)
  locsep := fun t c i h1 h2 => S.locsep t c i (hl t c h1) (h2.imp h.owned h.ro)
theorem Grow.sub {loc2 : List (Nat × List AV)} (G : Grow m ml loc' A w m' ml' loc2 H' w') (h : SubH A B) (hl : ∀ k v, look k loc' = some v → look k loc = some v) : Grow m ml loc B w m' ml' loc2 H' w' where
  n_le := by rw [← h.n]; exact G.n_le
  agree := fun i hi => G.agree i (by rw [h.n]; exact hi)
  size := G.size
  os := G.os
  tape := G.tape
  output := G.output
  keep := fun b hb h1 h2 => G.keep b hb (fun i hi => h1 i (h.owned hi)) fun t c hc => h2 t c (hl t c hc)
  own := fun i hi => (G.own i hi).imp (fun ⟨j, h1, h2⟩ => ⟨j, h.owned h1, h2⟩) id
  locs := fun t c hc => (G.locs t c hc).imp (fun ⟨d, h1, h2⟩ => ⟨d, hl t d h1, h2⟩) id
  low := Nat.le_trans G.low (by rw [h.low]; exact Nat.zero_le _)
  pres := fun i hi => absurd hi (by have := G.low; rw [h.low] at this; omega)
  ro := fun i hi => h.ro (G.ro i hi)
theorem Rel.sub {nt : Nat} {s t : St} {a : Act} (R : Rel P m ml nt t a w) (h : SubSt s t) : Rel P m ml nt s a w where
  sim := R.sim.sub h.H h.loc
  env := fun k v hk => by rw [h.H.n]; exact R.env k v (h.env k v hk)
  size := R.size
  defers := by rw [h.H.dfs]; exact R.defers
  dok := by rw [h.H.dfs, h.H.n]; exact R.dok
end

/-! ## Pieces of code -/
def CTrip (P : Program) (nt : Nat) (locals : List Nat) (ic : IC) (s : St) (x : AExit) (s' : St) : Prop :=
  s.H.n ≤ s'.H.n ∧ ∀ code, compC P nt locals code = some (erase ic) → ∀ (m : Nat → Loc) (ml : Nat → Nat) (w : World) (a : Act), Rel P m ml nt s a w →
    ∀ (Q : Exit → Act → World → Prop), (∀ m' ml' w' a', Rel P m' ml' nt s' a' w' → Grow m ml s.loc s.H w m' ml' s'.loc s'.H w' → Q (toExit x) a' w') → code.wpIn (FF none) 0 P Q a w

section
variable {P : Program} {C : CallF} {nt : Nat} {locals : List Nat} {s s1 s2 t : St} {x : AExit}
theorem CTrip.of (hm : P.follows .mixedOrders = true) (hC : CallOk P C) {n : Nat} {ic : IC} (h : evC C n ic s = some (x, s1)) : CTrip P nt locals ic s x s1 :=
  ⟨evC_n hC n ic s s1 x h, fun code hc m ml w a R Q hQ => code_sound hm hC n none 0 ic code hc (.inl rfl) m ml w s s1 a x R h Q hQ⟩
theorem CTrip.sub {ic : IC} (h : CTrip P nt locals ic t x s1) (hs : SubSt t s) : CTrip P nt locals ic s x s1 :=
  ⟨by rw [← hs.H.n]; exact h.1, fun code hc m ml w a R Q hQ => h.2 code hc m ml w a (R.sub hs) Q fun m' ml' w' a' R' G' => hQ m' ml' w' a' R' (G'.sub hs.H hs.loc)⟩
theorem CTrip.keep {ks ls : List Nat} {ic : IC} (h : CTrip P nt locals ic ⟨prune ks s.env, prune ls s.loc, s.H⟩ x s1) : CTrip P nt locals (.keep ks ls ic) s x s1 :=
  ⟨h.1, fun code hc m ml w a R Q hQ => h.2 code (by simpa only [erase] using hc) m ml w a (R.keep ks ls) Q fun m' ml' w' a' R' G' => hQ m' ml' w' a' R' G'.prune⟩
theorem CTrip.seq {a b : IC} (h1 : CTrip P nt locals a s .normal s1) (h2 : CTrip P nt locals b s1 x s2) : CTrip P nt locals (.seq a b) s x s2 := by
  refine ⟨Nat.le_trans h1.1 h2.1, fun code hc m ml w act R Q hQ => ?_⟩
  simp only [erase] at hc
  cases code <;> (try simp only [compC] at hc)
  case seq ca cb =>
    obtain ⟨y, z, k1, k2, k3⟩ := opt2_some hc
    cases k3
    refine wpIn_seq_k fun K hK => h1.2 ca k1 m ml w act R _ fun m1 ml1 w1 a1 R1 G1 => ?_
    simp only [toExit, Exit.then]
    exact hK a1 w1 (h2.2 cb k2 m1 ml1 w1 a1 R1 Q fun m2 ml2 w2 a2 R2 G2 => hQ m2 ml2 w2 a2 R2 (G1.trans G2))
  case region id ops d => cases d <;> simp only [compC] at hc <;> first | (obtain ⟨_, _, e⟩ := compD_form hc; cases e; done) | (simp at hc; done)
  all_goals (first | (cases hc; done) | (simp only [opt2] at hc; (repeat' (split at hc)) <;> cases hc) | (simp at hc))

/-- A function whose body is told by pieces. -/
theorem CTrip.fn (hC : CallOk P C) {f : FuncId} {F : FnIR} (hF : FnFits P f F) {args : List AV} {H : AHeap} (hl : args.length = F.nargs) (h : CTrip P F.ntmps F.locals F.body (enterA args H) x s1) (hx : ∀ i, x ≠ .exit i) {vs : List AV} (hd : s1.H.dfs = []) (hvs : rvs s1 F.results = some vs) (hn : allNoL vs = true) : ATrip P f args H (packA vs) (fin H (packA vs) s1.H) := by
  obtain ⟨fn, c, h1, h2, h3, h4, h5, h6, h7⟩ := hF
  have hH : H.n ≤ s1.H.n := h.1
  refine ⟨⟨fn, c, h1, h2, h3⟩, ?_, fun m w S hargs => ?_⟩
  · unfold fin; split
    · exact Nat.le_refl _
    · exact hH
  simp only [decide_eq_true_eq] at h5
  have R := enter_rel (fn := fn) h4 h5 hl S hargs
  refine calls_FF (r := none) (n := 0) (callsIn_of_wp_marks h1 h2 trivial (h.2 c h6 m ml0 w _ R _ fun m' ml' w' a' R' G' => ?_))
  have main : LeavesInM (FF none) 0 P fn a'.tmps (fun e w' => ∃ u, e = .returned u ∧ Left P m H w (packA vs) (fin H (packA vs) s1.H) u w') a'.defers .returning w' := by
    rw [R'.defers]
    refine runDfs_sound hC s1.H.dfs { s1.H with dfs := [] } _ m' w' (R'.sim.dfs []) R'.dok (by rw [hd]; rfl) fun m2 w2 S2 G2 => ?_
    have hag : ∀ i k, good m' s1.H.n i k → m2 i = m' i := fun i k hi => G2.agree i hi.1
    have hgo : ∀ i k, good m' s1.H.n i k → good m2 s1.H.n i k := fun i k hi => ⟨hi.1, by rw [hag i k hi]; exact hi.2⟩
    have R2 : Rel P m2 ml' F.ntmps { s1 with H := { s1.H with dfs := [] } } { tmps := a'.tmps, defers := [] } w2 := by
      refine ⟨S2.dfs [], fun t u hu => ?_, R'.size, rfl, fun d hd => by cases hd⟩
      obtain ⟨k1, k2⟩ := R'.env t u hu
      exact ⟨by rw [k1]; exact (conc_lptr_ml k2 hag (fun _ _ _ => rfl)).symm, k2.mono hgo fun _ h => h⟩
    have hvs2 : rvs { s1 with H := { s1.H with dfs := [] } } F.results = some vs := by
      rw [← hvs]
      have : ∀ l : List RV, rvs { s1 with H := { s1.H with dfs := [] } } l = rvs s1 l := by
        intro l
        induction l with
        | nil => rfl
        | cons x l ih =>
          simp only [rvs, ih]
          cases x <;> rfl
      exact this _
    obtain ⟨r1, r2⟩ := results_run h7 R2 hvs2
    have hok : AV.okPL (good m2 s1.H.n) vs := (okPL_iff _ _).2 fun x hx => (r2 x hx).noL (List.all_eq_true.1 hn x hx)
    have hH1 : ({ s1.H with dfs := [] } : AHeap) = s1.H := by rw [← hd]
    obtain ⟨k1, k2, k3⟩ := fin_sound (v := packA vs) S S2 (G'.trans (G2.dfs0 (d := []))) (packA_ok hok)
    rw [hH1] at k1 k2 k3
    exact ⟨_, r1, _, rfl, m2, by rw [conc_ml k3 ml' ml0], k1, k2, k3⟩
  cases x with
  | exit i => exact absurd rfl (hx i)
  | normal => exact main
  | ret => exact main

/-- A body's first k parts, and the rest. -/
def cutP' : Nat → IC → IC
  | 0, _ => .skip
  | k + 1, .seq a c => .seq a (cutP' k c)
  | k, .keep ks ls c => .keep ks ls (cutP' k c)
  | _ + 1, _ => .stuck
def cutR' : Nat → IC → IC
  | 0, c => c
  | k + 1, .seq a c => cutR' k c
  | k, .keep ks ls c => cutR' k c
  | _ + 1, _ => .stuck
theorem CTrip.cut (hm : P.follows .mixedOrders = true) (hC : CallOk P C) {n : Nat} : ∀ (ic : IC) (k : Nat) {s : St}, evC C n (cutP' k ic) s = some (.normal, s1) → CTrip P nt locals (cutR' k ic) s1 x s2 → CTrip P nt locals ic s x s2 := by
  intro ic
  induction ic with
  | seq a c _ ih =>
    intro k s h1 h2
    cases k with
    | zero =>
      simp only [cutP', evC] at h1
      cases h1; exact h2
    | succ k =>
      simp only [cutP', evC] at h1
      cases ha : evC C n a s with
      | none => rw [ha] at h1; cases h1
      | some r =>
        obtain ⟨y, sa⟩ := r
        rw [ha] at h1
        cases y with
        | normal => exact (CTrip.of hm hC ha).seq (ih k h1 h2)
        | exit j => cases h1
        | ret => cases h1
  | keep ks ls c ih =>
    intro k s h1 h2
    cases k with
    | zero =>
      simp only [cutP', evC] at h1
      cases h1; exact h2
    | succ k =>
      simp only [cutP', evC] at h1
      exact (ih (k + 1) h1 h2).keep
  | _ =>
    intro k s h1 h2
    cases k with
    | zero =>
      simp only [cutP', evC] at h1
      cases h1; exact h2
    | succ k => simp [cutP', evC] at h1
end

/-! ## What the kernel looks at -/
noncomputable section
def isDeadX (o : AObj) : Bool := AObj.rec (fun _ _ _ => false) (fun _ _ => false) (fun _ _ => false) (fun _ _ _ _ => false) (fun _ _ _ _ _ _ => false) false true o
def subO (a b : Option AObj) : Bool := Option.rec (Option.rec true (fun _ => false) b) (fun x => Option.rec false (fun y => ifb (isDeadX x) true (AObj.beq x y)) b) a
def subT (a : Tr) : Tr → Bool := Tr.rec (motive := fun _ => Tr → Bool) (fun b => Tr.rec true (fun _ _ _ _ _ => false) b) (fun v _ _ ihl ihr b => Tr.rec false (fun v' l' r' _ _ => ifb (subO v v') (ifb (ihl l') (ihr r') false) false) b) a
def subE {α : Type} (eq : α → α → Bool) (a b : List (Nat × α)) : Bool := List.rec true (fun e _ ih => Option.rec false (fun v => ifb (eq e.2 v) ih false) (lookX e.1 b)) a
def subStX (s t : St) : Bool := ifb (ifb (Nat.beq s.H.n t.H.n) (ifb (isNilD s.H.dfs) (ifb (isNilD t.H.dfs) (Nat.beq s.H.low 0) false) false) false) (ifb (subE AV.beq s.env t.env) (ifb (subE AV.beqL s.loc t.loc) (subT s.H.t t.H.t) false) false) false
def isNorm (x : AExit) : Bool := AExit.rec true (fun _ => false) false x
def notExit (x : AExit) : Bool := AExit.rec true (fun _ => false) true x
/-- A piece of code from one state to another, of which that is known. -/
def stepX' (C : CallF) (n : Nat) (ic : IC) (s t : St) : Bool := Option.rec false (fun r => ifb (isNorm r.1) (subStX t r.2) false) (evCX ic C n s)
/-- The last piece of a function that tells yes or no. -/
def lastX (C : CallF) (n : Nat) (ic : IC) (rs : List RV) (s : St) (b : Bool) : Bool := Option.rec false (fun r => ifb (notExit r.1) (ifb (isNilD r.2.H.dfs) (Option.rec false (fun vs => AV.beqL vs [.bool b]) (rvsX r.2 rs)) false) false) (evCX ic C n s)
end
theorem ifb_and {a b : Bool} (h : ifb a b false = true) : a = true ∧ b = true := by cases a <;> simp_all [ifb]
theorem isNilD_eq {l : List Dfr} (h : isNilD l = true) : l = [] := by cases l with | nil => rfl | cons => cases h
theorem subO_spec {a b : Option AObj} (h : subO a b = true) : a.isSome = b.isSome ∧ ∀ o, a = some o → o = .dead ∨ b = some o := by
  cases a with
  | none =>
    cases b with
    | none => exact ⟨rfl, fun o h => by cases h⟩
    | some y => cases h
  | some x =>
    cases b with
    | none => cases h
    | some y =>
      refine ⟨rfl, fun o ho => ?_⟩
      cases ho
      have h : ifb (isDeadX x) true (AObj.beq x y) = true := h
      cases hd : isDeadX x with
      | true =>
        cases x <;> first | (cases hd; done) | exact .inl rfl
      | false =>
        rw [hd] at h
        exact .inr (by rw [AObj.beq_eq h])
theorem subT_spec : ∀ {a b : Tr}, subT a b = true → ∀ p, (getP p a).isSome = (getP p b).isSome ∧ ∀ o, getP p a = some o → o = .dead ∨ getP p b = some o
  | .leaf, .leaf, _, p => by cases p <;> exact ⟨rfl, fun o h => by simp [getP] at h⟩
  | .leaf, .node v l r, h, p => by cases h
  | .node v l r, .leaf, h, p => by cases h
  | .node v l r, .node v' l' r', h, p => by
    have h : ifb (subO v v') (ifb (subT l l') (subT r r') false) false = true := h
    obtain ⟨h1, h⟩ := ifb_and h
    obtain ⟨h2, h3⟩ := ifb_and h
    cases p with
    | nil => exact subO_spec h1
    | cons c p =>
      cases c
      · exact subT_spec h3 p
      · exact subT_spec h2 p
theorem subE_spec {α : Type} {eq : α → α → Bool} (he : ∀ x y, eq x y = true → x = y) : ∀ {a b : List (Nat × α)}, subE eq a b = true → ∀ k v, look k a = some v → look k b = some v
  | [], b, _, k, v, h => by simp [look] at h
  | (i, u) :: a, b, h, k, v, hk => by
    have h : (Option.rec false (fun v => ifb (eq u v) (subE eq a b) false) (lookX i b) : Bool) = true := h
    rw [lookX_eq] at h
    cases hl : look i b with
    | none => rw [hl] at h; cases h
    | some u' =>
      rw [hl] at h
      obtain ⟨h1, h2⟩ := ifb_and h
      simp only [look] at hk
      split at hk
      · rename_i e
        subst e
        cases hk
        rw [hl, he _ _ h1]
      · exact subE_spec he h2 k v hk
theorem subStX_spec {s t : St} (h : subStX s t = true) : SubSt s t := by
  obtain ⟨h1, h⟩ := ifb_and h
  obtain ⟨h2, h1⟩ := ifb_and h1
  obtain ⟨h3, h1⟩ := ifb_and h1
  obtain ⟨h4, h5⟩ := ifb_and h1
  obtain ⟨h6, h⟩ := ifb_and h
  obtain ⟨h7, h8⟩ := ifb_and h
  exact ⟨subE_spec AV.beq_eq h6, subE_spec AV.beqL_eq h7, beqN_eq h2, by rw [isNilD_eq h3, isNilD_eq h4], beqN_eq h5, fun i => (subT_spec h8 (path i)).1, fun i => (subT_spec h8 (path i)).2⟩
theorem stepX'_spec {C : CallF} {n : Nat} {ic : IC} {s t : St} (h : stepX' C n ic s t = true) : ∃ s1, evC C n ic s = some (.normal, s1) ∧ SubSt t s1 := by
  unfold stepX' at h
  cases he : evCX ic C n s with
  | none => rw [he] at h; cases h
  | some r =>
    rw [he] at h
    obtain ⟨x, s1⟩ := r
    obtain ⟨h1, h2⟩ := ifb_and h
    cases x with
    | normal => exact ⟨s1, evCX_le _ he, subStX_spec h2⟩
    | exit => cases h1
    | ret => cases h1
theorem lastX_spec {C : CallF} {n : Nat} {ic : IC} {rs : List RV} {s : St} {b : Bool} (h : lastX C n ic rs s b = true) : ∃ x s1, evC C n ic s = some (x, s1) ∧ (∀ i, x ≠ .exit i) ∧ s1.H.dfs = [] ∧ rvs s1 rs = some [.bool b] := by
  unfold lastX at h
  cases he : evCX ic C n s with
  | none => rw [he] at h; cases h
  | some r =>
    rw [he] at h
    obtain ⟨x, s1⟩ := r
    obtain ⟨h1, h⟩ := ifb_and h
    obtain ⟨h2, h⟩ := ifb_and h
    refine ⟨x, s1, evCX_le _ he, fun i hi => (by subst hi; cases h1), isNilD_eq h2, ?_⟩
    cases hv : rvsX s1 rs with
    | none => simp only [hv] at h; cases h
    | some vs =>
      simp only [hv] at h
      have h : AV.beqL vs [.bool b] = true := h
      rw [AV.beqL_eq _ _ h] at hv
      exact rvsX_le hv

section
variable {P : Program} {T : FuncId → Option FnDef}
/-- A function of no arguments, run in two. -/
theorem alive_cut2 (hm : P.follows .mixedOrders = true) (hT : TableOk P T) {f : FuncId} {F : FnIR} (hF : FnFits P f F) (h0 : F.nargs = 0) {n k : Nat} {t : St} {b : Bool} (h1 : stepX' (evFX T n) n (cutP' k F.body) (enterX [] noH) t = true)
    (h2 : lastX (evFX T n) n (cutR' k F.body) F.results t b = true) (H : AHeap) : ATrip P f [] H (.bool b) H := by
  have hle := evFX_le (T := T) n
  have hC := evF_sound hm hT n
  obtain ⟨s1, k1, k2⟩ := stepX'_spec h1
  obtain ⟨x, s2, k3, k4, k5, k6⟩ := lastX_spec h2
  have k1 := evC_le hle _ (Nat.le_refl n) k1
  have k3 := evC_le hle _ (Nat.le_refl n) k3
  rw [enterX_eq] at k1
  have c2 : CTrip P F.ntmps F.locals (cutR' k F.body) s1 x s2 := (CTrip.of hm hC k3).sub k2
  have c := (CTrip.cut hm hC F.body k k1 c2).fn hC hF (args := []) (H := noH) h0.symm k4 k5 k6 (by rfl)
  have e : fin noH (packA [.bool b]) s2.H = noH := by
    unfold fin
    rw [if_pos ⟨Nat.zero_le _, rfl⟩]
  rw [e] at c
  exact c.any H
end
end Go.Wam
