/- The abstract machine: a region that draws its order, joined. No condition. -/
import Derived.Test.YtpdmmpajjdaebaaGreatAmO
import Derived.OrdersIn
set_option linter.unusedVariables false
set_option linter.unusedSimpArgs false
namespace Go.Wam

theorem undefOk : ∀ p : Nat → Nat → Prop, undefA.okP p := fun p => by simp [undefA, AV.okP, AV.okPL]
theorem appendX_noL {H H' : AHeap} {sz b n : Nat} {xs : List AV} {s v : AV} (hs : appendX H sz b n xs s = some (v, H')) : v.noL = true ∨ ∀ p : Nat → Nat → Prop, v.okP p := by
  unfold appendX at hs
  (repeat' (split at hs)) <;> (try cases hs) <;> exact .inl rfl
theorem evOp_effect_noL {dst : Option Nat} {s s' : St} {io : IOp} {v : AV} (h : evOp dst s io = some (v, s')) (hc : io.cls = .effect) : (∀ t off, v ≠ .lptr t off) := by
  have of : (v.noL = true ∨ ∀ p : Nat → Nat → Prop, v.okP p) → ∀ t off, v ≠ .lptr t off := by
    rintro (h | h) t off rfl
    · simp [AV.noL] at h
    · simpa [AV.okP] using h fun _ _ => True
  cases io <;> try (simp [IOp.cls] at hc; done)
  case conv c x =>
    cases c <;> simp [IOp.cls] at hc
  case len k x => cases k <;> simp [IOp.cls] at hc
  case store sz a x =>
    simp only [evOp] at h
    split at h
    · rename_i q u _ _
      cases hs : storeA s sz u q with
      | none => simp [hs] at h
      | some s1 => simp [hs] at h; obtain ⟨rfl, rfl⟩ := h; exact of (.inr undefOk)
    · cases h
  case append sz b a x =>
    simp only [evOp] at h
    split at h
    · rename_i q u _ _
      cases hs : appendA s.H sz b q u with
      | none => simp [hs] at h
      | some r =>
        obtain ⟨v1, H1⟩ := r; simp [hs] at h; obtain ⟨rfl, rfl⟩ := h
        unfold appendA at hs
        split at hs
        · cases hs
        · exact of (appendX_noL hs)
    · cases h
  case appendZ sz b z a x =>
    simp only [evOp] at h
    split at h
    · rename_i q u _ _
      cases hs : appendZ s.H sz b z q u with
      | none => simp [hs] at h
      | some r =>
        obtain ⟨v1, H1⟩ := r; simp [hs] at h; obtain ⟨rfl, rfl⟩ := h
        unfold appendZ at hs
        split at hs
        · split at hs
          · exact of (appendX_noL hs)
          · cases hs
        · cases hs
    · cases h
  case rangeM x =>
    simp only [evOp] at h
    split at h
    · rename_i u _
      cases hs : rangeMA s.H u with
      | none => simp [hs] at h
      | some r =>
        obtain ⟨r1, H1⟩ := r; simp [hs] at h; obtain ⟨rfl, rfl⟩ := h
        unfold rangeMA at hs
        (repeat' (split at hs)) <;> (try cases hs) <;> exact of (.inl rfl)
    · cases h
  case mapEntry t1 z x k =>
    simp only [evOp] at h
    split at h
    · rename_i a b _ _
      cases hs : mapEntryA s.H t1 z a b with
      | none => simp [hs] at h
      | some r =>
        obtain ⟨r1, H1⟩ := r; simp [hs] at h; obtain ⟨rfl, rfl⟩ := h
        unfold mapEntryA at hs
        (repeat' (split at hs)) <;> (try cases hs) <;> (intro t off h; cases h)
    · cases h
  case entryStore x b v1 =>
    simp only [evOp] at h
    split at h
    · rename_i a b c _ _ _
      cases hs : entryStoreA s.H a b c with
      | none => simp [hs] at h
      | some H1 => simp [hs] at h; obtain ⟨rfl, rfl⟩ := h; exact of (.inr undefOk)
    · cases h
  case copy sz d x =>
    simp only [evOp] at h
    split at h
    · rename_i a b _ _
      have to : ∀ {n id off : Nat}, copyTo s sz n id off b = some (v, s') → ∀ t off, v ≠ .lptr t off := by
        intro n id off hc
        unfold copyTo at hc
        (repeat' (split at hc)) <;> (try cases hc) <;> exact of (.inl rfl)
      unfold copyA at h
      split at h <;> first | exact to h | (cases h; done) | (cases h; exact of (.inl rfl))
    · cases h
  case defer f as =>
    simp only [evOp] at h
    (repeat' (split at h)) <;> first | (cases h; done) | (cases h; exact of (.inr undefOk))
  case nextM x => simp [evOp] at h
  case clear sz z x =>
    simp only [evOp] at h
    have cl : ∀ {id off len : Nat}, clearA s sz z id off len = some (v, s') → ∀ t off, v ≠ .lptr t off := by
      intro id off len hc
      unfold clearA at hc
      (repeat' (split at hc)) <;> (try cases hc) <;> exact of (.inr undefOk)
    split at h
    · cases h; exact of (.inr undefOk)
    · cases h; exact of (.inr undefOk)
    · cases h; exact of (.inr undefOk)
    · exact cl h
    · exact cl h
    · cases h
  case nextS x =>
    simp only [evOp] at h
    split at h
    · rename_i u _
      cases hs : nextA s.H u with
      | none => simp [hs] at h
      | some r =>
        obtain ⟨r1, H1⟩ := r
        simp [hs] at h; obtain ⟨rfl, rfl⟩ := h
        unfold nextA at hs
        (repeat' (split at hs)) <;> (try cases hs) <;> exact of (.inr fun p => by simp [AV.okP, AV.okPL])
    · cases h
  case mapUpdate t x k v1 =>
    simp only [evOp] at h
    split at h
    · rename_i a b c _ _ _
      cases hs : updA s.H t a b c with
      | none => simp [hs] at h
      | some H1 => simp [hs] at h; obtain ⟨rfl, rfl⟩ := h; exact of (.inr undefOk)
    · cases h
  case delete t x k =>
    simp only [evOp] at h
    split at h
    · rename_i a b _ _
      cases hs : delA s.H t a b with
      | none => simp [hs] at h
      | some H1 => simp [hs] at h; obtain ⟨rfl, rfl⟩ := h; exact of (.inr undefOk)
    · cases h
  case call f as => simp [evOp] at h
  case bad => simp [evOp] at h

theorem cls_alloc_of_isLoc {io : IOp} (h : isLoc io = true) : io.cls = .alloc := by
  cases io <;> simp [isLoc] at h <;> simp [IOp.cls]

section
variable {P : Program} {C : CallF} {nt : Nat} {locals : List Nat} {ops : Array Oper} {n : Nat} {o : Nat → Oper} {io : Nat → IOper} {idx : Nat → Nat} {stt : Nat → St}
variable {m0 : Nat → Loc} {ml1 : Nat → Nat} {w0 : World} {T : Nat → Prop} {m : Nat → Loc} {ml : Nat → Nat} {r : Nat} {a : Act} {w : World}

theorem Inv.look (hC : CallOk P C) (G : Reg P C nt locals ops n o io idx stt) (hT : ∀ p q, p < n → q < n → idx p ∈ (preds ops).getD (idx q) [] → T q → T p) (I : Inv P n nt o io stt m0 ml1 w0 T m ml r a w) {q : Nat} (hq : q < n) (hnq : ¬ T q)
    (hpre : ∀ p, p < n → idx p ∈ (preds ops).getD (idx q) [] → T p) {t : Nat} {v : AV} (hu : t ∈ (o q).looksAt ops) (h : look t (stt q).env = some v) :
    a.tmps.getD t undef = conc m ml v ∧ vOk (fun id k => id < (stt q).H.n ∧ goodT n stt T m id k) (availL n o io T) v := by
  obtain ⟨b, h1, h2⟩ := G.cur hC hT hq hnq hpre hu h
  obtain ⟨e1, e2⟩ := I.env t v b h1
  exact ⟨e1, e2.mono (fun i k hi => ⟨by omega, hi.2⟩) fun _ h => h⟩

theorem Inv.opR (hC : CallOk P C) (G : Reg P C nt locals ops n o io idx stt) (hT : ∀ p q, p < n → q < n → idx p ∈ (preds ops).getD (idx q) [] → T q → T p) (I : Inv P n nt o io stt m0 ml1 w0 T m ml r a w) {q : Nat} (hq : q < n) (hnq : ¬ T q)
    (hpre : ∀ p, p < n → idx p ∈ (preds ops).getD (idx q) [] → T p) : ∀ x ∈ (o q).op.operands, OpR a.eval (stt q).env m ml (fun id k => id < (stt q).H.n ∧ goodT n stt T m id k) (availL n o io T) x := by
  intro x hx
  refine .of_act a x fun t v e hv => I.look hC G hT hq hnq hpre ?_ hv
  subst e
  exact List.mem_append_left _ (List.mem_filterMap.2 ⟨.tmp t, by simpa using hx, rfl⟩)

theorem Grow.of_pushed {loc : List (Nat × List AV)} {H : AHeap} {w w' : World} {ob : Obj} (h : Pushed w w' ob) : Grow m ml loc H w m ml loc H w' :=
  ⟨Nat.le_refl _, fun _ _ => rfl, by rw [h.size]; omega, h.os, h.tape, h.output, fun b hb _ _ => h.old hb, fun id h => .inl ⟨id, h, rfl⟩, fun t c h => .inl ⟨c, h, rfl⟩, Nat.le_refl _, fun _ _ _ => rfl, fun _ h => h⟩

/-- An operation that makes a block. -/
theorem Inv.alloc (hC : CallOk P C) (G : Reg P C nt locals ops n o io idx stt) (hT : ∀ p q, p < n → q < n → idx p ∈ (preds ops).getD (idx q) [] → T q → T p) (I : Inv P n nt o io stt m0 ml1 w0 T m ml r a w) {q : Nat} (hq : q < n) (hnq : ¬ T q)
    (hpre : ∀ p, p < n → idx p ∈ (preds ops).getD (idx q) [] → T p) (hal : (io q).op.cls = .alloc) (hw : Wtd io stt q) {v : AV} (he : evOp (o q).dst (stt q) (io q).op = some (v, { env := (stt q).env, loc := (stt (q + 1)).loc, H := (stt (q + 1)).H }))
    (henv : (stt (q + 1)).env = envPut (o q).dst v (stt q).env) :
    ∃ m' ml' u w', (execOp a.eval (o q)).run P w = .ok (.value u) w' ∧ Inv P n nt o io stt m0 ml1 w0 (fun p => T p ∨ p = q) m' ml' r (a.put (o q).dst u) w' := by
  obtain ⟨hd, h1, h2, h3⟩ := compOper_spec (G.hcomp q hq)
  have hrq : r ≤ q := by
    by_cases h : q < r
    · exact absurd (I.all q h hal) hnq
    · omega
  have hnr : (stt r).H.n ≤ (stt q).H.n := G.mono hC hrq (by omega)
  have hlk : ∀ d u, (o q).dst = some d → Go.Wam.look d (stt (q + 1)).env = some u → u = v := by
    intro d u hd hu
    rw [henv, hd] at hu
    simp only [envPut, Go.Wam.look, if_true, Option.some.injEq] at hu
    exact hu.symm
  obtain ⟨w', ob, hp, hcase⟩ := run_alloc (comp_of h1 (by rintro e; rw [e] at he; simp [evOp] at he)) hal he (I.opR hC G hT hq hnq hpre) w
  have hsz := hp.size
  have hold : ∀ b, UsedB m ml (stt r).loc (stt r).H b → w'.heap[b]? = w.heap[b]? := fun b hb => hp.old (I.sim.used_lt hb)
  have S0 : Sim P m ml (stt r).loc (stt r).H w' := I.sim.frame hold
  have hE : ∀ p, p < n → (io p).op.cls = .effect → ((T p ∨ p = q) ↔ p < r) := by
    intro p hp hc
    rw [← I.eff p hp hc]
    constructor
    · rintro (h | rfl)
      · exact h
      · rw [hal] at hc; cases hc
    · exact .inl
  rcases hcase with ⟨l, ao, k1, k2, k3, k4, k5, k6, k7, k8⟩ | ⟨t, cells, k1, k2, k3, k4, k5, k6, k7, k8⟩
  · simp only [St.mk.injEq, true_and] at k2
    obtain ⟨k2, k2'⟩ := k2
    have hnl : isLoc (io q).op = false := by
      cases hx : isLoc (io q).op
      · rfl
      · have := (evOp_loc he hal).1 hx
        simp only at this
        rw [k2'] at this
        have := congrArg AHeap.n this
        simp at this
    have hn1 : (stt (q + 1)).H.n = (stt q).H.n + 1 := by rw [k2']; rfl
    have has : ∀ id, asgd n stt T id → id ≠ (stt q).H.n := by
      rintro id (h | ⟨p, j1, j2, j3, j4⟩)
      · have := G.mono hC (Nat.zero_le q) (by omega); omega
      · by_cases e : p < q
        · have := G.mono hC (show p + 1 ≤ q by omega) (by omega); omega
        · by_cases e2 : p = q
          · subst e2; exact absurd j2 hnq
          · have := G.mono hC (show q + 1 ≤ p by omega) (by omega); omega
    have hm : ∀ id, asgd n stt T id → upd m (stt q).H.n l id = m id := fun id h => upd_ne _ _ (has id h)
    have hmr : ∀ id, id < (stt r).H.n → upd m (stt q).H.n l id = m id := fun id h => upd_ne _ _ (by omega)
    have hus : ∀ b, UsedB (upd m (stt q).H.n l) ml (stt r).loc (stt r).H b → UsedB m ml (stt r).loc (stt r).H b := by
      rintro b (⟨id, ho, hb⟩ | h)
      · refine .inl ⟨id, ho, ?_⟩
        rw [← hmr id (by rcases ho with ho | ho <;> exact ho.lt I.sim.wf)]; exact hb
      · exact .inr h
    have hkp : ∀ p, r ≤ p → p < n → T p → (io p).op.cls = .alloc → Wtd io stt p →
        Pend P n o io stt (fun p => T p ∨ p = q) (upd m (stt q).H.n l) ml w' p ∧ pbk o io stt (upd m (stt q).H.n l) ml p = pbk o io stt m ml p := by
      intro p j1 j2 j3 j4 j5
      obtain ⟨g1, g2, g3, g4⟩ := I.pend p j1 j2 j3 j4 j5
      refine g1.keep (T' := fun p => T p ∨ p = q) (fun _ => .inl) hm (fun hlp => ?_) (fun _ _ _ => rfl) (hp.old g3)
      refine upd_ne _ _ ?_
      rcases g1 with ⟨_, ao', e1, _⟩ | ⟨h, _⟩
      · have e1' : (stt (p + 1)).H.n = (stt p).H.n + 1 := by rw [e1]; rfl
        by_cases e : p < q
        · have := G.mono hC (show p + 1 ≤ q by omega) (by omega); omega
        · by_cases e2 : p = q
          · subst e2; exact absurd j3 hnq
          · have := G.mono hC (show q + 1 ≤ p by omega) (by omega); omega
      · rw [hlp] at h; cases h
    have hbq : pbk o io stt (upd m (stt q).H.n l) ml q = w.heap.size := by simp [pbk, hnl, k1]
    refine ⟨upd m (stt q).H.n l, ml, _, w', k6, ⟨I.rn, I.rb, hE, fun p a b => .inl (I.all p a b), S0.rename hmr (fun _ _ _ => rfl), fun p j1 j2 j3 j4 j5 => ?_, fun p p' j1 j2 j3 j4 j5 j6 j7 j8 j9 => ?_, ?_, by cases (o q).dst <;> simp [Act.put, I.size], by cases (o q).dst <;> simp [Act.put, I.defers], (I.grow.trans (.of_pushed hp)).rename I.sim.wf hmr⟩⟩
    · rcases j3 with j3 | rfl
      · obtain ⟨g1, g2, g3, g4⟩ := I.pend p j1 j2 j3 j4 j5
        obtain ⟨e1, e2⟩ := hkp p j1 j2 j3 j4 j5
        refine ⟨e1, by rw [e2]; exact g2, by rw [e2]; omega, ?_⟩
        rw [e2]; exact fun h => g4 (hus _ h)
      · refine ⟨.inl ⟨hnl, ao, k2', k2, k3, ?_, ?_⟩, by rw [hbq]; exact I.grow.size, by rw [hbq]; omega, ?_⟩
        · rw [upd_same]
          exact k5.rename (fun i k hi => upd_ne _ _ (by omega)) k4
        · exact AObj.okP_mono (fun i k hi => ⟨hi.1, asgd_mono (fun _ => .inl) hi.2.1, by rw [hm i hi.2.1]; exact hi.2.2⟩) k4
        · rw [hbq]; intro h; have := I.sim.used_lt (hus _ h); omega
    · rcases j4 with j4 | rfl
      · rcases j5 with j5 | rfl
        · rw [(hkp p j1 (by omega) j4 j6 j8).2, (hkp p' (by omega) j3 j5 j7 j9).2]
          exact I.pdist p p' j1 j2 j3 j4 j5 j6 j7 j8 j9
        · rw [(hkp p j1 (by omega) j4 j6 j8).2, hbq]
          have := (I.pend p j1 (by omega) j4 j6 j8).2.2.1; omega
      · rcases j5 with j5 | rfl
        · rw [(hkp p' (by omega) j3 j5 j7 j9).2, hbq]
          have := (I.pend p' (by omega) j3 j5 j7 j9).2.2.1; omega
        · omega
    · refine I.env_step G hT hq hnq hm (fun _ _ => rfl) fun d u hd' hu => ?_
      obtain rfl := hlk d u hd' hu
      refine ⟨rfl, .of (okP_mono (fun i k hi => ?_) _ k7)⟩
      obtain ⟨rfl, hk⟩ := hi
      exact ⟨by omega, .inr ⟨q, hq, .inr rfl, Nat.le_refl _, by omega⟩, by rw [upd_same]; exact hk⟩
  · subst k4
    simp only [St.mk.injEq, true_and] at k3
    obtain ⟨k3, k3'⟩ := k3
    have hil : isLoc (io q).op = true := by
      cases hx : isLoc (io q).op
      · have := (evOp_loc he hal).2 hx
        simp only at this
        rw [k3] at this
        have := congrArg List.length this
        simp at this
      · rfl
    have hnone : Go.Wam.look t (stt r).loc = none := G.loc_none hq k1 hil r hrq
    have hml : ∀ u, u ≠ t → upd ml t w.heap.size u = ml u := fun u h => upd_ne _ _ h
    have hmr : ∀ u c, Go.Wam.look u (stt r).loc = some c → upd ml t w.heap.size u = ml u := by
      intro u c h
      refine hml u ?_
      rintro rfl
      rw [hnone] at h; cases h
    have hus : ∀ b, UsedB m (upd ml t w.heap.size) (stt r).loc (stt r).H b → UsedB m ml (stt r).loc (stt r).H b := by
      rintro b (h | ⟨u, c, hu, hb⟩)
      · exact .inl h
      · exact .inr ⟨u, c, hu, by rw [← hmr u c hu]; exact hb⟩
    have hkp : ∀ p, r ≤ p → p < n → T p → (io p).op.cls = .alloc → Wtd io stt p →
        Pend P n o io stt (fun p => T p ∨ p = q) m (upd ml t w.heap.size) w' p ∧ pbk o io stt m (upd ml t w.heap.size) p = pbk o io stt m ml p := by
      intro p j1 j2 j3 j4 j5
      obtain ⟨g1, g2, g3, g4⟩ := I.pend p j1 j2 j3 j4 j5
      refine g1.keep (T' := fun p => T p ∨ p = q) (fun _ => .inl) (fun _ _ => rfl) (fun _ => rfl) (fun hlp u hu => hml u ?_) (hp.old g3)
      rintro rfl
      by_cases e : p < q
      · exact G.halloc p q e hq j4 hal (hu.trans k1.symm)
      · by_cases e2 : p = q
        · subst e2; exact absurd j3 hnq
        · exact G.halloc q p (by omega) j2 hal j4 (k1.trans hu.symm)
    have hbq : pbk o io stt m (upd ml t w.heap.size) q = w.heap.size := by simp [pbk, hil, k1]
    refine ⟨m, upd ml t w.heap.size, _, w', k8, ⟨I.rn, I.rb, hE, fun p a b => .inl (I.all p a b), S0.rename (fun _ _ => rfl) hmr, fun p j1 j2 j3 j4 j5 => ?_, fun p p' j1 j2 j3 j4 j5 j6 j7 j8 j9 => ?_, ?_, by cases (o q).dst <;> simp [Act.put, I.size], by cases (o q).dst <;> simp [Act.put, I.defers], ?_⟩⟩
    · rcases j3 with j3 | rfl
      · obtain ⟨g1, g2, g3, g4⟩ := I.pend p j1 j2 j3 j4 j5
        obtain ⟨e1, e2⟩ := hkp p j1 j2 j3 j4 j5
        refine ⟨e1, by rw [e2]; exact g2, by rw [e2]; omega, ?_⟩
        rw [e2]; exact fun h => g4 (hus _ h)
      · refine ⟨.inr ⟨hil, t, cells, k1, k3, k3', ?_, ?_, k6⟩, by rw [hbq]; exact I.grow.size, by rw [hbq]; omega, ?_⟩
        · rw [upd_same]
          exact k7.rename (fun i k hi => rfl) k5
        · exact okPL_mono (fun i k hi => ⟨hi.1, asgd_mono (fun _ => .inl) hi.2.1, hi.2.2⟩) _ k5
        · rw [hbq]; intro h; have := I.sim.used_lt (hus _ h); omega
    · rcases j4 with j4 | rfl
      · rcases j5 with j5 | rfl
        · rw [(hkp p j1 (by omega) j4 j6 j8).2, (hkp p' (by omega) j3 j5 j7 j9).2]
          exact I.pdist p p' j1 j2 j3 j4 j5 j6 j7 j8 j9
        · rw [(hkp p j1 (by omega) j4 j6 j8).2, hbq]
          have := (I.pend p j1 (by omega) j4 j6 j8).2.2.1; omega
      · rcases j5 with j5 | rfl
        · rw [(hkp p' (by omega) j3 j5 j7 j9).2, hbq]
          have := (I.pend p' (by omega) j3 j5 j7 j9).2.2.1; omega
        · omega
    · refine I.env_step G hT hq hnq (fun _ _ => rfl) (fun u hu => hml u ?_) fun d u hd' hu => ?_
      · rintro rfl; exact hnq (hu q hq k1 hil)
      obtain rfl := hlk d u hd' hu
      refine ⟨by simp [conc], .inr ⟨t, 0, rfl, fun p hp1 hp2 hp3 => ?_⟩⟩
      have hpa := cls_alloc_of_isLoc hp3
      by_cases e : p < q
      · exact absurd (hp2.trans k1.symm) (G.halloc p q e hq hpa hal)
      · by_cases e2 : p = q
        · exact .inr e2
        · exact absurd (k1.trans hp2.symm) (G.halloc q p (by omega) hp1 hal hpa)
    · have g1 := I.grow.trans (Grow.of_pushed (ml := ml) (m := m) (loc := (stt r).loc) (H := (stt r).H) hp)
      exact ⟨g1.n_le, g1.agree, g1.size, g1.os, g1.tape, g1.output, g1.keep, g1.own, fun u c hu => by rw [hmr u c hu]; exact g1.locs u c hu, g1.low, g1.pres, g1.ro⟩

/-- One operation, as the region draws it. -/
theorem Inv.step (hC : CallOk P C) (G : Reg P C nt locals ops n o io idx stt) (hsz : ∀ (j d : Nat), (ops[j]?).bind (fun (x : Oper) => x.dst) = some d → d < nt) (hT : ∀ p q, p < n → q < n → idx p ∈ (preds ops).getD (idx q) [] → T q → T p)
    (I : Inv P n nt o io stt m0 ml1 w0 T m ml r a w) {q : Nat} (hq : q < n) (hnq : ¬ T q) (hpre : ∀ p, p < n → idx p ∈ (preds ops).getD (idx q) [] → T p) {Q : Exit → Act → World → Prop} {K : Act → World → Prop}
    (hK : ∀ m' ml' r' a' w', Inv P n nt o io stt m0 ml1 w0 (fun p => T p ∨ p = q) m' ml' r' a' w' → K a' w') (rd : Option Nat) (fu : Nat) : wpOpIn (FF rd) fu P ops Q (idx q) K a w := by
  obtain ⟨hd, h1, h2, h3⟩ := compOper_spec (G.hcomp q hq)
  simp only [wpOpIn, G.hops q hq]
  have hwt : ∀ b, wantedA (stt q) (io q).guard = some b → Region.wanted (o q) (yielded ops a.tmps) = b := fun b hb =>
    wanted_spec2 (m := m) (ml := ml) (fun d v hu hv => (I.look hC G hT hq hnq hpre hu hv).1) (fun j d hj => by rw [I.size]; exact hsz j d hj) h2 hb
  obtain ⟨v, hv, hcase⟩ := stepOp_cases (G.hstep q hq)
  rw [h3] at hv
  have hlk : ∀ d u, (o q).dst = some d → Go.Wam.look d (stt (q + 1)).env = some u → u = v := by
    intro d u hd hu
    rw [hv, hd] at hu
    simp only [envPut, Go.Wam.look, if_true, Option.some.injEq] at hu
    exact hu.symm
  have hpu : ∀ (v : AV), undefA.okP (fun id k => id < (stt (q + 1)).H.n ∧ goodT n stt (fun p => T p ∨ p = q) m id k) := fun _ => by simp [undefA, AV.okP, AV.okPL]
  rcases hcase with ⟨hw, rfl, e1, e2⟩ | ⟨hw, hcase⟩
  · -- not wanted
    rw [hwt _ hw]
    simp only [Bool.false_eq_true, if_false]
    refine ⟨fun _ _ => trivial, ?_⟩
    have henv := I.env_step (u := undef) G hT hq hnq (m' := m) (ml' := ml) (fun _ _ => rfl) (fun _ _ => rfl) fun d u hd' hu => by
      obtain rfl := hlk d u hd' hu
      exact ⟨by simp [undef, undefA, conc, concL], .of (hpu undefA)⟩
    by_cases hc : (io q).op.cls = .effect
    · have hrq : r ≤ q := by
        by_cases h : q < r
        · exact absurd ((I.eff q hq hc).2 h) hnq
        · omega
      have hne : ∀ p, r ≤ p → p < q → (io p).op.cls ≠ .effect := by
        intro p h1 h2 h3
        have := hpre p (by omega) (G.heff p q h2 hq hc (by simp [allocs, h3]))
        have := (I.eff p (by omega) h3).1 this
        omega
      have hal : ∀ p, r ≤ p → p < q → (io p).op.cls = .alloc → T p := fun p h1 h2 h3 => hpre p (by omega) (G.heff p q h2 hq hc (by simp [allocs, h3]))
      obtain ⟨S, _, _⟩ := I.advance G q hrq (by omega) hne hal
      obtain ⟨m'', I'⟩ := I.effect (u := undef) hC G hT hq hnq hpre hc (m' := m) (w' := w) (by rw [e1, e2]; exact S) (by rw [e1, e2]; exact .refl ..) fun d u hd' hu => by
        obtain rfl := hlk d u hd' hu
        exact ⟨by simp [undef, undefA, conc, concL], .of (by simp [undefA, AV.okP, AV.okPL])⟩
      exact hK _ _ _ _ _ I'
    · exact hK _ _ _ _ _ (I.same G hq hnq hc (fun _ h => by unfold Wtd at h; rw [hw] at h; cases h) henv)
  · rw [hwt _ hw]
    simp only [if_true]
    have hpl := G.hplain q hq
    refine ⟨fun _ _ => trivial, ?_⟩
    rw [FF_round]
    have hop := I.opR hC G hT hq hnq hpre
    have toEff : (io q).op.cls = .effect → Sim P m ml (stt q).loc (stt q).H w ∧ ∀ x ∈ (o q).op.operands, OpR a.eval (stt q).env m ml (good m (stt q).H.n) LT x := by
      intro hc
      have hrq : r ≤ q := by
        by_cases h : q < r
        · exact absurd ((I.eff q hq hc).2 h) hnq
        · omega
      have hne : ∀ p, r ≤ p → p < q → (io p).op.cls ≠ .effect := by
        intro p h1 h2 h3
        have := hpre p (by omega) (G.heff p q h2 hq hc (by simp [allocs, h3]))
        have := (I.eff p (by omega) h3).1 this
        omega
      have hal : ∀ p, r ≤ p → p < q → (io p).op.cls = .alloc → T p := fun p h1 h2 h3 => hpre p (by omega) (G.heff p q h2 hq hc (by simp [allocs, h3]))
      obtain ⟨S, _, _⟩ := I.advance G q hrq (by omega) hne hal
      refine ⟨S, fun x hx y u hy hu => ?_⟩
      obtain ⟨k1, k2⟩ := hop x hx y u hy hu
      exact ⟨k1, k2.mono (fun i k hi => ⟨hi.1, hi.2.2⟩) fun _ _ => trivial⟩
    rcases hcase with ⟨f, args, g, vs, hio, hf, hvs, hcall, hloc⟩ | ⟨hnc, he⟩
    · -- a call
      have hc : (io q).op.cls = .effect := by rw [hio]; rfl
      obtain ⟨S, hop'⟩ := toEff hc
      have hco : compOp P locals (o q).dst (o q).op = some (.call f args) := comp_of (by rw [h1]; exact hio) (by simp)
      rw [Oper.semAt_eq _ _ _ (comp_defer hco rfl)]
      refine call_upon (ρ := a.eval) hC hco hop' S hf hvs hcall rd fu fun m' w' S' G' ok' _ => ?_
      obtain ⟨m'', I'⟩ := I.effect (u := conc m' ml v) hC G hT hq hnq hpre hc (m' := m') (w' := w') (by rw [hloc]; exact S') (by rw [hloc]; exact G') fun d u hd' hu => by
        obtain rfl := hlk d u hd' hu
        exact ⟨rfl, .of ok'⟩
      exact hK _ _ _ _ _ I'
    · rw [h3] at he
      have h1' := h1
      replace h1 : compOp P locals (o q).dst (o q).op = some (io q).op := comp_of h1 (by rintro e; rw [e] at he; simp [evOp] at he)
      rw [Oper.semAt_eq _ _ _ (comp_defer h1 hpl)]
      cases hc : (io q).op.cls with
      | effect =>
        obtain ⟨S, hop'⟩ := toEff hc
        obtain ⟨m', w', hrun, S', G', ok', _⟩ := effect_sound (ρ := a.eval) h1 hpl hc he hop' S
        have hvp : v.okP (good m' (stt (q + 1)).H.n) := by
          rcases ok' with h | ⟨t, off, rfl, _⟩
          · exact h
          · exact absurd rfl (evOp_effect_noL he hc t off)
        rcases hrun with hrun | ⟨hrun, rfl⟩
        · simp only [hrun, Oper.uponIn_value]
          obtain ⟨m'', I'⟩ := I.effect (u := conc m' ml v) hC G hT hq hnq hpre hc (m' := m') (w' := w') S' G' fun d u hd' hu => by
            obtain rfl := hlk d u hd' hu
            exact ⟨rfl, .of hvp⟩
          exact hK _ _ _ _ _ I'
        · simp only [hrun, Oper.uponIn_skip]
          obtain ⟨m'', I'⟩ := I.effect (u := undef) hC G hT hq hnq hpre hc (m' := m') (w' := w') S' G' fun d u hd' hu => by
            obtain rfl := hlk d u hd' hu
            exact ⟨by simp [undef, undefA, conc, concL], .of hvp⟩
          exact hK _ _ _ _ _ I'
      | alloc =>
        obtain ⟨m', ml', u, w', hrun, I'⟩ := I.alloc hC G hT hq hnq hpre hc hw he hv
        simp only [hrun, Oper.uponIn_value]
        exact hK _ _ _ _ _ I'
      | pure =>
        obtain ⟨hs, hrun, hok⟩ := run_pure h1 hc he hop (fun i k hi => ⟨hi.2.2, fun j hj => ⟨hi.1, hi.2.1, hj⟩⟩) w
        simp only [hrun, Oper.uponIn_value]
        have hH : (stt (q + 1)).H = (stt q).H := by have := congrArg St.H hs; exact this
        refine hK _ _ _ _ _ (I.same G hq hnq (by simp [hc]) (fun h => by rw [hc] at h; cases h) ?_)
        refine I.env_step G hT hq hnq (m' := m) (ml' := ml) (fun _ _ => rfl) (fun _ _ => rfl) fun d u hd' hu => ?_
        obtain rfl := hlk d u hd' hu
        exact ⟨rfl, hok.mono (fun i k hi => ⟨by rw [hH]; exact hi.1, asgd_mono (fun _ => .inl) hi.2.1, hi.2.2⟩) fun _ => availL_mono fun _ => .inl⟩
      | read =>
        have hs : (stt (q + 1)).H = (stt q).H := by
          have := (evOp_shape he).2.2.1 hc
          have := congrArg St.H this
          exact this
        obtain ⟨v', s1, hev, hd'⟩ := G.hcheck q r hq I.rn hc (I.rb.imp id (·.2)) (fun e he hce => by
          split
          · rename_i hlt; intro hm; exact hnq (hT q e hq he hm ((I.eff e he hce).2 hlt))
          · rename_i hge; intro hm; exact hge ((I.eff e he hce).1 (hpre e he hm))) hw
        obtain ⟨_, hrun, hok⟩ := read_run (ρ := a.eval) (s := { stt q with loc := (stt r).loc, H := (stt r).H }) h1 hc hev hop I.sim
        simp only [hrun, Oper.uponIn_value]
        refine hK _ _ _ _ _ (I.same G hq hnq (by simp [hc]) (fun h => by rw [hc] at h; cases h) ?_)
        refine I.env_step G hT hq hnq (m' := m) (ml' := ml) (fun _ _ => rfl) (fun _ _ => rfl) fun d u hdd hu => ?_
        have e1 : u = v' := Option.some.inj (hu.symm.trans (hd' d hdd))
        subst e1
        refine ⟨rfl, .of (okB_okP (fun i k hi hlt => ?_) _ (G.hread q hq hc hw d u hdd hu) hok)⟩
        exact ⟨by rw [hs]; exact hlt, asgd_mono (fun _ => .inl) (I.asgd_lt G r (Nat.le_refl _) hi.1), hi.2⟩

end

/-! ## What the checks say -/
theorem compAt_spec {P : Program} {nt : Nat} {locals : List Nat} {ops : Array Oper} : ∀ {ord : List Nat} {ios : List IOper}, compAt P nt locals ops ord = some ios →
    ios.length = ord.length ∧ ∀ (p i : Nat), ord[p]? = some i → ∃ o io, ops[i]? = some o ∧ ios[p]? = some io ∧ compOper P nt locals ops o = some io := by
  intro ord
  induction ord with
  | nil => intro ios h; simp [compAt] at h; subst h; simp
  | cons i ord ih =>
    intro ios h
    simp only [compAt] at h
    split at h
    · rename_i o os h1 h2
      cases h
      obtain ⟨k1, k2⟩ := ih h2
      refine ⟨by simp [k1], fun p j hp => ?_⟩
      cases p with
      | zero =>
        simp at hp; subst hp
        cases ho : ops[i]? with
        | none => simp [ho] at h1
        | some x => simp [ho] at h1; exact ⟨x, o, rfl, by simp, h1⟩
      | succ p =>
        simp at hp
        obtain ⟨x, y, a, b, c⟩ := k2 p j hp
        exact ⟨x, y, a, by simpa using b, c⟩
    · cases h

theorem trace_spec {C : CallF} : ∀ {ios : List IOper} {s : St} {tr : List St}, trace C ios s = some tr →
    tr.length = ios.length + 1 ∧ tr[0]? = some s ∧ ∀ p io, ios[p]? = some io → ∃ a b, tr[p]? = some a ∧ tr[p + 1]? = some b ∧ stepOp C io a = some b := by
  intro ios
  induction ios with
  | nil => intro s tr h; simp [trace] at h; subst h; simp
  | cons io ios ih =>
    intro s tr h
    simp only [trace] at h
    split at h
    · rename_i s' hs
      cases ht : trace C ios s' with
      | none => simp [ht] at h
      | some t =>
        simp [ht] at h; subst h
        obtain ⟨k1, k2, k3⟩ := ih ht
        refine ⟨by simp [k1], by simp, fun p y hp => ?_⟩
        cases p with
        | zero => simp at hp; subst hp; exact ⟨s, s', by simp, by simpa using k2, hs⟩
        | succ p =>
          simp at hp
          obtain ⟨a, b, h1, h2, h3⟩ := k3 p y hp
          exact ⟨a, b, by simpa using h1, by simpa using h2, h3⟩
    · cases h

theorem mem_of_step {C : CallF} {io : IOper} {s s' : St} (h : stepOp C io s = some s') (h1 : io.op.cls ≠ .alloc) (h2 : io.op.cls ≠ .effect) : s'.loc = s.loc ∧ s'.H = s.H := by
  obtain ⟨v, _, h⟩ := stepOp_cases h
  rcases h with ⟨_, _, a, b⟩ | ⟨hw, h⟩
  · exact ⟨a, b⟩
  · rcases h with ⟨f, args, _, _, hop, _⟩ | ⟨_, he⟩
    · rw [hop] at h2; exact absurd rfl h2
    · obtain ⟨_, s1, s2, _⟩ := evOp_shape he
      have : ({ env := s.env, loc := s'.loc, H := s'.H } : St) = s := by
        cases hc : io.op.cls with
        | pure => exact s1 hc
        | read => exact s2 hc
        | alloc => exact absurd hc h1
        | effect => exact absurd hc h2
      have h3 := congrArg St.loc this
      have h4 := congrArg St.H this
      exact ⟨h3, h4⟩

theorem readsOk_spec : ∀ {ios : List IOper} {tr : List St}, readsOk ios tr = true → ∀ p io s s', ios[p]? = some io → tr[p]? = some s → tr[p + 1]? = some s' → isRead io.op = true →
    ∀ d v, io.dst = some d → look d s'.env = some v → v.okB s.H.n = true := by
  intro ios
  induction ios with
  | nil => intro tr _ p io s s' h; simp at h
  | cons x ios ih =>
    intro tr h p io s s' hp hs hs' hr d v hd hv
    cases tr with
    | nil => simp at hs
    | cons t tr =>
      cases tr with
      | nil => simp at hs'
      | cons t' tr =>
        simp only [readsOk, Bool.and_eq_true] at h
        cases p with
        | zero =>
          simp at hp hs hs'; subst hp; subst hs; subst hs'
          have := h.1
          rw [hr, hd] at this
          simpa [hv] using this
        | succ p =>
          exact ih h.2 p io s s' (by simpa using hp) (by simpa using hs) (by simpa using hs') hr d v hd hv

theorem isRead_of_cls {io : IOp} (h : io.cls = .read) : isRead io = true := by
  cases io <;> try (simp [IOp.cls] at h; done)
  case load => rfl
  case lookup => rfl
  case entryM => rfl
  case ptrEq => rfl
  case len k x => cases k <;> simp [IOp.cls] at h; rfl
  case conv c x => cases c <;> simp [IOp.cls] at h <;> rfl

theorem freshD_spec {ios : List IOper} {s : St} (h : freshD ios s = true) {io : IOper} (hi : io ∈ ios) {t : Nat} (hd : io.dst = some t) (hl : isLoc io.op = true) : look t s.loc = none ∧ ∀ k off, look k s.env ≠ some (.lptr t off) := by
  have := List.all_eq_true.1 h io hi
  have key : ((look t s.loc).isNone && s.env.all fun (_, v) => match v with | .lptr u _ => !(u == t) | _ => true) = true := by
    obtain ⟨dst, op, g⟩ := io
    simp only at hd hl this
    subst hd
    cases op <;> try (simp [isLoc] at hl; done)
    case alloc l sz z => cases l; · simp [isLoc] at hl
                         · exact this
    case box l sz z => cases l; · simp [isLoc] at hl
                       · exact this
  simp only [Bool.and_eq_true, Option.isNone_iff_eq_none] at key
  refine ⟨key.1, fun k off hk => ?_⟩
  have hm : ∀ (env : List (Nat × AV)), look k env = some (.lptr t off) → ∃ k', (k', AV.lptr t off) ∈ env := by
    intro env
    induction env with
    | nil => intro h; simp [look] at h
    | cons e env ih =>
      obtain ⟨k', v'⟩ := e
      intro h
      simp only [look] at h
      split at h
      · cases h; exact ⟨k', by simp⟩
      · obtain ⟨k2, h2⟩ := ih h; exact ⟨k2, by simp [h2]⟩
  obtain ⟨k', hk'⟩ := hm _ hk
  have := List.all_eq_true.1 key.2 _ hk'
  simp at this

theorem reg_of {P : Program} {C : CallF} {nt : Nat} {locals : List Nat} {ops : Array Oper} {ord : List Nat} {ios : List IOper} {s : St} {tr : List St} (h1 : compAt P nt locals ops ord = some ios) (h2 : drawOk ops ord ios = true) (hpl : ios.all (fun o => plainOp o.op) = true) (h3 : trace C ios s = some tr)
    (h4 : drawCond ios (checksOf (preds ops) ord (ios.map (·.op.cls))) s tr = true) :
    ord.length = ops.size ∧ Reg P C nt locals ops ops.size (fun p => ops.getD (ord.getD p 0) default) (fun p => ios.getD p ⟨none, .bad, none⟩) (fun p => ord.getD p 0) (fun p => tr.getD p s) ∧ (∀ i, i < ops.size → i ∉ (preds ops).getD i []) := by
  obtain ⟨l1, l2⟩ := compAt_spec h1
  obtain ⟨t1, t2, t3⟩ := trace_spec h3
  simp only [drawOk, Bool.and_eq_true] at h2
  obtain ⟨⟨⟨⟨⟨⟨⟨⟨c1, c2⟩, c3⟩, c4⟩, c5⟩, c6⟩, c7⟩, c8⟩, c9⟩ := h2
  have hn : ord.length = ops.size := by simpa using c1
  simp only [drawCond, Bool.and_eq_true] at h4
  obtain ⟨d1, d2, d3⟩ := h4
  have rng : ∀ {n : Nat} {f : Nat → Bool}, (List.range n).all f = true → ∀ q, q < n → f q = true := fun h q hq => List.all_eq_true.1 h q (List.mem_range.2 hq)
  have hord : ∀ q, q < ops.size → ord[q]? = some (ord.getD q 0) := by
    intro q hq
    rw [List.getD_eq_getElem?_getD, List.getElem?_eq_getElem (by omega)]; rfl
  have hcl : ∀ q, q < ops.size → (ios.map (·.op.cls)).getD q .pure = (ios.getD q ⟨none, .bad, none⟩).op.cls := by
    intro q hq
    rw [List.getD_eq_getElem?_getD, List.getD_eq_getElem?_getD, List.getElem?_map, List.getElem?_eq_getElem (by omega)]; rfl
  have hio : ∀ q, q < ops.size → ios[q]? = some (ios.getD q ⟨none, .bad, none⟩) := by
    intro q hq
    rw [List.getD_eq_getElem?_getD, List.getElem?_eq_getElem (by omega)]; rfl
  have htr : ∀ q, q ≤ ops.size → tr[q]? = some (tr.getD q s) := by
    intro q hq
    rw [List.getD_eq_getElem?_getD, List.getElem?_eq_getElem (by omega)]; rfl
  have hst : ∀ q, q < ops.size → stepOp C (ios.getD q ⟨none, .bad, none⟩) (tr.getD q s) = some (tr.getD (q + 1) s) := by
    intro q hq
    obtain ⟨a, b, e1, e2, e3⟩ := t3 q _ (hio q hq)
    rw [htr q (by omega)] at e1; rw [htr (q + 1) (by omega)] at e2
    cases e1; cases e2; exact e3
  have hlt : ∀ q, q < ops.size → ord.getD q 0 < ops.size := by
    intro q hq
    have := List.all_eq_true.1 c3 _ (List.mem_of_getElem? (hord q hq))
    simpa using this
  have hopq : ∀ q, q < ops.size → ops[ord.getD q 0]? = some (ops.getD (ord.getD q 0) default) := by
    intro q hq
    rw [Array.getD_eq_getD_getElem?, Array.getElem?_eq_getElem (hlt q hq)]; rfl
  have hcq : ∀ q, q < ops.size → compOper P nt locals ops (ops.getD (ord.getD q 0) default) = some (ios.getD q ⟨none, .bad, none⟩) := by
    intro q hq
    obtain ⟨x, y, a, b, c⟩ := l2 q _ (hord q hq)
    rw [hopq q hq] at a; rw [hio q hq] at b
    cases a; cases b; exact c
  refine ⟨hn, ⟨fun q hq => List.all_eq_true.1 hpl _ (List.mem_of_getElem? (hio q hq)), hopq, hcq, hst, ?_, ?_, ?_, ?_, ?_, ?_, ?_, ?_, ?_⟩, fun i hi => ?_⟩
  · intro i hi
    have := rng c2 i hi
    simp only [List.contains_eq_mem, decide_eq_true_eq] at this
    obtain ⟨q, hq, he⟩ := List.getElem_of_mem this
    exact ⟨q, by omega, by simp [List.getD_eq_getElem?_getD, hq, he]⟩
  · intro p q hpq hq
    have := rng (rng c4 q hq) p hpq
    simpa using this
  · intro p q hpq hq he ha
    have := rng (rng c5 q hq) p hpq
    rw [hcl q hq, hcl p (by omega), he, ha] at this
    simpa using this
  · intro p q hpq hq he
    have := rng (rng c6 q hq) p hpq
    rw [he] at this
    simpa using this
  · intro p q hpq hq he ha
    have := rng (rng c7 q hq) p hpq
    rw [hcl q hq, hcl p (by omega), he, ha] at this
    simpa using this
  · intro i o' ho e hem hb
    have hi : i < ops.size := by
      by_cases hi : i < ops.size
      · exact hi
      · rw [Array.getElem?_eq_none (by omega)] at ho; cases ho
    have := rng c8 i hi
    have ho2 : ops.getD i default = o' := by rw [Array.getD_eq_getD_getElem?, ho]; rfl
    rw [ho2] at this
    have := List.all_eq_true.1 this e (by simpa using hem)
    rw [hb] at this
    simpa using this
  · intro q hq t hd hl
    have h0 : tr.getD 0 s = s := by rw [List.getD_eq_getElem?_getD, t2]; rfl
    simp only [h0]
    refine freshD_spec d1 (List.mem_of_getElem? (hio q hq)) ?_ hl
    rw [(compOper_spec (hcq q hq)).2.2.2]; exact hd
  · intro q hq hc hw d v hd hv
    exact readsOk_spec d2 q _ _ _ (hio q hq) (htr q (by omega)) (htr (q + 1) (by omega)) (isRead_of_cls hc) d v (by rw [(compOper_spec (hcq q hq)).2.2.2]; exact hd) hv
  · intro q r hq hr hc hrb hne hw
    have hneed : needAt (preds ops) ord (ios.map (·.op.cls)) q r = true := by
      simp only [needAt, Bool.and_eq_true]
      refine ⟨?_, List.all_eq_true.2 fun e he => ?_⟩
      · rcases hrb with rfl | h
        · rfl
        · by_cases h0 : r = 0
          · subst h0; rfl
          · rw [hcl (r - 1) (by omega), h]; simp
      · have he' : e < ops.size := by rw [← hn]; exact List.mem_range.1 he
        rw [hcl e he']
        by_cases hce : (ios.getD e ⟨none, .bad, none⟩).op.cls = .effect
        · have := hne e he' hce
          rw [hce]
          split
          · rename_i h; rw [if_pos h] at this; simpa using this
          · rename_i h; rw [if_neg h] at this; simpa using this
        · rw [Bool.or_eq_true]; left; simpa using hce
    by_cases hqt : (decide (r ≤ q) && quietIn (ios.map (·.op.cls)) r q) = true
    · simp only [Bool.and_eq_true, decide_eq_true_eq] at hqt
      obtain ⟨hrq, hquiet⟩ := hqt
      have hmem : ∀ j, r ≤ j → j ≤ q → (tr.getD j s).loc = (tr.getD r s).loc ∧ (tr.getD j s).H = (tr.getD r s).H := by
        intro j hj
        induction hj with
        | refl => intro _; exact ⟨rfl, rfl⟩
        | @step j hj ih =>
          intro hjq
          obtain ⟨i1, i2⟩ := ih (by omega)
          have hj' : r ≤ j := hj
          have hqj := rng hquiet j (by omega)
          rw [hcl j (by omega)] at hqj
          simp only [allocs, Bool.or_eq_true, decide_eq_true_eq, Bool.not_eq_true', Bool.or_eq_false_iff, beq_eq_false_iff_ne, ne_eq] at hqj
          have hqj := hqj.resolve_left (by omega)
          obtain ⟨m1, m2⟩ := mem_of_step (hst j (by omega)) hqj.1 hqj.2
          exact ⟨m1.trans i1, m2.trans i2⟩
      obtain ⟨m1, m2⟩ := hmem q hrq (Nat.le_refl _)
      obtain ⟨v, hv, hcase⟩ := stepOp_cases (hst q hq)
      rw [(compOper_spec (hcq q hq)).2.2.2] at hv
      rcases hcase with ⟨hw', _⟩ | ⟨_, hcase⟩
      · rw [hw] at hw'; cases hw'
      · rcases hcase with ⟨f, args, _, _, hop, _⟩ | ⟨_, he⟩
        · rw [hop] at hc; cases hc
        · rw [(compOper_spec (hcq q hq)).2.2.2] at he
          refine ⟨v, { env := (tr.getD q s).env, loc := (tr.getD (q + 1) s).loc, H := (tr.getD (q + 1) s).H }, ?_, fun d hd => ?_⟩
          · simp only [← m1, ← m2]; exact he
          · rw [hv, hd]; simp [envPut, look]
    · have hin : (q, r) ∈ checksOf (preds ops) ord (ios.map (·.op.cls)) := by
        simp only [checksOf, List.mem_flatMap, List.mem_range]
        refine ⟨q, by omega, ?_⟩
        rw [hcl q hq, hc]
        simp only [beq_self_eq_true, if_true, List.mem_filterMap, List.mem_range]
        refine ⟨r, by omega, ?_⟩
        rw [hneed]
        simp only [Bool.true_and]
        rw [if_pos (by rw [Bool.not_eq_true']; simpa only [Bool.not_eq_true] using hqt)]
      have := List.all_eq_true.1 d3 _ hin
      simp only [checkAt] at this
      rw [hio q hq, htr q (by omega), htr r hr, htr (q + 1) (by omega)] at this
      simp only [hw] at this
      rw [(compOper_spec (hcq q hq)).2.2.2] at this
      split at this
      · rename_i v1 s1 v2 he hl
        have e := AV.beq_eq _ _ this
        subst e
        refine ⟨v1, s1, he, fun d hd => ?_⟩
        rw [hd] at hl
        exact hl
      · cases this
  · have := rng c9 i hi
    simpa using this

/-- A region that draws its order. -/
theorem regionD_sound {P : Program} {C : CallF} {m : Nat → Loc} {ml : Nat → Nat} {w : World} {a : Act} (hm : P.follows .mixedOrders = true) (hC : CallOk P C) {nt : Nat} {locals : List Nat} {ops : Array Oper} {ios : List IOper} {checks : List (Nat × Nat)}
    (hc : compD P nt locals ops = some (.regionD ios checks)) {s s' : St} (R : Rel P m ml nt s a w) (h : runD C ios checks s = some s') {id : Nat} {Q : Exit → Act → World → Prop}
    (hQ : ∀ m' ml' w' a', Rel P m' ml' nt s' a' w' → Grow m ml s.loc s.H w m' ml' s'.loc s'.H w' → Q .normal a' w') (rd : Option Nat) (fu : Nat) : (Code.region id ops true).wpIn (FF rd) fu P Q a w := by
  unfold compD at hc
  simp only at hc
  split at hc
  · cases hc
  split at hc
  · rename_i ios' h1
    split at hc
    · rename_i h2
      cases hc
      unfold runD at h
      split at h
      · rename_i tr h3
        split at h
        · rename_i h4
          rw [Bool.and_eq_true] at h2
          obtain ⟨h2, hpl⟩ := h2
          obtain ⟨hn, G, hself⟩ := reg_of h1 h2 hpl h3 h4
          obtain ⟨t1, t2, t3⟩ := trace_spec h3
          obtain ⟨l1, _⟩ := compAt_spec h1
          have e0 : tr.getD 0 s = s := by rw [List.getD_eq_getElem?_getD, t2]; rfl
          have en : tr.getD ops.size s = s' := by
            rw [List.getLast?_eq_getElem?] at h
            have : tr.length - 1 = ops.size := by omega
            rw [this] at h
            rw [List.getD_eq_getElem?_getD, h]; rfl
          generalize ho : (fun p => ops.getD ((canonD P locals ops).getD p 0) default) = o at G
          generalize hio : (fun p => ios.getD p ⟨none, .bad, none⟩) = io at G
          generalize hidx : (fun p => (canonD P locals ops).getD p 0) = idx at G
          have es0 : (fun p => tr.getD p s) 0 = s := e0
          have esn : (fun p => tr.getD p s) ops.size = s' := en
          generalize hstt : (fun p => tr.getD p s) = stt at G es0 esn
          clear hstt ho hio hidx e0 en
          have hsz : ∀ (j d : Nat), (ops[j]?).bind (fun (x : Oper) => x.dst) = some d → d < nt := by
            intro j d hj
            cases hoj : ops[j]? with
            | none => simp [hoj] at hj
            | some x =>
              simp [hoj] at hj
              have hjs : j < ops.size := by
                by_cases hx : j < ops.size
                · exact hx
                · rw [Array.getElem?_eq_none (by omega)] at hoj; cases hoj
              obtain ⟨q, hq, rfl⟩ := G.hsurj j hjs
              have := G.hops q hq
              rw [hoj] at this
              cases this
              exact (compOper_spec (G.hcomp q hq)).1 d hj
          refine wpIn_region_any hm ?_
          -- the start
          have I0 : Inv P ops.size nt o io stt m ml w (fun _ => False) m ml 0 a { w with drawn := w.drawn + 1 } := by
            refine ⟨Nat.zero_le _, .inl rfl, fun p _ _ => by simp, fun p hp => by omega, by rw [es0]; exact R.sim.frame fun _ _ => rfl, fun p _ _ h => h.elim, fun p q _ _ _ h => h.elim, ?_, R.size, by rw [es0]; exact R.defers, ?_⟩
            · rintro t v b (⟨p, _, h, _⟩ | ⟨_, hl, rfl⟩)
              · exact h.elim
              · rw [es0] at hl
                obtain ⟨k1, k2⟩ := R.env t v hl
                refine ⟨k1, ?_⟩
                rcases k2 with k2 | ⟨t', off, rfl, _⟩
                · exact .inl (okP_mono (fun i k hi => by rw [es0]; exact ⟨hi.1, .inl (by rw [es0]; exact hi.1), hi.2⟩) _ k2)
                · refine .inr ⟨t', off, rfl, fun p hp hd hl' => ?_⟩
                  have := (G.hfresh p hp t' hd hl').2 t off
                  rw [es0] at this
                  exact this hl
            · rw [es0]
              exact ⟨Nat.le_refl _, fun _ _ => rfl, Nat.le_refl _, rfl, rfl, rfl, fun _ _ _ _ => rfl, fun id h => .inl ⟨id, h, rfl⟩, fun t c h => .inl ⟨c, h, rfl⟩, Nat.le_refl _, fun _ _ _ => rfl, fun _ h => h⟩
          -- the run
          have run : ∀ (fuel : Nat) (listed : Array Bool) (U : List Nat) (m' : Nat → Loc) (ml' : Nat → Nat) (r : Nat) (a' : Act) (w' : World),
              Inv P ops.size nt o io stt m ml w (fun p => p < ops.size ∧ listed.getD (idx p) false = true) m' ml' r a' w' → listed.size = ops.size → (∀ i o', ops[i]? = some o' → listed.getD i false = true → ∀ e ∈ o'.after, Region.binds .any e = true → listed.getD e.on false = true) →
              U.length ≤ fuel → (∀ i, i < ops.size → listed.getD i false = false → i ∈ U) → wpAnyIn (FF rd) fu P .any ops Q fuel listed a' w' := by
            intro fuel
            have final : ∀ (listed : Array Bool) (m' : Nat → Loc) (ml' : Nat → Nat) (r : Nat) (a' : Act) (w' : World),
                Inv P ops.size nt o io stt m ml w (fun p => p < ops.size ∧ listed.getD (idx p) false = true) m' ml' r a' w' → (∀ i, i < ops.size → listed.getD i false = true) → Q .normal a' w' := by
              intro listed m' ml' r a' w' I hall
              have hTall : ∀ p, p < ops.size → (p < ops.size ∧ listed.getD (idx p) false = true) := by
                intro p hp
                refine ⟨hp, hall _ ?_⟩
                have := G.hops p hp
                by_cases hlt : idx p < ops.size
                · exact hlt
                · rw [Array.getElem?_eq_none (by omega)] at this; cases this
              obtain ⟨S, Gr, _⟩ := I.advance G ops.size I.rn (Nat.le_refl _) (fun p h1 h2 h3 => by
                have := (I.eff p h2 h3).1 (hTall p h2); omega) (fun p h1 h2 _ => hTall p h2)
              rw [esn] at S Gr
              rw [es0] at Gr
              have hdf : s'.H.dfs = s.H.dfs := by have := G.dfs hC ops.size (Nat.le_refl _); rwa [esn, es0] at this
              have hag : ∀ i k, good m s.H.n i k → m' i = m i := fun i k hi => Gr.agree i hi.1
              refine hQ m' ml' w' a' ⟨S, fun t v hv => ?_, I.size, ?_, fun d hd => ?_⟩ Gr
              rotate_left
              · rw [I.defers, es0, hdf]
                exact List.map_congr_left fun d hd => (concD_congr hag (R.dok d hd)).symm
              · rw [hdf] at hd
                exact Dfr.okP_mono (fun i k hi => ⟨Nat.lt_of_lt_of_le hi.1 Gr.n_le, by rw [hag i k hi]; exact hi.2⟩) (R.dok d hd)
              rw [← esn] at hv
              have hcur : ∃ b, CurV ops.size o stt (fun p => p < ops.size ∧ listed.getD (idx p) false = true) t v b ∧ b ≤ (stt ops.size).H.n := by
                rcases G.last ops.size (Nat.le_refl _) hv with ⟨p, k1, k2, k3, k4⟩ | ⟨k1, k2⟩
                · exact ⟨_, .inl ⟨p, k1, hTall p k1, k2, fun p' a b _ => k3 p' a b, k4, rfl⟩, G.mono hC (by omega) (Nat.le_refl _)⟩
                · exact ⟨_, .inr ⟨fun p a _ => k1 p a, k2, rfl⟩, G.mono hC (Nat.zero_le _) (Nat.le_refl _)⟩
              obtain ⟨b, hb1, hb2⟩ := hcur
              obtain ⟨k1, k2⟩ := I.env t v b hb1
              rw [esn] at hb2
              exact ⟨k1, k2.mono (fun i k hi => ⟨by omega, hi.2.2⟩) fun _ _ => trivial⟩
            induction fuel with
            | zero =>
              intro listed U m' ml' r a' w' I hls hcl hU hun
              have hall : ∀ i, i < ops.size → listed.getD i false = true := by
                intro i hi
                cases hx : listed.getD i false
                · have := hun i hi hx
                  have hU' : U = [] := List.eq_nil_of_length_eq_zero (by omega)
                  rw [hU'] at this; cases this
                · rfl
              refine ⟨?_, final listed m' ml' r a' w' I hall⟩
              simp only [Region.ready, List.filter_eq_nil_iff, List.mem_range]
              intro i hi
              have h5 := hall i hi
              have : listed.getD i true = true := by
                rw [Array.getD_eq_getD_getElem?] at h5 ⊢
                rw [Array.getElem?_eq_getElem (by omega)] at h5 ⊢; exact h5
              simp [this]
            | succ fuel ih =>
              intro listed U m' ml' r a' w' I hls hcl hU hun
              have hlist : ∀ i, i < ops.size → listed.getD i true = listed.getD i false := by
                intro i hi
                rw [Array.getD_eq_getD_getElem?, Array.getD_eq_getD_getElem?, Array.getElem?_eq_getElem (by omega)]; rfl
              refine ⟨fun hnil => final listed m' ml' r a' w' I ?_, fun i hi => ?_⟩
              · -- all are listed
                intro i
                induction i using Nat.strongRecOn with
                | ind i ihi =>
                  intro hi
                  cases hx : listed.getD i false
                  · exfalso
                    have hmem : i ∈ Region.ready .any ops listed := by
                      simp only [Region.ready, List.mem_filter, List.mem_range, Bool.and_eq_true, Bool.not_eq_true']
                      refine ⟨hi, by rw [hlist i hi]; exact hx, ?_⟩
                      have hoi : ops[i]? = some ops[i] := Array.getElem?_eq_getElem hi
                      rw [hoi]
                      simp only [Option.map_some, Option.getD_some]
                      rw [← Array.all_toList]
                      refine List.all_eq_true.2 fun e he => ?_
                      cases hb : Region.binds .any e
                      · rfl
                      · have hdn := G.hdown i _ hoi e (by simpa using he) hb
                        simp only [Bool.not_true, Bool.false_or]
                        exact ihi e.on hdn (by omega)
                    rw [hnil] at hmem; cases hmem
                  · rfl
              · simp only [Region.ready, List.mem_filter, List.mem_range, Bool.and_eq_true, Bool.not_eq_true'] at hi
                obtain ⟨hi, hnl, haft⟩ := hi
                rw [hlist i hi] at hnl
                have hoi : ops[i]? = some ops[i] := Array.getElem?_eq_getElem hi
                rw [hoi] at haft
                simp only [Option.map_some, Option.getD_some] at haft
                have haft' : ∀ e ∈ ops[i].after, Region.binds .any e = true → listed.getD e.on false = true := by
                  intro e he hb
                  rw [← Array.all_toList] at haft
                  have := List.all_eq_true.1 haft e (by simpa using he)
                  rw [hb] at this
                  simpa using this
                obtain ⟨q, hq, rfl⟩ := G.hsurj i hi
                have hset : ∀ j, (listed.setIfInBounds (idx q) true).getD j false = if j = idx q then true else listed.getD j false := by
                  intro j
                  rw [Array.getD_eq_getD_getElem?, Array.getD_eq_getD_getElem?, Array.getElem?_setIfInBounds]
                  by_cases h : idx q = j
                  · subst h; simp [hls, hi]
                  · have : ¬ j = idx q := fun x => h x.symm
                    simp [h, this]
                have hTT : (fun p => (p < ops.size ∧ listed.getD (idx p) false = true) ∨ p = q) = fun p => p < ops.size ∧ (listed.setIfInBounds (idx q) true).getD (idx p) false = true := by
                  funext p
                  apply propext
                  rw [hset]
                  constructor
                  · rintro (⟨h5, h6⟩ | rfl)
                    · refine ⟨h5, ?_⟩; split <;> simp [h6]
                    · exact ⟨hq, by simp⟩
                  · rintro ⟨h5, h6⟩
                    split at h6
                    · rename_i he
                      right
                      by_cases e1 : p < q
                      · exact absurd he (G.hinj p q e1 hq)
                      · by_cases e2 : p = q
                        · exact e2
                        · exact absurd he.symm (G.hinj q p (by omega) h5)
                    · exact .inl ⟨h5, h6⟩
                have hpreS : ∀ j, j ∈ (preds ops).getD (idx q) [] → listed.getD j false = true := by
                  intro j hj
                  have hcs : Closed ops (fun j => listed.getD j false = true ∨ j = idx q) := by
                    intro i o' ho' hS e he hb
                    rcases hS with hS | rfl
                    · exact .inl (hcl i o' ho' hS e he hb)
                    · rw [hoi] at ho'; cases ho'; exact .inl (haft' e he hb)
                  rcases preds_closed hcs (.inr rfl) hj with h | h
                  · exact h
                  · rw [h] at hj; exact absurd hj (hself _ hi)
                refine I.step hC G hsz (fun p p' hp hp' hm hT => ⟨hp, preds_closed (S := fun j => listed.getD j false = true) (fun i o' ho' hS e he hb => hcl i o' ho' hS e he hb) hT.2 hm⟩) hq (fun h => by rw [hnl] at h; exact absurd h.2 (by simp)) (fun p hp hm => ⟨hp, hpreS _ hm⟩) (fun m2 ml2 r2 a2 w2 I2 => ?_) rd fu
                · rw [hTT] at I2
                  refine ih _ (U.erase (idx q)) m2 ml2 r2 a2 w2 I2 (by simpa using hls) ?_ ?_ ?_
                  · intro i o' ho' hS e he hb
                    rw [hset] at hS ⊢
                    split
                    · rfl
                    · split at hS
                      · rename_i hx; subst hx; rw [hoi] at ho'; cases ho'; exact haft' e he hb
                      · exact hcl i o' ho' hS e he hb
                  · rw [List.length_erase_of_mem (hun _ hi hnl)]; omega
                  · intro j hj hjl
                    rw [hset] at hjl
                    split at hjl
                    · cases hjl
                    · rename_i hx; exact (List.mem_erase_of_ne hx).2 (hun j hj hjl)
          have hrep : ∀ i, (Array.replicate ops.size false).getD i false = false := by
            intro i
            rw [Array.getD_eq_getD_getElem?, Array.getElem?_replicate]
            split <;> rfl
          refine run ops.size _ (List.range ops.size) m ml 0 a _ ?_ (by simp) (fun i o' _ hl => by rw [hrep] at hl; cases hl) (by simp) (fun i hi _ => List.mem_range.2 hi)
          have : (fun p => p < ops.size ∧ (Array.replicate ops.size false).getD (idx p) false = true) = fun _ => False := by
            funext p; simp [hrep]
          rw [this]; exact I0
        · cases h
      · cases h
    · cases hc
  · cases hc

end Go.Wam
