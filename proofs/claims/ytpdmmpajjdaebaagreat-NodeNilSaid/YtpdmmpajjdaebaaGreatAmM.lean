/- The abstract machine: what a function's meaning tells is what the model's call comes to. No condition. -/
import Derived.Test.YtpdmmpajjdaebaaGreatAmL
import Derived.RangeFuncLeaves
set_option linter.unusedVariables false
set_option linter.unusedSimpArgs false
namespace Go.Wam
section
variable {P : Program} {C : CallF} {m m' : Nat → Loc} {ml ml' : Nat → Nat} {nt : Nat} {loc : List (Nat × List AV)} {H H' H1 : AHeap} {w w' : World} {s s' : St} {a : Act}

theorem Sim.lowTo (S : Sim P m ml loc H w) (k : Nat) : Sim P m ml loc { H with low := k } w :=
  ⟨S.wf, S.obj, S.ok, S.inj, S.sep, S.locs, S.locok, S.locinj, S.locsep⟩

def resAt (tmps : Array Value) : ResultVar → Sem Value
  | .tmp t => pure (tmps.getD t undef)
  | .cell a t => do loadVar t (← asAddr (tmps.getD a undef))

theorem results_eq (fn : Func) (tmps : Array Value) : results fn tmps = (do
    let vs ← fn.results.mapM (resAt tmps)
    pure (if h : vs.size = 1 then vs[0] else .tuple vs)) := by
  unfold results
  have : (fun (x : ResultVar) => match x with
    | .tmp t => (pure (tmps.getD t undef) : Sem Value)
    | .cell a t => do loadVar t (← asAddr (tmps.getD a undef))) = resAt tmps := by
    funext r; cases r <;> rfl
  rw [← this]
  rfl

theorem rv_run {rv : RV} {r : ResultVar} (hr : compRes P [r] = some [rv]) (R : Rel P m ml nt s a w) {v : AV} (h : rv.ev s = some v) :
    (resAt a.tmps r).run P w = .ok (conc m ml v) w ∧ vOk (good m s.H.n) LT v := by
  cases r with
  | tmp t =>
    simp [compRes] at hr; subst hr
    simp only [RV.ev] at h
    obtain ⟨e1, e2⟩ := R.env t v h
    exact ⟨by simp only [resAt, e1, Sem.run_pure], e2⟩
  | cell p t =>
    simp only [compRes] at hr
    split at hr
    · rename_i g sz r' h1 h2 h3
      cases h3
      simp at hr; subst hr
      simp only [RV.ev] at h
      split at h
      · rename_i q hq
        obtain ⟨e1, e2⟩ := R.env p q hq
        obtain ⟨r1, r2⟩ := loadA_run (P := P) h1 h2 R.sim h
        refine ⟨?_, .of r2⟩
        simp only [resAt, e1]
        unfold loadA at h
        cases q <;> simp only at h <;> try (cases h; done)
        all_goals
          simp only [Instr.loadAt, conc, Instr.sureAddr, pure_bind] at r1
          simp only [conc, asAddr, pure_bind]
          exact r1
      · cases h
    · cases hr

theorem rvs_run : ∀ (rs : List ResultVar) (rvl : List RV) (vs : List AV), compRes P rs = some rvl → Rel P m ml nt s a w → rvs s rvl = some vs →
    (rs.mapM (resAt a.tmps) : Sem (List Value)).run P w = .ok (concL m ml vs) w ∧ ∀ v ∈ vs, vOk (good m s.H.n) LT v := by
  intro rs
  induction rs with
  | nil => intro rvl vs hc R h; simp [compRes] at hc; subst hc; simp [rvs] at h; subst h; simp [concL]
  | cons r rs ih =>
    intro rvl vs hc R h
    have key : ∃ rv rl, compRes P [r] = some [rv] ∧ compRes P rs = some rl ∧ rvl = rv :: rl := by
      cases r with
      | tmp t =>
        simp only [compRes] at hc
        cases hr : compRes P rs with
        | none => simp [hr] at hc
        | some rl => simp [hr] at hc; exact ⟨_, rl, by simp [compRes], rfl, hc.symm⟩
      | cell p t =>
        simp only [compRes] at hc
        split at hc
        · rename_i g sz rl h1 h2 h3; cases hc; exact ⟨_, rl, by simp [compRes, h1, h2], h3, rfl⟩
        · cases hc
    obtain ⟨rv, rl, h1, h2, rfl⟩ := key
    simp only [rvs] at h
    split at h
    · rename_i v us hv hus
      cases h
      obtain ⟨e1, e2⟩ := rv_run h1 R hv
      obtain ⟨f1, f2⟩ := ih rl us h2 R hus
      refine ⟨?_, fun x hx => ?_⟩
      · simp only [List.mapM_cons, Sem.run_bind, e1, f1, Result.andThen_ok, Sem.run_pure, concL]
      · rcases List.mem_cons.1 hx with rfl | hx
        · exact e2
        · exact f2 x hx
    · cases h

theorem packA_conc (vs : List AV) : (if h : (concL m ml vs).toArray.size = 1 then (concL m ml vs).toArray[0] else Value.tuple (concL m ml vs).toArray) = conc m ml (packA vs) := by
  match vs with
  | [] => simp [concL, packA, conc]
  | [v] => simp [concL, packA]
  | v :: u :: r => simp [concL, packA, conc]

theorem packA_ok {p : Nat → Nat → Prop} {vs : List AV} (h : AV.okPL p vs) : (packA vs).okP p := by
  match vs with
  | [] => simp [packA, AV.okP, AV.okPL]
  | [v] => simpa [packA, AV.okPL] using h
  | v :: u :: r => simpa [packA, AV.okP] using h

theorem look_zipI {args : List AV} : ∀ {i t : Nat} {v : AV}, look t (zipI i args) = some v → i ≤ t ∧ args[t - i]? = some v := by
  induction args with
  | nil => intro i t v h; simp [zipI, look] at h
  | cons x args ih =>
    intro i t v h
    simp only [zipI, look] at h
    split at h
    · rename_i e; subst e; cases h; simp
    · rename_i hne
      obtain ⟨h1, h2⟩ := ih h
      refine ⟨by omega, ?_⟩
      have e : t - i = (t - (i + 1)) + 1 := by omega
      rw [e, List.getElem?_cons_succ]; exact h2

/-- What was made and cannot be reached is forgotten. -/
theorem fin_sound (S0 : Sim P m ml0 [] H w) (S : Sim P m' ml' loc H1 w') (G : Grow m ml0 [] { H with low := H.n, dfs := [] } w m' ml' loc H1 w') {v : AV} (hv : v.okP (good m' H1.n)) :
    Sim P m' ml0 [] (fin H v H1) w' ∧ Grow m ml0 [] H w m' ml0 [] (fin H v H1) w' ∧ v.okP (good m' (fin H v H1).n) := by
  have S1 := S.drop ml0
  have G1 : ∀ b, b < w.heap.size → (∀ id, Owned H id → (m id).block ≠ b) → w'.heap[b]? = w.heap[b]? := fun b hb h1 => G.keep b hb h1 (fun t c h => by simp [look] at h)
  unfold fin
  split
  · rename_i hc
    have hget : ∀ i, i < H.n → H1.get i = H.get i := fun i hi => G.pres i (by omega) hi
    have hsome : ∀ i o, H.get i = some o → H1.get i = some o := fun i o h => by rw [hget i (AHeap.get_lt h S0.wf)]; exact h
    refine ⟨?_, ?_, okB_okP (fun i k hi hlt => ⟨hlt, hi.2⟩) v hc.2 hv⟩
    · refine ⟨S0.wf, fun id o h => S1.obj id o (hsome id o h), fun id o h => ?_, ?_, ?_, fun t c h => by simp [look] at h, fun t c h => by simp [look] at h, fun t u c d h => by simp [look] at h, fun t c i h => by simp [look] at h⟩
      · have := S0.ok id o h
        exact AObj.okP_mono (fun i k hi => ⟨hi.1, by rw [G.agree i hi.1]; exact hi.2⟩) this
      · rintro i j ⟨o, h1, h2⟩ ⟨o', h1', h2'⟩ he
        exact S1.inj i j ⟨o, hsome i o h1, h2⟩ ⟨o', hsome j o' h1', h2'⟩ he
      · rintro i j ⟨o, h1, h2⟩ ⟨o', h1', h2'⟩
        exact S1.sep i j ⟨o, hsome i o h1, h2⟩ ⟨o', hsome j o' h1', h2'⟩
    · exact ⟨Nat.le_refl _, fun i hi => G.agree i hi, G.size, G.os, G.tape, G.output, fun b hb h1 _ => G1 b hb h1, fun i hi => .inl ⟨i, hi, by rw [G.agree i (hi.lt S0.wf)]⟩, fun t c h => by simp [look] at h, Nat.le_refl _, fun _ _ _ => rfl, fun _ h => h⟩
  · refine ⟨(S1.lowTo (if H1.low < H.low then H1.low else H.low)).dfs H.dfs, ?_, hv⟩
    refine ⟨G.n_le, G.agree, G.size, G.os, G.tape, G.output, fun b hb h1 _ => G1 b hb h1, G.own, fun t c h => by simp [look] at h, by simp only; split <;> omega, fun i h1 h2 => ?_, G.ro⟩
    refine G.pres i ?_ h2
    simp only at h1
    split at h1 <;> omega

theorem stepOp_n (hC : CallOk P C) {io : IOper} {s s' : St} (h : stepOp C io s = some s') : s.H.n ≤ s'.H.n := by
  obtain ⟨v, _, h⟩ := stepOp_cases h
  rcases h with ⟨_, _, _, b⟩ | ⟨hw, h⟩
  · rw [b]; exact Nat.le_refl _
  · rcases h with ⟨f, args, _, _, hop, _, _, hc, _⟩ | ⟨_, he⟩
    · exact callR_le hC hc
    · exact (evOp_shape he).2.2.2

theorem stepOps_n (hC : CallOk P C) : ∀ (ops : List IOper) (s s' : St), stepOps C ops s = some s' → s.H.n ≤ s'.H.n := by
  intro ops
  induction ops with
  | nil => intro s s' h; simp [stepOps] at h; subst h; exact Nat.le_refl _
  | cons o ops ih =>
    intro s s' h
    simp only [stepOps] at h
    cases hs : stepOp C o s with
    | none => simp [hs] at h
    | some s1 => simp [hs] at h; exact Nat.le_trans (stepOp_n hC hs) (ih _ _ h)

theorem trace_n (hC : CallOk P C) : ∀ (ops : List IOper) (s s' : St) (tr : List St), trace C ops s = some tr → tr.getLast? = some s' → s.H.n ≤ s'.H.n := by
  intro ops
  induction ops with
  | nil => intro s s' tr h hl; simp [trace] at h; subst h; simp at hl; subst hl; exact Nat.le_refl _
  | cons o ops ih =>
    intro s s' tr h hl
    simp only [trace] at h
    split at h
    · rename_i s1 hs
      cases ht : trace C ops s1 with
      | none => simp [ht] at h
      | some t =>
        simp [ht] at h; subst h
        have hne : t ≠ [] := by
          intro e
          have := (trace_spec ht).1
          rw [e] at this; simp at this
        refine Nat.le_trans (stepOp_n hC hs) (ih s1 s' t ht ?_)
        rw [List.getLast?_cons] at hl
        cases htl : t.getLast? with
        | none => simp [List.getLast?_eq_none_iff] at htl; exact absurd htl hne
        | some x => rw [htl] at hl; simpa using hl
    · cases h

theorem iter_n {f : St → Option (AExit × St)} (hf : ∀ s x s', f s = some (x, s') → s.H.n ≤ s'.H.n) : ∀ n s x s', iter f n s = some (x, s') → s.H.n ≤ s'.H.n := by
  intro n
  induction n with
  | zero => intro s x s' h; cases h
  | succ n ih =>
    intro s x s' h
    simp only [iter] at h
    split at h
    · rename_i s1 h1; exact Nat.le_trans (hf _ _ _ h1) (ih _ _ _ h)
    · exact hf _ _ _ h

theorem cleanA_n {ks ls : List Nat} {r : Nat} {x y : AExit} {s s' : St} (h : cleanA ks ls r x s = some (y, s')) : s'.H.n = s.H.n := by
  unfold cleanA at h
  split at h <;> cases h
  rfl

theorem mapLoop_n {d0 d1 b : Nat} {it : Opd} {ks ls : List Nat} {f : St → Option (AExit × St)} (hf : ∀ s x s', f s = some (x, s') → s.H.n ≤ s'.H.n) : ∀ n s x s', mapLoop d0 d1 it b ks ls f n s = some (x, s') → s.H.n ≤ s'.H.n := by
  intro n
  induction n with
  | zero => intro s x s' h; simp [mapLoop] at h
  | succ n ih =>
    intro s x s' h
    simp only [mapLoop] at h
    split at h
    · split at h
      · rw [cleanA_n h]; exact Nat.le_refl _
      · split at h
        · split at h
          · split at h
            · rw [cleanA_n h]; exact Nat.le_refl _
            · split at h
              · rename_i q hq
                split at h
                · cases h
                  split at hq
                  · rename_i hfe; have h0 := hf _ _ _ hfe; simp only [AHeap.set_n] at h0; exact Nat.le_trans h0 (ih _ _ _ hq)
                  · rename_i hfe; have h0 := hf _ _ _ hfe; simp only [AHeap.set_n] at h0; rw [cleanA_n hq]; exact h0
                  · cases hq
                · cases h
              · cases h
          · cases h
        · cases h
      · cases h
    · cases h

theorem evC_n (hC : CallOk P C) (n : Nat) : ∀ (c : IC) (s s' : St) (x : AExit), evC C n c s = some (x, s') → s.H.n ≤ s'.H.n := by
  intro c
  induction c with
  | skip | exit | ret => intro s s' x h; simp [evC] at h; rw [h.2]; exact Nat.le_refl _
  | region ops =>
    intro s s' x h
    simp only [evC] at h
    cases hs : stepOps C ops s with
    | none => simp [hs] at h
    | some s1 => simp [hs] at h; rw [← h.2]; exact stepOps_n hC ops s s1 hs
  | regionD ops checks =>
    intro s s' x h
    simp only [evC] at h
    cases hs : runD C ops checks s with
    | none => simp [hs] at h
    | some s1 =>
      simp [hs] at h; rw [← h.2]
      unfold runD at hs
      split at hs
      · rename_i tr ht
        split at hs
        · exact trace_n hC ops s s1 tr ht hs
        · cases hs
      · cases hs
  | seq a b iha ihb =>
    intro s s' x h
    simp only [evC] at h
    split at h
    · rename_i s1 he; exact Nat.le_trans (iha _ _ _ he) (ihb _ _ _ h)
    · exact iha _ _ _ h
  | cond c a b iha ihb =>
    intro s s' x h
    simp only [evC] at h
    split at h
    · exact iha _ _ _ h
    · exact ihb _ _ _ h
    · cases h
  | block id b ih =>
    intro s s' x h
    simp only [evC] at h
    split at h
    · rename_i j s1 he
      split at h <;> (cases h; exact ih _ _ _ he)
    · exact ih _ _ _ h
  | loop b ih =>
    intro s s' x h
    exact iter_n (fun s x s' h => ih s s' x h) n s x s' h
  | rangeF f ps ia ib iha ihb =>
    intro s s' x h
    simp only [evC] at h
    split at h
    · rename_i gf captured hev
      split at h
      · cases h
      rename_i hg
      cases hcall : C gf (.yield (s.H.n + 1) :: captured) ((s.H.alloc .dfd).alloc (.loop .ready none (envNoL s.env) ps ia ib)) with
      | none => simp [hcall] at h
      | some q =>
        obtain ⟨v, H'⟩ := q
        simp only [hcall, Option.bind_some] at h
        obtain ⟨_, _, hT, _⟩ := hC _ _ _ _ _ hcall
        have hn : s.H.n + 2 ≤ H'.n := by rcases hT (Nat.not_le.1 hg) with ⟨_, hn, _⟩ | ⟨⟨hn, _⟩, _⟩ <;> simpa using hn
        split at h
        · cases h
        · cases h; simp only [AHeap.set_n]; omega
        · cases h
    · cases h
  | mapR d0 d1 it b ks ls body ih =>
    intro s s' x h
    simp only [evC] at h
    exact mapLoop_n (fun s x s' h => ih s s' x h) n s x s' h
  | stuck => intro s s' x h; simp [evC] at h
  | keep ks ls c ih => intro s s' x h; simp only [evC] at h; exact ih { s with env := prune ks s.env, loc := prune ls s.loc } _ _ h

theorem CallOk.n (hC : CallOk P C) {g : FuncId} {args : List AV} {H H' : AHeap} {v : AV} (h : C g args H = some (v, H')) (hg : g < yieldF ∨ g = yieldF ∨ ∃ f, g = deferF + f) : H.n ≤ H'.n := by
  obtain ⟨_, hY, hT, hD⟩ := hC _ _ _ _ _ h
  rcases hg with hg | hg | ⟨f, hg⟩
  · rcases hT hg with ⟨_, hn, _⟩ | ⟨⟨hn, _⟩, _⟩ <;> exact hn
  · exact (hY hg).1
  · exact (hD f hg).2.1

theorem runDfs_n (hC : CallOk P C) : ∀ (ds : List Dfr) (H H' : AHeap), runDfs C ds H = some H' → H.n ≤ H'.n := by
  intro ds
  induction ds with
  | nil => intro H H' h; simp [runDfs] at h; subst h; exact Nat.le_refl _
  | cons d ds ih =>
    intro H H' h
    cases d with
    | mark id =>
      simp only [runDfs] at h
      split at h
      · exact (show H.n ≤ H'.n from ih (H.set id .dead) _ h)
      · cases h
    | call g args captured =>
      simp only [runDfs] at h
      cases hc : C (deferF + g) (args ++ captured) H with
      | none => simp [hc] at h
      | some q => obtain ⟨v, H1⟩ := q; simp [hc] at h; exact Nat.le_trans (hC.n hc (.inr (.inr ⟨g, rfl⟩))) (ih _ _ h)

theorem fin_n {v : AV} (h : H.n ≤ H1.n) : H.n ≤ (fin H v H1).n := by
  unfold fin; split
  · exact Nat.le_refl _
  · exact h
theorem fin_dfs {v : AV} : (fin H v H1).dfs = H.dfs := by
  unfold fin; split <;> rfl

theorem runF_n (hC : CallOk P C) {n : Nat} {F : FnIR} {args : List AV} {v : AV} (h : runF C n F args H = some (v, H')) : H.n ≤ H'.n ∧ H'.dfs = H.dfs := by
  unfold runF at h
  split at h
  · cases he : evC C n F.body (enterA args H) with
    | none => simp [he] at h
    | some r =>
      obtain ⟨x, s'⟩ := r
      simp only [he, Option.bind_some] at h
      have hn : H.n ≤ s'.H.n := evC_n hC n _ _ _ _ he
      unfold leaveA at h
      split at h
      · cases h
      · simp only [] at h
        rename_i y s1 _ heq
        cases heq
        cases hd : runDfs C s'.H.dfs { s'.H with dfs := [] } with
        | none => simp [hd] at h
        | some H2 =>
          simp only [hd, Option.bind_some] at h
          have hn2 := runDfs_n hC _ _ _ hd
          split at h
          · split at h <;> cases h
            exact ⟨fin_n (Nat.le_trans hn hn2), fin_dfs⟩
          · cases h
  · cases h

theorem runFD_n (hC : CallOk P C) {n : Nat} {F : FnIR} {args : List AV} {v : AV} (h : runFD C n F args H = some (v, H')) : H.n ≤ H'.n ∧ H'.dfs = H.dfs := by
  unfold runFD at h
  split at h
  · cases he : evC C n F.body (enterA args H) with
    | none => simp [he] at h
    | some r =>
      obtain ⟨x, s'⟩ := r
      simp only [he, Option.bind_some] at h
      have hn : H.n ≤ s'.H.n := evC_n hC n _ _ _ _ he
      unfold leaveD at h
      split at h
      · cases h
      · rename_i y s1 heq
        cases heq
        split at h
        · split at h
          · split at h <;> cases h
            exact ⟨fin_n hn, fin_dfs⟩
          · cases h
        · cases h
  · cases h

/-- What a frame has deferred is done. -/
theorem runDfs_sound (hC : CallOk P C) {fu : Nat} {fn : Func} {tmps : Array Value} {R : Ending → World → Prop} {ml : Nat → Nat} {loc : List (Nat × List AV)} : ∀ (ds : List Dfr) (H H' : AHeap) (m : Nat → Loc) (w : World), Sim P m ml loc H w → (∀ d ∈ ds, d.okP (good m H.n)) → runDfs C ds H = some H' →
    (∀ m' w', Sim P m' ml loc H' w' → Grow m ml loc H w m' ml loc H' w' → LeavesIn (FF none) fu P fn tmps R [] .returning w') → LeavesInM (FF none) fu P fn tmps R (ds.map (concD m)) .returning w := by
  intro ds
  induction ds with
  | nil =>
    intro H H' m w S hd h hQ
    simp [runDfs] at h; subst h
    exact hQ m w S (.refl ..)
  | cons d ds ih =>
    intro H H' m w S hd h hQ
    have hds : ∀ d ∈ ds, d.okP (good m H.n) := fun d h => hd d (by simp [h])
    refine ⟨by simp, ?_⟩
    cases d with
    | mark id =>
      simp only [runDfs] at h
      split at h
      · rename_i hid
        have b1 := S.obj id _ hid
        refine .inl ⟨(m id).block, _, rfl, run_takeDeferred b1, ?_⟩
        have S1 : Sim P m ml loc (H.set id .dead) (w.putObj (m id).block (.deferred none)) := S.set_obj hid rfl trivial trivial rfl wrote_put.other
        have G1 : Grow m ml loc H w m ml loc (H.set id .dead) (w.putObj (m id).block (.deferred none)) := .of_set S.wf hid rfl rfl wrote_put
        exact ih _ H' m _ S1 hds h fun m' w' S' G' => hQ m' w' S' (G1.trans G')
      · cases h
    | call g args captured =>
      simp only [runDfs] at h
      cases hc : C (deferF + g) (args ++ captured) H with
      | none => simp [hc] at h
      | some q =>
        obtain ⟨v, H1⟩ := q
        simp only [hc, Option.bind_some] at h
        obtain ⟨_, _, _, hD⟩ := hC _ _ _ _ _ hc
        obtain ⟨hF, _, hT⟩ := hD g rfl
        obtain ⟨o1, o2⟩ := hd (.call g args captured) (by simp)
        have hall : ∀ x ∈ args ++ captured, x.okP (good m H.n) := by
          intro x hx
          rcases List.mem_append.1 hx with hx | hx
          · exact (okPL_iff _ _).1 o1 x hx
          · exact (okPL_iff _ _).1 o2 x hx
        refine .inr ⟨FF_enter none fu, .func g, (concL m ml0 captured).toArray, g, (concL m ml0 (args ++ captured)).toArray, rfl, ?_, fun _ _ => trivial, callsDIn_FF ((hT m w (S.drop ml0) hall).mono ?_)⟩
        · simp only [invoke, concD]
          have e3 : (concL m ml0 args).toArray ++ (concL m ml0 captured).toArray = (concL m ml0 (args ++ captured)).toArray := by simp [concL_eq]
          rw [e3]
          exact hF.call _ _
        · rintro e u' w' ⟨rfl, u, rfl, m', _, S', G', _⟩
          simp only [settle]
          obtain ⟨S1, G1⟩ := S.back S' G'
          have hag : ∀ i k, good m H.n i k → m' i = m i := fun i k hi => G1.agree i hi.1
          have e : ds.map (concD m) = ds.map (concD m') := List.map_congr_left fun d hd => (concD_congr hag (hds d hd)).symm
          rw [e]
          exact ih H1 H' m' w' S1 (fun d hd => Dfr.okP_mono (fun i k hi => ⟨Nat.lt_of_lt_of_le hi.1 G1.n_le, by rw [hag i k hi]; exact hi.2⟩) (hds d hd)) h fun m2 w2 S2 G2 => hQ m2 w2 S2 (G1.trans G2)

theorem results_run {fn : Func} {rvl : List RV} {vs : List AV} (h7 : compRes P fn.results.toList = some rvl) (R : Rel P m ml nt s a w) (hvs : rvs s rvl = some vs) :
    (results fn a.tmps).run P w = .ok (conc m ml (packA vs)) w ∧ ∀ v ∈ vs, vOk (good m s.H.n) LT v := by
  obtain ⟨r1, r2⟩ := rvs_run fn.results.toList rvl vs h7 R hvs
  refine ⟨?_, r2⟩
  rw [results_eq, Array.mapM_eq_mapM_toList]
  simp only [Sem.run_bind, Sem.run_map, r1, Result.andThen_ok, Sem.run_pure]
  rw [packA_conc]

/-- A frame that is entered. -/
theorem enter_rel {fn : Func} {F : FnIR} {args : List AV} (h4 : fn.ntmps = F.ntmps) (h5 : F.nargs ≤ F.ntmps) (hlen : args.length = F.nargs) (S : Sim P m ml0 [] H w) (hargs : ∀ v ∈ args, v.okP (good m H.n)) :
    Rel P m ml0 F.ntmps (enterA args H) { tmps := (concL m ml0 args).toArray ++ Array.replicate (fn.ntmps - (concL m ml0 args).toArray.size) undef, defers := [] } w := by
  have hal : (concL m ml0 args).toArray.size = F.nargs := by simp [concL_eq, hlen]
  refine ⟨(S.lowTo H.n).dfs [], fun t v ht => ?_, ?_, rfl, fun d hd => by cases hd⟩
  · obtain ⟨_, hg⟩ := look_zipI (by simpa [enterA] using ht)
    simp only [Nat.sub_zero] at hg
    have hlt := (List.getElem?_eq_some_iff.1 hg).1
    refine ⟨?_, .of (hargs v (List.mem_of_getElem? hg))⟩
    simp only [Array.getD_eq_getD_getElem?]
    rw [Array.getElem?_append_left (by simp [concL_eq]; exact hlt)]
    simp [concL_eq, hg]
  · simp only [Array.size_append, Array.size_replicate, hal, h4]; omega

theorem runF_sound (hm : P.follows .mixedOrders = true) (hC : CallOk P C) {f : FuncId} {F : FnIR} (hF : FnFits P f F) {n : Nat} {args : List AV} {v : AV} (h : runF C n F args H = some (v, H')) : ATrip P f args H v H' := by
  obtain ⟨fn, c, h1, h2, h3, h4, h5, h6, h7⟩ := hF
  refine ⟨⟨fn, c, h1, h2, h3⟩, (runF_n hC h).1, fun m w S hargs => ?_⟩
  simp only [decide_eq_true_eq] at h5
  unfold runF at h
  split at h
  · rename_i hlen
    cases he : evC C n F.body (enterA args H) with
    | none => simp [he] at h
    | some r =>
      obtain ⟨x, s'⟩ := r
      simp only [he, Option.bind_some] at h
      have R := enter_rel (fn := fn) h4 h5 hlen S hargs
      refine calls_FF (r := none) (n := 0) (callsIn_of_wp_marks h1 h2 trivial (code_sound hm hC n none 0 F.body c h6 (.inl rfl) m ml0 w _ s' _ x R he _ fun m' ml' w' a' R' G' => ?_))
      have main : ∀ H2, runDfs C s'.H.dfs { s'.H with dfs := [] } = some H2 → ∀ vs, rvs { s' with H := H2 } F.results = some vs → allNoL vs = true → (packA vs, fin H (packA vs) H2) = (v, H') →
          LeavesInM (FF none) 0 P fn a'.tmps (fun e w' => ∃ u, e = .returned u ∧ Left P m H w v H' u w') a'.defers .returning w' := by
        intro H2 hd vs hvs hl hp
        cases hp
        rw [R'.defers]
        refine runDfs_sound hC s'.H.dfs _ H2 m' w' (R'.sim.dfs []) R'.dok hd fun m2 w2 S2 G2 => ?_
        have hag : ∀ i k, good m' s'.H.n i k → m2 i = m' i := fun i k hi => G2.agree i hi.1
        have hgo : ∀ i k, good m' s'.H.n i k → good m2 H2.n i k := fun i k hi => ⟨Nat.lt_of_lt_of_le hi.1 G2.n_le, by rw [hag i k hi]; exact hi.2⟩
        have R2 : Rel P m2 ml' F.ntmps { s' with H := { H2 with dfs := [] } } { tmps := a'.tmps, defers := [] } w2 := by
          refine ⟨S2.dfs [], fun t u hu => ?_, R'.size, rfl, fun d hd => by cases hd⟩
          obtain ⟨k1, k2⟩ := R'.env t u hu
          exact ⟨by rw [k1]; exact (conc_lptr_ml k2 hag (fun _ _ _ => rfl)).symm, k2.mono hgo fun _ h => h⟩
        have hvs2 : rvs { s' with H := { H2 with dfs := [] } } F.results = some vs := by
          rw [← hvs]
          have : ∀ l : List RV, rvs { s' with H := { H2 with dfs := [] } } l = rvs { s' with H := H2 } l := by
            intro l
            induction l with
            | nil => rfl
            | cons x l ih =>
              simp only [rvs, ih]
              cases x <;> rfl
          exact this _
        obtain ⟨r1, r2⟩ := results_run h7 R2 hvs2
        have hok : AV.okPL (good m2 H2.n) vs := (okPL_iff _ _).2 fun x hx => (r2 x hx).noL (List.all_eq_true.1 hl x hx)
        obtain ⟨k1, k2, k3⟩ := fin_sound (v := packA vs) S S2 (G'.trans (G2.dfs0 (d := []))) (packA_ok hok)
        exact ⟨_, r1, _, rfl, m2, by rw [conc_ml k3 ml' ml0], k1, k2, k3⟩
      unfold leaveA at h
      cases x with
      | exit id => cases h
      | normal =>
        simp only at h
        cases hd : runDfs C s'.H.dfs { s'.H with dfs := [] } with
        | none => simp [hd] at h
        | some H2 =>
          simp only [hd, Option.bind_some] at h
          split at h
          · rename_i vs hvs
            split at h
            · rename_i hl; exact main H2 hd vs hvs hl (by simpa using h)
            · cases h
          · cases h
      | ret =>
        simp only at h
        cases hd : runDfs C s'.H.dfs { s'.H with dfs := [] } with
        | none => simp [hd] at h
        | some H2 =>
          simp only [hd, Option.bind_some] at h
          split at h
          · rename_i vs hvs
            split at h
            · rename_i hl; exact main H2 hd vs hvs hl (by simpa using h)
            · cases h
          · cases h
  · cases h

theorem runFD_sound (hm : P.follows .mixedOrders = true) (hC : CallOk P C) {f : FuncId} {F : FnIR} (hF : FnFits P f F) {n : Nat} {args : List AV} {v : AV} (h : runFD C n F args H = some (v, H')) : DTrip P f args H v H' := by
  obtain ⟨fn, c, h1, h2, h3, h4, h5, h6, h7⟩ := hF
  refine ⟨⟨fn, c, h1, h2, h3⟩, (runFD_n hC h).1, fun m w S hargs => ?_⟩
  simp only [decide_eq_true_eq] at h5
  unfold runFD at h
  split at h
  · rename_i hlen
    cases he : evC C n F.body (enterA args H) with
    | none => simp [he] at h
    | some r =>
      obtain ⟨x, s'⟩ := r
      simp only [he, Option.bind_some] at h
      have R := enter_rel (fn := fn) h4 h5 hlen S hargs
      have key : c.wpIn (FF none) 0 P (bodyPost P fn fun e w' => ∃ u, e = .returned u ∧ Left P m H w v H' u w') { tmps := (concL m ml0 args).toArray ++ Array.replicate (fn.ntmps - (concL m ml0 args).toArray.size) undef, defers := [] } w := by
        refine code_sound hm hC n none 0 F.body c h6 (.inl rfl) m ml0 w _ s' _ x R he _ fun m' ml' w' a' R' G' => ?_
        have main : s'.H.dfs.isEmpty = true → ∀ vs, rvs s' F.results = some vs → allNoL vs = true → (packA vs, fin H (packA vs) s'.H) = (v, H') →
            a'.defers = [] ∧ ∃ u, (results fn a'.tmps).run P w' = .ok u w' ∧ ∃ u', Ending.returned u = .returned u' ∧ Left P m H w v H' u' w' := by
          intro hd vs hvs hl hp
          cases hp
          obtain ⟨r1, r2⟩ := results_run h7 R' hvs
          have hok : AV.okPL (good m' s'.H.n) vs := (okPL_iff _ _).2 fun x hx => (r2 x hx).noL (List.all_eq_true.1 hl x hx)
          obtain ⟨k1, k2, k3⟩ := fin_sound (v := packA vs) S R'.sim G' (packA_ok hok)
          refine ⟨by rw [R'.defers, List.isEmpty_iff.1 hd]; rfl, _, r1, _, rfl, m', by rw [conc_ml k3 ml' ml0], k1, k2, k3⟩
        unfold leaveD at h
        cases x with
        | exit id => cases h
        | normal =>
          simp only at h
          split at h
          · rename_i hd
            split at h
            · rename_i vs hvs
              split at h
              · rename_i hl; exact main hd vs hvs hl (by simpa using h)
              · cases h
            · cases h
          · cases h
        | ret =>
          simp only at h
          split at h
          · rename_i hd
            split at h
            · rename_i vs hvs
              split at h
              · rename_i hl; exact main hd vs hvs hl (by simpa using h)
              · cases h
            · cases h
          · cases h
      exact (callsDIn_of_wp h1 h2 trivial key).mono fun e u' w' hh => hh
  · cases h
end
end Go.Wam
