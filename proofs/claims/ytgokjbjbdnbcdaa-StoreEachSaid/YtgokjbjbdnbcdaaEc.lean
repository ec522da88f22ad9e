/- What S9ER09Each rests on, part 3 of 6. No condition. -/
import Derived.Test.YtgokjbjbdnbcdaaEb
import Derived.RangeFuncLeaves
import Derived.Test.YtgokjbjbdnbcdaaEa
import Derived.ChangeArms
import Derived.ChangeOld
import Derived.DataReads
import Derived.OpenShut
import Derived.WideShapes
import GoSem.ClaimJoined
import Derived.Carry
import Derived.SizedLaws
import Derived.ChangeAt
import Derived.WideShapes4
import Derived.KernelRfl
set_option linter.unusedVariables false
set_option linter.unusedSimpArgs false
namespace Go.Wam
section
variable {P : Program} {C : CallF} {m m' : Nat → Loc} {ml ml' : Nat → Nat} {nt : Nat} {loc : List (Nat × List AV)} {H H' H1 : AHeap} {w w' : World} {s s' : St} {a : Act}
theorem Sim.lowTo (S : Sim P m ml loc H w) (k : Nat) : Sim P m ml loc { H with low := k } w :=
 ⟨S.wf, S.obj, S.ok, S.inj, S.sep, S.locs, S.locok, S.locinj, S.locsep, S.base⟩
def resAt (tmps : Array Value) : ResultVar → Sem Value
 | .tmp t => pure (tmps.getD t undef)
 | .cell a t => do loadVar t (← asAddr (tmps.getD a undef))
theorem results_eq (fn : Func) (tmps : Array Value) : results fn tmps = (do
    let vs ← fn.results.mapM (resAt tmps)
    pure (if h : vs.size = 1 then vs[0] else .tuple vs)) := by
 unfold results
 have : (fun (x : ResultVar) => match x with
  | .tmp t => (pure (tmps.getD t undef) : Sem Value)
  | .cell a t => do loadVar t (← asAddr (tmps.getD a undef))) = resAt tmps := by
  funext r; cases r <;> rfl
 rw [← this]
 rfl
theorem rv_run {rv : RV} {r : ResultVar} (hr : compRes P [r] = some [rv]) (R : Rel P m ml nt s a w) {v : AV} (h : rv.ev s = some v) :
    (resAt a.tmps r).run P w = .ok (conc m ml v) w ∧ vOk (good m s.H.n) LT v := by
 cases r with
 | tmp t =>
  simp [compRes] at hr; subst hr
  simp only [RV.ev] at h
  obtain ⟨e1, e2⟩ := R.env t v h
  exact ⟨by simp only [resAt, e1, Sem.run_pure], e2⟩
 | cell p t =>
  simp only [compRes] at hr
  split at hr
  · rename_i g sz r' h1 h2 h3
    cases h3
    simp at hr; subst hr
    simp only [RV.ev] at h
    split at h
    · rename_i q hq
      obtain ⟨e1, e2⟩ := R.env p q hq
      obtain ⟨r1, r2⟩ := loadA_run (P := P) h1 h2 R.sim h
      refine ⟨?_, .of r2⟩
      simp only [resAt, e1]
      unfold loadA at h
      cases q <;> simp only at h <;> try (cases h; done)
      all_goals
       simp only [Instr.loadAt, conc, Instr.sureAddr, pure_bind] at r1
       simp only [conc, asAddr, pure_bind]
       exact r1
    · cases h
  · cases hr
theorem rvs_run : ∀ (rs : List ResultVar) (rvl : List RV) (vs : List AV), compRes P rs = some rvl → Rel P m ml nt s a w → rvs s rvl = some vs →
    (rs.mapM (resAt a.tmps) : Sem (List Value)).run P w = .ok (concL m ml vs) w ∧ ∀ v ∈ vs, vOk (good m s.H.n) LT v := by
 intro rs
 induction rs with
 | nil => intro rvl vs hc R h; simp [compRes] at hc; subst hc; simp [rvs] at h; subst h; simp [concL]
 | cons r rs ih =>
  intro rvl vs hc R h
  have key : ∃ rv rl, compRes P [r] = some [rv] ∧ compRes P rs = some rl ∧ rvl = rv :: rl := by
   cases r with
   | tmp t =>
    simp only [compRes] at hc
    cases hr : compRes P rs with
    | none => simp [hr] at hc
    | some rl => simp [hr] at hc; exact ⟨_, rl, by simp [compRes], rfl, hc.symm⟩
   | cell p t =>
    simp only [compRes] at hc
    split at hc
    · rename_i g sz rl h1 h2 h3; cases hc; exact ⟨_, rl, by simp [compRes, h1, h2], h3, rfl⟩
    · cases hc
  obtain ⟨rv, rl, h1, h2, rfl⟩ := key
  simp only [rvs] at h
  split at h
  · rename_i v us hv hus
    cases h
    obtain ⟨e1, e2⟩ := rv_run h1 R hv
    obtain ⟨f1, f2⟩ := ih rl us h2 R hus
    refine ⟨?_, fun x hx => ?_⟩
    · simp only [List.mapM_cons, Sem.run_bind, e1, f1, Result.andThen_ok, Sem.run_pure, concL]
    · rcases List.mem_cons.1 hx with rfl | hx
      · exact e2
      · exact f2 x hx
  · cases h
theorem packA_conc (vs : List AV) : (if h : (concL m ml vs).toArray.size = 1 then (concL m ml vs).toArray[0] else Value.tuple (concL m ml vs).toArray) = conc m ml (packA vs) := by
 match vs with
 | [] => simp [concL, packA, conc]
 | [v] => simp [concL, packA]
 | v :: u :: r => simp [concL, packA, conc]
theorem packA_ok {p : Nat → Nat → Prop} {vs : List AV} (h : AV.okPL p vs) : (packA vs).okP p := by
 match vs with
 | [] => simp [packA, AV.okP, AV.okPL]
 | [v] => simpa [packA, AV.okPL] using h
 | v :: u :: r => simpa [packA, AV.okP] using h
theorem look_zipI {args : List AV} : ∀ {i t : Nat} {v : AV}, look t (zipI i args) = some v → i ≤ t ∧ args[t - i]? = some v := by
 induction args with
 | nil => intro i t v h; simp [zipI, look] at h
 | cons x args ih =>
  intro i t v h
  simp only [zipI, look] at h
  split at h
  · rename_i e; subst e; cases h; simp
  · rename_i hne
    obtain ⟨h1, h2⟩ := ih h
    refine ⟨by omega, ?_⟩
    have e : t - i = (t - (i + 1)) + 1 := by omega
    rw [e, List.getElem?_cons_succ]; exact h2
theorem fin_sound (S0 : Sim P m ml0 [] H w) (S : Sim P m' ml' loc H1 w') (G : Grow m ml0 [] { H with low := H.n, dfs := [] } w m' ml' loc H1 w') {v : AV} (hv : v.okP (good m' H1.n)) :
    Sim P m' ml0 [] (fin H v H1) w' ∧ Grow m ml0 [] H w m' ml0 [] (fin H v H1) w' ∧ v.okP (good m' (fin H v H1).n) := by
 have S1 := S.drop ml0
 have G1 : ∀ b, b < w.heap.size → (∀ id, Owned H id → (m id).block ≠ b) → w'.heap[b]? = w.heap[b]? := fun b hb h1 => G.keep b hb h1 (fun t c h => by simp [look] at h)
 unfold fin
 split
 · rename_i hc
   have hget : ∀ i, i < H.n → H1.get i = H.get i := fun i hi => G.pres i (by omega) hi
   have hsome : ∀ i o, H.get i = some o → H1.get i = some o := fun i o h => by rw [hget i (AHeap.get_lt h S0.wf)]; exact h
   refine ⟨?_, ?_, okB_okP (fun i k hi hlt => ⟨hlt, hi.2⟩) v hc.2 hv⟩
   · refine ⟨S0.wf, fun id o h => S1.obj id o (hsome id o h), fun id o h => ?_, ?_, ?_, fun t c h => by simp [look] at h, fun t c h => by simp [look] at h, fun t u c d h => by simp [look] at h, fun t c i h => by simp [look] at h, fun i c h => S1.base i c (hsome i _ h)⟩
     · have := S0.ok id o h
       exact AObj.okP_mono (fun i k hi => ⟨hi.1, by rw [G.agree i hi.1]; exact hi.2⟩) this
     · rintro i j ⟨o, h1, h2⟩ ⟨o', h1', h2'⟩ he
       exact S1.inj i j ⟨o, hsome i o h1, h2⟩ ⟨o', hsome j o' h1', h2'⟩ he
     · rintro i j ⟨o, h1, h2⟩ ⟨o', h1', h2'⟩
       exact S1.sep i j ⟨o, hsome i o h1, h2⟩ ⟨o', hsome j o' h1', h2'⟩
   · exact ⟨Nat.le_refl _, fun i hi => G.agree i hi, G.size, G.os, G.tape, G.output, fun b hb h1 _ => G1 b hb h1, fun i hi => .inl ⟨i, hi, by rw [G.agree i (hi.lt S0.wf)]⟩, fun t c h => by simp [look] at h, Nat.le_refl _, fun _ _ _ => rfl, fun _ h => h⟩
 · refine ⟨(S1.lowTo (if H1.low < H.low then H1.low else H.low)).dfs H.dfs, ?_, hv⟩
   refine ⟨G.n_le, G.agree, G.size, G.os, G.tape, G.output, fun b hb h1 _ => G1 b hb h1, G.own, fun t c h => by simp [look] at h, by simp only; split <;> omega, fun i h1 h2 => ?_, G.ro⟩
   refine G.pres i ?_ h2
   simp only at h1
   split at h1 <;> omega
theorem stepOp_n (hC : CallOk P C) {io : IOper} {s s' : St} (h : stepOp C io s = some s') : s.H.n ≤ s'.H.n := by
 obtain ⟨v, _, h⟩ := stepOp_cases h
 rcases h with ⟨_, _, _, b⟩ | ⟨hw, h⟩
 · rw [b]; exact Nat.le_refl _
 · rcases h with ⟨f, args, _, _, hop, _, _, hc, _⟩ | ⟨_, he⟩
   · exact callR_le hC hc
   · exact (evOp_shape he).2.2.2
theorem stepOps_n (hC : CallOk P C) : ∀ (ops : List IOper) (s s' : St), stepOps C ops s = some s' → s.H.n ≤ s'.H.n := by
 intro ops
 induction ops with
 | nil => intro s s' h; simp [stepOps] at h; subst h; exact Nat.le_refl _
 | cons o ops ih =>
  intro s s' h
  simp only [stepOps] at h
  cases hs : stepOp C o s with
  | none => simp [hs] at h
  | some s1 => simp [hs] at h; exact Nat.le_trans (stepOp_n hC hs) (ih _ _ h)
theorem trace_n (hC : CallOk P C) : ∀ (ops : List IOper) (s s' : St) (tr : List St), trace C ops s = some tr → tr.getLast? = some s' → s.H.n ≤ s'.H.n := by
 intro ops
 induction ops with
 | nil => intro s s' tr h hl; simp [trace] at h; subst h; simp at hl; subst hl; exact Nat.le_refl _
 | cons o ops ih =>
  intro s s' tr h hl
  simp only [trace] at h
  split at h
  · rename_i s1 hs
    cases ht : trace C ops s1 with
    | none => simp [ht] at h
    | some t =>
     simp [ht] at h; subst h
     have hne : t ≠ [] := by
      intro e
      have := (trace_spec ht).1
      rw [e] at this; simp at this
     refine Nat.le_trans (stepOp_n hC hs) (ih s1 s' t ht ?_)
     rw [List.getLast?_cons] at hl
     cases htl : t.getLast? with
     | none => simp [List.getLast?_eq_none_iff] at htl; exact absurd htl hne
     | some x => rw [htl] at hl; simpa using hl
  · cases h
theorem iter_n {f : St → Option (AExit × St)} (hf : ∀ s x s', f s = some (x, s') → s.H.n ≤ s'.H.n) : ∀ n s x s', iter f n s = some (x, s') → s.H.n ≤ s'.H.n := by
 intro n
 induction n with
 | zero => intro s x s' h; cases h
 | succ n ih =>
  intro s x s' h
  simp only [iter] at h
  split at h
  · rename_i s1 h1; exact Nat.le_trans (hf _ _ _ h1) (ih _ _ _ h)
  · exact hf _ _ _ h
theorem cleanA_n {ks ls : List Nat} {r : Nat} {x y : AExit} {s s' : St} (h : cleanA ks ls r x s = some (y, s')) : s'.H.n = s.H.n := by
 unfold cleanA at h
 split at h <;> cases h
 rfl
theorem mapLoop_n {d0 d1 b : Nat} {it : Opd} {ks ls : List Nat} {f : St → Option (AExit × St)} (hf : ∀ s x s', f s = some (x, s') → s.H.n ≤ s'.H.n) : ∀ n s x s', mapLoop d0 d1 it b ks ls f n s = some (x, s') → s.H.n ≤ s'.H.n := by
 intro n
 induction n with
 | zero => intro s x s' h; simp [mapLoop] at h
 | succ n ih =>
  intro s x s' h
  simp only [mapLoop] at h
  split at h
  · split at h
    · rw [cleanA_n h]; exact Nat.le_refl _
    · split at h
      · split at h
        · split at h
          · rw [cleanA_n h]; exact Nat.le_refl _
          · split at h
            · rename_i q hq
              split at h
              · cases h
                split at hq
                · rename_i hfe; have h0 := hf _ _ _ hfe; simp only [AHeap.set_n] at h0; exact Nat.le_trans h0 (ih _ _ _ hq)
                · rename_i hfe; have h0 := hf _ _ _ hfe; simp only [AHeap.set_n] at h0; rw [cleanA_n hq]; exact h0
                · cases hq
              · cases h
            · cases h
        · cases h
      · cases h
    · cases h
  · cases h
theorem evC_n (hC : CallOk P C) (n : Nat) : ∀ (c : IC) (s s' : St) (x : AExit), evC C n c s = some (x, s') → s.H.n ≤ s'.H.n := by
 intro c
 induction c with
 | skip | exit | ret => intro s s' x h; simp [evC] at h; rw [h.2]; exact Nat.le_refl _
 | region ops =>
  intro s s' x h
  simp only [evC] at h
  cases hs : stepOps C ops s with
  | none => simp [hs] at h
  | some s1 => simp [hs] at h; rw [← h.2]; exact stepOps_n hC ops s s1 hs
 | regionD ops checks =>
  intro s s' x h
  simp only [evC] at h
  cases hs : runD C ops checks s with
  | none => simp [hs] at h
  | some s1 =>
   simp [hs] at h; rw [← h.2]
   unfold runD at hs
   split at hs
   · rename_i tr ht
     split at hs
     · exact trace_n hC ops s s1 tr ht hs
     · cases hs
   · cases hs
 | seq a b iha ihb =>
  intro s s' x h
  simp only [evC] at h
  split at h
  · rename_i s1 he; exact Nat.le_trans (iha _ _ _ he) (ihb _ _ _ h)
  · exact iha _ _ _ h
 | cond c a b iha ihb =>
  intro s s' x h
  simp only [evC] at h
  split at h
  · exact iha _ _ _ h
  · exact ihb _ _ _ h
  · cases h
 | block id b ih =>
  intro s s' x h
  simp only [evC] at h
  split at h
  · rename_i j s1 he
    split at h <;> (cases h; exact ih _ _ _ he)
  · exact ih _ _ _ h
 | loop b ih =>
  intro s s' x h
  exact iter_n (fun s x s' h => ih s s' x h) n s x s' h
 | rangeF f ps ia ib iha ihb =>
  intro s s' x h
  simp only [evC] at h
  split at h
  · rename_i gf captured hev
    split at h
    · cases h
    rename_i hg
    cases hcall : C gf (.yield (s.H.n + 1) :: captured) ((s.H.alloc .dfd).alloc (.loop .ready none (envNoL s.env) ps ia ib)) with
    | none => simp [hcall] at h
    | some q =>
     obtain ⟨v, H'⟩ := q
     simp only [hcall, Option.bind_some] at h
     obtain ⟨_, _, hT, _⟩ := hC _ _ _ _ _ hcall
     have hn : s.H.n + 2 ≤ H'.n := by rcases hT (Nat.not_le.1 hg) with ⟨_, hn, _⟩ | ⟨⟨hn, _⟩, _⟩ <;> simpa using hn
     split at h
     · cases h
     · cases h; simp only [AHeap.set_n]; omega
     · cases h
  · cases h
 | mapR d0 d1 it b ks ls body ih =>
  intro s s' x h
  simp only [evC] at h
  exact mapLoop_n (fun s x s' h => ih s s' x h) n s x s' h
 | stuck => intro s s' x h; simp [evC] at h
 | keep ks ls c ih => intro s s' x h; simp only [evC] at h; exact ih { s with env := prune ks s.env, loc := prune ls s.loc } _ _ h
theorem CallOk.n (hC : CallOk P C) {g : FuncId} {args : List AV} {H H' : AHeap} {v : AV} (h : C g args H = some (v, H')) (hg : g < yieldF ∨ g = yieldF ∨ ∃ f, g = deferF + f) : H.n ≤ H'.n := by
 obtain ⟨_, hY, hT, hD⟩ := hC _ _ _ _ _ h
 rcases hg with hg | hg | ⟨f, hg⟩
 · rcases hT hg with ⟨_, hn, _⟩ | ⟨⟨hn, _⟩, _⟩ <;> exact hn
 · exact (hY hg).1
 · exact (hD f hg).2.1
theorem runDfs_n (hC : CallOk P C) : ∀ (ds : List Dfr) (H H' : AHeap), runDfs C ds H = some H' → H.n ≤ H'.n := by
 intro ds
 induction ds with
 | nil => intro H H' h; simp [runDfs] at h; subst h; exact Nat.le_refl _
 | cons d ds ih =>
  intro H H' h
  cases d with
  | mark id =>
   simp only [runDfs] at h
   split at h
   · exact (show H.n ≤ H'.n from ih (H.set id .dead) _ h)
   · cases h
  | call g args captured =>
   simp only [runDfs] at h
   cases hc : C (deferF + g) (args ++ captured) H with
   | none => simp [hc] at h
   | some q => obtain ⟨v, H1⟩ := q; simp [hc] at h; exact Nat.le_trans (hC.n hc (.inr (.inr ⟨g, rfl⟩))) (ih _ _ h)
theorem fin_n {v : AV} (h : H.n ≤ H1.n) : H.n ≤ (fin H v H1).n := by
 unfold fin; split
 · exact Nat.le_refl _
 · exact h
theorem fin_dfs {v : AV} : (fin H v H1).dfs = H.dfs := by
 unfold fin; split <;> rfl
theorem runF_n (hC : CallOk P C) {n : Nat} {F : FnIR} {args : List AV} {v : AV} (h : runF C n F args H = some (v, H')) : H.n ≤ H'.n ∧ H'.dfs = H.dfs := by
 unfold runF at h
 split at h
 · cases he : evC C n F.body (enterA args H) with
   | none => simp [he] at h
   | some r =>
    obtain ⟨x, s'⟩ := r
    simp only [he, Option.bind_some] at h
    have hn : H.n ≤ s'.H.n := evC_n hC n _ _ _ _ he
    unfold leaveA at h
    split at h
    · cases h
    · simp only [] at h
      rename_i y s1 _ heq
      cases heq
      cases hd : runDfs C s'.H.dfs { s'.H with dfs := [] } with
      | none => simp [hd] at h
      | some H2 =>
       simp only [hd, Option.bind_some] at h
       have hn2 := runDfs_n hC _ _ _ hd
       split at h
       · split at h <;> cases h
         exact ⟨fin_n (Nat.le_trans hn hn2), fin_dfs⟩
       · cases h
 · cases h
theorem runFD_n (hC : CallOk P C) {n : Nat} {F : FnIR} {args : List AV} {v : AV} (h : runFD C n F args H = some (v, H')) : H.n ≤ H'.n ∧ H'.dfs = H.dfs := by
 unfold runFD at h
 split at h
 · cases he : evC C n F.body (enterA args H) with
   | none => simp [he] at h
   | some r =>
    obtain ⟨x, s'⟩ := r
    simp only [he, Option.bind_some] at h
    have hn : H.n ≤ s'.H.n := evC_n hC n _ _ _ _ he
    unfold leaveD at h
    split at h
    · cases h
    · rename_i y s1 heq
      cases heq
      split at h
      · split at h
        · split at h <;> cases h
          exact ⟨fin_n hn, fin_dfs⟩
        · cases h
      · cases h
 · cases h
theorem runDfs_sound (hC : CallOk P C) {fu : Nat} {fn : Func} {tmps : Array Value} {R : Ending → World → Prop} {ml : Nat → Nat} {loc : List (Nat × List AV)} : ∀ (ds : List Dfr) (H H' : AHeap) (m : Nat → Loc) (w : World), Sim P m ml loc H w → (∀ d ∈ ds, d.okP (good m H.n)) → runDfs C ds H = some H' →
    (∀ m' w', Sim P m' ml loc H' w' → Grow m ml loc H w m' ml loc H' w' → LeavesIn (FF none) fu P fn tmps R [] .returning w') → LeavesInM (FF none) fu P fn tmps R (ds.map (concD m)) .returning w := by
 intro ds
 induction ds with
 | nil =>
  intro H H' m w S hd h hQ
  simp [runDfs] at h; subst h
  exact hQ m w S (.refl ..)
 | cons d ds ih =>
  intro H H' m w S hd h hQ
  have hds : ∀ d ∈ ds, d.okP (good m H.n) := fun d h => hd d (by simp [h])
  refine ⟨by simp, ?_⟩
  cases d with
  | mark id =>
   simp only [runDfs] at h
   split at h
   · rename_i hid
     have b1 := S.obj id _ hid
     refine .inl ⟨(m id).block, _, rfl, run_takeDeferred b1, ?_⟩
     have S1 : Sim P m ml loc (H.set id .dead) (w.putObj (m id).block (.deferred none)) := S.set_obj hid rfl trivial trivial rfl wrote_put.other
     have G1 : Grow m ml loc H w m ml loc (H.set id .dead) (w.putObj (m id).block (.deferred none)) := .of_set S.wf hid rfl rfl wrote_put
     exact ih _ H' m _ S1 hds h fun m' w' S' G' => hQ m' w' S' (G1.trans G')
   · cases h
  | call g args captured =>
   simp only [runDfs] at h
   cases hc : C (deferF + g) (args ++ captured) H with
   | none => simp [hc] at h
   | some q =>
    obtain ⟨v, H1⟩ := q
    simp only [hc, Option.bind_some] at h
    obtain ⟨_, _, _, hD⟩ := hC _ _ _ _ _ hc
    obtain ⟨hF, _, hT⟩ := hD g rfl
    obtain ⟨o1, o2⟩ := hd (.call g args captured) (by simp)
    have hall : ∀ x ∈ args ++ captured, x.okP (good m H.n) := by
     intro x hx
     rcases List.mem_append.1 hx with hx | hx
     · exact (okPL_iff _ _).1 o1 x hx
     · exact (okPL_iff _ _).1 o2 x hx
    refine .inr ⟨FF_enter none fu, .func g, (concL m ml0 captured).toArray, g, (concL m ml0 (args ++ captured)).toArray, rfl, ?_, fun _ _ => trivial, callsDIn_FF ((hT m w (S.drop ml0) hall).mono ?_)⟩
    · simp only [invoke, concD]
      have e3 : (concL m ml0 args).toArray ++ (concL m ml0 captured).toArray = (concL m ml0 (args ++ captured)).toArray := by simp [concL_eq]
      rw [e3]
      exact hF.call _ _
    · rintro e u' w' ⟨rfl, u, rfl, m', _, S', G', _⟩
      simp only [settle]
      obtain ⟨S1, G1⟩ := S.back S' G'
      have hag : ∀ i k, good m H.n i k → m' i = m i := fun i k hi => G1.agree i hi.1
      have e : ds.map (concD m) = ds.map (concD m') := List.map_congr_left fun d hd => (concD_congr hag (hds d hd)).symm
      rw [e]
      exact ih H1 H' m' w' S1 (fun d hd => Dfr.okP_mono (fun i k hi => ⟨Nat.lt_of_lt_of_le hi.1 G1.n_le, by rw [hag i k hi]; exact hi.2⟩) (hds d hd)) h fun m2 w2 S2 G2 => hQ m2 w2 S2 (G1.trans G2)
theorem results_run {fn : Func} {rvl : List RV} {vs : List AV} (h7 : compRes P fn.results.toList = some rvl) (R : Rel P m ml nt s a w) (hvs : rvs s rvl = some vs) :
    (results fn a.tmps).run P w = .ok (conc m ml (packA vs)) w ∧ ∀ v ∈ vs, vOk (good m s.H.n) LT v := by
 obtain ⟨r1, r2⟩ := rvs_run fn.results.toList rvl vs h7 R hvs
 refine ⟨?_, r2⟩
 rw [results_eq, Array.mapM_eq_mapM_toList]
 simp only [Sem.run_bind, Sem.run_map, r1, Result.andThen_ok, Sem.run_pure]
 rw [packA_conc]
theorem enter_rel {fn : Func} {F : FnIR} {args : List AV} (h4 : fn.ntmps = F.ntmps) (h5 : F.nargs ≤ F.ntmps) (hlen : args.length = F.nargs) (S : Sim P m ml0 [] H w) (hargs : ∀ v ∈ args, v.okP (good m H.n)) :
    Rel P m ml0 F.ntmps (enterA args H) { tmps := (concL m ml0 args).toArray ++ Array.replicate (fn.ntmps - (concL m ml0 args).toArray.size) undef, defers := [] } w := by
 have hal : (concL m ml0 args).toArray.size = F.nargs := by simp [concL_eq, hlen]
 refine ⟨(S.lowTo H.n).dfs [], fun t v ht => ?_, ?_, rfl, fun d hd => by cases hd⟩
 · obtain ⟨_, hg⟩ := look_zipI (by simpa [enterA] using ht)
   simp only [Nat.sub_zero] at hg
   have hlt := (List.getElem?_eq_some_iff.1 hg).1
   refine ⟨?_, .of (hargs v (List.mem_of_getElem? hg))⟩
   simp only [Array.getD_eq_getD_getElem?]
   rw [Array.getElem?_append_left (by simp [concL_eq]; exact hlt)]
   simp [concL_eq, hg]
 · simp only [Array.size_append, Array.size_replicate, hal, h4]; omega
theorem runF_sound (hm : P.follows .mixedOrders = true) (hC : CallOk P C) {f : FuncId} {F : FnIR} (hF : FnFits P f F) {n : Nat} {args : List AV} {v : AV} (h : runF C n F args H = some (v, H')) : ATrip P f args H v H' := by
 obtain ⟨fn, c, h1, h2, h3, h4, h5, h6, h7⟩ := hF
 refine ⟨⟨fn, c, h1, h2, h3⟩, (runF_n hC h).1, fun m w S hargs => ?_⟩
 simp only [decide_eq_true_eq] at h5
 unfold runF at h
 split at h
 · rename_i hlen
   cases he : evC C n F.body (enterA args H) with
   | none => simp [he] at h
   | some r =>
    obtain ⟨x, s'⟩ := r
    simp only [he, Option.bind_some] at h
    have R := enter_rel (fn := fn) h4 h5 hlen S hargs
    refine calls_FF (r := none) (n := 0) (callsIn_of_wp_marks h1 h2 trivial (code_sound hm hC n none 0 F.body c h6 (.inl rfl) m ml0 w _ s' _ x R he _ fun m' ml' w' a' R' G' => ?_))
    have main : ∀ H2, runDfs C s'.H.dfs { s'.H with dfs := [] } = some H2 → ∀ vs, rvs { s' with H := H2 } F.results = some vs → allNoL vs = true → (packA vs, fin H (packA vs) H2) = (v, H') →
        LeavesInM (FF none) 0 P fn a'.tmps (fun e w' => ∃ u, e = .returned u ∧ Left P m H w v H' u w') a'.defers .returning w' := by
     intro H2 hd vs hvs hl hp
     cases hp
     rw [R'.defers]
     refine runDfs_sound hC s'.H.dfs _ H2 m' w' (R'.sim.dfs []) R'.dok hd fun m2 w2 S2 G2 => ?_
     have hag : ∀ i k, good m' s'.H.n i k → m2 i = m' i := fun i k hi => G2.agree i hi.1
     have hgo : ∀ i k, good m' s'.H.n i k → good m2 H2.n i k := fun i k hi => ⟨Nat.lt_of_lt_of_le hi.1 G2.n_le, by rw [hag i k hi]; exact hi.2⟩
     have R2 : Rel P m2 ml' F.ntmps { s' with H := { H2 with dfs := [] } } { tmps := a'.tmps, defers := [] } w2 := by
      refine ⟨S2.dfs [], fun t u hu => ?_, R'.size, rfl, fun d hd => by cases hd⟩
      obtain ⟨k1, k2⟩ := R'.env t u hu
      exact ⟨by rw [k1]; exact (conc_lptr_ml k2 hag (fun _ _ _ => rfl)).symm, k2.mono hgo fun _ h => h⟩
     have hvs2 : rvs { s' with H := { H2 with dfs := [] } } F.results = some vs := by
      rw [← hvs]
      have : ∀ l : List RV, rvs { s' with H := { H2 with dfs := [] } } l = rvs { s' with H := H2 } l := by
       intro l
       induction l with
       | nil => rfl
       | cons x l ih =>
        simp only [rvs, ih]
        cases x <;> rfl
      exact this _
     obtain ⟨r1, r2⟩ := results_run h7 R2 hvs2
     have hok : AV.okPL (good m2 H2.n) vs := (okPL_iff _ _).2 fun x hx => (r2 x hx).noL (List.all_eq_true.1 hl x hx)
     obtain ⟨k1, k2, k3⟩ := fin_sound (v := packA vs) S S2 (G'.trans (G2.dfs0 (d := []))) (packA_ok hok)
     exact ⟨_, r1, _, rfl, m2, by rw [conc_ml k3 ml' ml0], k1, k2, k3⟩
    unfold leaveA at h
    cases x with
    | exit id => cases h
    | normal =>
     simp only at h
     cases hd : runDfs C s'.H.dfs { s'.H with dfs := [] } with
     | none => simp [hd] at h
     | some H2 =>
      simp only [hd, Option.bind_some] at h
      split at h
      · rename_i vs hvs
        split at h
        · rename_i hl; exact main H2 hd vs hvs hl (by simpa using h)
        · cases h
      · cases h
    | ret =>
     simp only at h
     cases hd : runDfs C s'.H.dfs { s'.H with dfs := [] } with
     | none => simp [hd] at h
     | some H2 =>
      simp only [hd, Option.bind_some] at h
      split at h
      · rename_i vs hvs
        split at h
        · rename_i hl; exact main H2 hd vs hvs hl (by simpa using h)
        · cases h
      · cases h
 · cases h
theorem runFD_sound (hm : P.follows .mixedOrders = true) (hC : CallOk P C) {f : FuncId} {F : FnIR} (hF : FnFits P f F) {n : Nat} {args : List AV} {v : AV} (h : runFD C n F args H = some (v, H')) : DTrip P f args H v H' := by
 obtain ⟨fn, c, h1, h2, h3, h4, h5, h6, h7⟩ := hF
 refine ⟨⟨fn, c, h1, h2, h3⟩, (runFD_n hC h).1, fun m w S hargs => ?_⟩
 simp only [decide_eq_true_eq] at h5
 unfold runFD at h
 split at h
 · rename_i hlen
   cases he : evC C n F.body (enterA args H) with
   | none => simp [he] at h
   | some r =>
    obtain ⟨x, s'⟩ := r
    simp only [he, Option.bind_some] at h
    have R := enter_rel (fn := fn) h4 h5 hlen S hargs
    have key : c.wpIn (FF none) 0 P (bodyPost P fn fun e w' => ∃ u, e = .returned u ∧ Left P m H w v H' u w') { tmps := (concL m ml0 args).toArray ++ Array.replicate (fn.ntmps - (concL m ml0 args).toArray.size) undef, defers := [] } w := by
     refine code_sound hm hC n none 0 F.body c h6 (.inl rfl) m ml0 w _ s' _ x R he _ fun m' ml' w' a' R' G' => ?_
     have main : s'.H.dfs.isEmpty = true → ∀ vs, rvs s' F.results = some vs → allNoL vs = true → (packA vs, fin H (packA vs) s'.H) = (v, H') →
         a'.defers = [] ∧ ∃ u, (results fn a'.tmps).run P w' = .ok u w' ∧ ∃ u', Ending.returned u = .returned u' ∧ Left P m H w v H' u' w' := by
      intro hd vs hvs hl hp
      cases hp
      obtain ⟨r1, r2⟩ := results_run h7 R' hvs
      have hok : AV.okPL (good m' s'.H.n) vs := (okPL_iff _ _).2 fun x hx => (r2 x hx).noL (List.all_eq_true.1 hl x hx)
      obtain ⟨k1, k2, k3⟩ := fin_sound (v := packA vs) S R'.sim G' (packA_ok hok)
      refine ⟨by rw [R'.defers, List.isEmpty_iff.1 hd]; rfl, _, r1, _, rfl, m', by rw [conc_ml k3 ml' ml0], k1, k2, k3⟩
     unfold leaveD at h
     cases x with
     | exit id => cases h
     | normal =>
      simp only at h
      split at h
      · rename_i hd
        split at h
        · rename_i vs hvs
          split at h
          · rename_i hl; exact main hd vs hvs hl (by simpa using h)
          · cases h
        · cases h
      · cases h
     | ret =>
      simp only at h
      split at h
      · rename_i hd
        split at h
        · rename_i vs hvs
          split at h
          · rename_i hl; exact main hd vs hvs hl (by simpa using h)
          · cases h
        · cases h
      · cases h
    exact (callsDIn_of_wp h1 h2 trivial key).mono fun e u' w' hh => hh
 · cases h
end
end Go.Wam
set_option linter.unusedVariables false
set_option linter.unusedSimpArgs false
namespace Go.Wam
def Mono {α : Type} (g : Nat → Option α) : Prop := ∀ n r, g n = some r → g (n + 1) = some r
theorem Mono.le {α : Type} {g : Nat → Option α} (h : Mono g) {n k : Nat} (hk : n ≤ k) {r : α} (hr : g n = some r) : g k = some r := by
 induction hk with
 | refl => exact hr
 | step _ ih => exact h _ _ ih
open Classical in
noncomputable def lim {α : Type} (g : Nat → Option α) : Option α := if h : ∃ n r, g n = some r then g h.choose else none
theorem lim_iff {α : Type} {g : Nat → Option α} (hg : Mono g) {r : α} : lim g = some r ↔ ∃ n, g n = some r := by
 unfold lim
 constructor
 · intro h
   split at h
   · exact ⟨_, h⟩
   · cases h
 · rintro ⟨n, hn⟩
   have hex : ∃ n r, g n = some r := ⟨n, r, hn⟩
   rw [dif_pos hex]
   obtain ⟨r', hr'⟩ := hex.choose_spec
   rw [hr']
   have h1 := hg.le (Nat.le_max_left n hex.choose) hn
   have h2 := hg.le (Nat.le_max_right n hex.choose) hr'
   rw [h1] at h2
   exact h2.symm
theorem lim_ext {α : Type} {a b : Option α} (h : ∀ r, a = some r ↔ b = some r) : a = b := by
 cases a with
 | none =>
  cases b with
  | none => rfl
  | some y => exact absurd ((h y).2 rfl) (by simp)
 | some x => exact ((h x).1 rfl).symm
theorem lim_const {α : Type} (a : Option α) : lim (fun _ => a) = a := by
 apply lim_ext; intro r
 rw [lim_iff (g := fun _ => a) (fun _ _ h => h)]
 exact ⟨fun ⟨_, h⟩ => h, fun h => ⟨0, h⟩⟩
theorem Mono.bind {α β : Type} {g : Nat → Option α} {f : Nat → α → Option β} (hg : Mono g) (hf : ∀ a, Mono fun n => f n a) : Mono fun n => (g n).bind (f n) := by
 intro n r h
 simp only at h ⊢
 cases hn : g n with
 | none => simp [hn] at h
 | some a => rw [hn] at h; rw [hg n a hn]; exact hf a n r h
theorem lim_bind {α β : Type} {g : Nat → Option α} {f : Nat → α → Option β} (hg : Mono g) (hf : ∀ a, Mono fun n => f n a) : lim (fun n => (g n).bind (f n)) = (lim g).bind fun a => lim fun n => f n a := by
 apply lim_ext; intro r
 rw [lim_iff (hg.bind hf)]
 constructor
 · rintro ⟨n, h⟩
   cases hn : g n with
   | none => simp [hn] at h
   | some a =>
    simp only [hn, Option.bind_some] at h
    rw [(lim_iff hg).2 ⟨n, hn⟩]
    exact (lim_iff (hf a)).2 ⟨n, h⟩
 · intro h
   cases hl : lim g with
   | none => simp [hl] at h
   | some a =>
    rw [hl] at h
    obtain ⟨n, hn⟩ := (lim_iff hg).1 hl
    obtain ⟨k, hk⟩ := (lim_iff (hf a)).1 h
    refine ⟨max n k, ?_⟩
    rw [hg.le (Nat.le_max_left n k) hn]
    exact (hf a).le (Nat.le_max_right n k) hk
theorem Mono.const {α : Type} (a : Option α) : Mono fun _ => a := fun _ _ h => h
theorem lim_bindC {α β : Type} {g : Nat → Option α} (k : α → Option β) (hg : Mono g) : lim (fun n => (g n).bind k) = (lim g).bind k := by
 rw [lim_bind (f := fun _ a => k a) hg (fun a => .const _)]
 congr 1
 funext a
 exact lim_const _
def CLe (C C' : CallF) : Prop := ∀ g args H r, C g args H = some r → C' g args H = some r
theorem callR_mono {C C' : CallF} (h : CLe C C') {f : AV} {vs : List AV} {H : AHeap} {r : AV × AHeap} (hr : callR C f vs H = some r) : callR C' f vs H = some r := by
 unfold callR at *
 split at hr
 · split at hr
   · rename_i hl; rw [if_pos hl]; exact h _ _ _ _ hr
   · cases hr
 · split at hr
   · rename_i hl; rw [if_pos hl]; exact h _ _ _ _ hr
   · cases hr
 · cases hr
theorem stepOp_le {C C' : CallF} (h : CLe C C') {o : IOper} {s r : St} (hr : stepOp C o s = some r) : stepOp C' o s = some r := by
 unfold stepOp at *
 split at hr
 · cases hr
 · exact hr
 · split at hr
   · split at hr
     · simp only [Option.map_eq_some_iff] at hr ⊢
       obtain ⟨x, h1, h2⟩ := hr
       exact ⟨x, callR_mono h h1, h2⟩
     · cases hr
   · exact hr
theorem stepOps_le {C C' : CallF} (h : CLe C C') : ∀ {os : List IOper} {s r : St}, stepOps C os s = some r → stepOps C' os s = some r := by
 intro os
 induction os with
 | nil => intro s r hr; exact hr
 | cons o os ih =>
  intro s r hr
  simp only [stepOps] at hr ⊢
  cases ho : stepOp C o s with
  | none => simp [ho] at hr
  | some s1 => rw [ho] at hr; rw [stepOp_le h ho]; exact ih hr
theorem trace_le {C C' : CallF} (h : CLe C C') : ∀ {os : List IOper} {s : St} {r : List St}, trace C os s = some r → trace C' os s = some r := by
 intro os
 induction os with
 | nil => intro s r hr; exact hr
 | cons o os ih =>
  intro s r hr
  simp only [trace] at hr ⊢
  cases ho : stepOp C o s with
  | none => simp [ho] at hr
  | some s1 =>
   rw [ho] at hr; rw [stepOp_le h ho]
   simp only [Option.map_eq_some_iff] at hr ⊢
   obtain ⟨x, h1, h2⟩ := hr
   exact ⟨x, ih h1, h2⟩
theorem runD_le {C C' : CallF} (h : CLe C C') {os : List IOper} {cs : List (Nat × Nat)} {s r : St} (hr : runD C os cs s = some r) : runD C' os cs s = some r := by
 unfold runD at *
 cases ht : trace C os s with
 | none => simp [ht] at hr
 | some tr => rw [ht] at hr; rw [trace_le h ht]; exact hr
theorem iter_le {f f' : St → Option (AExit × St)} (h : ∀ s r, f s = some r → f' s = some r) : ∀ {n n' : Nat} {s : St} {r : AExit × St}, n ≤ n' → iter f n s = some r → iter f' n' s = some r := by
 intro n
 induction n with
 | zero => intro n' s r _ hr; simp [iter] at hr
 | succ n ih =>
  intro n' s r hle hr
  obtain ⟨k, rfl⟩ : ∃ k, n' = k + 1 := ⟨n' - 1, by omega⟩
  simp only [iter] at hr ⊢
  split at hr
  · rename_i s1 hs
    rw [h _ _ hs]
    exact ih (by omega) hr
  · rename_i hne
    cases hs : f s with
    | none => rw [hs] at hr; cases hr
    | some q =>
     rw [h _ _ hs]
     rw [hs] at hr
     obtain ⟨x, s1⟩ := q
     cases x with
     | normal => exact absurd hs (hne s1)
     | exit id => exact hr
     | ret => exact hr
theorem mapLoop_le {d0 d1 b : Nat} {it : Opd} {ks ls : List Nat} {f f' : St → Option (AExit × St)} (h : ∀ s r, f s = some r → f' s = some r) : ∀ {n n' : Nat} {s : St} {r : AExit × St}, n ≤ n' → mapLoop d0 d1 it b ks ls f n s = some r → mapLoop d0 d1 it b ks ls f' n' s = some r := by
 intro n
 induction n with
 | zero => intro n' s r _ hr; simp [mapLoop] at hr
 | succ n ih =>
  intro n' s r hle hr
  obtain ⟨k, rfl⟩ : ∃ k, n' = k + 1 := ⟨n' - 1, by omega⟩
  simp only [mapLoop] at hr ⊢
  split at hr
  · rename_i rr hit
    (try simp only [hit])
    split at hr
    · rename_i hg; (try simp only [hg]); exact hr
    · rename_i id since seen last hg
      (try simp only [hg])
      split at hr
      · rename_i es c hid
        (try simp only [hid])
        split at hr
        · rename_i hcs
          rw [if_pos hcs]
          split at hr
          · rename_i hnil; (try simp only [hnil]); exact hr
          · rename_i e0 rest hne
            (try simp only [hne])
            have key : ∀ (e : ME) (q : AExit × St), (match f { s with H := s.H.set rr (.miter (some id) since (e.2.2 :: seen) since), env := (d1, .bool true) :: (d0, .tuple [.bool true, e.1, e.2.1]) :: s.env } with
                | some (.normal, s') => mapLoop d0 d1 it b ks ls f n s'
                | some (x, s') => cleanA ks ls rr (if x = .exit b then .normal else x) s'
                | none => none) = some q → (match f' { s with H := s.H.set rr (.miter (some id) since (e.2.2 :: seen) since), env := (d1, .bool true) :: (d0, .tuple [.bool true, e.1, e.2.1]) :: s.env } with
                | some (.normal, s') => mapLoop d0 d1 it b ks ls f' k s'
                | some (x, s') => cleanA ks ls rr (if x = .exit b then .normal else x) s'
                | none => none) = some q := by
             intro e q hq
             cases hf : f { s with H := s.H.set rr (.miter (some id) since (e.2.2 :: seen) since), env := (d1, .bool true) :: (d0, .tuple [.bool true, e.1, e.2.1]) :: s.env } with
             | none => rw [hf] at hq; cases hq
             | some p =>
              rw [h _ _ hf]
              rw [hf] at hq
              obtain ⟨x, s1⟩ := p
              cases x with
              | normal => exact ih (by omega) hq
              | exit j => exact hq
              | ret => exact hq
            obtain ⟨one', ho⟩ : ∃ one' : ME → Option (AExit × St), one' = fun (e : ME) => (match f' { s with H := s.H.set rr (.miter (some id) since (e.2.2 :: seen) since), env := (d1, .bool true) :: (d0, .tuple [.bool true, e.1, e.2.1]) :: s.env } with
                | some (.normal, s') => mapLoop d0 d1 it b ks ls f' k s'
                | some (x, s') => cleanA ks ls rr (if x = .exit b then .normal else x) s'
                | none => none : Option (AExit × St)) := ⟨_, rfl⟩
            suffices hs : (match one' e0 with
             | some q => if rest.all (fun e' => match one' e' with | some q' => sameB q q' | none => false) then some q else none
             | none => none) = some r by rw [ho] at hs; exact hs
            have key' : ∀ e q, _ → one' e = some q := fun e q hq => by rw [ho]; exact key e q hq
            split at hr
            · rename_i q hq
              rw [key' e0 q hq]
              simp only
              split at hr
              · rename_i hall
                rw [if_pos]
                · exact hr
                · rw [List.all_eq_true] at hall ⊢
                  intro e he
                  have := hall e he
                  split at this
                  · rename_i q' hq'
                    rw [key' e q' hq']; exact this
                  · cases this
              · cases hr
            · cases hr
        · cases hr
      · cases hr
    · cases hr
  · cases hr
theorem evC_le {C C' : CallF} (h : CLe C C') : ∀ (ic : IC) {n n' : Nat} {s : St} {r : AExit × St}, n ≤ n' → evC C n ic s = some r → evC C' n' ic s = some r := by
 intro ic
 induction ic with
 | skip => intro n n' s r _ hr; exact hr
 | region os =>
  intro n n' s r _ hr
  simp only [evC, Option.map_eq_some_iff] at hr ⊢
  obtain ⟨x, h1, h2⟩ := hr
  exact ⟨x, stepOps_le h h1, h2⟩
 | regionD os cs =>
  intro n n' s r _ hr
  simp only [evC, Option.map_eq_some_iff] at hr ⊢
  obtain ⟨x, h1, h2⟩ := hr
  exact ⟨x, runD_le h h1, h2⟩
 | seq a b iha ihb =>
  intro n n' s r hle hr
  simp only [evC] at hr ⊢
  cases ha : evC C n a s with
  | none => rw [ha] at hr; cases hr
  | some q =>
   rw [iha hle ha]
   rw [ha] at hr
   obtain ⟨x, s1⟩ := q
   cases x with
   | normal => exact ihb hle hr
   | exit id => exact hr
   | ret => exact hr
 | cond c a b iha ihb =>
  intro n n' s r hle hr
  simp only [evC] at hr ⊢
  split at hr
  · exact iha hle hr
  · exact ihb hle hr
  · cases hr
 | block id b ih =>
  intro n n' s r hle hr
  simp only [evC] at hr ⊢
  cases hb : evC C n b s with
  | none => rw [hb] at hr; cases hr
  | some q => rw [ih hle hb]; rw [hb] at hr; exact hr
 | loop b ih =>
  intro n n' s r hle hr
  simp only [evC] at hr ⊢
  exact iter_le (fun s r hs => ih hle hs) hle hr
 | exit id => intro n n' s r _ hr; exact hr
 | ret => intro n n' s r _ hr; exact hr
 | rangeF f ps ia ib iha ihb =>
  intro n n' s r _ hr
  simp only [evC] at hr ⊢
  split at hr
  · rename_i g captured hev
    (try simp only [hev])
    split at hr
    · cases hr
    · rename_i hg
      rw [if_neg hg]
      rw [Option.bind_eq_some_iff] at hr ⊢
      obtain ⟨q, h1, h2⟩ := hr
      exact ⟨q, h _ _ _ _ h1, h2⟩
  · cases hr
 | mapR d0 d1 it b ks ls body ih =>
  intro n n' s r hle hr
  simp only [evC] at hr ⊢
  exact mapLoop_le (fun s r hs => ih hle hs) hle hr
 | stuck => intro n n' s r _ hr; simp [evC] at hr
 | keep ks ls c ih => intro n n' s r hle hr; exact ih hle hr
theorem runDfs_le {C C' : CallF} (h : CLe C C') : ∀ {ds : List Dfr} {H r : AHeap}, runDfs C ds H = some r → runDfs C' ds H = some r := by
 intro ds
 induction ds with
 | nil => intro H r hr; exact hr
 | cons d ds ih =>
  intro H r hr
  cases d with
  | mark id =>
   simp only [runDfs] at hr ⊢
   split at hr
   · rename_i hg; (try simp only [hg]); exact ih hr
   · cases hr
  | call g args captured =>
   simp only [runDfs] at hr ⊢
   rw [Option.bind_eq_some_iff] at hr ⊢
   obtain ⟨q, h1, h2⟩ := hr
   exact ⟨q, h _ _ _ _ h1, ih h2⟩
theorem leaveA_le {C C' : CallF} (h : CLe C C') {F : FnIR} {H0 : AHeap} {q : AExit × St} {r : AV × AHeap} (hr : leaveA C F H0 q = some r) : leaveA C' F H0 q = some r := by
 unfold leaveA at *
 split at hr
 · cases hr
 · rename_i x s hx
   simp only
   rw [Option.bind_eq_some_iff] at hr ⊢
   obtain ⟨q, h1, h2⟩ := hr
   exact ⟨q, runDfs_le h h1, h2⟩
theorem runY_le {C C' : CallF} (h : CLe C C') {n n' : Nat} (hle : n ≤ n') {args : List AV} {H : AHeap} {r : AV × AHeap} (hr : runY C n args H = some r) : runY C' n' args H = some r := by
 unfold runY at *
 split at hr
 · split at hr
   · rename_i hg
     (try simp only [hg])
     split at hr
     · rename_i hl
       rw [if_pos hl]
       split at hr
       · rename_i s1 h1
         rw [evC_le h _ hle h1]
         simp only
         split at hr
         · rename_i hg1
           (try simp only [hg1])
           rw [Option.bind_eq_some_iff] at hr ⊢
           obtain ⟨q, h2, h3⟩ := hr
           exact ⟨q, evC_le h _ hle h2, h3⟩
         · cases hr
       · cases hr
     · cases hr
   · cases hr
 · cases hr
theorem runF_le {C C' : CallF} (h : CLe C C') {n n' : Nat} (hle : n ≤ n') {F : FnIR} {args : List AV} {H : AHeap} {r : AV × AHeap} (hr : runF C n F args H = some r) : runF C' n' F args H = some r := by
 unfold runF at *
 split at hr
 · rename_i hl
   rw [if_pos hl]
   rw [Option.bind_eq_some_iff] at hr ⊢
   obtain ⟨q, h1, h2⟩ := hr
   exact ⟨q, evC_le h _ hle h1, leaveA_le h h2⟩
 · cases hr
theorem runFD_le {C C' : CallF} (h : CLe C C') {n n' : Nat} (hle : n ≤ n') {F : FnIR} {args : List AV} {H : AHeap} {r : AV × AHeap} (hr : runFD C n F args H = some r) : runFD C' n' F args H = some r := by
 unfold runFD at *
 split at hr
 · rename_i hl
   rw [if_pos hl]
   rw [Option.bind_eq_some_iff] at hr ⊢
   obtain ⟨q, h1, h2⟩ := hr
   exact ⟨q, evC_le h _ hle h1, h2⟩
 · cases hr
section
variable {T : FuncId → Option FnDef}
theorem evF_le : ∀ n, CLe (evF T n) (evF T (n + 1)) := by
 intro n
 induction n with
 | zero => intro g args H r h; simp [evF] at h
 | succ n ih =>
  intro g args H r h
  rw [evF] at h
  rw [evF]
  simp only at h ⊢
  split at h
  · rename_i hg; rw [if_pos hg]; exact runY_le ih (Nat.le_succ n) h
  · rename_i hg
    rw [if_neg hg]
    split at h
    · rename_i hd
      rw [if_pos hd]
      split at h
      · rename_i F hF; exact runFD_le ih (Nat.le_succ n) h
      · cases h
    · rename_i hd
      rw [if_neg hd]
      split at h
      · exact runF_le ih (Nat.le_succ n) h
      · exact h
      · exact h
      · cases h
noncomputable def call (T : FuncId → Option FnDef) : CallF := fun f args H => lim fun n => evF T n f args H
noncomputable def den (T : FuncId → Option FnDef) (ic : IC) (s : St) : Option (AExit × St) := lim fun n => evC (evF T n) n ic s
noncomputable def sop (T : FuncId → Option FnDef) (o : IOper) (s : St) : Option St := lim fun n => stepOp (evF T n) o s
noncomputable def sops (T : FuncId → Option FnDef) (os : List IOper) (s : St) : Option St := lim fun n => stepOps (evF T n) os s
noncomputable def traceT (T : FuncId → Option FnDef) (os : List IOper) (s : St) : Option (List St) := lim fun n => trace (evF T n) os s
theorem mono_call (f : FuncId) (args : List AV) (H : AHeap) : Mono fun n => evF T n f args H := fun n r h => evF_le n _ _ _ _ h
theorem mono_den (ic : IC) (s : St) : Mono fun n => evC (evF T n) n ic s := fun n r h => evC_le (evF_le n) ic (Nat.le_succ n) h
theorem mono_sop (o : IOper) (s : St) : Mono fun n => stepOp (evF T n) o s := fun n r h => stepOp_le (evF_le n) h
theorem mono_sops (os : List IOper) (s : St) : Mono fun n => stepOps (evF T n) os s := fun n r h => stepOps_le (evF_le n) h
theorem mono_trace (os : List IOper) (s : St) : Mono fun n => trace (evF T n) os s := fun n r h => trace_le (evF_le n) h
theorem call_iff {f : FuncId} {args : List AV} {H : AHeap} {r : AV × AHeap} : call T f args H = some r ↔ ∃ n, evF T n f args H = some r := lim_iff (mono_call f args H)
theorem den_iff {ic : IC} {s : St} {r : AExit × St} : den T ic s = some r ↔ ∃ n, evC (evF T n) n ic s = some r := lim_iff (mono_den ic s)
theorem lim_succ {α : Type} {g : Nat → Option α} (hg : Mono g) : lim (fun n => g (n + 1)) = lim g := by
 apply lim_ext; intro r
 rw [lim_iff (g := fun n => g (n + 1)) (fun n r h => hg _ _ h), lim_iff hg]
 exact ⟨fun ⟨n, h⟩ => ⟨n + 1, h⟩, fun ⟨n, h⟩ => ⟨n, hg _ _ h⟩⟩
noncomputable def leaveT (T : FuncId → Option FnDef) (F : FnIR) (H0 : AHeap) (r : AExit × St) : Option (AV × AHeap) := lim fun n => leaveA (evF T n) F H0 r
def leave0 (F : FnIR) (H0 : AHeap) (r : AExit × St) : Option (AV × AHeap) :=
 match r with
 | (.exit _, _) => none
 | (_, s) => match rvs s F.results with
  | some vs => if allNoL vs then some (packA vs, fin H0 (packA vs) s.H) else none
  | none => none
theorem leaveT_0 {F : FnIR} {H0 : AHeap} {r : AExit × St} (h : r.2.H.dfs = []) : leaveT T F H0 r = leave0 F H0 r := by
 obtain ⟨x, s⟩ := r
 obtain ⟨e, l, H⟩ := s
 obtain ⟨t, n, low, dfs⟩ := H
 simp only at h
 subst h
 unfold leaveT
 have : (fun k => leaveA (evF T k) F H0 (x, ⟨e, l, ⟨t, n, low, []⟩⟩)) = fun _ => leave0 F H0 (x, ⟨e, l, ⟨t, n, low, []⟩⟩) := by
  funext k
  cases x <;> rfl
 rw [this, lim_const]
theorem call_ir {f : FuncId} {F : FnIR} (hF : T f = some (.ir F)) (hf : f < yieldF) (args : List AV) (H : AHeap) : call T f args H = if args.length = F.nargs then (den T F.body (enterA args H)).bind (leaveT T F H) else none := by
 unfold call
 rw [← lim_succ (mono_call f args H)]
 have hd : ¬ deferF ≤ f := fun h => absurd (Nat.lt_of_lt_of_le hf (Nat.le_trans (show yieldF ≤ deferF by decide) h)) (Nat.lt_irrefl _)
 have : (fun n => evF T (n + 1) f args H) = fun n => if args.length = F.nargs then (evC (evF T n) n F.body (enterA args H)).bind (leaveA (evF T n) F H) else none := by
  funext n
  rw [evF]
  simp only [hF, runF]
  rw [if_neg (Nat.ne_of_lt hf), if_neg hd]
 rw [this]
 split
 · exact lim_bind (f := fun n r => leaveA (evF T n) F H r) (mono_den F.body _) (fun a n r h => leaveA_le (evF_le n) h)
 · exact lim_const none
theorem call_prim {f : FuncId} {g : List AV → AHeap → Option (AV × AHeap)} (hF : T f = some (.prim g)) (hf : f < yieldF) (args : List AV) (H : AHeap) : call T f args H = keepD (g args H) H := by
 unfold call
 rw [← lim_succ (mono_call f args H)]
 have hd : ¬ deferF ≤ f := fun h => absurd (Nat.lt_of_lt_of_le hf (Nat.le_trans (show yieldF ≤ deferF by decide) h)) (Nat.lt_irrefl _)
 have : (fun n => evF T (n + 1) f args H) = fun n => keepD (g args H) H := by
  funext n
  rw [evF]
  simp only [hF]
  rw [if_neg (Nat.ne_of_lt hf), if_neg hd]
 rw [this, lim_const]
theorem callR_lim (f : AV) (vs : List AV) (H : AHeap) : (lim fun n => callR (evF T n) f vs H) = callR (call T) f vs H := by
 unfold callR
 split
 · split
   · rfl
   · exact lim_const none
 · split
   · rfl
   · exact lim_const none
 · exact lim_const none
theorem sop_eq (o : IOper) (s : St) : sop T o s = stepOp (call T) o s := by
 unfold sop
 obtain ⟨dst, op, g⟩ := o
 unfold stepOp
 cases hw : wantedA s g with
 | none => simp only [lim_const]
 | some b =>
  cases b
  · simp only [lim_const]
  · simp only
    cases op
    case call f args =>
     simp only
     split
     · rename_i k vs h1 h2
       have hm : Mono fun n => callR (evF T n) k vs s.H := fun n r h => callR_mono (evF_le n) h
       have := lim_bind (g := fun n => callR (evF T n) k vs s.H) (f := fun _ (r : AV × AHeap) => some (({ s with H := r.2 } : St).put dst r.1)) hm (fun _ => .const _)
       simp only [lim_const] at this
       simp only [Option.map_eq_bind, Function.comp_def]
       rw [← callR_lim]
       exact this
     · exact lim_const none
    all_goals exact lim_const _
theorem sops_nil (s : St) : sops T [] s = some s := lim_const _
theorem sops_cons (o : IOper) (os : List IOper) (s : St) : sops T (o :: os) s = (stepOp (call T) o s).bind (sops T os) := by
 rw [← sop_eq]
 exact lim_bind (mono_sop o s) (fun a => mono_sops os a)
theorem trace_nil (s : St) : traceT T [] s = some [s] := lim_const _
theorem trace_cons (o : IOper) (os : List IOper) (s : St) : traceT T (o :: os) s = (stepOp (call T) o s).bind fun s' => (traceT T os s').map (s :: ·) := by
 rw [← sop_eq]
 have : (fun n => trace (evF T n) (o :: os) s) = fun n => (stepOp (evF T n) o s).bind fun s' => (trace (evF T n) os s').bind fun l => some (s :: l) := by
  funext n
  simp only [trace]
  cases stepOp (evF T n) o s with
  | none => rfl
  | some s' => simp [Option.map_eq_bind, Function.comp_def]
 unfold traceT
 rw [this, lim_bind (f := fun n s' => (trace (evF T n) os s').bind fun l => some (s :: l)) (mono_sop o s) (fun a => (mono_trace os a).bind fun _ => .const _)]
 unfold sop
 congr 1
 funext s'
 rw [lim_bindC _ (mono_trace os s')]
 simp only [Option.map_eq_bind, Function.comp_def]
theorem den_skip (s : St) : den T .skip s = some (.normal, s) := lim_const _
theorem den_exit (id : Nat) (s : St) : den T (.exit id) s = some (.exit id, s) := lim_const _
theorem den_ret (s : St) : den T .ret s = some (.ret, s) := lim_const _
theorem den_keep (ks ls : List Nat) (c : IC) (s : St) : den T (.keep ks ls c) s = den T c { s with env := prune ks s.env, loc := prune ls s.loc } := rfl
theorem den_region (os : List IOper) (s : St) : den T (.region os) s = (sops T os s).map fun s' => (.normal, s') := by
 have := lim_bind (g := fun n => stepOps (evF T n) os s) (f := fun _ (r : St) => some (AExit.normal, r)) (mono_sops _ _) (fun _ => .const _)
 simp only [lim_const] at this
 unfold den sops
 simp only [evC, Option.map_eq_bind, Function.comp_def]
 exact this
theorem den_regionD (os : List IOper) (cs : List (Nat × Nat)) (s : St) :
    den T (.regionD os cs) s = (traceT T os s).bind fun tr => if drawCond os cs s tr then (tr.getLast?).map fun s' => (.normal, s') else none := by
 have : (fun n => evC (evF T n) n (.regionD os cs) s) = fun n => (trace (evF T n) os s).bind fun tr => if drawCond os cs s tr then (tr.getLast?).map fun s' => (AExit.normal, s') else none := by
  funext n
  simp only [evC, runD]
  cases trace (evF T n) os s with
  | none => rfl
  | some tr => simp only [Option.bind_some]; split <;> simp_all
 unfold den
 rw [this, lim_bindC _ (mono_trace os s)]
 rfl
def goOn (r : AExit × St) (k : St → Option (AExit × St)) : Option (AExit × St) :=
 match r with
 | (.normal, s) => k s
 | r => some r
theorem den_seq (a b : IC) (s : St) : den T (.seq a b) s = (den T a s).bind fun r => goOn r (den T b) := by
 have : (fun n => evC (evF T n) n (.seq a b) s) = fun n => (evC (evF T n) n a s).bind fun r => goOn r (evC (evF T n) n b) := by
  funext n
  simp only [evC]
  cases evC (evF T n) n a s with
  | none => rfl
  | some r =>
   obtain ⟨x, s1⟩ := r
   cases x <;> rfl
 unfold den
 rw [this]
 have hm : ∀ r : AExit × St, Mono fun n => goOn r (evC (evF T n) n b) := by
  rintro ⟨x, s1⟩
  cases x
  · exact mono_den b s1
  · exact .const _
  · exact .const _
 rw [lim_bind (f := fun n r => goOn r (evC (evF T n) n b)) (mono_den a s) hm]
 congr 1
 funext r
 obtain ⟨x, s1⟩ := r
 cases x
 · rfl
 · exact lim_const _
 · exact lim_const _
theorem den_cond (c : Opd) (a b : IC) (s : St) : den T (.cond c a b) s = match c.ev s.env with
    | some (.bool true) => den T a s
    | some (.bool false) => den T b s
    | _ => none := by
 unfold den
 simp only [evC]
 cases c.ev s.env with
 | none => exact lim_const none
 | some v =>
  cases v with
  | bool b => cases b <;> rfl
  | _ => exact lim_const none
def outBlock (id : Nat) (r : AExit × St) : AExit × St :=
 match r with
 | (.exit j, s) => if j = id then (.normal, s) else (.exit j, s)
 | r => r
theorem den_block (id : Nat) (b : IC) (s : St) : den T (.block id b) s = (den T b s).map (outBlock id) := by
 have : (fun n => evC (evF T n) n (.block id b) s) = fun n => (evC (evF T n) n b s).bind fun r => some (outBlock id r) := by
  funext n
  simp only [evC]
  cases evC (evF T n) n b s with
  | none => rfl
  | some r =>
   obtain ⟨x, s1⟩ := r
   cases x
   · rfl
   · simp only [Option.bind_some, outBlock]; split <;> rfl
   · rfl
 unfold den
 rw [this, lim_bindC _ (mono_den b s)]
 simp only [Option.map_eq_bind, Function.comp_def]
theorem den_loop (b : IC) (s : St) : den T (.loop b) s = (den T b s).bind fun r => goOn r (den T (.loop b)) := by
 apply lim_ext; intro r
 constructor
 · intro h
   obtain ⟨n, hn⟩ := den_iff.1 h
   simp only [evC] at hn
   cases n with
   | zero => simp [iter] at hn
   | succ n =>
    simp only [iter] at hn
    cases hb : evC (evF T (n + 1)) (n + 1) b s with
    | none => rw [hb] at hn; cases hn
    | some q =>
     rw [hb] at hn
     rw [den_iff.2 ⟨n + 1, hb⟩]
     obtain ⟨x, s1⟩ := q
     cases x with
     | normal =>
      simp only [Option.bind_some, goOn]
      refine den_iff.2 ⟨n + 1, ?_⟩
      simp only [evC]
      exact iter_le (fun _ _ h => h) (Nat.le_succ n) hn
     | exit id => exact hn
     | ret => exact hn
 · intro h
   cases hb : den T b s with
   | none => simp [hb] at h
   | some q =>
    rw [hb] at h
    obtain ⟨n, hn⟩ := den_iff.1 hb
    obtain ⟨x, s1⟩ := q
    cases x with
    | normal =>
     simp only [Option.bind_some, goOn] at h
     obtain ⟨k, hk⟩ := den_iff.1 h
     refine den_iff.2 ⟨max n k + 1, ?_⟩
     simp only [evC] at hk ⊢
     have h1 : evC (evF T (max n k + 1)) (max n k + 1) b s = some (.normal, s1) := (mono_den b s).le (by omega) hn
     simp only [iter, h1]
     refine iter_le (fun s' r' hs => ?_) (Nat.le_max_right n k) hk
     exact (mono_den b s').le (by omega) hs
    | exit id =>
     refine den_iff.2 ⟨n + 1, ?_⟩
     have h1 : evC (evF T (n + 1)) (n + 1) b s = some (.exit id, s1) := (mono_den b s).le (by omega) hn
     simp only [evC, iter, h1]
     exact h
    | ret =>
     refine den_iff.2 ⟨n + 1, ?_⟩
     have h1 : evC (evF T (n + 1)) (n + 1) b s = some (.ret, s1) := (mono_den b s).le (by omega) hn
     simp only [evC, iter, h1]
     exact h
end
end Go.Wam
set_option linter.unusedVariables false
set_option linter.unusedSimpArgs false
namespace Go.Wam
inductive Sh where
 | unit
 | pair (a b : Sh)
 | bool
 | int (k : IntKind)
 | str
 | slice (sz bytes : Nat) (e : Sh)
def IsSl (H : AHeap) (sz : Nat) (v : AV) (rows : List (List AV)) : Prop :=
 (v = .nils ∧ rows = []) ∨ (∃ b o s, v = .xslice b o s ∧ rows = []) ∨
 ∃ id cap, v = .slice id 0 rows.length cap ∧ rows.length ≤ cap ∧ H.get id = some (.row true sz rows.flatten) ∧ ∀ r ∈ rows, r.length = sz
def IsC (H : AHeap) : Sh → List AV → Prop
 | .unit, l => l = []
 | .pair a b, l => ∃ x y, l = x ++ y ∧ IsC H a x ∧ IsC H b y
 | .bool, l => ∃ b, l = [.bool b]
 | .int k, l => ∃ n, l = [.int k n] ∧ (Lit.int k n).wf = true
 | .str, l => ∃ s, l = [.str s] ∧ s.length ≤ reachBytes
 | .slice sz bytes e, l => ∃ v rows, l = [v] ∧ IsSl H sz v rows ∧ rows.length * bytes ≤ reachBytes ∧ rows.length ≤ maxLen ∧ ∀ r ∈ rows, IsC H e r
def shFields (P : Program) (g : TypeId → Option Sh) (tot : Nat) : Nat → List Field → Option Sh
 | off, [] => if off = tot then some .unit else none
 | off, f :: r => if f.offset = off then opt2 (g f.type) (shFields P g tot (off + P.cellsOf f.type) r) fun a b => some (.pair a b) else none
def shN : Nat → Sh → Sh
 | 0, _ => .unit
 | n + 1, e => .pair e (shN n e)
def shT (P : Program) : Nat → TypeId → Option Sh
 | 0, _ => none
 | k + 1, t => match P.underlying t with
  | some .bool => some .bool
  | some (.int i) => some (.int i)
  | some .string => some .str
  | some (.slice e) => if P.cellsOf e = 0 then none else (shT P k e).map (.slice (P.cellsOf e) (P.bytesOf e))
  | some (.struct fs) => shFields P (shT P k) (P.cellsOf t) 0 fs.toList
  | some (.array n e) => if n * P.cellsOf e = P.cellsOf t then (shT P k e).map (shN n) else none
  | _ => none
structure RoSim (m : Nat → Loc) (H : AHeap) (w : World) : Prop where
 wf : H.wf
 obj : ∀ id o, H.get id = some o → ∃ sz cells, o = .row true sz cells ∧ RoAt m ml0 w (m id) cells ∧ AV.okPL (good m H.n) cells ∧ cells.all AV.one = true
theorem RoSim.sim {P : Program} {m : Nat → Loc} {H : AHeap} {w : World} (S : RoSim m H w) : Sim P m ml0 [] H w where
 wf := S.wf
 obj := fun id o h => by obtain ⟨sz, cells, rfl, h1, _⟩ := S.obj id o h; exact h1
 ok := fun id o h => by obtain ⟨sz, cells, rfl, _, h2, h3⟩ := S.obj id o h; exact ⟨h2, h3⟩
 inj := fun i j ⟨o, h, ho⟩ _ _ => by obtain ⟨sz, cells, rfl, _⟩ := S.obj i o h; simp [AObj.owned] at ho
 sep := fun i j ⟨o, h, ho⟩ _ => by obtain ⟨sz, cells, rfl, _⟩ := S.obj i o h; simp [AObj.owned] at ho
 locs := fun t c h => by simp [look] at h
 locok := fun t c h => by simp [look] at h
 locinj := fun t u c d h => by simp [look] at h
 locsep := fun t c i h => by simp [look] at h
 base := fun i c h => by obtain ⟨sz, cells, e, _⟩ := S.obj i _ h; cases e
theorem RoSim.noOwned {m : Nat → Loc} {H : AHeap} {w : World} (S : RoSim m H w) (id : Nat) : ¬ Owned H id :=
 fun ⟨o, h, ho⟩ => by obtain ⟨sz, cells, rfl, _⟩ := S.obj id o h; simp [AObj.owned] at ho
structure Ext (m : Nat → Loc) (H : AHeap) (m' : Nat → Loc) (H' : AHeap) : Prop where
 le : H.n ≤ H'.n
 agree : ∀ id, id < H.n → m' id = m id
 get : ∀ id, id < H.n → H'.get id = H.get id
 low : H'.low = H.low
theorem Ext.refl (m : Nat → Loc) (H : AHeap) : Ext m H m H := ⟨Nat.le_refl _, fun _ _ => rfl, fun _ _ => rfl, rfl⟩
theorem Ext.trans {m m1 m2 : Nat → Loc} {H H1 H2 : AHeap} (a : Ext m H m1 H1) (b : Ext m1 H1 m2 H2) : Ext m H m2 H2 :=
 ⟨Nat.le_trans a.le b.le, fun id h => (b.agree id (Nat.lt_of_lt_of_le h a.le)).trans (a.agree id h), fun id h => (b.get id (Nat.lt_of_lt_of_le h a.le)).trans (a.get id h), b.low.trans a.low⟩
theorem IsSl.ext {m m' : Nat → Loc} {H H' : AHeap} (hw : H.wf) (E : Ext m H m' H') {sz : Nat} {v : AV} {rows : List (List AV)} (h : IsSl H sz v rows) : IsSl H' sz v rows := by
 rcases h with h | h | ⟨id, cap, h1, h2, h3, h4⟩
 · exact .inl h
 · exact .inr (.inl h)
 · exact .inr (.inr ⟨id, cap, h1, h2, by rw [E.get id (AHeap.get_lt h3 hw)]; exact h3, h4⟩)
theorem IsC.ext {m m' : Nat → Loc} {H H' : AHeap} (hw : H.wf) (E : Ext m H m' H') : ∀ {sh : Sh} {l : List AV}, IsC H sh l → IsC H' sh l := by
 intro sh
 induction sh with
 | unit | bool | int | str => intro l h; exact h
 | pair a b iha ihb => rintro l ⟨x, y, rfl, h1, h2⟩; exact ⟨x, y, rfl, iha h1, ihb h2⟩
 | slice sz bytes e ih => rintro l ⟨v, rows, rfl, h1, h2, h3, h4⟩; exact ⟨v, rows, rfl, h1.ext hw E, h2, h3, fun r hr => ih (h4 r hr)⟩
theorem Ext.okPL {m m' : Nat → Loc} {H H' : AHeap} (E : Ext m H m' H') {l : List AV} (h : AV.okPL (good m H.n) l) : AV.okPL (good m' H'.n) l :=
 okPL_mono (fun i k hi => ⟨Nat.lt_of_lt_of_le hi.1 E.le, by rw [E.agree i hi.1]; exact hi.2⟩) _ h
theorem Ext.conc {m m' : Nat → Loc} {H H' : AHeap} (E : Ext m H m' H') {l : List AV} (h : AV.okPL (good m H.n) l) : concL m' ml0 l = concL m ml0 l :=
 concL_congr ml0 ml0 (fun i k hi => E.agree i hi.1) _ h
theorem flatten_get {α : Type} {sz : Nat} (hz : 0 < sz) : ∀ {rows : List (List α)}, (∀ r ∈ rows, r.length = sz) → ∀ i, rows.flatten[i]? = (rows[i / sz]?).bind (·[i % sz]?) := by
 intro rows
 induction rows with
 | nil => intro _ i; simp
 | cons r rows ih =>
  intro h i
  have hr := h r (by simp)
  simp only [List.flatten_cons]
  by_cases hi : i < sz
  · rw [List.getElem?_append_left (by omega), Nat.div_eq_of_lt hi, Nat.mod_eq_of_lt hi]; simp
  · rw [List.getElem?_append_right (by omega), ih (fun r hr => h r (by simp [hr]))]
    have e1 : i / sz = (i - r.length) / sz + 1 := by
     rw [hr, Nat.div_eq_sub_div hz (by omega)]
    have e2 : (i - r.length) % sz = i % sz := by rw [hr]; exact (Nat.mod_eq_sub_mod (by omega)).symm
    rw [e1, e2]; simp
theorem flatten_len {α : Type} {sz : Nat} : ∀ {rows : List (List α)}, (∀ r ∈ rows, r.length = sz) → rows.flatten.length = rows.length * sz := by
 intro rows
 induction rows with
 | nil => intro _; simp
 | cons r rows ih =>
  intro h
  simp only [List.flatten_cons, List.length_append, List.length_cons, ih (fun r hr => h r (by simp [hr])), h r (by simp)]
  rw [Nat.add_mul]; omega
theorem concL_append (m : Nat → Loc) (ml : Nat → Nat) (a b : List AV) : concL m ml (a ++ b) = concL m ml a ++ concL m ml b := by simp [concL_eq]
theorem okPL_append {p : Nat → Nat → Prop} {a b : List AV} (ha : AV.okPL p a) (hb : AV.okPL p b) : AV.okPL p (a ++ b) :=
 (okPL_iff _ _).2 fun v hv => (List.mem_append.1 hv).elim ((okPL_iff _ _).1 ha v) ((okPL_iff _ _).1 hb v)
section
variable {H0 : Type} {enc : TypeId × Value → H0} {P : Program} {W : World}
def Opens (P : Program) (W : World) (sh : Sh) (cs : List Value) : Prop :=
 ∀ (m : Nat → Loc) (H : AHeap), RoSim m H W → ∃ m' H' l, RoSim m' H' W ∧ Ext m H m' H' ∧ concL m' ml0 l = cs ∧ IsC H' sh l ∧ AV.okPL (good m' H'.n) l ∧ l.all AV.one = true
theorem opens_leaf {sh : Sh} {cs : List Value} (l : List AV) (h1 : ∀ m, concL m ml0 l = cs) (h2 : ∀ H, IsC H sh l) (h3 : ∀ p, AV.okPL p l) (h4 : l.all AV.one = true) : Opens P W sh cs :=
 fun m H S => ⟨m, H, l, S, .refl .., h1 m, h2 H, h3 _, h4⟩
theorem opens_pair {a b : Sh} {x y : List Value} (ha : Opens P W a x) (hb : Opens P W b y) : Opens P W (.pair a b) (x ++ y) := by
 intro m H S
 obtain ⟨m1, H1, l1, S1, E1, c1, i1, o1, n1⟩ := ha m H S
 obtain ⟨m2, H2, l2, S2, E2, c2, i2, o2, n2⟩ := hb m1 H1 S1
 refine ⟨m2, H2, l1 ++ l2, S2, E1.trans E2, ?_, ⟨l1, l2, rfl, i1.ext S1.wf E2, i2⟩, okPL_append (E2.okPL o1) o2, by simp [n1, n2]⟩
 rw [concL_append, E2.conc o1, c1, c2]
theorem opens_fields {g : TypeId → Option Sh} {tot : Nat} {cs : List Value} (hcs : cs.length = tot) : ∀ (fl : List Field) (off : Nat) (sh : Sh), shFields P g tot off fl = some sh →
    (∀ f ∈ fl, ∀ s, g f.type = some s → Opens P W s ((cs.drop f.offset).take (P.cellsOf f.type))) → Opens P W sh (cs.drop off) := by
 intro fl
 induction fl with
 | nil =>
  intro off sh h _
  simp only [shFields] at h
  split at h
  · rename_i e
    cases h
    have : cs.drop off = [] := List.drop_eq_nil_of_le (by omega)
    rw [this]
    exact opens_leaf [] (fun _ => rfl) (fun _ => rfl) (fun _ => trivial) rfl
  · cases h
 | cons f fl ih =>
  intro off sh h hf
  simp only [shFields] at h
  split at h
  · rename_i e
    obtain ⟨a, b, h1, h2, h3⟩ := opt2_some h
    cases h3
    have k1 := hf f (by simp) a h1
    have k2 := ih _ b h2 (fun f' hf' => hf f' (by simp [hf']))
    have : cs.drop off = (cs.drop f.offset).take (P.cellsOf f.type) ++ cs.drop (off + P.cellsOf f.type) := by
     rw [e, ← List.drop_drop, List.take_append_drop]
    rw [this]
    exact opens_pair k1 k2
  · cases h
theorem opens_array {e : Sh} {sz : Nat} {cs : List Value} : ∀ (n off : Nat), cs.length = off + n * sz → (∀ i, i < n → Opens P W e ((cs.drop (off + i * sz)).take sz)) → Opens P W (shN n e) (cs.drop off) := by
 intro n
 induction n with
 | zero =>
  intro off h _
  have : cs.drop off = [] := List.drop_eq_nil_of_le (by omega)
  rw [this]
  exact opens_leaf [] (fun _ => rfl) (fun _ => rfl) (fun _ => trivial) rfl
 | succ n ih =>
  intro off h hf
  have k1 := hf 0 (by omega)
  simp only [Nat.zero_mul, Nat.add_zero] at k1
  have k2 := ih (off + sz) (by rw [h, Nat.add_mul]; omega) (fun i hi => by
   have := hf (i + 1) (by omega)
   rw [show off + (i + 1) * sz = off + sz + i * sz by rw [Nat.add_mul]; omega] at this
   exact this)
  have : cs.drop off = (cs.drop off).take sz ++ cs.drop (off + sz) := by
   rw [← List.drop_drop, List.take_append_drop]
  rw [this]
  exact opens_pair k1 k2
theorem opens_rows {e : Sh} : ∀ (css : List (List Value)), (∀ c ∈ css, Opens P W e c) → ∀ (m : Nat → Loc) (H : AHeap), RoSim m H W →
    ∃ (m' : Nat → Loc) (H' : AHeap) (rows : List (List AV)), RoSim m' H' W ∧ Ext m H m' H' ∧ rows.map (concL m' ml0) = css ∧ ∀ r ∈ rows, IsC H' e r ∧ AV.okPL (good m' H'.n) r ∧ r.all AV.one = true := by
 intro css
 induction css with
 | nil => intro _ m H S; exact ⟨m, H, [], S, .refl .., rfl, fun r hr => by cases hr⟩
 | cons c css ih =>
  intro h m H S
  obtain ⟨m1, H1, l1, S1, E1, c1, i1, o1, n1⟩ := h c (by simp) m H S
  obtain ⟨m2, H2, rows, S2, E2, c2, i2⟩ := ih (fun c hc => h c (by simp [hc])) m1 H1 S1
  refine ⟨m2, H2, l1 :: rows, S2, E1.trans E2, by simp [E2.conc o1, c1, c2], fun r hr => ?_⟩
  rcases List.mem_cons.1 hr with rfl | hr
  · exact ⟨i1.ext S1.wf E2, E2.okPL o1, n1⟩
  · exact i2 r hr
theorem opens_slice {e : Sh} {sz bytes : Nat} (hz : 0 < sz) {a : Addr} {len cap : Nat} (hl : len ≤ cap) (hb : len * bytes ≤ reachBytes) (hm : len ≤ maxLen) (css : List (List Value)) (hlen : css.length = len) (h : ∀ c ∈ css, Opens P W e c)
    (hc : ∀ i c, css[i]? = some c → W.cells? 0 (a.add (i * sz)) sz = some c) (h0 : 0 < cap → a.spot = none ∧ ∃ o, W.heap[a.block]? = some o) : Opens P W (.slice sz bytes e) [.slice (some a) len cap] := by
 intro m H S
 by_cases hcap : cap = 0
 · subst hcap
   obtain rfl : len = 0 := by omega
   obtain ⟨b, o, s⟩ := a
   exact ⟨m, H, [.xslice b o s], S, .refl .., by simp [concL, conc], ⟨_, [], rfl, .inr (.inl ⟨b, o, s, rfl, rfl⟩), by simp, Nat.zero_le _, fun r hr => by cases hr⟩, by simp [AV.okPL, AV.okP], rfl⟩
 · obtain ⟨hs, ho⟩ := h0 (by omega)
   obtain ⟨m1, H1, rows, S1, E1, c1, i1⟩ := opens_rows css h m H S
   have hrl : rows.length = len := by rw [← hlen, ← c1]; simp
   have hrow : ∀ i r, rows[i]? = some r → W.cells? 0 (a.add (i * sz)) sz = some (concL m1 ml0 r) := by
    intro i r hr
    refine hc i _ ?_
    rw [← c1, List.getElem?_map, hr]; rfl
   have hsz : ∀ r ∈ rows, r.length = sz := by
    intro r hr
    obtain ⟨i, hi⟩ := List.getElem?_of_mem hr
    have := (World.cells?_some (hrow i r hi)).2.1
    simpa [concL_eq] using this
   have okc : AV.okPL (good m1 H1.n) rows.flatten := (okPL_iff _ _).2 fun v hv => by
    obtain ⟨r, hr, hv⟩ := List.mem_flatten.1 hv
    exact (okPL_iff _ _).1 (i1 r hr).2.1 v hv
   have onec : rows.flatten.all AV.one = true := List.all_eq_true.2 fun v hv => by
    obtain ⟨r, hr, hv⟩ := List.mem_flatten.1 hv
    exact List.all_eq_true.1 (i1 r hr).2.2 v hv
   have hm' : ∀ id, id < H1.n → upd m1 H1.n ⟨a.block, a.off, cap * sz⟩ id = m1 id := fun id h => upd_ne _ _ (by omega)
   have E2 : Ext m1 H1 (upd m1 H1.n ⟨a.block, a.off, cap * sz⟩) (H1.alloc (.row true sz rows.flatten)) :=
    ⟨Nat.le_succ _, hm', fun id h => by rw [AHeap.get_alloc, if_neg (by omega)], rfl⟩
   have hget : (H1.alloc (.row true sz rows.flatten)).get H1.n = some (.row true sz rows.flatten) := by rw [AHeap.get_alloc, if_pos rfl]
   have hro : RoAt m1 ml0 W ⟨a.block, a.off, cap * sz⟩ rows.flatten := by
    refine ⟨?_, ho, fun i v hi => ?_⟩
    · rw [flatten_len hsz, hrl]; exact Nat.mul_le_mul_right _ hl
    · rw [flatten_get hz hsz] at hi
      cases hr : rows[i / sz]? with
      | none => simp [hr] at hi
      | some r =>
       simp [hr] at hi
       have h1 := (World.cells?_some (hrow _ r hr)).2.2 (i % sz) (Nat.mod_lt _ hz)
       have ha : (a.add (i / sz * sz)).add (i % sz) = Loc.at ⟨a.block, a.off, cap * sz⟩ i := by
        have hd : i / sz * sz + i % sz = i := by rw [Nat.mul_comm]; exact Nat.div_add_mod i sz
        obtain ⟨b, o, s⟩ := a
        simp only at hs
        subst hs
        simp only [Addr.add, Loc.at]
        split <;> split <;> simp_all <;> omega
       rw [← ha, h1, concL_eq, List.getElem?_map, hi]; rfl
   refine ⟨upd m1 H1.n ⟨a.block, a.off, cap * sz⟩, H1.alloc (.row true sz rows.flatten), [.slice H1.n 0 len cap], ⟨AHeap.wf_alloc S1.wf, fun id o h => ?_⟩, E1.trans E2, ?_, ⟨_, rows, rfl, .inr (.inr ⟨H1.n, cap, by rw [hrl], by omega, hget, hsz⟩), by rw [hrl]; exact hb, by rw [hrl]; exact hm, fun r hr => (i1 r hr).1.ext S1.wf E2⟩, ?_, rfl⟩
   · rw [AHeap.get_alloc] at h
     split at h
     · rename_i e; subst e; cases h
       refine ⟨sz, rows.flatten, rfl, ?_, E2.okPL okc, onec⟩
       rw [upd_same]
       exact ⟨hro.1, hro.2.1, fun i v hi => by rw [hro.2.2 i v hi]; exact congrArg some (conc_congr ml0 ml0 (fun i k hi => E2.agree i hi.1) v ((okPL_iff _ _).1 okc v (List.mem_of_getElem? hi))).symm⟩
     · rename_i e
       obtain ⟨sz', cells, rfl, r1, r2, r3⟩ := S1.obj id o h
       have hlt := AHeap.get_lt h S1.wf
       refine ⟨sz', cells, rfl, ?_, E2.okPL r2, r3⟩
       rw [E2.agree id hlt]
       exact ⟨r1.1, r1.2.1, fun i v hi => by rw [r1.2.2 i v hi]; exact congrArg some (conc_congr ml0 ml0 (fun i k hi => E2.agree i hi.1) v ((okPL_iff _ _).1 r2 v (List.mem_of_getElem? hi))).symm⟩
   · simp only [concL, conc, upd_same, Loc.at, Nat.add_zero]
     obtain ⟨b, o, s⟩ := a
     simp only at hs
     subst hs; rfl
   · simp only [AV.okPL, AV.okP, good, upd_same]
     exact ⟨⟨Nat.lt_succ_self _, Nat.zero_le _⟩, trivial⟩
theorem weights_all {e : TypeId} {l : List (DataW H0)} (h : ∀ n ∈ DataW.weightsAll P e l, n ≤ reachBytes) {d : DataW H0} (hd : d ∈ l) : ∀ n ∈ d.weights P e, n ≤ reachBytes := by
 induction l with
 | nil => cases hd
 | cons x l ih =>
  simp only [DataW.weightsAll, List.mem_append] at h
  rcases List.mem_cons.1 hd with rfl | hd
  · exact fun n hn => h n (.inl hn)
  · exact ih (fun n hn => h n (.inr hn)) hd
theorem weights_each {ts : List TypeId} {l : List (DataW H0)} (h : ∀ n ∈ DataW.weightsEach P ts l, n ≤ reachBytes) {i : Nat} {t : TypeId} {d : DataW H0} (ht : ts[i]? = some t) (hd : l[i]? = some d) : ∀ n ∈ d.weights P t, n ≤ reachBytes := by
 induction ts generalizing l i with
 | nil => simp at ht
 | cons u ts ih =>
  cases l with
  | nil => simp at hd
  | cons x l =>
   simp only [DataW.weightsEach, List.mem_append] at h
   cases i with
   | zero => simp at ht hd; subst ht; subst hd; exact fun n hn => h n (.inl hn)
   | succ i => exact ih (fun n hn => h n (.inr hn)) (by simpa using ht) (by simpa using hd)
theorem trod_array' {w : World} {base : Nat} {spare : Nat → Bool} {held : Bool} {fuel : Nat} {t : TypeId} {cs : List Value} {x : DataW H0 × List MemPlace} {n : Nat} {e : TypeId} (ht : P.underlying t = some (.array n e)) (h : DataW.trod enc P w base spare held fuel t cs = some x) :
    ∃ (xs : List (DataW H0 × List MemPlace)) (k : Nat), x.1 = .agg (xs.map (·.1)) ∧ cs.length = P.cellsOf t ∧ ∀ i, i < n → ∃ y, xs[i]? = some y ∧ DataW.trod enc P w base spare held k e ((cs.drop (i * P.cellsOf e)).take (P.cellsOf e)) = some y := by
 cases fuel with
 | zero => simp [DataW.trod] at h
 | succ k =>
  unfold DataW.trod at h
  rw [ht] at h
  simp only at h
  split at h
  · rename_i hl
    rw [Option.map_eq_some_iff] at h
    obtain ⟨xs, h1, rfl⟩ := h
    refine ⟨xs, k, rfl, hl, fun i hi => ?_⟩
    have hlen := mapM_some_length h1
    simp only [List.length_range] at hlen
    have := mapM_some_get h1 i i (by simp [hi])
    refine ⟨xs[i], List.getElem?_eq_getElem (by omega), ?_⟩
    rw [this, List.getElem?_eq_getElem (by omega)]
  · cases h
theorem opens_sh : ∀ (k : Nat) (t : TypeId) (sh : Sh), shT P k t = some sh → ∀ (fuel : Nat) (cs : List Value) (x : DataW H0 × List MemPlace), DataW.trod enc P W 0 (fun _ => true) true fuel t cs = some x →
    (∀ n ∈ x.1.weights P t, n ≤ reachBytes) → Opens P W sh cs := by
 intro k
 induction k with
 | zero => intro t sh h; cases h
 | succ k ih =>
  intro t sh h fuel cs x hx hwt
  simp only [shT] at h
  split at h
  · rename_i hu
    cases h
    obtain ⟨b, rfl, rfl⟩ := DataW.trod_bool hu hx
    exact opens_leaf [.bool b] (fun _ => rfl) (fun _ => ⟨b, rfl⟩) (fun _ => ⟨trivial, trivial⟩) rfl
  · rename_i i hu
    cases h
    obtain ⟨n, rfl, rfl, hn⟩ := DataW.trod_int hu hx
    exact opens_leaf [.int i n] (fun _ => rfl) (fun _ => ⟨n, rfl, hn⟩) (fun _ => ⟨trivial, trivial⟩) rfl
  · rename_i hu
    cases h
    obtain ⟨s, rfl, rfl, hn⟩ := DataW.trod_string hu hx
    exact opens_leaf [.str s.data.toList] (fun _ => rfl) (fun _ => ⟨_, rfl, hwt _ (by simp [DataW.weights])⟩) (fun _ => ⟨trivial, trivial⟩) rfl
  · rename_i e hu
    split at h
    · cases h
    · rename_i hz
      cases hs : shT P k e with
      | none => simp [hs] at h
      | some se =>
       simp [hs] at h
       subst h
       rcases DataW.trod_slice hu hx with ⟨rfl, rfl⟩ | ⟨a, len, cap, elems, rest, n, rfl, rfl, rfl, _, hl, hm, hel, hge, hrest, _⟩
       · exact opens_leaf [.nils] (fun _ => rfl) (fun _ => ⟨_, [], rfl, .inl ⟨rfl, rfl⟩, by simp, Nat.zero_le _, fun r hr => by cases hr⟩) (fun _ => ⟨trivial, trivial⟩) rfl
       · obtain ⟨hrl, hre⟩ := hrest rfl
         simp only [DataW.weights, hu] at hwt
         have hw1 := hwt _ (List.mem_cons_self ..)
         have hw2 : ∀ n ∈ DataW.weightsAll P e (elems.map (·.1)), n ≤ reachBytes := fun n hn => hwt n (by simp [hn])
         have heach : ∀ i, i < len → ∃ c y, W.cells? 0 (a.add (i * P.cellsOf e)) (P.cellsOf e) = some c ∧ elems[i]? = some y ∧ DataW.trod enc P W 0 (fun _ => true) true n e c = some y := by
          intro i hi
          have h1 := hge i hi
          rw [List.getElem?_eq_getElem (by omega), Option.bind_eq_some_iff] at h1
          obtain ⟨c, h2, h3⟩ := h1
          exact ⟨c, _, h2, List.getElem?_eq_getElem (by omega), h3⟩
         refine opens_slice (by omega) hl ?_ (by omega) ((List.range len).map fun i => (W.cells? 0 (a.add (i * P.cellsOf e)) (P.cellsOf e)).getD []) (by simp) ?_ ?_ ?_
         · refine Nat.le_trans ?_ hw1
           simp only [List.length_map]
           exact Nat.mul_le_mul_right _ (by omega)
         · intro c hc
           obtain ⟨i, hi, rfl⟩ := List.mem_map.1 hc
           obtain ⟨c, y, h2, h3, h4⟩ := heach i (List.mem_range.1 hi)
           rw [h2]
           exact ih e se hs n c y h4 (weights_all hw2 (List.mem_map.2 ⟨y, List.mem_of_getElem? h3, rfl⟩))
         · intro i c hc
           have hi : i < len := by have := (List.getElem?_eq_some_iff.1 hc).1; simpa using this
           obtain ⟨c', y, h2, _⟩ := heach i hi
           simp [hi, h2] at hc
           subst hc; exact h2
         · intro hcap
           have hfirst : ∃ c, W.cells? 0 (a.add (0 * P.cellsOf e)) (P.cellsOf e) = some c := by
            by_cases hlen : 0 < len
            · obtain ⟨c, y, h2, _⟩ := heach 0 hlen; exact ⟨c, h2⟩
            · have := hre 0 (by omega)
              rw [show len + 0 = 0 by omega, List.getElem?_eq_getElem (by omega), Option.bind_eq_some_iff] at this
              obtain ⟨c, h2, _⟩ := this
              exact ⟨c, h2⟩
           obtain ⟨c, hc⟩ := hfirst
           obtain ⟨_, hcl, hcc⟩ := World.cells?_some hc
           have h1 := hcc 0 (by omega)
           have e0 : (a.add (0 * P.cellsOf e)).add 0 = a := by simp [Addr.add]
           rw [e0, List.getElem?_eq_getElem (by omega)] at h1
           unfold World.cell? at h1
           split at h1
           · rename_i o _ _ ho
             split at h1
             · cases h1
             · rename_i hs; exact ⟨by simpa using hs, _, ho⟩
           · cases h1
  · rename_i fs hu
    obtain ⟨xs, n, rfl, rfl, hl, hxl, hxs⟩ := DataW.trod_struct hu hx
    simp only [DataW.weights, hu] at hwt
    have := opens_fields hl fs.toList 0 sh h (W := W) (fun f hf s hs => by
     obtain ⟨i, hi⟩ := List.getElem?_of_mem hf
     have hi' : fs[i]? = some f := by simpa using hi
     have h1 := hxs i f hi'
     have hlt : i < xs.length := by rw [hxl]; exact (Array.getElem?_eq_some_iff.1 hi').1
     rw [List.getElem?_eq_getElem hlt] at h1
     exact ih f.type s hs n _ _ h1 (weights_each hwt (by rw [List.getElem?_map, hi]; rfl) (by rw [List.getElem?_map, List.getElem?_eq_getElem hlt]; rfl)))
    simpa using this
  · rename_i n e hu
    split at h
    · rename_i htot
      cases hs : shT P k e with
      | none => simp [hs] at h
      | some se =>
       simp [hs] at h
       subst h
       obtain ⟨xs, k', hx1, hl, hxs⟩ := trod_array' hu hx
       rw [hx1] at hwt
       simp only [DataW.weights, hu] at hwt
       have := opens_array (W := W) (P := P) (e := se) n 0 (by rw [hl, ← htot, Nat.zero_add] : cs.length = 0 + n * P.cellsOf e) (fun i hi => by
        obtain ⟨y, h1, h2⟩ := hxs i hi
        rw [Nat.zero_add]
        exact ih e se hs k' _ y h2 (weights_all hwt (List.mem_map.2 ⟨y, List.mem_of_getElem? h1, rfl⟩)))
       simpa using this
    · cases h
  · cases h
end
end Go.Wam
set_option linter.unusedVariables false
set_option linter.unusedSimpArgs false
namespace Go.Wam
section
variable {P : Program} {C : CallF} {m m' : Nat → Loc} {ml ml' : Nat → Nat} {nt : Nat} {loc : List (Nat × List AV)} {H H' H1 : AHeap} {w w' : World} {s s' : St} {a : Act}
theorem look_append {α : Type} {t : Nat} : ∀ {x y : List (Nat × α)}, look t (x ++ y) = (look t x).or (look t y)
 | [], y => by simp [look]
 | (k, v) :: x, y => by
  simp only [List.cons_append, look]
  split
  · simp
  · exact look_append
theorem foldl_set_size : ∀ (l : List (Nat × Value)) (t : Array Value), (l.foldl (fun tmps (p, v) => tmps.setIfInBounds p v) t).size = t.size
 | [], t => rfl
 | (p, v) :: l, t => by simp only [List.foldl_cons]; rw [foldl_set_size l]; simp
theorem foldl_set_get : ∀ (l : List (Nat × Value)) (t : Array Value) (i : Nat), (∀ e ∈ l, e.1 < t.size) → (l.foldl (fun tmps (p, v) => tmps.setIfInBounds p v) t).getD i undef = (look i l.reverse).getD (t.getD i undef)
 | [], t, i, _ => by simp [look]
 | (p, v) :: l, t, i, h => by
  simp only [List.foldl_cons, List.reverse_cons]
  rw [foldl_set_get l _ i (fun e he => by simp; exact h e (by simp [he])), look_append]
  have hp := h (p, v) (by simp)
  simp only at hp
  cases look i l.reverse with
  | some x => simp
  | none =>
   simp only [Option.none_or, Option.getD_none, look]
   rw [Array.getD_eq_getD_getElem?, Array.getElem?_setIfInBounds]
   by_cases hi : p = i
   · subst hi; simp [hp]
   · simp only [hi, if_false, Option.getD_none, Array.getD_eq_getD_getElem?]
theorem look_rev_map {i : Nat} {m : Nat → Loc} {ml : Nat → Nat} : ∀ (l : List (Nat × AV)), look i (l.map fun e => (e.1, conc m ml e.2)) = (look i l).map (conc m ml)
 | [] => rfl
 | (k, v) :: l => by
  simp only [List.map_cons, look]
  split
  · rfl
  · exact look_rev_map l
theorem runY_n (hC : CallOk P C) {n : Nat} {args : List AV} {v : AV} (h : runY C n args H = some (v, H')) : H.n ≤ H'.n ∧ H'.dfs = H.dfs := by
 unfold runY at h
 split at h
 · split at h
   · split at h
     · split at h
       · rename_i s1 h1
         have n1 := evC_n hC n _ _ _ _ h1
         split at h
         · rename_i env1 ps1 ia1 ib1 hg
           rw [Option.bind_eq_some_iff] at h
           obtain ⟨⟨x, s2⟩, h2, h⟩ := h
           have n2 := evC_n hC n _ _ _ _ h2
           simp only [AHeap.set_n] at n1 n2
           · split at h
             · split at h
               · cases h; simp only [AHeap.set_n, and_true]; omega
               · cases h
             · cases h
         · cases h
       · cases h
     · cases h
   · cases h
 · cases h
set_option maxHeartbeats 400000 in
theorem runY_sound (hm : P.follows .mixedOrders = true) (hC : CallOk P C) {n : Nat} {args : List AV} {v : AV} (h : runY C n args H = some (v, H')) : YTrip P args H v H' := by
 refine ⟨(runY_n hC h).1, ?_⟩
 unfold runY at h
 split at h
 · rename_i id vs
   refine ⟨id, vs, rfl, fun m w S hargs => ?_⟩
   split at h
   · rename_i env ps ia ib hid
     split at h
     · rename_i hlen
       obtain ⟨r, b1, b2, b3, b4, b5⟩ := S.obj id _ hid
       have hb5 := b5
       obtain ⟨pe, lt, ⟨locals, ca, cb⟩, pa, pb⟩ := b5
       have hvs : AV.okPL (good m H.n) vs := (okPL_iff _ _).2 fun x hx => hargs x (by simp [hx])
       have hy := run_yield (P := P) (args := (concL m ml0 vs).toArray) b1 (by rw [← Array.length_toList (xs := r.params), pe]; simp [concL_eq, hlen])
       refine ⟨_, _, _, _, hy, ?_⟩
       have hfold : ((r.params.zip (concL m ml0 vs).toArray).foldl (fun tmps (x : Tmp × Value) => tmps.setIfInBounds x.1 x.2) r.tmps) = (ps.zip (concL m ml0 vs)).foldl (fun tmps (p, v) => tmps.setIfInBounds p v) r.tmps := by
        rw [← Array.foldl_toList, Array.toList_zip, pe]
       rw [show (fun tmps (x : Tmp × Value) => match x with | (t, a) => tmps.setIfInBounds t a) = (fun (tmps : Array Value) (x : Tmp × Value) => tmps.setIfInBounds x.1 x.2) from rfl, hfold]
       have hzip : ps.zip (concL m ml0 vs) = (ps.zip vs).map fun e => (e.1, conc m ml0 e.2) := by
        rw [concL_eq, List.zip_map_right]; rfl
       have hlt : ∀ e ∈ ps.zip (concL m ml0 vs), e.1 < r.tmps.size := fun e he => lt e.1 (List.of_mem_zip he).1
       have R0 : Rel P m ml0 r.tmps.size { env := (ps.zip vs).reverse ++ env, loc := [], H := { H with dfs := [] } } { tmps := (ps.zip (concL m ml0 vs)).foldl (fun tmps (p, v) => tmps.setIfInBounds p v) r.tmps, defers := [] } w := by
        refine ⟨S.dfs [], fun t u hu => ?_, foldl_set_size _ _, rfl, fun d hd => by cases hd⟩
        simp only [look_append] at hu
        rw [foldl_set_get _ _ t hlt, hzip, ← List.map_reverse, look_rev_map]
        cases hl : look t (ps.zip vs).reverse with
        | some u' =>
         rw [hl] at hu
         simp at hu; subst hu
         refine ⟨rfl, .of ?_⟩
         have : ∀ {l : List (Nat × AV)}, look t l = some u' → ∃ k, (k, u') ∈ l := by
          intro l
          induction l with
          | nil => intro h; simp [look] at h
          | cons e l ih =>
           obtain ⟨k, x⟩ := e
           intro h
           simp only [look] at h
           split at h
           · cases h; exact ⟨k, by simp⟩
           · obtain ⟨k', hk⟩ := ih h; exact ⟨k', by simp [hk]⟩
         obtain ⟨k, hk⟩ := this hl
         exact (okPL_iff _ _).1 hvs u' (List.of_mem_zip (List.mem_reverse.1 hk)).2
        | none =>
         rw [hl] at hu
         simp only [Option.none_or] at hu
         refine ⟨by simp only [Option.map_none, Option.getD_none]; exact b4 t u hu, .of (S.ok id _ hid t u hu)⟩
       split at h
       · rename_i s1 h1
         split at h
         · rename_i env1 ps1 ia1 ib1 hid1
           cases h2 : evC C n ib { s1 with H := s1.H.set id (.loop .busy none env1 ps1 ia1 ib1) } with
           | none => simp [h2] at h
           | some q =>
            obtain ⟨x, s2⟩ := q
            simp only [h2, Option.bind_some] at h
            split at h
            · rename_i hdf
              split at h
              · rename_i env2 ps2 ia2 ib2 hid2
                simp only [Option.some.injEq, Prod.mk.injEq] at h
                obtain ⟨rfl, rfl⟩ := h
                refine roundIn_of_wpIn trivial ?_
                refine code_sound hm hC n (some (m id).block) 0 ia r.assign ca (.inr pa) m ml0 w _ s1 _ .normal R0 h1 _ fun m1 ml1 w1 a1 R1 G1 => ?_
                simp only [toExit, Exit.then]
                have hidn := AHeap.get_lt hid S.wf
                have hag1 : m1 id = m id := G1.agree id hidn
                obtain ⟨r1, c1, c2, c3, c4, c5⟩ := R1.sim.obj id _ hid1
                rw [hag1] at c1
                refine ⟨_, run_beginRound c1 c2, ?_⟩
                have S2 : Sim P m1 ml1 s1.loc (s1.H.set id (.loop .busy none env1 ps1 ia1 ib1)) (w1.putObj (m id).block (.loop { r1 with state := .busy })) := by
                 refine R1.sim.set_obj hid1 rfl ⟨{ r1 with state := .busy }, ?_, rfl, c3, c4, ⟨c5.pe, c5.lt, c5.comp, c5.pa, c5.pb⟩⟩ (show AObj.okP (good m1 s1.H.n) (.loop .busy none env1 ps1 ia1 ib1) from (by have := R1.sim.ok id _ hid1; exact this)) rfl (by rw [hag1]; exact wrote_put.other)
                 rw [hag1]; exact World.putObj_heap_same (Array.getElem?_eq_some_iff.1 c1).1
                have G2 : Grow m1 ml1 s1.loc s1.H w1 m1 ml1 s1.loc (s1.H.set id (.loop .busy none env1 ps1 ia1 ib1)) (w1.putObj (m id).block (.loop { r1 with state := .busy })) := .of_set R1.sim.wf hid1 rfl rfl (by rw [hag1]; exact wrote_put)
                have R2 : Rel P m1 ml1 r.tmps.size { s1 with H := s1.H.set id (.loop .busy none env1 ps1 ia1 ib1) } a1 (w1.putObj (m id).block (.loop { r1 with state := .busy })) := ⟨S2, R1.env, R1.size, R1.defers, R1.dok⟩
                refine code_sound hm hC n (some (m id).block) 0 ib r.body cb (.inr pb) m1 ml1 _ _ s2 a1 x R2 h2 _ fun m3 ml3 w3 a3 R3 G3 => ?_
                have Gt := (G1.trans G2).trans G3
                have hag3 : m3 id = m id := Gt.agree id hidn
                obtain ⟨r3, d1, d2, d3, d4, d5⟩ := R3.sim.obj id _ hid2
                rw [hag3] at d1
                have fin : ∀ (jump : Option Code) (pend : Option AExit), jump = pend.map codeX → ((x = .normal) ↔ pend = none) →
                    ∃ u w4, (Instr.endRound (m id).block jump).run P w3 = .ok u w4 ∧ ∃ u', Ending.returned u = .returned u' ∧ Left P m H w (.bool (decide (x = .normal))) { s2.H.set id (.loop (if x = .normal then .ready else .done) pend env2 ps2 ia2 ib2) with dfs := H.dfs } u' w4 := by
                 intro jump pend hj hp
                 refine ⟨_, _, run_endRound jump d1, _, rfl, m3, ?_, ?_, ?_, by simp [AV.okP]⟩
                 · subst hj
                   by_cases hx : x = .normal
                   · rw [hp.1 hx]; simp [conc, hx]
                   · cases pend with
                     | none => exact absurd (hp.2 rfl) hx
                     | some y => simp [conc, hx]
                 · refine Sim.dfs ((Sim.set_obj (o' := .loop (if x = .normal then .ready else .done) pend env2 ps2 ia2 ib2) R3.sim hid2 rfl ⟨{ r3 with state := if jump.isNone then .ready else .done, pending := jump }, ?_, ?_, hj, d4, ⟨d5.pe, d5.lt, d5.comp, d5.pa, d5.pb⟩⟩ (show AObj.okP (good m3 s2.H.n) (.loop (if x = .normal then .ready else .done) pend env2 ps2 ia2 ib2) from (by have := R3.sim.ok id _ hid2; exact this)) rfl (by rw [hag3]; exact wrote_put.other)).drop ml0) H.dfs
                   · rw [hag3]; exact World.putObj_heap_same (Array.getElem?_eq_some_iff.1 d1).1
                   · subst hj
                     by_cases hx : x = .normal
                     · rw [hp.1 hx]; simp [hx]
                     · cases pend with
                       | none => exact absurd (hp.2 rfl) hx
                       | some y => simp [hx]
                 · have G4 := Gt.trans (Grow.of_set (o' := .loop (if x = .normal then .ready else .done) pend env2 ps2 ia2 ib2) R3.sim.wf hid2 rfl rfl (by rw [hag3]; exact wrote_put (o' := .loop { r3 with state := if jump.isNone then .ready else .done, pending := jump })))
                   exact ⟨G4.n_le, G4.agree, G4.size, G4.os, G4.tape, G4.output, G4.keep, G4.own, fun t c h => by simp [look] at h, G4.low, G4.pres, G4.ro⟩
                cases x with
                | normal => exact fin none none rfl (by simp)
                | exit j => exact fin (some (.exit j)) (some (.exit j)) rfl (by simp)
                | ret => exact fin (some .ret) (some .ret) rfl (by simp)
              · cases h
            · cases h
         · cases h
       · cases h
     · cases h
   · cases h
 · cases h
def TableOk (P : Program) (T : FuncId → Option FnDef) : Prop :=
 ∀ f d, T f = some d → match d with
  | .ir F => FnFits P f F
  | .prim g => ∀ args H v H', g args H = some (v, H') → ATrip P f args H v H'
  | .ext g => ∀ args H v H', g args H = some (v, H') → ETrip P f args H v H'
theorem Left.dfs {u : Value} {v : AV} (h : Left P m H w v H' u w') (d : List Dfr) : Left P m H w v { H' with dfs := d } u w' := by
 obtain ⟨m', h1, S, G, h2⟩ := h
 exact ⟨m', h1, S.dfs d, G.dfs d, h2⟩
theorem ATrip.dfs {f : FuncId} {args : List AV} {v : AV} (h : ATrip P f args H v H') (d : List Dfr) : ATrip P f args H v { H' with dfs := d } := by
 obtain ⟨h1, h2, h3⟩ := h
 exact ⟨h1, h2, fun m w S ha => (h3 m w S ha).mono fun e w' ⟨u, k1, k2⟩ => ⟨u, k1, k2.dfs d⟩⟩
theorem ETrip.dfs {f : FuncId} {args : List AV} {v : AV} (h : ETrip P f args H v H') (d : List Dfr) : ETrip P f args H v { H' with dfs := d } := by
 obtain ⟨h2, h3⟩ := h
 exact ⟨h2, fun m w S ha => let ⟨u, w', k1, k2⟩ := h3 m w S ha; ⟨u, w', k1, k2.dfs d⟩⟩
theorem keepD_some {r : Option (AV × AHeap)} {v : AV} (h : keepD r H = some (v, H')) : ∃ H1, r = some (v, H1) ∧ H' = { H1 with dfs := H.dfs } := by
 unfold keepD at h
 split at h
 · cases h; exact ⟨_, rfl, rfl⟩
 · cases h
theorem evF_sound {T : FuncId → Option FnDef} (hm : P.follows .mixedOrders = true) (hT : TableOk P T) : ∀ n, CallOk P (evF T n) := by
 intro n
 induction n with
 | zero => intro g args H v H' h; simp [evF] at h
 | succ n ih =>
  intro g args H v H' h
  simp only [evF] at h
  have hy : ¬ yieldF < yieldF := Nat.lt_irrefl _
  split at h
  · rename_i hg
    subst hg
    exact ⟨(runY_n ih h).2, fun _ => runY_sound hm ih h, fun hlt => absurd hlt hy, fun f hf => absurd (show deferF ≤ yieldF by rw [hf]; exact Nat.le_add_right _ _) (by decide)⟩
  · rename_i hg
    split at h
    · rename_i hd
      split at h
      · rename_i F hF
        refine ⟨(runFD_n ih h).2, fun hx => absurd hx hg, fun hlt => absurd (Nat.lt_of_lt_of_le hlt (Nat.le_trans (show yieldF ≤ deferF by decide) hd)) (Nat.lt_irrefl _), fun f hf => ?_⟩
        have : g - deferF = f := by rw [hf]; exact Nat.add_sub_cancel_left ..
        rw [this] at hF
        exact runFD_sound hm ih (hT f _ hF) h
      · cases h
    · rename_i hd
      have hD : ∀ f, g = deferF + f → DTrip P f args H v H' := fun f hf => absurd (show deferF ≤ g by rw [hf]; exact Nat.le_add_right _ _) hd
      split at h
      · rename_i F hF
        exact ⟨(runF_n ih h).2, fun hx => absurd hx hg, fun _ => .inl (runF_sound hm ih (hT g _ hF) h), hD⟩
      · rename_i p hp
        obtain ⟨H1, h1, rfl⟩ := keepD_some h
        exact ⟨rfl, fun hx => absurd hx hg, fun _ => .inl ((hT g _ hp args H v H1 h1).dfs H.dfs), hD⟩
      · rename_i p hp
        split at h
        · cases h
        · rename_i hne
          obtain ⟨H1, h1, rfl⟩ := keepD_some h
          exact ⟨rfl, fun hx => absurd hx hg, fun _ => .inr ⟨(hT g _ hp args H v H1 h1).dfs H.dfs, fun id r e => hne id r e⟩, hD⟩
      · cases h
end
end Go.Wam
set_option linter.unusedVariables false
set_option linter.unusedSimpArgs false
namespace Go.Wam
open Go.ChangeShapes Go.WideShapes Go.RowKit
def Sh.arg : Sh → List AV → AV
 | .unit, l => .agg l
 | .pair .., l => .agg l
 | _, l => l.headD .nilp
def IsArgs (H : AHeap) : List Sh → List (List AV) → Prop
 | [], [] => True
 | s :: ss, l :: ls => IsC H s l ∧ IsArgs H ss ls
 | _, _ => False
def argsOf : List Sh → List (List AV) → List AV
 | s :: ss, l :: ls => s.arg l :: argsOf ss ls
 | _, _ => []
def shTs (P : Program) (k : Nat) : List TypeId → Option (List Sh)
 | [] => some []
 | t :: ts => match shT P k t, shTs P k ts with
  | some s, some ss => some (s :: ss)
  | _, _ => none
theorem IsArgs.ext {m m' : Nat → Loc} {H H' : AHeap} (hw : H.wf) (E : Ext m H m' H') : ∀ {ss : List Sh} {ls : List (List AV)}, IsArgs H ss ls → IsArgs H' ss ls
 | [], [], _ => trivial
 | [], _ :: _, h => h
 | _ :: _, [], h => h
 | _ :: _, _ :: _, h => ⟨h.1.ext hw E, IsArgs.ext hw E h.2⟩
theorem shFields_agg {P : Program} {g : TypeId → Option Sh} {tot : Nat} : ∀ {fl : List Field} {off : Nat} {sh : Sh}, shFields P g tot off fl = some sh → ∀ l, sh.arg l = .agg l := by
 intro fl off sh h l
 cases fl with
 | nil => simp only [shFields] at h; split at h <;> cases h; rfl
 | cons f fl =>
  simp only [shFields] at h
  split at h
  · obtain ⟨a, b, _, _, h3⟩ := opt2_some h; cases h3; rfl
  · cases h
section
variable {H0 : Type} {enc : TypeId × Value → H0} {P : Program} {W : World}
theorem arg_conc {k : Nat} {t : TypeId} {sh : Sh} (h : shT P k t = some sh) {b : Nat} {v : Value} (hv : Value.okWide P W .any b t v) {m : Nat → Loc} {l : List AV} (hl : concL m ml0 l = v.cells.toList) {H : AHeap} (hc : IsC H sh l)
    {p : Nat → Nat → Prop} (hok : AV.okPL p l) (h1 : l.all AV.one = true) : conc m ml0 (sh.arg l) = v ∧ (sh.arg l).okP p := by
 cases k with
 | zero => cases h
 | succ k =>
  have agg : (∀ l, sh.arg l = .agg l) → (∃ cs, v = .agg cs) → conc m ml0 (sh.arg l) = v ∧ (sh.arg l).okP p := by
   rintro ha ⟨cs, rfl⟩
   rw [ha]
   refine ⟨?_, hok, h1⟩
   simp only [conc, hl, Value.cells]
  have one : ∀ x, l = [x] → sh.arg l = x → v.cells = #[v] → conc m ml0 (sh.arg l) = v ∧ (sh.arg l).okP p := by
   rintro x rfl ha hvc
   rw [ha]
   refine ⟨?_, hok.1⟩
   rw [hvc] at hl
   simpa [concL] using hl
  simp only [shT] at h
  split at h
  · rename_i hu; cases h
    obtain ⟨c, rfl⟩ := okWide_bool hu hv
    obtain ⟨b, rfl⟩ := hc
    exact one _ rfl rfl rfl
  · rename_i i hu; cases h
    obtain ⟨c, rfl⟩ := okWide_int hu hv
    obtain ⟨b, rfl, _⟩ := hc
    exact one _ rfl rfl rfl
  · rename_i hu; cases h
    obtain ⟨c, rfl⟩ := okWide_string hu hv
    obtain ⟨b, rfl, _⟩ := hc
    exact one _ rfl rfl rfl
  · rename_i e hu
    split at h
    · cases h
    · cases hs : shT P k e with
      | none => simp [hs] at h
      | some se =>
       simp [hs] at h; subst h
       obtain ⟨a, len, cap, rfl⟩ := okWide_slice hu hv
       obtain ⟨b, rows, rfl, _⟩ := hc
       exact one _ rfl rfl rfl
  · rename_i fs hu
    refine agg (shFields_agg h) ?_
    unfold Value.okWide at hv
    rw [hu] at hv
    obtain ⟨cs, h, _⟩ := hv
    exact ⟨cs, h⟩
  · rename_i n e hu
    split at h
    · cases hs : shT P k e with
      | none => simp [hs] at h
      | some se =>
       simp [hs] at h; subst h
       refine agg (fun l => by cases n <;> rfl) ?_
       unfold Value.okWide at hv
       rw [hu] at hv
       obtain ⟨cs, h, _⟩ := hv
       exact ⟨cs, h⟩
    · cases h
  · cases h
theorem open_args {k : Nat} {b : Nat} : ∀ (ts : List TypeId) (vs : List Value) (ds : List (DataW H0)) (ps : List MemPlace) (ss : List Sh), DataW.TrodAll enc P W 0 (fun _ => true) true ts vs ds ps → shTs P k ts = some ss →
    (∀ (j : Nat) t v, ts[j]? = some t → vs[j]? = some v → Value.okWide P W .any b t v) → (∀ n ∈ DataW.weightsEach P ts ds, n ≤ reachBytes) → ∀ (m : Nat → Loc) (H : AHeap), RoSim m H W →
    ∃ (m' : Nat → Loc) (H' : AHeap) (ls : List (List AV)), RoSim m' H' W ∧ Ext m H m' H' ∧ concL m' ml0 (argsOf ss ls) = vs ∧ IsArgs H' ss ls ∧ AV.okPL (good m' H'.n) (argsOf ss ls) := by
 intro ts
 induction ts with
 | nil =>
  intro vs ds ps ss h hs _ _ m H S
  simp [shTs] at hs; subst hs
  obtain ⟨rfl, rfl, rfl⟩ := trodAll_nil h
  exact ⟨m, H, [], S, .refl .., rfl, trivial, trivial⟩
 | cons t ts ih =>
  intro vs ds ps ss h hs hok hwt m H S
  simp only [shTs] at hs
  split at hs
  · rename_i s ss' h1 h2
    cases hs
    obtain ⟨v, vs', d, ds', p, q, rfl, rfl, rfl, ⟨fuel, hd⟩, hr⟩ := trodAll_cons h
    have w1 : ∀ n ∈ d.weights P t, n ≤ reachBytes := fun n hn => hwt n (by simp [DataW.weightsEach, hn])
    obtain ⟨m1, H1, l, S1, E1, c1, i1, o1, n1⟩ := opens_sh k t s h1 fuel v.cells.toList _ hd w1 m H S
    obtain ⟨m2, H2, ls, S2, E2, c2, i2, o2⟩ := ih vs' ds' q ss' hr h2 (fun j t v hj hv => hok (j + 1) t v (by simpa using hj) (by simpa using hv)) (fun n hn => hwt n (by simp [DataW.weightsEach, hn])) m1 H1 S1
    have a1 := arg_conc h1 (hok 0 t v rfl rfl) (by rw [E2.conc o1, c1] : concL m2 ml0 l = v.cells.toList) (i1.ext S1.wf E2) (E2.okPL o1) n1
    exact ⟨m2, H2, l :: ls, S2, E1.trans E2, by simp [argsOf, concL, a1.1, c2], ⟨i1.ext S1.wf E2, i2⟩, ⟨a1.2, o2⟩⟩
  · cases hs
theorem below_of_grow {m m' : Nat → Loc} {H H' : AHeap} {W W' : World} (S : RoSim m H W) (G : Grow m ml0 [] H W m' ml0 [] H' W') : Below W.heap.size W W' :=
 ⟨G.os, G.tape, G.output, G.size, fun b hb => G.keep b hb (fun id hid => absurd hid (S.noOwned id)) (fun t c h => by simp [look] at h)⟩
theorem call_trip {T : FuncId → Option FnDef} (hm : P.follows .mixedOrders = true) (hT : TableOk P T) {f : FuncId} {F : FnIR} (hf : f < yieldF) (hF : T f = some (.ir F)) {args : List AV} {H H' : AHeap} {v : AV} (h : call T f args H = some (v, H')) : ATrip P f args H v H' := by
 obtain ⟨n, hn⟩ := call_iff.1 h
 cases n with
 | zero => simp [evF] at hn
 | succ n =>
  have hd : ¬ deferF ≤ f := fun h => absurd (Nat.lt_of_lt_of_le hf (Nat.le_trans (show yieldF ≤ deferF by decide) h)) (Nat.lt_irrefl _)
  rw [evF] at hn
  simp only [if_neg (Nat.ne_of_lt hf), if_neg hd, hF] at hn
  exact runF_sound hm (evF_sound hm hT n) (hT f _ hF) hn
def noH : AHeap := { t := .leaf, n := 0, low := 0 }
def Law (T : FuncId → Option FnDef) (f : FuncId) (ss : List Sh) : Prop := ∀ (H : AHeap) (ls : List (List AV)), H.wf → H.low = 0 → IsArgs H ss ls → ∃ H', call T f (argsOf ss ls) H = some (.bool true, H')
def LawP (P : Program) (f : FuncId) (ss : List Sh) : Prop := ∀ (H : AHeap) (ls : List (List AV)), H.wf → H.low = 0 → IsArgs H ss ls → ∃ H', ATrip P f (argsOf ss ls) H (.bool true) H'
theorem Law.trip {T : FuncId → Option FnDef} (hm : P.follows .mixedOrders = true) (hT : TableOk P T) {f : FuncId} {F : FnIR} (hf : f < yieldF) (hF : T f = some (.ir F)) {ss : List Sh} (law : Law T f ss) : LawP P f ss := fun H ls h1 h2 h3 => by
 obtain ⟨H', h⟩ := law H ls h1 h2 h3
 exact ⟨H', call_trip hm hT hf hF h⟩
theorem law_calls {f : FuncId} {ss : List Sh} (law : LawP P f ss) {k b : Nat} {ts : List TypeId} (hs : shTs P k ts = some ss)
    {args : Array Value} {ds : List (DataW H0)} {ps : List MemPlace} (hA : DataW.TrodAll enc P W 0 (fun _ => true) true ts args.toList ds ps) (hval : ∀ (j : Nat) t v, ts[j]? = some t → args[j]? = some v → Value.okWide P W .any b t v)
    (hwt : ∀ n ∈ DataW.weightsEach P ts ds, n ≤ reachBytes) : Calls P f args W fun e W' => e = .returned (.bool true) ∧ Below W.heap.size W W' := by
 obtain ⟨m, H, ls, S, E, c, i, o⟩ := open_args ts args.toList ds ps ss hA hs (fun j t v hj hv => hval j t v hj (by simpa using hv)) hwt (fun _ => ⟨0, 0, 0⟩) noH ⟨fun i => by simp [AHeap.get, noH, getP_nil_leaf, path], fun id o h => by simp [AHeap.get, noH, getP_nil_leaf] at h⟩
 obtain ⟨H', hH⟩ := law H ls S.wf E.low i
 obtain ⟨_, _, hc⟩ := hH
 have := hc m W S.sim (fun v hv => (okPL_iff _ _).1 o v hv)
 rw [c] at this
 refine (this.mono ?_)
 rintro e W' ⟨u, rfl, m', rfl, _, G, _⟩
 exact ⟨by simp [conc], below_of_grow S G⟩
theorem trodAll_below (hl : laidOutB P = true) {W' : World} (hb : Below W.heap.size W W') : ∀ {ts : List TypeId} {vs : List Value} {ds : List (DataW H0)} {ps : List MemPlace}, (ts.all fun t => P.readableRec t && decide (t < P.types.size)) = true →
    DataW.TrodAll enc P W 0 (fun _ => true) true ts vs ds ps → (∀ x ∈ ps, x.block < W.heap.size) → DataW.TrodAll enc P W' 0 (fun b => decide (b < W.heap.size)) true ts vs ds ps
 | [], [], [], _, _, h, _ => h
 | [], _ :: _, _, _, _, h, _ => h.elim
 | [], [], _ :: _, _, _, h, _ => h.elim
 | _ :: _, [], _, _, _, h, _ => h.elim
 | _ :: _, _ :: _, [], _, _, h, _ => h.elim
 | t :: ts, v :: vs, d :: ds, ps, hr, ⟨p, q, h, hs, e⟩, hlt => by
  subst e
  simp only [List.all_cons, Bool.and_eq_true, decide_eq_true_eq] at hr
  exact ⟨p, q, Below.trod hl hr.1.1 hr.1.2 h hb (fun x hx => hlt x (by simp [hx])), trodAll_below hl hb hr.2 hs (fun x hx => hlt x (by simp [hx])), rfl⟩
theorem law_contractP {C : Checked} {f : FuncId} {fn : Func} {ss : List Sh} (law : LawP C.prog f ss) {k : Nat} (hs : shTs C.prog k fn.params.toList = some ss)
    (laid : laidOutB C.prog = true) (hr : (fn.params.toList.all fun t => C.prog.readableRec t && decide (t < C.prog.types.size)) = true) {rt : TypeId} (hrt : fn.resultTypes = #[rt]) (hru : C.prog.underlying rt = some .bool) {s : ChangeSpec} (hvars : s.vars = [])
    (hvt : s.plain.varTypes C.prog = []) (hspec : ∀ ds : List (DataW H0), ds.length = fn.params.size → s.fn H0 ds = { results := [.lit (.bool true)], args := ds }) {conds : List PathCond} {a : Assume} :
    ∀ (W : World) (base : Nat) (args : Array Value) (ds gs : List (DataW H0)) (before : List MemPlace),
     (∀ (j : Nat) t v, fn.params[j]? = some t → args[j]? = some v → Value.okWide C.prog W .any base t v) →
     DataW.Whole enc C.prog fn.params.toList s.vars false W args.toList ds gs before →
     conds.all (PathCond.test C.prog ⟨fn.params.toList, ds, s.plain.varTypes C.prog, gs⟩) = true →
     (DataW.weightsEach C.prog (fn.params.toList ++ s.plain.varTypes C.prog) (ds ++ gs)).all (· ≤ reachBytes) = true →
     a.holds C.prog (lone (Frame.enter C.prog f args .normal) [] W) →
     Calls C.prog f args W fun e W' => ∃ v, e = .returned v ∧ s.post enc C.prog fn false true false false W args v W' := by
 intro W base args ds gs before hval hW _ hsz _
 have hW' := hW
 obtain ⟨p, q, hA, hV, rfl, hfz, hnd⟩ := hW
 rw [hvars] at hV
 obtain ⟨rfl, rfl⟩ := trodVars_none hV
 rw [hvt, List.append_nil, List.append_nil] at hsz
 refine (law_calls law hs hA (fun j t v hj hv => hval j t v (by simpa using hj) hv) (fun n hn => by simpa using List.all_eq_true.1 hsz n hn)).mono ?_
 rintro e W' ⟨rfl, bel⟩
 have hlen : ds.length = fn.params.size := by
  have : ∀ {ts : List TypeId} {vs : List Value} {ds : List (DataW H0)} {ps : List MemPlace}, DataW.TrodAll enc C.prog W 0 (fun _ => true) true ts vs ds ps → ds.length = ts.length := by
   intro ts
   induction ts with
   | nil => intro vs ds ps h; obtain ⟨_, rfl, _⟩ := trodAll_nil h; rfl
   | cons t ts ih => intro vs ds ps h; obtain ⟨v, vs', d, ds', p, q, rfl, rfl, rfl, _, hr⟩ := trodAll_cons h; simp [ih hr]
  simpa using this hA
 have hsp := hspec ds hlen
 refine ⟨_, rfl, ds, [], _, [], p, [], hW', ?_, ?_, ?_, bel.frame _, fun h => by cases h⟩
 · rw [List.append_nil, hsp, hrt]
   exact trodAll_mk1 (shut_bool hru _)
 · rw [List.append_nil, hsp]
   exact trodAll_below laid bel hr hA hA.lt
 · rw [List.append_nil, hsp, hvars]
   rfl
end
theorem args1 {H : AHeap} {a : Sh} {ls : List (List AV)} (h : IsArgs H [a] ls) : ∃ x, ls = [x] ∧ IsC H a x := by
 match ls, h with
 | [x], ⟨h1, _⟩ => exact ⟨x, rfl, h1⟩
def FitsD (P : Program) (f : FuncId) : FnDef → Prop
 | .ir F => FnFits P f F
 | .prim g => ∀ args H v H', g args H = some (v, H') → ATrip P f args H v H'
 | .ext g => ∀ args H v H', g args H = some (v, H') → ETrip P f args H v H'
def AllFit (P : Program) : List (Nat × FnDef) → Prop
 | [] => True
 | e :: r => FitsD P e.1 e.2 ∧ AllFit P r
theorem tableOk {P : Program} {t : List (Nat × FnDef)} (h : AllFit P t) : TableOk P (fun f => look f t) := by
 intro f d hd
 induction t with
 | nil => cases hd
 | cons e t ih =>
  obtain ⟨k, x⟩ := e
  simp only [look] at hd
  split at hd
  · rename_i e; subst e; cases hd
    have := h.1
    cases d <;> exact this
  · exact ih h.2 hd
end Go.Wam
set_option linter.unusedVariables false
set_option linter.unusedSimpArgs false
namespace Go.Wam
theorem setP_setP (x y : AObj) : ∀ (p : List Bool) (t : Tr), setP y p (setP x p t) = setP y p t
 | [], .leaf => rfl
 | [], .node .. => rfl
 | true :: p, .leaf => by simp only [setP]; rw [setP_setP x y p]
 | true :: p, .node .. => by simp only [setP]; rw [setP_setP x y p]
 | false :: p, .leaf => by simp only [setP]; rw [setP_setP x y p]
 | false :: p, .node .. => by simp only [setP]; rw [setP_setP x y p]
theorem setP_comm (x y : AObj) : ∀ (p q : List Bool) (t : Tr), p ≠ q → setP y q (setP x p t) = setP x p (setP y q t)
 | [], [], _, h => absurd rfl h
 | [], true :: q, .leaf, _ => rfl
 | [], false :: q, .leaf, _ => rfl
 | [], true :: q, .node .., _ => rfl
 | [], false :: q, .node .., _ => rfl
 | true :: p, [], .leaf, _ => rfl
 | false :: p, [], .leaf, _ => rfl
 | true :: p, [], .node .., _ => rfl
 | false :: p, [], .node .., _ => rfl
 | true :: p, false :: q, .leaf, _ => rfl
 | false :: p, true :: q, .leaf, _ => rfl
 | true :: p, false :: q, .node .., _ => rfl
 | false :: p, true :: q, .node .., _ => rfl
 | true :: p, true :: q, .leaf, h => by simp only [setP]; rw [setP_comm x y p q _ fun e => h (by rw [e])]
 | true :: p, true :: q, .node .., h => by simp only [setP]; rw [setP_comm x y p q _ fun e => h (by rw [e])]
 | false :: p, false :: q, .leaf, h => by simp only [setP]; rw [setP_comm x y p q _ fun e => h (by rw [e])]
 | false :: p, false :: q, .node .., h => by simp only [setP]; rw [setP_comm x y p q _ fun e => h (by rw [e])]
def AHeap.top (H : AHeap) : AHeap := { t := H.t, n := H.n, low := H.n, dfs := [] }
@[simp] theorem mk_top (H : AHeap) : ({ t := H.t, n := H.n, low := H.n, dfs := [] } : AHeap) = H.top := rfl
@[simp] theorem top_dfs (H : AHeap) : H.top.dfs = [] := rfl
@[simp] theorem top_n (H : AHeap) : H.top.n = H.n := rfl
@[simp] theorem top_low (H : AHeap) : H.top.low = H.n := rfl
@[simp] theorem top_get (H : AHeap) (i : Nat) : H.top.get i = H.get i := by simp only [AHeap.get, AHeap.top]
@[simp] theorem top_top (H : AHeap) : H.top.top = H.top := rfl
theorem top_wf {H : AHeap} (h : H.wf) : H.top.wf := fun i => by rw [top_get]; exact h i
@[simp] theorem get_alloc_same (H : AHeap) (x : AObj) : (H.alloc x).get H.n = some x := by rw [AHeap.get_alloc, if_pos rfl]
theorem get_alloc_lt (H : AHeap) (x : AObj) {j : Nat} (h : j < H.n) : (H.alloc x).get j = H.get j := by rw [AHeap.get_alloc, if_neg (by omega)]
theorem get_alloc_ne (H : AHeap) (x : AObj) {j : Nat} (h : j ≠ H.n) : (H.alloc x).get j = H.get j := by rw [AHeap.get_alloc, if_neg h]
theorem AHeap.set_low (H : AHeap) (i : Nat) (x : AObj) : (H.set i x).low = if i < H.low then i else H.low := rfl
@[simp] theorem set_set (H : AHeap) (i : Nat) (x y : AObj) : (H.set i x).set i y = H.set i y := by
 simp only [AHeap.set, AHeap.mk.injEq, true_and, and_true]
 constructor
 · split
   · exact setP_setP ..
   · rfl
 · split <;> simp_all
theorem AHeap.eq {A B : AHeap} (h1 : A.t = B.t) (h2 : A.n = B.n) (h3 : A.low = B.low) (h4 : A.dfs = B.dfs := by rfl) : A = B := by
 cases A; cases B; simp_all
theorem set_alloc_same (H : AHeap) (x y : AObj) (h : H.low ≤ H.n) : (H.alloc x).set H.n y = H.alloc y := by
 refine AHeap.eq ?_ rfl ?_
 · simp only [AHeap.set, AHeap.alloc, Nat.lt_succ_self, if_true]; exact setP_setP ..
 · exact if_neg (by omega : ¬ H.n < H.low)
@[simp] theorem top_alloc_get (H : AHeap) (x : AObj) : (H.top.alloc x).get H.n = some x := get_alloc_same H.top x
@[simp] theorem top_alloc_set (H : AHeap) (x y : AObj) : (H.top.alloc x).set H.n y = H.top.alloc y := set_alloc_same H.top x y (Nat.le_refl _)
theorem fin_pure {H : AHeap} {v : AV} (h : v.okB H.n = true) : fin H v H.top = H := by simp [fin, h]
theorem fin_drop {H : AHeap} {v : AV} {x : AObj} (hv : v.okB H.n = true) : fin H v (H.top.alloc x) = H := by
 unfold fin
 rw [if_pos ⟨by simp, hv⟩]
theorem wrap_id {n : Int} (h : -9223372036854775808 ≤ n) (h' : n ≤ 9223372036854775807) : IntKind.i64.wrap n = n := by
 simp only [IntKind.wrap, IntKind.bits, IntKind.signed]
 simp
 split <;> omega
theorem ibeq (a b : Int) : (a == b) = decide (a = b) := by by_cases h : a = b <;> simp [h]
theorem ibne (a b : Int) : (a != b) = !decide (a = b) := by by_cases h : a = b <;> simp [h]
theorem i_add (e : EqT) (k : IntKind) (a b : Int) : binA .add e (.int k a) (.int k b) = some (.int k (k.wrap (a + b))) := by simp [binA, intOp]
theorem i_sub (e : EqT) (k : IntKind) (a b : Int) : binA .sub e (.int k a) (.int k b) = some (.int k (k.wrap (a - b))) := by simp [binA, intOp]
theorem i_mul (e : EqT) (k : IntKind) (a b : Int) : binA .mul e (.int k a) (.int k b) = some (.int k (k.wrap (a * b))) := by simp [binA, intOp]
theorem i_lss (e : EqT) (k : IntKind) (a b : Int) : binA .lss e (.int k a) (.int k b) = some (.bool (decide (a < b))) := by simp [binA, intOp]
theorem i_leq (e : EqT) (k : IntKind) (a b : Int) : binA .leq e (.int k a) (.int k b) = some (.bool (decide (a ≤ b))) := by simp [binA, intOp]
theorem i_gtr (e : EqT) (k : IntKind) (a b : Int) : binA .gtr e (.int k a) (.int k b) = some (.bool (decide (b < a))) := by simp [binA, intOp]
theorem i_geq (e : EqT) (k : IntKind) (a b : Int) : binA .geq e (.int k a) (.int k b) = some (.bool (decide (b ≤ a))) := by simp [binA, intOp]
theorem i_quo (e : EqT) (k : IntKind) (a b : Int) : binA .quo e (.int k a) (.int k b) = if b = 0 then none else some (.int k (k.wrap (a.tdiv b))) := by simp [binA, intOp]
theorem i_rem (e : EqT) (k : IntKind) (a b : Int) : binA .rem e (.int k a) (.int k b) = if b = 0 then none else some (.int k (a.tmod b)) := by simp [binA, intOp]
theorem i_eql (e : EqT) (k : IntKind) (a b : Int) : binA .eql e (.int k a) (.int k b) = some (.bool (decide (a = b))) := by simp [binA, intOp, ibeq]
theorem i_neq (e : EqT) (k : IntKind) (a b : Int) : binA .neq e (.int k a) (.int k b) = some (.bool !decide (a = b)) := by simp [binA, intOp, ibne]
theorem s_eql (e : EqT) (a b : List UInt8) : binA .eql e (.str a) (.str b) = strOp .eql a b := rfl
theorem s_neq (e : EqT) (a b : List UInt8) : binA .neq e (.str a) (.str b) = strOp .neq a b := rfl
theorem s_lss (e : EqT) (a b : List UInt8) : binA .lss e (.str a) (.str b) = strOp .lss a b := rfl
theorem s_leq (e : EqT) (a b : List UInt8) : binA .leq e (.str a) (.str b) = strOp .leq a b := rfl
theorem s_gtr (e : EqT) (a b : List UInt8) : binA .gtr e (.str a) (.str b) = strOp .gtr a b := rfl
theorem s_geq (e : EqT) (a b : List UInt8) : binA .geq e (.str a) (.str b) = strOp .geq a b := rfl
theorem s_add (e : EqT) (a b : List UInt8) : binA .add e (.str a) (.str b) = strOp .add a b := rfl
theorem e_bool (e : EqT) (x : Bool) (y : AV) : binA .eql e (.bool x) y = (aeq e (.bool x) y).map .bool := rfl
theorem n_bool (e : EqT) (x : Bool) (y : AV) : binA .neq e (.bool x) y = (aeq e (.bool x) y).map fun b => .bool !b := rfl
theorem e_nilp (e : EqT) (y : AV) : binA .eql e (.nilp) y = (aeq e (.nilp) y).map .bool := rfl
theorem n_nilp (e : EqT) (y : AV) : binA .neq e (.nilp) y = (aeq e (.nilp) y).map fun b => .bool !b := rfl
theorem e_ptr (e : EqT) (i o : Nat) (y : AV) : binA .eql e (.ptr i o) y = (aeq e (.ptr i o) y).map .bool := rfl
theorem n_ptr (e : EqT) (i o : Nat) (y : AV) : binA .neq e (.ptr i o) y = (aeq e (.ptr i o) y).map fun b => .bool !b := rfl
theorem e_lptr (e : EqT) (i o : Nat) (y : AV) : binA .eql e (.lptr i o) y = (aeq e (.lptr i o) y).map .bool := rfl
theorem n_lptr (e : EqT) (i o : Nat) (y : AV) : binA .neq e (.lptr i o) y = (aeq e (.lptr i o) y).map fun b => .bool !b := rfl
theorem e_agg (e : EqT) (x : List AV) (y : AV) : binA .eql e (.agg x) y = (aeq e (.agg x) y).map .bool := rfl
theorem n_agg (e : EqT) (x : List AV) (y : AV) : binA .neq e (.agg x) y = (aeq e (.agg x) y).map fun b => .bool !b := rfl
theorem e_nils (e : EqT) (y : AV) : binA .eql e (.nils) y = (aeq e (.nils) y).map .bool := rfl
theorem n_nils (e : EqT) (y : AV) : binA .neq e (.nils) y = (aeq e (.nils) y).map fun b => .bool !b := rfl
theorem e_slice (e : EqT) (a b c d : Nat) (y : AV) : binA .eql e (.slice a b c d) y = (aeq e (.slice a b c d) y).map .bool := rfl
theorem n_slice (e : EqT) (a b c d : Nat) (y : AV) : binA .neq e (.slice a b c d) y = (aeq e (.slice a b c d) y).map fun b => .bool !b := rfl
theorem e_oslice (e : EqT) (a b c k d : Nat) (y : AV) : binA .eql e (.oslice a b c k d) y = (aeq e (.oslice a b c k d) y).map .bool := rfl
theorem n_oslice (e : EqT) (a b c k d : Nat) (y : AV) : binA .neq e (.oslice a b c k d) y = (aeq e (.oslice a b c k d) y).map fun b => .bool !b := rfl
theorem e_eslice (e : EqT) (a b c d : Nat) (y : AV) : binA .eql e (.eslice a b c d) y = (aeq e (.eslice a b c d) y).map .bool := rfl
theorem n_eslice (e : EqT) (a b c d : Nat) (y : AV) : binA .neq e (.eslice a b c d) y = (aeq e (.eslice a b c d) y).map fun b => .bool !b := rfl
theorem e_xslice (e : EqT) (a b : Nat) (c : Option Nat) (y : AV) : binA .eql e (.xslice a b c) y = (aeq e (.xslice a b c) y).map .bool := rfl
theorem n_xslice (e : EqT) (a b : Nat) (c : Option Nat) (y : AV) : binA .neq e (.xslice a b c) y = (aeq e (.xslice a b c) y).map fun b => .bool !b := rfl
theorem e_nilm (e : EqT) (y : AV) : binA .eql e (.nilm) y = (aeq e (.nilm) y).map .bool := rfl
theorem n_nilm (e : EqT) (y : AV) : binA .neq e (.nilm) y = (aeq e (.nilm) y).map fun b => .bool !b := rfl
theorem e_map (e : EqT) (a : Nat) (y : AV) : binA .eql e (.map a) y = (aeq e (.map a) y).map .bool := rfl
theorem n_map (e : EqT) (a : Nat) (y : AV) : binA .neq e (.map a) y = (aeq e (.map a) y).map fun b => .bool !b := rfl
theorem e_nilFunc (e : EqT) (y : AV) : binA .eql e (.nilFunc) y = (aeq e (.nilFunc) y).map .bool := rfl
theorem n_nilFunc (e : EqT) (y : AV) : binA .neq e (.nilFunc) y = (aeq e (.nilFunc) y).map fun b => .bool !b := rfl
theorem e_func (e : EqT) (f : Fn) (a b : List AV) (y : AV) : binA .eql e (.func f a b) y = (aeq e (.func f a b) y).map .bool := rfl
theorem n_func (e : EqT) (f : Fn) (a b : List AV) (y : AV) : binA .neq e (.func f a b) y = (aeq e (.func f a b) y).map fun b => .bool !b := rfl
theorem q_int (k : IntKind) (a b : Int) : aeq .int (.int k a) (.int k b) = some (decide (a = b)) := by simp [aeq, ibeq]
theorem q_bool (a b : Bool) : aeq .bool (.bool a) (.bool b) = some (a == b) := by rw [aeq]
theorem q_str (a b : List UInt8) : aeq .str (.str a) (.str b) = some (a == b) := by rw [aeq]
theorem q_struct (fs : List (Nat × Bool × Nat × EqT)) (a b : List AV) : aeq (.struct fs) (.agg a) (.agg b) = aeqF fs a b := by rw [aeq]
theorem q_ptr0 : aeq .ptr .nilp .nilp = some true := by rw [aeq]
theorem q_ptrL0 (i o : Nat) : aeq .ptr .nilp (.ptr i o) = some false := by rw [aeq]
theorem q_ptrR0 (i o : Nat) : aeq .ptr (.ptr i o) .nilp = some false := by rw [aeq]
theorem q_ptrL1 (i o : Nat) : aeq .ptr .nilp (.lptr i o) = some false := by rw [aeq]
theorem q_ptrR1 (i o : Nat) : aeq .ptr (.lptr i o) .nilp = some false := by rw [aeq]
theorem q_slice0 : aeq .slice .nils .nils = some true := by rw [aeq]
theorem q_sliceL0 (a b c d : Nat) : aeq .slice .nils (.slice a b c d) = some false := by rw [aeq]
theorem q_sliceR0 (a b c d : Nat) : aeq .slice (.slice a b c d) .nils = some false := by rw [aeq]
theorem q_sliceL1 (a b c k d : Nat) : aeq .slice .nils (.oslice a b c k d) = some false := by rw [aeq]
theorem q_sliceR1 (a b c k d : Nat) : aeq .slice (.oslice a b c k d) .nils = some false := by rw [aeq]
theorem q_sliceL2 (a b c d : Nat) : aeq .slice .nils (.eslice a b c d) = some false := by rw [aeq]
theorem q_sliceR2 (a b c d : Nat) : aeq .slice (.eslice a b c d) .nils = some false := by rw [aeq]
theorem q_sliceL3 (a b : Nat) (c : Option Nat) : aeq .slice .nils (.xslice a b c) = some false := by rw [aeq]
theorem q_sliceR3 (a b : Nat) (c : Option Nat) : aeq .slice (.xslice a b c) .nils = some false := by rw [aeq]
theorem q_map0 : aeq .map .nilm .nilm = some true := by rw [aeq]
theorem q_mapL0 (a : Nat) : aeq .map .nilm (.map a) = some false := by rw [aeq]
theorem q_mapR0 (a : Nat) : aeq .map (.map a) .nilm = some false := by rw [aeq]
theorem q_func0 : aeq .func .nilFunc .nilFunc = some true := by rw [aeq]
theorem q_funcL0 (f : Fn) (a b : List AV) : aeq .func .nilFunc (.func f a b) = some false := by rw [aeq]
theorem q_funcR0 (f : Fn) (a b : List AV) : aeq .func (.func f a b) .nilFunc = some false := by rw [aeq]
def andA : Option Bool → Option Bool → Option Bool
 | some true, q => q
 | some false, _ => some false
 | none, _ => none
theorem andA_some (b q : Bool) : andA (some b) (some q) = some (b && q) := by cases b <;> rfl
theorem aeqF_nil (xs ys : List AV) : aeqF [] xs ys = some true := by rw [aeqF]
theorem aeqF_cons (off : Nat) (agg : Bool) (sz : Nat) (e : EqT) (r : List (Nat × Bool × Nat × EqT)) (xs ys : List AV) : aeqF ((off, agg, sz, e) :: r) xs ys = match rd agg sz off xs, rd agg sz off ys with
    | some x, some y => andA (aeq e x y) (aeqF r xs ys)
    | _, _ => none := by
 rw [aeqF]
 cases rd agg sz off xs with
 | none => rfl
 | some x =>
  cases rd agg sz off ys with
  | none => rfl
  | some y =>
   simp only
   cases aeq e x y with
   | none => rfl
   | some b => cases b <;> rfl
theorem goOn_normal (s : St) (k : St → Option (AExit × St)) : goOn (.normal, s) k = k s := rfl
theorem goOn_exit (i : Nat) (s : St) (k : St → Option (AExit × St)) : goOn (.exit i, s) k = some (.exit i, s) := rfl
theorem goOn_ret (s : St) (k : St → Option (AExit × St)) : goOn (.ret, s) k = some (.ret, s) := rfl
theorem outBlock_normal (i : Nat) (s : St) : outBlock i (.normal, s) = (.normal, s) := rfl
theorem outBlock_exit (i j : Nat) (s : St) : outBlock i (.exit j, s) = if j = i then (.normal, s) else (.exit j, s) := rfl
theorem outBlock_ret (i : Nat) (s : St) : outBlock i (.ret, s) = (.ret, s) := rfl
@[simp] theorem okB_bool (n : Nat) (b : Bool) : (AV.bool b).okB n = true := by rw [AV.okB] <;> simp
@[simp] theorem okB_int (n : Nat) (k : IntKind) (i : Int) : (AV.int k i).okB n = true := by rw [AV.okB] <;> simp
@[simp] theorem okB_str (n : Nat) (l : List UInt8) : (AV.str l).okB n = true := by rw [AV.okB] <;> simp
@[simp] theorem okB_nilp (n : Nat) : AV.nilp.okB n = true := by rw [AV.okB] <;> simp
@[simp] theorem okB_nils (n : Nat) : AV.nils.okB n = true := by rw [AV.okB] <;> simp
@[simp] theorem okB_ptr (n i o : Nat) : (AV.ptr i o).okB n = decide (i < n) := by rw [AV.okB]
@[simp] theorem okB_agg (n : Nat) (cs : List AV) : (AV.agg cs).okB n = (AV.okL n cs && cs.all AV.one) := by rw [AV.okB]
@[simp] theorem okB_tuple (n : Nat) (cs : List AV) : (AV.tuple cs).okB n = AV.okL n cs := by rw [AV.okB]
@[simp] theorem okB_undefA (n : Nat) : undefA.okB n = true := by simp [undefA, AV.okB, AV.okL]
@[simp] theorem okL_nil (n : Nat) : AV.okL n [] = true := by rw [AV.okL]
@[simp] theorem okL_cons (n : Nat) (v : AV) (vs : List AV) : AV.okL n (v :: vs) = (v.okB n && AV.okL n vs) := by rw [AV.okL]
def leaveR (rs : List RV) (H0 : AHeap) (r : AExit × St) : Option (AV × AHeap) := leave0 ⟨0, 0, rs, [], .skip⟩ H0 r
theorem leaveR_ret (rs : List RV) (H0 : AHeap) (s : St) : leaveR rs H0 (.ret, s) = match rvs s rs with
    | some vs => if allNoL vs then some (packA vs, fin H0 (packA vs) s.H) else none
    | none => none := Eq.trans rfl rfl
theorem leaveR_normal (rs : List RV) (H0 : AHeap) (s : St) : leaveR rs H0 (.normal, s) = match rvs s rs with
    | some vs => if allNoL vs then some (packA vs, fin H0 (packA vs) s.H) else none
    | none => none := Eq.trans rfl rfl
def CDfs (C : CallF) : Prop := ∀ g args H v H', C g args H = some (v, H') → H'.dfs = H.dfs
theorem callR_dfs {C : CallF} (hC : CDfs C) {g : AV} {vs : List AV} {H H' : AHeap} {v : AV} (h : callR C g vs H = some (v, H')) : H'.dfs = H.dfs := by
 unfold callR at h
 split at h
 · split at h
   · exact hC _ _ _ _ _ h
   · cases h
 · split at h
   · exact hC _ _ _ _ _ h
   · cases h
 · cases h
theorem stepOp_dfs {C : CallF} (hC : CDfs C) {o : IOper} (hp : plainOp o.op = true) {s s' : St} (h : stepOp C o s = some s') : s'.H.dfs = s.H.dfs := by
 obtain ⟨v, _, h⟩ := stepOp_cases h
 rcases h with ⟨_, _, _, b⟩ | ⟨_, h⟩
 · rw [b]
 · rcases h with ⟨f, args, g, vs, hop, _, _, hc, _⟩ | ⟨_, he⟩
   · exact callR_dfs hC hc
   · exact (evOp_shape' he).2.2.2.2 hp
theorem stepOps_dfs {C : CallF} (hC : CDfs C) : ∀ {os : List IOper} {s s' : St}, (os.all fun o => plainOp o.op) = true → stepOps C os s = some s' → s'.H.dfs = s.H.dfs := by
 intro os
 induction os with
 | nil => intro s s' _ h; cases h; rfl
 | cons o os ih =>
  intro s s' hp h
  simp only [List.all_cons, Bool.and_eq_true] at hp
  simp only [stepOps] at h
  rw [Option.bind_eq_some_iff] at h
  obtain ⟨s1, h1, h2⟩ := h
  exact (ih hp.2 h2).trans (stepOp_dfs hC hp.1 h1)
theorem trace_dfs {C : CallF} (hC : CDfs C) : ∀ {os : List IOper} {s s' : St} {tr : List St}, (os.all fun o => plainOp o.op) = true → trace C os s = some tr → tr.getLast? = some s' → s'.H.dfs = s.H.dfs := by
 intro os
 induction os with
 | nil => intro s s' tr _ h hl; simp [trace] at h; subst h; simp at hl; subst hl; rfl
 | cons o os ih =>
  intro s s' tr hp h hl
  simp only [List.all_cons, Bool.and_eq_true] at hp
  simp only [trace] at h
  split at h
  · rename_i s1 hs
    cases ht : trace C os s1 with
    | none => simp [ht] at h
    | some t =>
     simp [ht] at h; subst h
     have hne : t ≠ [] := by
      intro e
      have := (trace_spec ht).1
      rw [e] at this; simp at this
     have hl' : t.getLast? = some s' := by
      rw [List.getLast?_cons] at hl
      cases htl : t.getLast? with
      | none => simp [List.getLast?_eq_none_iff] at htl; exact absurd htl hne
      | some x => rw [htl] at hl; simpa using hl
     exact (ih hp.2 ht hl').trans (stepOp_dfs hC hp.1 hs)
  · cases h
theorem cleanA_dfs {ks ls : List Nat} {r : Nat} {x y : AExit} {s s' : St} (h : cleanA ks ls r x s = some (y, s')) : s'.H.dfs = s.H.dfs := by
 unfold cleanA at h
 split at h <;> cases h
 rfl
theorem iter_dfs {f : St → Option (AExit × St)} (hf : ∀ s x s', f s = some (x, s') → s'.H.dfs = s.H.dfs) : ∀ n s x s', iter f n s = some (x, s') → s'.H.dfs = s.H.dfs := by
 intro n
 induction n with
 | zero => intro s x s' h; cases h
 | succ n ih =>
  intro s x s' h
  simp only [iter] at h
  split at h
  · rename_i s1 h1; exact (ih _ _ _ h).trans (hf _ _ _ h1)
  · exact hf _ _ _ h
theorem mapLoop_dfs {d0 d1 b : Nat} {it : Opd} {ks ls : List Nat} {f : St → Option (AExit × St)} (hf : ∀ s x s', f s = some (x, s') → s'.H.dfs = s.H.dfs) : ∀ n s x s', mapLoop d0 d1 it b ks ls f n s = some (x, s') → s'.H.dfs = s.H.dfs := by
 intro n
 induction n with
 | zero => intro s x s' h; simp [mapLoop] at h
 | succ n ih =>
  intro s x s' h
  simp only [mapLoop] at h
  split at h
  · split at h
    · rw [cleanA_dfs h]
    · split at h
      · split at h
        · split at h
          · rw [cleanA_dfs h]
          · split at h
            · rename_i q hq
              split at h
              · cases h
                split at hq
                · rename_i hfe; have h0 := hf _ _ _ hfe; simp only [AHeap.set_dfs] at h0; exact (ih _ _ _ hq).trans h0
                · rename_i hfe; have h0 := hf _ _ _ hfe; simp only [AHeap.set_dfs] at h0; rw [cleanA_dfs hq]; exact h0
                · cases hq
              · cases h
            · cases h
        · cases h
      · cases h
    · cases h
  · cases h
theorem evC_dfs {C : CallF} (hC : CDfs C) (n : Nat) : ∀ (c : IC) (s s' : St) (x : AExit), plainC c = true → evC C n c s = some (x, s') → s'.H.dfs = s.H.dfs := by
 intro c
 induction c with
 | skip | exit | ret => intro s s' x _ h; simp [evC] at h; rw [h.2]
 | region ops =>
  intro s s' x hp h
  simp only [evC] at h
  cases hs : stepOps C ops s with
  | none => simp [hs] at h
  | some s1 => simp [hs] at h; rw [← h.2]; exact stepOps_dfs hC hp hs
 | regionD ops checks =>
  intro s s' x hp h
  simp only [evC] at h
  cases hs : runD C ops checks s with
  | none => simp [hs] at h
  | some s1 =>
   simp [hs] at h; rw [← h.2]
   unfold runD at hs
   split at hs
   · rename_i tr ht
     split at hs
     · exact trace_dfs hC hp ht hs
     · cases hs
   · cases hs
 | seq a b iha ihb =>
  intro s s' x hp h
  simp only [plainC, Bool.and_eq_true] at hp
  simp only [evC] at h
  split at h
  · rename_i s1 he; exact (ihb _ _ _ hp.2 h).trans (iha _ _ _ hp.1 he)
  · exact iha _ _ _ hp.1 h
 | cond c a b iha ihb =>
  intro s s' x hp h
  simp only [plainC, Bool.and_eq_true] at hp
  simp only [evC] at h
  split at h
  · exact iha _ _ _ hp.1 h
  · exact ihb _ _ _ hp.2 h
  · cases h
 | block id b ih =>
  intro s s' x hp h
  simp only [plainC] at hp
  simp only [evC] at h
  split at h
  · rename_i j s1 he
    split at h <;> (cases h; exact ih _ _ _ hp he)
  · exact ih _ _ _ hp h
 | loop b ih =>
  intro s s' x hp h
  exact iter_dfs (fun s x s' h => ih s s' x hp h) n s x s' h
 | rangeF => intro s s' x hp; simp [plainC] at hp
 | mapR d0 d1 it b ks ls body ih =>
  intro s s' x hp h
  simp only [evC] at h
  exact mapLoop_dfs (fun s x s' h => ih s s' x hp h) n s x s' h
 | stuck => intro s s' x _ h; simp [evC] at h
 | keep ks ls c ih =>
  intro s s' x hp h
  simp only [evC] at h
  have := ih { s with env := prune ks s.env, loc := prune ls s.loc } _ _ hp h
  exact this
theorem evF_dfs {T : FuncId → Option FnDef} (n : Nat) : CDfs (evF T n) := by
 cases n with
 | zero => intro g args H v H' h; simp [evF] at h
 | succ n =>
  intro g args H v H' h
  simp only [evF] at h
  have lv : ∀ {F : FnIR} {q : AExit × St}, leaveA (evF T n) F H q = some (v, H') → H'.dfs = H.dfs := by
   intro F q h
   unfold leaveA at h
   split at h
   · cases h
   · rw [Option.bind_eq_some_iff] at h
     obtain ⟨H2, _, h⟩ := h
     split at h
     · split at h <;> cases h
       exact fin_dfs
     · cases h
  have ld : ∀ {F : FnIR} {q : AExit × St}, leaveD F H q = some (v, H') → H'.dfs = H.dfs := by
   intro F q h
   unfold leaveD at h
   split at h
   · cases h
   · split at h
     · split at h
       · split at h <;> cases h
         exact fin_dfs
       · cases h
     · cases h
  have ry : runY (evF T n) n args H = some (v, H') → H'.dfs = H.dfs := by
   intro h
   unfold runY at h
   split at h
   · split at h
     · split at h
       · split at h
         · split at h
           · rw [Option.bind_eq_some_iff] at h
             obtain ⟨q, _, h⟩ := h
             split at h
             · split at h
               · cases h; rfl
               · cases h
             · cases h
           · cases h
         · cases h
       · cases h
     · cases h
   · cases h
  split at h
  · exact ry h
  · split at h
    · split at h
      · unfold runFD at h
        split at h
        · rw [Option.bind_eq_some_iff] at h
          obtain ⟨q, _, h⟩ := h
          exact ld h
        · cases h
      · cases h
    · split at h
      · unfold runF at h
        split at h
        · rw [Option.bind_eq_some_iff] at h
          obtain ⟨q, _, h⟩ := h
          exact lv h
        · cases h
      · obtain ⟨H1, _, rfl⟩ := keepD_some h; rfl
      · split at h
        · cases h
        · obtain ⟨H1, _, rfl⟩ := keepD_some h; rfl
      · cases h
theorem call_dfs {T : FuncId → Option FnDef} {f : FuncId} {args : List AV} {H H' : AHeap} {v : AV} (h : call T f args H = some (v, H')) : H'.dfs = H.dfs := by
 obtain ⟨n, hn⟩ := call_iff.1 h
 exact evF_dfs n _ _ _ _ _ hn
theorem den_dfs {T : FuncId → Option FnDef} {c : IC} (hp : plainC c = true) {s s' : St} {x : AExit} (h : den T c s = some (x, s')) : s'.H.dfs = s.H.dfs := by
 obtain ⟨n, hn⟩ := den_iff.1 h
 exact evC_dfs (evF_dfs n) n c _ _ _ hp hn
theorem call_at {T : FuncId → Option FnDef} {f : FuncId} {nt na : Nat} {rs : List RV} {ls : List Nat} {b : IC} (hF : T f = some (.ir ⟨nt, na, rs, ls, b⟩)) (hf : f < yieldF) (hp : plainC b = true) (args : List AV) (H : AHeap) :
    call T f args H = if args.length = na then (den T b (enterA args H)).bind (leaveR rs H) else none := by
 rw [call_ir hF hf]
 show (if args.length = na then (den T b (enterA args H)).bind (leaveT T ⟨nt, na, rs, ls, b⟩ H) else none) = _
 split
 · cases hd : den T b (enterA args H) with
   | none => rfl
   | some q =>
    obtain ⟨x, s'⟩ := q
    simp only [Option.bind_some]
    rw [leaveT_0 (show s'.H.dfs = [] from (den_dfs hp hd).trans rfl)]
    rfl
 · rfl
def readOk (o : IOper) (s s' : St) : Bool := !isRead o.op || (match o.dst.bind (look · s'.env) with | some v => v.okB s.H.n | none => true)
noncomputable def sopsR (T : FuncId → Option FnDef) : List IOper → St → Option St
 | [], s => some s
 | o :: os, s => (stepOp (call T) o s).bind fun s' => if readOk o s s' then sopsR T os s' else none
theorem sopsR_nil {T : FuncId → Option FnDef} (s : St) : sopsR T [] s = some s := Eq.trans rfl rfl
def goR (o : IOper) (s : St) (k : St → Option St) (s' : St) : Option St := if readOk o s s' then k s' else none
theorem sopsR_cons {T : FuncId → Option FnDef} (o : IOper) (os : List IOper) (s : St) : sopsR T (o :: os) s = (stepOp (call T) o s).bind (goR o s (sopsR T os)) := Eq.trans rfl rfl
theorem goR_eq (o : IOper) (s : St) (k : St → Option St) (e : List (Nat × AV)) (l : List (Nat × List AV)) (H : AHeap) : goR o s k ⟨e, l, H⟩ = if readOk o s ⟨e, l, H⟩ then k ⟨e, l, H⟩ else none := Eq.trans rfl rfl
theorem trace_head {T : FuncId → Option FnDef} : ∀ (os : List IOper) (s : St) (tr : List St), traceT T os s = some tr → ∃ r, tr = s :: r := by
 intro os
 cases os with
 | nil => intro s tr h; rw [trace_nil] at h; cases h; exact ⟨[], rfl⟩
 | cons o os =>
  intro s tr h
  rw [trace_cons] at h
  cases hs : stepOp (call T) o s with
  | none => simp [hs] at h
  | some s' =>
   cases ht : traceT T os s' with
   | none => simp [hs, ht] at h
   | some t => simp [hs, ht] at h; exact ⟨t, h.symm⟩
theorem readsOk_cons (o : IOper) (os : List IOper) (s s' : St) (tr : List St) : readsOk (o :: os) (s :: s' :: tr) = (readOk o s s' && readsOk os (s' :: tr)) := rfl
theorem sopsR_eq {T : FuncId → Option FnDef} : ∀ (os : List IOper) (s : St), ((traceT T os s).bind fun tr => if readsOk os tr then tr.getLast? else none) = sopsR T os s := by
 intro os
 induction os with
 | nil => intro s; rw [trace_nil]; simp [readsOk, sopsR]
 | cons o os ih =>
  intro s
  rw [trace_cons]
  simp only [sopsR]
  cases hs : stepOp (call T) o s with
  | none => simp
  | some s' =>
   simp only [Option.bind_some]
   rw [← ih s']
   cases ht : traceT T os s' with
   | none => simp
   | some t =>
    obtain ⟨r, rfl⟩ := trace_head os s' t ht
    simp only [Option.map_some, Option.bind_some, readsOk_cons, List.getLast?_cons_cons]
    cases readOk o s s' <;> simp
theorem den_regionD0 {T : FuncId → Option FnDef} (os : List IOper) (s : St) : den T (.regionD os []) s = if freshD os s then (sopsR T os s).map fun s' => (.normal, s') else none := by
 rw [den_regionD, ← sopsR_eq]
 simp only [drawCond, List.all_nil, Bool.and_true]
 cases freshD os s with
 | false => simp
 | true =>
  cases traceT T os s with
  | none => simp
  | some tr =>
   simp only [Option.bind_some, Bool.true_and, if_true]
   split <;> simp
theorem den_regionD1 {T : FuncId → Option FnDef} (os : List IOper) (c : Nat × Nat) (cs : List (Nat × Nat)) (s : St) :
    den T (.regionD os (c :: cs)) s = (traceT T os s).bind fun tr => if drawCond os (c :: cs) s tr then (tr.getLast?).map fun s' => (.normal, s') else none := den_regionD os (c :: cs) s
end Go.Wam
set_option linter.unusedVariables false
set_option linter.unusedSimpArgs false
namespace Go.Wam
def AHeap.rdAt (H : AHeap) (id : Nat) (agg : Bool) (sz off : Nat) : Option AV :=
 match H.get id with
 | some (.row _ _ cells) => rd agg sz off cells
 | _ => none
theorem load_ptr (e : List (Nat × AV)) (l : List (Nat × List AV)) (H : AHeap) (agg : Bool) (sz id off : Nat) : loadA ⟨e, l, H⟩ agg sz (.ptr id off) = H.rdAt id agg sz off := rfl
theorem load_lptr (e : List (Nat × AV)) (l : List (Nat × List AV)) (H : AHeap) (agg : Bool) (sz t off : Nat) : loadA ⟨e, l, H⟩ agg sz (.lptr t off) = match look t l with
    | some cells => rd agg sz off cells
    | none => none := rfl
theorem rdAt_row {H : AHeap} {id : Nat} {ro : Bool} {e : Nat} {cells : List AV} (h : H.get id = some (.row ro e cells)) (agg : Bool) (sz off : Nat) : H.rdAt id agg sz off = rd agg sz off cells := by
 simp only [AHeap.rdAt, h]
theorem rdAt_congr {H K : AHeap} {id : Nat} (h : K.get id = H.get id) (agg : Bool) (sz off : Nat) : K.rdAt id agg sz off = H.rdAt id agg sz off := by
 simp only [AHeap.rdAt, h]
@[simp] theorem rdAt_top (H : AHeap) (id : Nat) (agg : Bool) (sz off : Nat) : H.top.rdAt id agg sz off = H.rdAt id agg sz off := rfl
@[simp] theorem rdAt_alloc_same (H : AHeap) (ro : Bool) (e : Nat) (cells : List AV) (agg : Bool) (sz off : Nat) : (H.alloc (.row ro e cells)).rdAt H.n agg sz off = rd agg sz off cells := rdAt_row (get_alloc_same H _) ..
theorem rdAt_alloc_ne (H : AHeap) (x : AObj) {j : Nat} (h : j ≠ H.n) (agg : Bool) (sz off : Nat) : (H.alloc x).rdAt j agg sz off = H.rdAt j agg sz off := rdAt_congr (get_alloc_ne H x h) ..
theorem get_set_ne (H : AHeap) (x : AObj) {i j : Nat} (h : j ≠ i) : (H.set i x).get j = H.get j := by
 simp only [AHeap.get, AHeap.set]
 split
 · rw [getP_setP, if_neg fun e => h (path_inj e)]
 · rfl
theorem get_set_same (H : AHeap) (x : AObj) {i : Nat} (hw : H.wf) (h : (H.get i).isSome = true) : (H.set i x).get i = some x := by
 rw [AHeap.get_set hw ((hw i).1 h), if_pos rfl]
def AV.sl (sz : Nat) : AV → Bool
 | .nils => true
 | .slice _ _ len c => decide (len ≤ c)
 | .oslice _ _ len kc z => decide (z = sz) && decide (len ≤ kc)
 | .eslice .. => true
 | .xslice .. => true
 | _ => false
def slen : AV → Nat
 | .slice _ _ n _ => n
 | .oslice _ _ n _ _ => n
 | _ => 0
def sid : AV → Nat
 | .slice i _ _ _ => i
 | .oslice i _ _ _ _ => i
 | _ => 0
def soff : AV → Nat
 | .slice _ o _ _ => o
 | .oslice _ o _ _ _ => o
 | _ => 0
@[simp] theorem slen_nils : slen .nils = 0 := rfl
@[simp] theorem slen_slice (i o n c : Nat) : slen (.slice i o n c) = n := rfl
@[simp] theorem slen_oslice (i o n c z : Nat) : slen (.oslice i o n c z) = n := rfl
@[simp] theorem slen_eslice (i o n c : Nat) : slen (.eslice i o n c) = 0 := rfl
@[simp] theorem slen_xslice (i o : Nat) (s : Option Nat) : slen (.xslice i o s) = 0 := rfl
@[simp] theorem sid_slice (i o n c : Nat) : sid (.slice i o n c) = i := rfl
@[simp] theorem sid_oslice (i o n c z : Nat) : sid (.oslice i o n c z) = i := rfl
@[simp] theorem soff_slice (i o n c : Nat) : soff (.slice i o n c) = o := rfl
@[simp] theorem soff_oslice (i o n c z : Nat) : soff (.oslice i o n c z) = o := rfl
def lenS (v : AV) : Option AV :=
 match v with
 | .nils => some (.int .i64 0)
 | .slice _ _ n _ => some (.int .i64 n)
 | .oslice _ _ n _ _ => some (.int .i64 n)
 | .eslice .. => some (.int .i64 0)
 | .xslice .. => some (.int .i64 0)
 | _ => none
theorem ev_len (dst : Option Nat) (e : List (Nat × AV)) (l : List (Nat × List AV)) (H : AHeap) (x : Opd) : evOp dst ⟨e, l, H⟩ (.len .slice x) = ((x.ev e).bind lenS).map fun v => (v, ⟨e, l, H⟩) := by
 simp only [evOp]
 cases x.ev e with
 | none => simp
 | some v => cases v <;> simp [lenS]
@[simp] theorem lenS_nils : lenS .nils = some (.int .i64 0) := rfl
@[simp] theorem lenS_slice (i o n c : Nat) : lenS (.slice i o n c) = some (.int .i64 n) := rfl
@[simp] theorem lenS_oslice (i o n c z : Nat) : lenS (.oslice i o n c z) = some (.int .i64 n) := rfl
@[simp] theorem lenS_eslice (i o n c : Nat) : lenS (.eslice i o n c) = some (.int .i64 0) := rfl
@[simp] theorem lenS_xslice (i o : Nat) (s : Option Nat) : lenS (.xslice i o s) = some (.int .i64 0) := rfl
theorem lenS_sl {sz : Nat} {v : AV} (h : v.sl sz = true) : lenS v = some (.int .i64 (slen v)) := by cases v <;> simp_all [AV.sl]
def idxS (sz : Nat) (v i : AV) : Option AV :=
 match v, i with
 | .slice id off len _, .int _ n => if 0 ≤ n ∧ n < len then some (.ptr id (off + n.toNat * sz)) else none
 | .oslice id off len _ _, .int _ n => if 0 ≤ n ∧ n < len then some (.ptr id (off + n.toNat * sz)) else none
 | _, _ => none
theorem ev_idx (dst : Option Nat) (e : List (Nat × AV)) (l : List (Nat × List AV)) (H : AHeap) (sz : Nat) (x i : Opd) : evOp dst ⟨e, l, H⟩ (.indexAddr none sz x i) = ((x.ev e).bind fun v => (i.ev e).bind (idxS sz v)).map fun v => (v, ⟨e, l, H⟩) := by
 simp only [evOp]
 cases x.ev e with
 | none => simp
 | some v =>
  cases i.ev e with
  | none => cases v <;> simp
  | some u =>
   cases v <;> cases u <;> simp [idxS] <;> (split <;> simp_all)
theorem idxS_slice (sz id off len c : Nat) (k : IntKind) (n : Int) : idxS sz (.slice id off len c) (.int k n) = if 0 ≤ n ∧ n < len then some (.ptr id (off + n.toNat * sz)) else none := rfl
theorem idxS_oslice (sz id off len c z : Nat) (k : IntKind) (n : Int) : idxS sz (.oslice id off len c z) (.int k n) = if 0 ≤ n ∧ n < len then some (.ptr id (off + n.toNat * sz)) else none := rfl
theorem idxS_sl {sz : Nat} {v : AV} {n : Int} (k : IntKind) (h : 0 ≤ n) (h' : n < slen v) : idxS sz v (.int k n) = some (.ptr (sid v) (soff v + n.toNat * sz)) := by
 cases v <;> simp_all [idxS, slen] <;> omega
structure View (H : AHeap) (sz : Nat) (v : AV) (rows : List (List AV)) : Prop where
 sl : v.sl sz = true
 len : slen v = rows.length
 each : ∀ r ∈ rows, r.length = sz
 row : 0 < rows.length → ∃ ro e cells, H.get (sid v) = some (.row ro e cells) ∧ soff v + rows.length * sz ≤ cells.length ∧ (cells.drop (soff v)).take (rows.length * sz) = rows.flatten
section
variable {H K : AHeap} {sz : Nat} {v : AV} {rows : List (List AV)}
theorem View.lenS (h : View H sz v rows) : Go.Wam.lenS v = some (.int .i64 rows.length) := by rw [lenS_sl h.sl, h.len]
theorem View.idx (h : View H sz v rows) {n : Int} (k : IntKind) (h0 : 0 ≤ n) (h1 : n < rows.length) : idxS sz v (.int k n) = some (.ptr (sid v) (soff v + n.toNat * sz)) := idxS_sl k h0 (by rw [h.len]; exact h1)
theorem View.frame (h : View H sz v rows) (hk : 0 < rows.length → K.get (sid v) = H.get (sid v)) : View K sz v rows :=
 ⟨h.sl, h.len, h.each, fun hr => by rw [hk hr]; exact h.row hr⟩
theorem View.lt (h : View H sz v rows) (hw : H.wf) (hr : 0 < rows.length) : sid v < H.n := by
 obtain ⟨ro, e, cells, h1, _⟩ := h.row hr
 exact AHeap.get_lt h1 hw
theorem View.rd (h : View H sz v rows) {i : Nat} {r : List AV} (hr : rows[i]? = some r) (agg : Bool) {k f : Nat} (hf : f + k ≤ sz) (hk : 0 < k) (h1 : agg = false → k = 1) : H.rdAt (sid v) agg k (soff v + i * sz + f) = Go.Wam.rd agg k f r := by
 have hi : i < rows.length := (List.getElem?_eq_some_iff.1 hr).1
 obtain ⟨ro, e, cells, h2, h3, h4⟩ := h.row (by omega)
 have hlen := h.each r (List.mem_of_getElem? hr)
 have hle : (i + 1) * sz ≤ rows.length * sz := Nat.mul_le_mul_right _ hi
 have hle2 : i * sz + sz ≤ rows.length * sz := by rw [Nat.add_mul] at hle; omega
 have g : ∀ j, j < sz → cells[soff v + i * sz + j]? = r[j]? := by
  intro j hj
  have e1 : ((cells.drop (soff v)).take (rows.length * sz))[i * sz + j]? = cells[soff v + i * sz + j]? := by
   rw [List.getElem?_take, if_pos (by omega), List.getElem?_drop]; congr 1; omega
  rw [← e1, h4, flatten_get (by omega) h.each]
  have d1 : (i * sz + j) / sz = i := by rw [Nat.mul_comm, Nat.mul_add_div (by omega), Nat.div_eq_of_lt hj, Nat.add_zero]
  have d2 : (i * sz + j) % sz = j := by rw [Nat.mul_comm, Nat.mul_add_mod, Nat.mod_eq_of_lt hj]
  rw [d1, d2, hr]; rfl
 rw [rdAt_row h2]
 unfold Go.Wam.rd
 cases agg with
 | false =>
  simp only [Bool.false_eq_true, if_false]
  exact g f (by have := h1 rfl; omega)
 | true =>
  simp only [if_true]
  rw [if_pos (by omega), if_pos (by omega)]
  congr 2
  apply List.ext_getElem?
  intro j
  rw [List.getElem?_take, List.getElem?_take]
  by_cases hj : j < k
  · rw [if_pos hj, if_pos hj, List.getElem?_drop, List.getElem?_drop, Nat.add_assoc]
    exact g (f + j) (by omega)
  · rw [if_neg hj, if_neg hj]
theorem IsSl.view (h : IsSl H sz v rows) : View H sz v rows := by
 rcases h with ⟨rfl, rfl⟩ | ⟨b, o, s, rfl, rfl⟩ | ⟨id, cap, rfl, hc, hg, hr⟩
 · exact ⟨rfl, rfl, fun r hr => (by cases hr), fun h => (by simp at h)⟩
 · exact ⟨rfl, rfl, fun r hr => (by cases hr), fun h => (by simp at h)⟩
 · refine ⟨by simp [AV.sl, hc], rfl, hr, fun _ => ⟨true, sz, _, hg, ?_, ?_⟩⟩
   · rw [soff_slice, flatten_len hr]; omega
   · rw [soff_slice, List.drop_zero, ← flatten_len hr, List.take_length]
theorem View.first (h : View H sz v rows) : firstA H sz v = some (rows.length, rows.flatten) := by
 have hlen := flatten_len h.each
 have h0 := h.len
 have h1 := h.row
 have h2 := h.sl
 cases v with
 | nils => simp at h0; have : rows = [] := List.length_eq_zero_iff.1 h0.symm; subst this; rfl
 | eslice => simp at h0; have : rows = [] := List.length_eq_zero_iff.1 h0.symm; subst this; rfl
 | xslice => simp at h0; have : rows = [] := List.length_eq_zero_iff.1 h0.symm; subst this; rfl
 | slice id off len c =>
  simp only [slen_slice] at h0
  subst h0
  simp only [firstA]
  split
  · rename_i h3; have : rows = [] := List.length_eq_zero_iff.1 h3; subst this; rfl
  · obtain ⟨ro, e, cells, h4, h5, h6⟩ := h1 (by omega)
    simp only [sid_slice, soff_slice] at h4 h5 h6
    simp only [cutA, h4, h5, if_true, Option.map_some, h6]
 | oslice id off len kc z =>
  simp only [slen_oslice] at h0
  subst h0
  simp only [firstA]
  split
  · rename_i h3; have : rows = [] := List.length_eq_zero_iff.1 h3; subst this; rfl
  · obtain ⟨ro, e, cells, h4, h5, h6⟩ := h1 (by omega)
    simp only [sid_oslice, soff_oslice] at h4 h5 h6
    simp only [cutA, h4, h5, if_true, Option.map_some, h6]
 | _ => simp [AV.sl] at h2
end
def AHeap.ok (H : AHeap) : Prop := H.wf ∧ H.low ≤ H.n
theorem AHeap.ok.top {H : AHeap} (h : H.wf) : H.top.ok := ⟨h, Nat.le_refl _⟩
structure Chg (F : List Nat) (H K : AHeap) : Prop where
 le : H.n ≤ K.n
 ok : H.ok → K.ok
 get : ∀ i, i < H.n → i ∉ F → K.get i = H.get i
 lo : K.low ≤ H.low
 hi : ∀ k, k ≤ H.low → (∀ i ∈ F, k ≤ i) → k ≤ K.low
theorem Chg.refl (F : List Nat) (H : AHeap) : Chg F H H := ⟨Nat.le_refl _, id, fun _ _ _ => rfl, Nat.le_refl _, fun _ h _ => h⟩
theorem Chg.trans {F G : List Nat} {H K L : AHeap} (hok : H.ok) (a : Chg F H K) (b : Chg G K L) (h : ∀ i ∈ G, i ∈ F ∨ H.n ≤ i) : Chg F H L where
 le := Nat.le_trans a.le b.le
 ok := fun h => b.ok (a.ok h)
 get := fun i hi hn => by
  rw [b.get i (Nat.lt_of_lt_of_le hi a.le) (fun hg => by rcases h i hg with h | h; exact hn h; omega), a.get i hi hn]
 lo := Nat.le_trans b.lo a.lo
 hi := fun k h1 h2 => b.hi k (a.hi k h1 h2) fun i hi => by
  rcases h i hi with h | h
  · exact h2 i h
  · have := hok.2; omega
theorem Chg.mono {F G : List Nat} {H K : AHeap} (a : Chg F H K) (h : ∀ i ∈ F, i ∈ G) : Chg G H K :=
 ⟨a.le, a.ok, fun i hi hn => a.get i hi fun hf => hn (h i hf), a.lo, fun k h1 h2 => a.hi k h1 fun i hi => h2 i (h i hi)⟩
theorem Chg.alloc (H : AHeap) (x : AObj) : Chg [] H (H.alloc x) :=
 ⟨Nat.le_succ _, fun h => ⟨AHeap.wf_alloc h.1, Nat.le_succ_of_le h.2⟩, fun i hi _ => get_alloc_lt H x hi, Nat.le_refl _, fun _ h _ => h⟩
theorem Chg.set (H : AHeap) (i : Nat) (x : AObj) : Chg [i] H (H.set i x) := by
 refine ⟨Nat.le_refl _, fun h => ⟨AHeap.wf_set h.1, ?_⟩, fun j hj hn => get_set_ne H x (by simpa using hn), ?_, fun k h1 h2 => ?_⟩
 · rw [AHeap.set_low]; have := h.2; split <;> simp <;> omega
 · rw [AHeap.set_low]; split <;> omega
 · rw [AHeap.set_low]; have := h2 i (by simp); split <;> omega
def AHeap.lowered (K H : AHeap) : AHeap := { t := K.t, n := K.n, low := if K.low < H.low then K.low else H.low, dfs := H.dfs }
@[simp] theorem lowered_n (K H : AHeap) : (K.lowered H).n = K.n := rfl
@[simp] theorem lowered_get (K H : AHeap) (i : Nat) : (K.lowered H).get i = K.get i := by simp only [AHeap.get, AHeap.lowered]
@[simp] theorem lowered_rdAt (K H : AHeap) (i : Nat) (agg : Bool) (sz off : Nat) : (K.lowered H).rdAt i agg sz off = K.rdAt i agg sz off := rdAt_congr (lowered_get K H i) agg sz off
theorem lowered_wf {K : AHeap} (H : AHeap) (h : K.wf) : (K.lowered H).wf := fun i => by rw [lowered_get]; exact h i
theorem fin_drop' {H K : AHeap} {v : AV} (hk : H.n ≤ K.low) (hv : v.okB H.n = true) : fin H v K = H := by unfold fin; rw [if_pos ⟨hk, hv⟩]
theorem fin_keep {H K : AHeap} {v : AV} (h : K.low < H.n ∨ v.okB H.n = false) : fin H v K = K.lowered H := by
 unfold fin
 rw [if_neg]
 · rfl
 · rintro ⟨a, b⟩
   rcases h with h | h
   · omega
   · rw [h] at b; cases b
theorem Chg.lowered {F : List Nat} {H K : AHeap} (hok : H.ok) (a : Chg F H.top K) : Chg F H (K.lowered H) where
 le := a.le
 ok := fun h => ⟨lowered_wf H (a.ok ⟨top_wf h.1, Nat.le_refl _⟩).1, by have := a.le; simp only [AHeap.lowered]; have := h.2; simp only [top_n] at *; split <;> omega⟩
 get := fun i hi hn => by rw [lowered_get, a.get i hi hn, top_get]
 lo := by simp only [AHeap.lowered]; split <;> omega
 hi := fun k h1 h2 => by
  have := a.hi k (Nat.le_trans h1 hok.2) h2
  simp only [AHeap.lowered]; split <;> omega
theorem Chg.fin {F : List Nat} {H K : AHeap} (hok : H.ok) (v : AV) (a : Chg F H.top K) : Chg F H (Go.Wam.fin H v K) := by
 by_cases h : H.n ≤ K.low ∧ v.okB H.n = true
 · rw [fin_drop' h.1 h.2]; exact .refl F H
 · have : Go.Wam.fin H v K = K.lowered H := by unfold Go.Wam.fin; rw [if_neg h]; rfl
   rw [this]; exact a.lowered hok
theorem View.chg {F : List Nat} {H K : AHeap} {sz : Nat} {v : AV} {rows : List (List AV)} (hw : H.wf) (h : View H sz v rows) (c : Chg F H K) (hf : 0 < rows.length → sid v ∉ F) : View K sz v rows :=
 h.frame fun hr => c.get _ (h.lt hw hr) (hf hr)
theorem View.new {H K : AHeap} {sz : Nat} {v : AV} {rows : List (List AV)} (hw : H.wf) (h : View H sz v rows) (c : Chg [] H K) : View K sz v rows := h.chg hw c (fun _ => by simp)
theorem View.top {H : AHeap} {sz : Nat} {v : AV} {rows : List (List AV)} (h : View H sz v rows) : View H.top sz v rows := h.frame fun _ => top_get ..
theorem View.alloc {H : AHeap} {sz : Nat} {v : AV} {rows : List (List AV)} (hw : H.wf) (h : View H sz v rows) (x : AObj) : View (H.alloc x) sz v rows := h.new hw (.alloc H x)
structure Own (H : AHeap) (sz : Nat) (v : AV) (rows : List (List AV)) : Prop where
 each : ∀ r ∈ rows, r.length = sz
 is : ((v = .nils ∨ ∃ id, v = .slice id 0 0 0) ∧ rows = []) ∨ ∃ id kc rest, v = .oslice id 0 rows.length kc sz ∧ rows.length ≤ kc ∧ kc * sz ≤ rows.length * sz + rest.length ∧ H.get id = some (.row false sz (rows.flatten ++ rest))
def sown : AV → List Nat
 | .oslice i _ _ _ _ => [i]
 | _ => []
@[simp] theorem sown_nils : sown .nils = [] := rfl
@[simp] theorem sown_slice (i o n c : Nat) : sown (.slice i o n c) = [] := rfl
@[simp] theorem sown_oslice (i o n c z : Nat) : sown (.oslice i o n c z) = [i] := rfl
section
variable {H K : AHeap} {sz bytes : Nat} {v x : AV} {rows more : List (List AV)}
theorem Own.nil (H : AHeap) (sz : Nat) : Own H sz .nils [] := ⟨fun r hr => (by cases hr), .inl ⟨.inl rfl, rfl⟩⟩
theorem Own.lit (H : AHeap) (sz id : Nat) : Own H sz (.slice id 0 0 0) [] := ⟨fun r hr => (by cases hr), .inl ⟨.inr ⟨id, rfl⟩, rfl⟩⟩
theorem Own.view (h : Own H sz v rows) : View H sz v rows := by
 obtain ⟨he, ⟨rfl | ⟨id, rfl⟩, rfl⟩ | ⟨id, kc, rest, rfl, hk, _, hg⟩⟩ := h
 · exact ⟨rfl, rfl, he, fun h => by simp at h⟩
 · exact ⟨rfl, rfl, he, fun h => by simp at h⟩
 · refine ⟨by simp [AV.sl, hk], rfl, he, fun _ => ⟨false, sz, _, hg, ?_, ?_⟩⟩
   · rw [soff_oslice, List.length_append, flatten_len he]; omega
   · rw [soff_oslice, List.drop_zero, ← flatten_len he, List.take_left]
theorem Own.frame (h : Own H sz v rows) (hk : ∀ i ∈ sown v, K.get i = H.get i) : Own K sz v rows := by
 obtain ⟨he, ⟨rfl | ⟨id, rfl⟩, rfl⟩ | ⟨id, kc, rest, rfl, h1, h2, hg⟩⟩ := h
 · exact .nil K sz
 · exact .lit K sz id
 · exact ⟨he, .inr ⟨id, kc, rest, rfl, h1, h2, by rw [← hg]; exact hk id (by simp)⟩⟩
theorem Own.lt (h : Own H sz v rows) (hw : H.wf) : ∀ i ∈ sown v, i < H.n := by
 obtain ⟨he, ⟨rfl | ⟨id, rfl⟩, rfl⟩ | ⟨id, kc, rest, rfl, h1, h2, hg⟩⟩ := h
 · intro i hi; cases hi
 · intro i hi; cases hi
 · intro i hi; simp at hi; subst hi; exact AHeap.get_lt hg hw
theorem Own.chg {F : List Nat} (hw : H.wf) (h : Own H sz v rows) (c : Chg F H K) (hf : ∀ i ∈ sown v, i ∉ F) : Own K sz v rows :=
 h.frame fun i hi => c.get i (h.lt hw i hi) (hf i hi)
theorem Own.new (hw : H.wf) (h : Own H sz v rows) (c : Chg [] H K) : Own K sz v rows := h.chg hw c (fun _ _ => by simp)
theorem wr_append {α : Type} (a b c : List α) (n : Nat) (h : a.length = n) : wr n b (a ++ c) = a ++ b ++ c.drop b.length := by
 subst h
 unfold wr
 rw [List.take_left, List.drop_append]
 rw [List.drop_of_length_le (Nat.le_add_right _ _), List.nil_append, Nat.add_sub_cancel_left, List.append_assoc]
theorem Own.append (hok : H.ok) (h : Own H sz v rows) (hx : View H sz x more) (hm : 0 < more.length) (hz : 0 < sz) (hb : (rows.length + more.length) * bytes ≤ 2 ^ 47) :
    ∃ v' K, appendA H sz bytes v x = some (v', K) ∧ Own K sz v' (rows ++ more) ∧ Chg (sown v) H K ∧ (∀ i ∈ sown v', i ∈ sown v ∨ H.n ≤ i) ∧ K.low = (sown v).foldl min H.low := by
 have hmore := hx.each
 have heach : ∀ r ∈ rows ++ more, r.length = sz := fun r hr => by
  rcases List.mem_append.1 hr with hr | hr
  · exact h.each r hr
  · exact hmore r hr
 have hmf : more.flatten.length = more.length * sz := flatten_len hmore
 obtain ⟨he, ⟨rfl | ⟨id, rfl⟩, rfl⟩ | ⟨id, kc, rest, rfl, hk, hkr, hg⟩⟩ := h
 · simp only [appendA, appendX, hx.first, List.length_nil, Nat.zero_add] at hb ⊢
   rw [if_neg (by omega), if_pos hb]
   refine ⟨_, _, rfl, ⟨heach, .inr ⟨H.n, more.length, [], rfl, Nat.le_refl _, by simp, ?_⟩⟩, .alloc _ _, ?_, by simp⟩
   · simp
   · intro i hi; simp at hi; omega
 · simp only [appendA, appendX, hx.first, List.length_nil, Nat.zero_add] at hb ⊢
   rw [if_neg (by omega), if_neg (by omega), if_neg (by omega)]
   simp only [oldA, if_true, List.nil_append]
   refine ⟨_, _, rfl, ⟨heach, .inr ⟨H.n, more.length, [], rfl, Nat.le_refl _, by simp, ?_⟩⟩, .alloc _ _, ?_, by simp⟩
   · simp
   · intro i hi; simp at hi; omega
 · have h1 : rows.flatten.length = rows.length * sz := flatten_len he
   have hlt := AHeap.get_lt hg hok.1
   have h2 : 0 < more.length * sz := Nat.mul_pos hm hz
   simp only [appendA, appendX, hx.first, hg, ne_eq, not_true, if_false, Nat.zero_add, List.length_append, h1]
   rw [if_neg (by omega), if_neg (by omega)]
   have hlow : ∀ o, (H.set id o).low = min H.low id := fun o => by rw [AHeap.set_low]; split <;> omega
   by_cases hf : (rows.length + more.length) * sz ≤ rows.length * sz + rest.length
   · rw [if_pos hf]
     have hf' : more.length * sz ≤ rest.length := by rw [Nat.add_mul] at hf; omega
     refine ⟨_, _, rfl, ⟨heach, .inr ⟨id, max kc (rows.length + more.length), rest.drop (more.length * sz), by rw [List.length_append], by rw [List.length_append]; omega, ?_, ?_⟩⟩, ?_, ?_, ?_⟩
     · rw [List.length_append, List.length_drop, Nat.add_mul]
       rcases Nat.le_total kc (rows.length + more.length) with hh | hh
       · rw [Nat.max_eq_right hh, Nat.add_mul]; omega
       · rw [Nat.max_eq_left hh]; omega
     · rw [get_set_same _ _ hok.1 (by rw [hg]; rfl), wr_append _ _ _ _ h1, List.flatten_append, hmf]
     · exact Chg.set H id _
     · intro i hi; simp at hi; simp [hi]
     · simp [hlow]
   · have hcd : 1 < (rows.length + more.length) * sz ∨ (True ∧ sz = 1) := by
       by_cases h9 : 1 < (rows.length + more.length) * sz
       · exact .inl h9
       · refine .inr ⟨trivial, ?_⟩
         have : 1 * sz ≤ (rows.length + more.length) * sz := Nat.mul_le_mul_right _ (by omega)
         omega
     rw [if_neg hf, if_pos ⟨by omega, fun h => h, hcd⟩]
     refine ⟨_, _, rfl, ⟨heach, .inr ⟨H.n, rows.length + more.length, [], by rw [List.length_append], by rw [List.length_append]; exact Nat.le_refl _, by simp [List.length_append], ?_⟩⟩, ?_, ?_, ?_⟩
     · rw [show H.n = (H.set id .dead).n from rfl, get_alloc_same, List.drop_zero, List.take_append_of_le_length (by omega), ← h1, List.take_length, List.flatten_append, List.append_nil]
     · have a := Chg.set H id .dead
       have b := Chg.alloc (H.set id .dead) (.row false sz (List.take (rows.length * sz) (List.drop 0 (rows.flatten ++ rest)) ++ more.flatten))
       exact ⟨Nat.le_trans a.le b.le, fun h => b.ok (a.ok h), fun i hi hn => by rw [b.get i hi (by simp), a.get i hi hn], Nat.le_trans b.lo a.lo, fun k h1 h2 => b.hi k (a.hi k h1 h2) (by simp)⟩
     · intro i hi; simp at hi; right; omega
     · simp [hlow]
end
theorem Own.append' {H : AHeap} {sz bytes : Nat} {v x : AV} {rows more : List (List AV)} (hok : H.ok) (h : Own H sz v rows) (hx : View H sz x more) (hz : 0 < sz) (hb : (rows.length + more.length) * bytes ≤ 2 ^ 47) :
    ∃ v' K, appendA H sz bytes v x = some (v', K) ∧ Own K sz v' (rows ++ more) ∧ Chg (sown v) H K ∧ (∀ i ∈ sown v', i ∈ sown v ∨ H.n ≤ i) ∧ (sown v).foldl min H.low ≤ K.low ∧ v'.noL = true := by
 by_cases hm : 0 < more.length
 · obtain ⟨v', K, h1, h2, h3, h4, h5⟩ := h.append hok hx hm hz hb
   refine ⟨v', K, h1, h2, h3, h4, by rw [h5]; exact Nat.le_refl _, ?_⟩
   obtain ⟨_, ⟨rfl | ⟨id, rfl⟩, _⟩ | ⟨id, kc, rest, rfl, _⟩⟩ := h2 <;> rfl
 · have : more = [] := List.length_eq_zero_iff.1 (by omega)
   subst this
   refine ⟨v, H, ?_, by rw [List.append_nil]; exact h, .refl _ _, fun i hi => .inl hi, ?_, ?_⟩
   · have hf := hx.first
     obtain ⟨he, ⟨rfl | ⟨id, rfl⟩, rfl⟩ | ⟨id, kc, rest, rfl, hk, hkr, hg⟩⟩ := h <;> simp [appendA, appendX, hf]
   · generalize sown v = l
     have : ∀ (l : List Nat) (a : Nat), l.foldl min a ≤ a := by
      intro l
      induction l with
      | nil => intro a; exact Nat.le_refl _
      | cons b l ih => intro a; exact Nat.le_trans (ih _) (Nat.min_le_left _ _)
     exact this l _
   · obtain ⟨_, ⟨rfl | ⟨id, rfl⟩, _⟩ | ⟨id, kc, rest, rfl, _⟩⟩ := h <;> rfl
section
variable {T : FuncId → Option FnDef}
def prS (ks ls : List Nat) (s : St) : St := { env := prune ks s.env, loc := prune ls s.loc, H := s.H }
def OkR {α : Type} (r : Option α) (P : α → Prop) : Prop := ∃ x, r = some x ∧ P x
theorem okR_some {α : Type} (x : α) (P : α → Prop) : OkR (some x) P ↔ P x := ⟨fun ⟨_, h, hp⟩ => by cases h; exact hp, fun h => ⟨x, rfl, h⟩⟩
theorem OkR.mono {α : Type} {r : Option α} {P Q : α → Prop} (h : OkR r P) (hq : ∀ x, P x → Q x) : OkR r Q := by
 obtain ⟨x, e, hp⟩ := h; exact ⟨x, e, hq x hp⟩
theorem loop_inv {ks ls : List Nat} {b : IC} (I : Nat → St → Prop) (Q : AExit → St → Prop)
    (step : ∀ n s, I n s → ∀ P : AExit × St → Prop, (∀ e l H m, m < n → I m ⟨prune ks e, prune ls l, H⟩ → P (.normal, ⟨e, l, H⟩)) → (∀ j s', Q (.exit j) s' → P (.exit j, s')) → (∀ s', Q .ret s' → P (.ret, s')) → OkR (den T b s) P) :
    ∀ n s, I n (prS ks ls s) → ∃ x s', den T (.loop (.keep ks ls b)) s = some (x, s') ∧ Q x s' := by
 intro n
 induction n using Nat.strongRecOn with
 | ind n ih =>
  intro s hs
  obtain ⟨⟨x, s'⟩, h1, h2⟩ := step n _ hs (fun r => match r with
   | (.normal, s') => ∃ m, m < n ∧ I m (prS ks ls s')
   | (x, s') => Q x s') (fun e l H m hm hi => ⟨m, hm, hi⟩) (fun j s' h => h) (fun s' h => h)
  rw [den_loop, den_keep]
  have e : den T b { env := prune ks s.env, loc := prune ls s.loc, H := s.H } = some (x, s') := h1
  rw [e, Option.bind_some]
  cases x with
  | normal => obtain ⟨m, hm, hi⟩ := h2; exact ih m hm s' hi
  | exit j => exact ⟨_, _, rfl, h2⟩
  | ret => exact ⟨_, _, rfl, h2⟩
end
def guardB (g : Option AV) (want : Bool) (x y : Option St) : Option St :=
 match g with
 | some (.bool b) => if b = want then x else y
 | some _ => y
 | none => none
theorem guardB_bool (b want : Bool) (x y : Option St) : guardB (some (.bool b)) want x y = if b = want then x else y := rfl
theorem st_guard (C : CallF) (dst : Option Nat) (op : IOp) (g : Nat) (want : Bool) (s : St) : stepOp C ⟨dst, op, some (g, want)⟩ s = guardB (look g s.env) want (stepOp C ⟨dst, op, none⟩ s) (some (s.put dst undefA)) := by
 have h : ∀ b, wantedA s (some (g, want)) = some b → stepOp C ⟨dst, op, some (g, want)⟩ s = if b = true then stepOp C ⟨dst, op, none⟩ s else some (s.put dst undefA) := by
  intro b hb
  cases b with
  | false => simp only [stepOp, hb]; rfl
  | true => simp only [stepOp, hb]; rfl
 cases hl : look g s.env with
 | none => simp only [stepOp, wantedA, hl, guardB]
 | some v =>
  cases v with
  | bool b => rw [h (b == want) (by simp only [wantedA, hl])]; simp only [guardB, beq_iff_eq]
  | _ => rw [h false (by simp only [wantedA, hl])]; rfl
def condB {α : Type} (c : Option AV) (x y : Option α) : Option α :=
 match c with
 | some (.bool b) => if b = true then x else y
 | _ => none
theorem condB_bool {α : Type} (b : Bool) (x y : Option α) : condB (some (.bool b)) x y = if b = true then x else y := rfl
theorem den_condB {T : FuncId → Option FnDef} (c : Opd) (a b : IC) (s : St) : den T (.cond c a b) s = condB (c.ev s.env) (den T a s) (den T b s) := by
 rw [den_cond]
 cases c.ev s.env with
 | none => rfl
 | some v =>
  cases v with
  | bool b => cases b <;> rfl
  | _ => rfl
def pickB (c a b : Option AV) (s : St) : Option (AV × St) :=
 match c with
 | some (.bool p) => (if p = true then a else b).map fun v => (v, s)
 | _ => none
theorem ev_pick (dst : Option Nat) (c a b : Opd) (s : St) : evOp dst s (.pick c a b) = pickB (c.ev s.env) (a.ev s.env) (b.ev s.env) s := by
 simp only [evOp]
 cases c.ev s.env with
 | none => rfl
 | some v =>
  cases v with
  | bool b => cases b <;> rfl
  | _ => rfl
theorem pickB_bool (p : Bool) (a b : Option AV) (s : St) : pickB (some (.bool p)) a b s = (if p = true then a else b).map fun v => (v, s) := rfl
end Go.Wam
set_option linter.unusedVariables false
set_option linter.unusedSimpArgs false
namespace Go.Wam
section
variable (C : CallF) (dst : Option Nat) (s : St)
theorem st_gen (op : IOp) (h : ∀ f a, op ≠ .call f a) : stepOp C ⟨dst, op, none⟩ s = (evOp dst s op).map fun r => r.2.put dst r.1 := by
 unfold stepOp wantedA
 cases op <;> first | rfl | exact absurd rfl (h _ _)
theorem st_move (x : Opd) : stepOp C ⟨dst, .move x, none⟩ s = (x.ev s.env).map fun v => s.put dst v := by
 rw [st_gen _ _ _ _ (by simp)]; simp only [evOp]; cases x.ev s.env <;> rfl
theorem st_pick (c a b : Opd) : stepOp C ⟨dst, .pick c a b, none⟩ s = (pickB (c.ev s.env) (a.ev s.env) (b.ev s.env) s).map fun r => r.2.put dst r.1 := by
 rw [st_gen _ _ _ _ (by simp), ev_pick]
theorem st_allocL (d sz : Nat) (zero : List AV) : stepOp C ⟨some d, .alloc true sz zero, none⟩ s = if freeL d s.env = true then some ⟨(d, .lptr d 0) :: s.env, (d, zero) :: s.loc, s.H⟩ else none := by
 rw [st_gen _ _ _ _ (by simp)]; simp only [evOp]; split <;> rfl
theorem st_alloc (sz : Nat) (zero : List AV) : stepOp C ⟨dst, .alloc false sz zero, none⟩ s = some (({ s with H := s.H.alloc (.row false sz zero) } : St).put dst (.ptr s.H.n 0)) := by
 rw [st_gen _ _ _ _ (by simp)]; simp only [evOp]; rfl
theorem st_boxL (d sz : Nat) (x : Opd) : stepOp C ⟨some d, .box true sz x, none⟩ s = (x.ev s.env).bind fun v => if freeL d s.env = true ∧ v.noL = true then some ⟨(d, .lptr d 0) :: s.env, (d, v.cells) :: s.loc, s.H⟩ else none := by
 rw [st_gen _ _ _ _ (by simp)]; simp only [evOp]
 cases x.ev s.env with
 | none => rfl
 | some v => simp only [Option.bind_some, Bool.and_eq_true]; split <;> rfl
theorem st_box (sz : Nat) (x : Opd) : stepOp C ⟨dst, .box false sz x, none⟩ s = (x.ev s.env).bind fun v => if v.noL = true then some (({ s with H := s.H.alloc (.row false sz v.cells) } : St).put dst (.ptr s.H.n 0)) else none := by
 rw [st_gen _ _ _ _ (by simp)]; simp only [evOp]
 cases x.ev s.env with
 | none => rfl
 | some v => simp only [Option.bind_some]; split <;> rfl
theorem st_build (zero : List AV) (parts : List (Nat × Nat × Opd)) : stepOp C ⟨dst, .build zero parts, none⟩ s = (fillA s.env parts zero).map fun cs => s.put dst (.agg cs) := by
 rw [st_gen _ _ _ _ (by simp)]; simp only [evOp]; cases fillA s.env parts zero <;> rfl
theorem st_buildSlice (sz len : Nat) (zero : List AV) (parts : List (Nat × Nat × Opd)) : stepOp C ⟨dst, .buildSlice sz len zero parts, none⟩ s = (fillA s.env parts zero).map fun cs => ({ s with H := s.H.alloc (.row false sz cs) } : St).put dst (.slice s.H.n 0 len len) := by
 rw [st_gen _ _ _ _ (by simp)]; simp only [evOp]; cases fillA s.env parts zero <;> rfl
theorem st_load (agg : Bool) (sz : Nat) (a : Opd) : stepOp C ⟨dst, .load agg sz a, none⟩ s = (a.ev s.env).bind fun p => (loadA s agg sz p).map fun v => s.put dst v := by
 rw [st_gen _ _ _ _ (by simp)]; simp only [evOp]
 cases a.ev s.env with
 | none => rfl
 | some p => simp only [Option.bind_some]; cases loadA s agg sz p <;> rfl
theorem st_store (sz : Nat) (a x : Opd) : stepOp C ⟨dst, .store sz a x, none⟩ s = (a.ev s.env).bind fun p => (x.ev s.env).bind fun v => (storeA s sz v p).map fun s' => s'.put dst undefA := by
 rw [st_gen _ _ _ _ (by simp)]; simp only [evOp]
 cases a.ev s.env with
 | none => rfl
 | some p =>
  cases x.ev s.env with
  | none => rfl
  | some v => simp only [Option.bind_some]; cases storeA s sz v p <;> rfl
def nilC : AV → Option AV
 | .nilp => none
 | .nilIface => none
 | .nilFunc => none
 | .func (.method _) _ _ => none
 | v => some v
theorem st_nilCheck (x : Opd) : stepOp C ⟨dst, .nilCheck x, none⟩ s = (x.ev s.env).bind fun p => (nilC p).map fun v => s.put dst v := by
 rw [st_gen _ _ _ _ (by simp)]
 cases h : x.ev s.env with
 | none => simp only [evOp, h]; rfl
 | some v =>
  simp only [evOp, h, Option.bind_some]
  cases v with
  | func fn a b => cases fn <;> rfl
  | _ => rfl
theorem st_bin (op : BinOp) (t : EqT) (x y : Opd) : stepOp C ⟨dst, .bin op t x y, none⟩ s = (x.ev s.env).bind fun a => (y.ev s.env).bind fun b => (binA op t a b).map fun v => s.put dst v := by
 rw [st_gen _ _ _ _ (by simp)]; simp only [evOp]
 cases x.ev s.env with
 | none => rfl
 | some a =>
  cases y.ev s.env with
  | none => rfl
  | some b => simp only [Option.bind_some]; cases binA op t a b <;> rfl
theorem st_un (op : UnOp) (x : Opd) : stepOp C ⟨dst, .un op x, none⟩ s = (x.ev s.env).bind fun a => (unA op a).map fun v => s.put dst v := by
 rw [st_gen _ _ _ _ (by simp)]; simp only [evOp]
 cases x.ev s.env with
 | none => rfl
 | some a => simp only [Option.bind_some]; cases unA op a <;> rfl
def convI (k : IntKind) : AV → Option AV
 | .int _ n => some (.int k (k.wrap n))
 | _ => none
theorem st_convI (k : IntKind) (x : Opd) : stepOp C ⟨dst, .conv (.toInt k) x, none⟩ s = (x.ev s.env).bind fun a => (convI k a).map fun v => s.put dst v := by
 rw [st_gen _ _ _ _ (by simp)]; simp only [evOp]
 cases x.ev s.env with
 | none => rfl
 | some a => cases a <;> rfl
def convS : AV → Option AV
 | .str l => some (.str l)
 | _ => none
theorem st_convS (x : Opd) : stepOp C ⟨dst, .conv .strId x, none⟩ s = (x.ev s.env).bind fun a => (convS a).map fun v => s.put dst v := by
 rw [st_gen _ _ _ _ (by simp)]; simp only [evOp]
 cases x.ev s.env with
 | none => rfl
 | some a => cases a <;> rfl
def convB (s : St) (dst : Option Nat) : AV → Option St
 | .str l => some (({ s with H := s.H.alloc (.row false 1 (l.map fun b => .int .u8 b.toNat)) } : St).put dst (.oslice s.H.n 0 l.length l.length 1))
 | _ => none
theorem st_convO (x : Opd) : stepOp C ⟨dst, .conv .ofBytes x, none⟩ s = (x.ev s.env).bind fun v => (bytesA s.H v).map fun l => s.put dst (.str l) := by
 rw [st_gen _ _ _ _ (by simp)]; simp only [evOp]
 cases x.ev s.env with
 | none => rfl
 | some v => simp only [Option.bind_some]; cases bytesA s.H v <;> rfl
theorem st_convB (x : Opd) : stepOp C ⟨dst, .conv .toBytes x, none⟩ s = (x.ev s.env).bind (convB s dst) := by
 rw [st_gen _ _ _ _ (by simp)]; simp only [evOp]
 cases x.ev s.env with
 | none => rfl
 | some a => cases a <;> rfl
theorem st_mkIface (t : TypeId) (x : Opd) : stepOp C ⟨dst, .mkIface t x, none⟩ s = (x.ev s.env).bind fun v => if v.noL = true then some (s.put dst (.iface t v)) else none := by
 rw [st_gen _ _ _ _ (by simp)]; simp only [evOp]
 cases x.ev s.env with
 | none => rfl
 | some v => simp only [Option.bind_some]; split <;> rfl
theorem st_mkFunc (fn : Fn) (a b : List Opd) : stepOp C ⟨dst, .mkFunc fn a b, none⟩ s = (evs s.env a).bind fun u => (evs s.env b).bind fun v => if allNoL u = true ∧ allNoL v = true then some (s.put dst (.func fn u v)) else none := by
 rw [st_gen _ _ _ _ (by simp)]; simp only [evOp]
 cases evs s.env a with
 | none => rfl
 | some u =>
  cases evs s.env b with
  | none => rfl
  | some v => simp only [Option.bind_some, Bool.and_eq_true]; split <;> rfl
theorem st_mkMap : stepOp C ⟨dst, .mkMap, none⟩ s = some (({ s with H := s.H.alloc (.map [] 0) } : St).put dst (.map s.H.n)) := by
 rw [st_gen _ _ _ _ (by simp)]; simp only [evOp]; rfl
def mkSl (s : St) (dst : Option Nat) (sz bytes : Nat) (zero : List AV) : AV → AV → Option St
 | .int .i64 l, .int .i64 c => if 0 ≤ l ∧ l ≤ c ∧ c * bytes ≤ 2 ^ 47 ∧ c < 2 ^ 63 then some (({ s with H := s.H.alloc (.row false sz (zerosA zero c.toNat)) } : St).put dst (.slice s.H.n 0 l.toNat c.toNat)) else none
 | _, _ => none
theorem st_mkSlice (sz bytes : Nat) (zero : List AV) (a b : Opd) : stepOp C ⟨dst, .mkSlice sz bytes zero a b, none⟩ s = (a.ev s.env).bind fun u => (b.ev s.env).bind fun v => mkSl s dst sz bytes zero u v := by
 rw [st_gen _ _ _ _ (by simp)]; simp only [evOp]
 cases a.ev s.env with
 | none => rfl
 | some u =>
  cases b.ev s.env with
  | none => cases u with
   | int k n => cases k <;> rfl
   | _ => rfl
  | some v =>
   simp only [Option.bind_some]
   cases u with
   | int k n =>
    cases v with
    | int k' n' => cases k <;> cases k' <;> first | rfl | (simp only [mkSl]; split <;> rfl)
    | _ => cases k <;> rfl
   | _ => rfl
theorem st_slice (k : SlKind) (x : Opd) (lo hi mx : Option Opd) : stepOp C ⟨dst, .slice k x lo hi mx, none⟩ s = (x.ev s.env).bind fun v => (optInt s.env 0 lo).bind fun l => (optIntO s.env hi).bind fun h => (optIntO s.env mx).bind fun m => (sliceA k v l h m).map fun r => s.put dst r := by
 rw [st_gen _ _ _ _ (by simp)]; simp only [evOp]
 cases x.ev s.env with
 | none => rfl
 | some v =>
  cases optInt s.env 0 lo with
  | none => rfl
  | some l =>
   cases optIntO s.env hi with
   | none => rfl
   | some h =>
    cases optIntO s.env mx with
    | none => rfl
    | some m => simp only [Option.bind_some]; cases sliceA k v l h m <;> rfl
def fldA (off : Nat) : AV → Option AV
 | .ptr id o => some (.ptr id (o + off))
 | .lptr t o => some (.lptr t (o + off))
 | _ => none
theorem st_fieldAddr (off : Nat) (x : Opd) : stepOp C ⟨dst, .fieldAddr off x, none⟩ s = (x.ev s.env).bind fun v => (fldA off v).map fun r => s.put dst r := by
 rw [st_gen _ _ _ _ (by simp)]; simp only [evOp]
 cases x.ev s.env with
 | none => rfl
 | some v => cases v <;> rfl
def fldV (agg : Bool) (sz off : Nat) : AV → Option AV
 | .agg cs => rd agg sz off cs
 | _ => none
theorem st_field (agg : Bool) (sz off : Nat) (x : Opd) : stepOp C ⟨dst, .field agg sz off x, none⟩ s = (x.ev s.env).bind fun v => (fldV agg sz off v).map fun r => s.put dst r := by
 rw [st_gen _ _ _ _ (by simp)]; simp only [evOp]
 cases x.ev s.env with
 | none => rfl
 | some v =>
  cases v with
  | agg cs => simp only [Option.bind_some, fldV]; cases rd agg sz off cs <;> rfl
  | _ => rfl
theorem st_idx (sz : Nat) (x i : Opd) : stepOp C ⟨dst, .indexAddr none sz x i, none⟩ s = (x.ev s.env).bind fun v => (i.ev s.env).bind fun n => (idxS sz v n).map fun r => s.put dst r := by
 rw [st_gen _ _ _ _ (by simp), ev_idx dst s.env s.loc s.H]
 cases x.ev s.env with
 | none => rfl
 | some v =>
  cases i.ev s.env with
  | none => rfl
  | some n => simp only [Option.bind_some]; cases idxS sz v n <;> rfl
def idxArr (m sz : Nat) (v i : AV) : Option AV :=
 match v, i with
 | .ptr id off, .int _ n => if 0 ≤ n ∧ n < m then some (.ptr id (off + n.toNat * sz)) else none
 | .lptr t off, .int _ n => if 0 ≤ n ∧ n < m then some (.lptr t (off + n.toNat * sz)) else none
 | _, _ => none
theorem st_idxArr (m sz : Nat) (x i : Opd) : stepOp C ⟨dst, .indexAddr (some m) sz x i, none⟩ s = (x.ev s.env).bind fun v => (i.ev s.env).bind fun n => (idxArr m sz v n).map fun r => s.put dst r := by
 rw [st_gen _ _ _ _ (by simp)]; simp only [evOp]
 cases x.ev s.env with
 | none => rfl
 | some v =>
  cases i.ev s.env with
  | none => cases v <;> rfl
  | some n => cases v <;> cases n <;> first | rfl | (simp only [Option.bind_some, idxArr]; split <;> rfl)
def idxStr (v i : AV) : Option AV :=
 match v, i with
 | .str l, .int _ n => if 0 ≤ n then (l[n.toNat]?).map fun b => .int .u8 b.toNat else none
 | _, _ => none
theorem st_idxStr (x i : Opd) : stepOp C ⟨dst, .index none x i, none⟩ s = (x.ev s.env).bind fun v => (i.ev s.env).bind fun n => (idxStr v n).map fun r => s.put dst r := by
 rw [st_gen _ _ _ _ (by simp)]; simp only [evOp]
 cases x.ev s.env with
 | none => rfl
 | some v =>
  cases i.ev s.env with
  | none => cases v <;> rfl
  | some n =>
   cases v with
   | str l =>
    cases n with
    | int k n =>
     simp only [Option.bind_some, idxStr]
     split
     · cases l[n.toNat]? <;> rfl
     · rfl
    | _ => rfl
   | _ => cases n <;> rfl
def idxAgg (m : Nat) (agg : Bool) (sz : Nat) (v i : AV) : Option AV :=
 match v, i with
 | .agg cs, .int _ n => if 0 ≤ n ∧ n < m then rd agg sz (n.toNat * sz) cs else none
 | _, _ => none
theorem st_idxAgg (m : Nat) (agg : Bool) (sz : Nat) (x i : Opd) : stepOp C ⟨dst, .index (some (m, agg, sz)) x i, none⟩ s = (x.ev s.env).bind fun v => (i.ev s.env).bind fun n => (idxAgg m agg sz v n).map fun r => s.put dst r := by
 rw [st_gen _ _ _ _ (by simp)]; simp only [evOp]
 cases x.ev s.env with
 | none => rfl
 | some v =>
  cases i.ev s.env with
  | none => cases v <;> rfl
  | some n =>
   cases v with
   | agg cs =>
    cases n with
    | int k n =>
     simp only [Option.bind_some, idxAgg]
     split
     · cases rd agg sz (n.toNat * sz) cs <;> rfl
     · rfl
    | _ => rfl
   | _ => cases n <;> rfl
def extA (i : Nat) : AV → Option AV
 | .tuple vs => vs[i]?
 | _ => none
theorem st_extract (x : Opd) (i : Nat) : stepOp C ⟨dst, .extract x i, none⟩ s = (x.ev s.env).bind fun v => (extA i v).map fun r => s.put dst r := by
 rw [st_gen _ _ _ _ (by simp)]; simp only [evOp]
 cases x.ev s.env with
 | none => rfl
 | some v =>
  cases v with
  | tuple vs => simp only [Option.bind_some, extA]; cases vs[i]? <;> rfl
  | _ => rfl
def callA (C : CallF) (dst : Option Nat) (s : St) (f : AV) (vs : List AV) : Option St := (callR C f vs s.H).map fun r => ({ s with H := r.2 } : St).put dst r.1
theorem callA_func (g : FuncId) (a b vs : List AV) : callA C dst s (.func (.func g) a b) vs = if g < yieldF ∧ allNoL vs = true then (C g (a ++ (vs ++ b)) s.H).map fun r => ({ s with H := r.2 } : St).put dst r.1 else none := by
 simp only [callA, callR]
 split <;> rfl
theorem callA_lt {g : FuncId} (hg : g < yieldF) {a b vs : List AV} (h : allNoL vs = true) : callA C dst s (.func (.func g) a b) vs = (C g (a ++ (vs ++ b)) s.H).map fun r => ({ s with H := r.2 } : St).put dst r.1 := by rw [callA_func, if_pos ⟨hg, h⟩]
theorem st_call (f : Opd) (args : List Opd) : stepOp C ⟨dst, .call f args, none⟩ s = (f.ev s.env).bind fun g => (evs s.env args).bind fun vs => callA C dst s g vs := by
 unfold stepOp wantedA
 simp only
 cases f.ev s.env with
 | none => rfl
 | some g =>
  cases evs s.env args with
  | none => rfl
  | some vs => rfl
theorem st_len (x : Opd) : stepOp C ⟨dst, .len .slice x, none⟩ s = (x.ev s.env).bind fun v => (lenS v).map fun r => s.put dst r := by
 rw [st_gen _ _ _ _ (by simp), ev_len dst s.env s.loc s.H]
 cases x.ev s.env with
 | none => rfl
 | some v => simp only [Option.bind_some]; cases lenS v <;> rfl
def lenStr : AV → Option AV
 | .str l => some (.int .i64 l.length)
 | _ => none
theorem st_lenStr (x : Opd) : stepOp C ⟨dst, .len .str x, none⟩ s = (x.ev s.env).bind fun v => (lenStr v).map fun r => s.put dst r := by
 rw [st_gen _ _ _ _ (by simp)]; simp only [evOp]
 cases x.ev s.env with
 | none => rfl
 | some v => cases v <;> rfl
theorem st_lenArr (n : Nat) (x : Opd) : stepOp C ⟨dst, .len (.arr n) x, none⟩ s = (x.ev s.env).map fun _ => s.put dst (.int .i64 n) := by
 rw [st_gen _ _ _ _ (by simp)]; simp only [evOp]
 cases x.ev s.env with
 | none => rfl
 | some v => rfl
def lenMap (H : AHeap) : AV → Option AV
 | .nilm => some (.int .i64 0)
 | .map id => match H.get id with
  | some (.map es _) => some (.int .i64 es.length)
  | _ => none
 | _ => none
theorem st_lenMap (x : Opd) : stepOp C ⟨dst, .len .map x, none⟩ s = (x.ev s.env).bind fun v => (lenMap s.H v).map fun r => s.put dst r := by
 rw [st_gen _ _ _ _ (by simp)]; simp only [evOp]
 cases x.ev s.env with
 | none => rfl
 | some v =>
  cases v with
  | map id => simp only [Option.bind_some, lenMap]; split <;> simp_all
  | _ => rfl
def rangeH (H : AHeap) : AV → Option (AV × AHeap)
 | .str l => some (.ptr H.n 0, H.alloc (.siter l 0))
 | _ => none
theorem st_rangeS (x : Opd) : stepOp C ⟨dst, .rangeS x, none⟩ s = (x.ev s.env).bind fun v => (rangeH s.H v).map fun r => ({ s with H := r.2 } : St).put dst r.1 := by
 rw [st_gen _ _ _ _ (by simp)]; simp only [evOp]
 cases x.ev s.env with
 | none => rfl
 | some v => cases v <;> rfl
theorem st_nextS (x : Opd) : stepOp C ⟨dst, .nextS x, none⟩ s = (x.ev s.env).bind fun v => (nextA s.H v).map fun r => ({ s with H := r.2 } : St).put dst r.1 := by
 rw [st_gen _ _ _ _ (by simp)]; simp only [evOp]
 cases x.ev s.env with
 | none => rfl
 | some v => simp only [Option.bind_some]; cases nextA s.H v <;> rfl
theorem st_lookup (t : KeyT) (ok : Bool) (z : AV) (x k : Opd) : stepOp C ⟨dst, .lookup t ok z x k, none⟩ s = (x.ev s.env).bind fun u => (k.ev s.env).bind fun v => (lookupA s.H t ok z u v).map fun r => s.put dst r := by
 rw [st_gen _ _ _ _ (by simp)]; simp only [evOp]
 cases x.ev s.env with
 | none => rfl
 | some u => cases k.ev s.env with
  | none => rfl
  | some v => simp only [Option.bind_some]; cases lookupA s.H t ok z u v <;> rfl
theorem st_rangeM (x : Opd) : stepOp C ⟨dst, .rangeM x, none⟩ s = (x.ev s.env).bind fun v => (rangeMA s.H v).map fun r => ({ s with H := r.2 } : St).put dst r.1 := by
 rw [st_gen _ _ _ _ (by simp)]; simp only [evOp]
 cases x.ev s.env with
 | none => rfl
 | some v => simp only [Option.bind_some]; cases rangeMA s.H v <;> rfl
theorem st_entryM (x : Opd) : stepOp C ⟨dst, .entryM x, none⟩ s = (x.ev s.env).bind fun v => (entryMA s.H v).map fun r => s.put dst r := by
 rw [st_gen _ _ _ _ (by simp)]; simp only [evOp]
 cases x.ev s.env with
 | none => rfl
 | some v => simp only [Option.bind_some]; cases entryMA s.H v <;> rfl
theorem st_mapEntry (t : KeyT) (z : AV) (x k : Opd) : stepOp C ⟨dst, .mapEntry t z x k, none⟩ s = (x.ev s.env).bind fun a => (k.ev s.env).bind fun b => (mapEntryA s.H t z a b).map fun r => ({ s with H := r.2 } : St).put dst r.1 := by
 rw [st_gen _ _ _ _ (by simp)]; simp only [evOp]
 cases x.ev s.env with
 | none => rfl
 | some a => cases k.ev s.env with
  | none => rfl
  | some b => simp only [Option.bind_some]; cases mapEntryA s.H t z a b <;> rfl
theorem st_entryStore (x b v : Opd) : stepOp C ⟨dst, .entryStore x b v, none⟩ s = (x.ev s.env).bind fun a => (b.ev s.env).bind fun b => (v.ev s.env).bind fun c => (entryStoreA s.H a b c).map fun H => ({ s with H := H } : St).put dst undefA := by
 rw [st_gen _ _ _ _ (by simp)]; simp only [evOp]
 cases x.ev s.env with
 | none => rfl
 | some a => cases b.ev s.env with
  | none => rfl
  | some b => cases v.ev s.env with
   | none => rfl
   | some c => simp only [Option.bind_some]; cases entryStoreA s.H a b c <;> rfl
theorem st_mapUpdate (t : KeyT) (x k v : Opd) : stepOp C ⟨dst, .mapUpdate t x k v, none⟩ s = (x.ev s.env).bind fun a => (k.ev s.env).bind fun b => (v.ev s.env).bind fun c => (updA s.H t a b c).map fun H => ({ s with H := H } : St).put dst undefA := by
 rw [st_gen _ _ _ _ (by simp)]; simp only [evOp]
 cases x.ev s.env with
 | none => rfl
 | some a => cases k.ev s.env with
  | none => rfl
  | some b => cases v.ev s.env with
   | none => rfl
   | some c => simp only [Option.bind_some]; cases updA s.H t a b c <;> rfl
theorem st_delete (t : KeyT) (x k : Opd) : stepOp C ⟨dst, .delete t x k, none⟩ s = (x.ev s.env).bind fun a => (k.ev s.env).bind fun b => (delA s.H t a b).map fun H => ({ s with H := H } : St).put dst undefA := by
 rw [st_gen _ _ _ _ (by simp)]; simp only [evOp]
 cases x.ev s.env with
 | none => rfl
 | some a => cases k.ev s.env with
  | none => rfl
  | some b => simp only [Option.bind_some]; cases delA s.H t a b <;> rfl
theorem st_append (sz bytes : Nat) (a x : Opd) : stepOp C ⟨dst, .append sz bytes a x, none⟩ s = (a.ev s.env).bind fun u => (x.ev s.env).bind fun v => (appendA s.H sz bytes u v).map fun r => ({ s with H := r.2 } : St).put dst r.1 := by
 rw [st_gen _ _ _ _ (by simp)]; simp only [evOp]
 cases a.ev s.env with
 | none => rfl
 | some u =>
  cases x.ev s.env with
  | none => rfl
  | some v => simp only [Option.bind_some]; cases appendA s.H sz bytes u v <;> rfl
def clearV (s : St) (dst : Option Nat) (sz : Nat) (zero : List AV) : AV → Option St
 | .nils => some (s.put dst undefA)
 | .eslice .. => some (s.put dst undefA)
 | .xslice .. => some (s.put dst undefA)
 | .slice id off len _ => (clearA s sz zero id off len).map fun r => r.2.put dst r.1
 | .oslice id off len _ _ => (clearA s sz zero id off len).map fun r => r.2.put dst r.1
 | _ => none
theorem st_clear (sz : Nat) (zero : List AV) (x : Opd) : stepOp C ⟨dst, .clear sz zero x, none⟩ s = (x.ev s.env).bind (clearV s dst sz zero) := by
 rw [st_gen _ _ _ _ (by simp)]; simp only [evOp]
 cases x.ev s.env with
 | none => rfl
 | some v => cases v <;> rfl
theorem st_maxs (x : Opd) (r : List Opd) : stepOp C ⟨dst, .maxs x r, none⟩ s = (x.ev s.env).bind fun v => (evs s.env r).bind fun vs => (foldA max2A v vs).map fun z => s.put dst z := by
 rw [st_gen _ _ _ _ (by simp)]; simp only [evOp]
 cases x.ev s.env with
 | none => rfl
 | some u =>
  cases evs s.env r with
  | none => rfl
  | some v => simp only [Option.bind_some]; cases foldA max2A u v <;> rfl
theorem st_mins (x : Opd) (r : List Opd) : stepOp C ⟨dst, .mins x r, none⟩ s = (x.ev s.env).bind fun v => (evs s.env r).bind fun vs => (foldA min2A v vs).map fun z => s.put dst z := by
 rw [st_gen _ _ _ _ (by simp)]; simp only [evOp]
 cases x.ev s.env with
 | none => rfl
 | some u =>
  cases evs s.env r with
  | none => rfl
  | some v => simp only [Option.bind_some]; cases foldA min2A u v <;> rfl
end
end Go.Wam
namespace Go.Wam
@[simp] theorem noL_bool (b : Bool) : (AV.bool b).noL = true := rfl
@[simp] theorem one_bool (b : Bool) : (AV.bool b).one = true := rfl
@[simp] theorem cells_bool (b : Bool) : (AV.bool b).cells = [(AV.bool b)] := rfl
@[simp] theorem noL_int (k : IntKind) (n : Int) : (AV.int k n).noL = true := rfl
@[simp] theorem one_int (k : IntKind) (n : Int) : (AV.int k n).one = true := rfl
@[simp] theorem cells_int (k : IntKind) (n : Int) : (AV.int k n).cells = [(AV.int k n)] := rfl
@[simp] theorem noL_str (l : List UInt8) : (AV.str l).noL = true := rfl
@[simp] theorem one_str (l : List UInt8) : (AV.str l).one = true := rfl
@[simp] theorem cells_str (l : List UInt8) : (AV.str l).cells = [(AV.str l)] := rfl
@[simp] theorem noL_nilp  : (AV.nilp).noL = true := rfl
@[simp] theorem one_nilp  : (AV.nilp).one = true := rfl
@[simp] theorem cells_nilp  : (AV.nilp).cells = [(AV.nilp)] := rfl
@[simp] theorem noL_ptr (i o : Nat) : (AV.ptr i o).noL = true := rfl
@[simp] theorem one_ptr (i o : Nat) : (AV.ptr i o).one = true := rfl
@[simp] theorem cells_ptr (i o : Nat) : (AV.ptr i o).cells = [(AV.ptr i o)] := rfl
@[simp] theorem noL_lptr (i o : Nat) : (AV.lptr i o).noL = false := rfl
@[simp] theorem one_lptr (i o : Nat) : (AV.lptr i o).one = false := rfl
@[simp] theorem cells_lptr (i o : Nat) : (AV.lptr i o).cells = [(AV.lptr i o)] := rfl
@[simp] theorem noL_nils  : (AV.nils).noL = true := rfl
@[simp] theorem one_nils  : (AV.nils).one = true := rfl
@[simp] theorem cells_nils  : (AV.nils).cells = [(AV.nils)] := rfl
@[simp] theorem noL_slice (i o n c : Nat) : (AV.slice i o n c).noL = true := rfl
@[simp] theorem one_slice (i o n c : Nat) : (AV.slice i o n c).one = true := rfl
@[simp] theorem cells_slice (i o n c : Nat) : (AV.slice i o n c).cells = [(AV.slice i o n c)] := rfl
@[simp] theorem noL_oslice (i o n c z : Nat) : (AV.oslice i o n c z).noL = true := rfl
@[simp] theorem one_oslice (i o n c z : Nat) : (AV.oslice i o n c z).one = true := rfl
@[simp] theorem cells_oslice (i o n c z : Nat) : (AV.oslice i o n c z).cells = [(AV.oslice i o n c z)] := rfl
@[simp] theorem noL_eslice (i o n c : Nat) : (AV.eslice i o n c).noL = true := rfl
@[simp] theorem one_eslice (i o n c : Nat) : (AV.eslice i o n c).one = true := rfl
@[simp] theorem cells_eslice (i o n c : Nat) : (AV.eslice i o n c).cells = [(AV.eslice i o n c)] := rfl
@[simp] theorem noL_xslice (i o : Nat) (s : Option Nat) : (AV.xslice i o s).noL = true := rfl
@[simp] theorem one_xslice (i o : Nat) (s : Option Nat) : (AV.xslice i o s).one = true := rfl
@[simp] theorem cells_xslice (i o : Nat) (s : Option Nat) : (AV.xslice i o s).cells = [(AV.xslice i o s)] := rfl
@[simp] theorem noL_nilm  : (AV.nilm).noL = true := rfl
@[simp] theorem one_nilm  : (AV.nilm).one = true := rfl
@[simp] theorem cells_nilm  : (AV.nilm).cells = [(AV.nilm)] := rfl
@[simp] theorem noL_map (i : Nat) : (AV.map i).noL = true := rfl
@[simp] theorem one_map (i : Nat) : (AV.map i).one = true := rfl
@[simp] theorem cells_map (i : Nat) : (AV.map i).cells = [(AV.map i)] := rfl
@[simp] theorem noL_func (f : Fn) (a b : List AV) : (AV.func f a b).noL = true := rfl
@[simp] theorem one_func (f : Fn) (a b : List AV) : (AV.func f a b).one = true := rfl
@[simp] theorem cells_func (f : Fn) (a b : List AV) : (AV.func f a b).cells = [(AV.func f a b)] := rfl
@[simp] theorem noL_nilFunc  : (AV.nilFunc).noL = true := rfl
@[simp] theorem one_nilFunc  : (AV.nilFunc).one = true := rfl
@[simp] theorem cells_nilFunc  : (AV.nilFunc).cells = [(AV.nilFunc)] := rfl
@[simp] theorem noL_iface (t : TypeId) (v : AV) : (AV.iface t v).noL = true := rfl
@[simp] theorem one_iface (t : TypeId) (v : AV) : (AV.iface t v).one = true := rfl
@[simp] theorem cells_iface (t : TypeId) (v : AV) : (AV.iface t v).cells = [(AV.iface t v)] := rfl
@[simp] theorem noL_nilIface  : (AV.nilIface).noL = true := rfl
@[simp] theorem one_nilIface  : (AV.nilIface).one = true := rfl
@[simp] theorem cells_nilIface  : (AV.nilIface).cells = [(AV.nilIface)] := rfl
@[simp] theorem noL_agg (l : List AV) : (AV.agg l).noL = true := rfl
@[simp] theorem one_agg (l : List AV) : (AV.agg l).one = false := rfl
@[simp] theorem cells_agg (l : List AV) : (AV.agg l).cells = l := rfl
@[simp] theorem noL_tuple (l : List AV) : (AV.tuple l).noL = false := rfl
@[simp] theorem one_tuple (l : List AV) : (AV.tuple l).one = false := rfl
@[simp] theorem cells_tuple (l : List AV) : (AV.tuple l).cells = [(AV.tuple l)] := rfl
end Go.Wam
namespace Go.Wam
def frV (t k : Nat) (v : AV) : Bool := match v with | .lptr u _ => !(u == t) || k == t | _ => true
theorem freeL_nil (t : Nat) : freeL t [] = true := rfl
theorem freeL_cons (t k : Nat) (v : AV) (r : List (Nat × AV)) : freeL t ((k, v) :: r) = (frV t k v && freeL t r) := by cases v <;> rfl
theorem frV_lptr (t k u o : Nat) : frV t k (.lptr u o) = (!(u == t) || k == t) := rfl
theorem frV_tuple (t k : Nat) (l : List AV) : frV t k (.tuple l) = true := rfl
theorem frV_noL (t k : Nat) {v : AV} (h : v.noL = true) : frV t k v = true := by cases v <;> first | rfl | simp at h
theorem ev_load (dst : Option Nat) (s : St) (agg : Bool) (sz : Nat) (a : Opd) : evOp dst s (.load agg sz a) = (a.ev s.env).bind fun p => (loadA s agg sz p).map fun v => (v, s) := by
 simp only [evOp]; cases a.ev s.env <;> rfl
mutual
theorem beq_same : ∀ v : AV, AV.beq v v = true
 | .bool _ | .int .. | .str _ | .nilp | .ptr .. | .lptr .. | .nils | .slice .. | .oslice .. | .eslice .. | .xslice .. | .nilm | .map _ | .yield _ | .nilFunc | .nilIface => by simp [AV.beq]
 | .func _ a b => by simp [AV.beq, beqL_same a, beqL_same b]
 | .iface _ v => by simp [AV.beq, beq_same v]
 | .agg a => by simp [AV.beq, beqL_same a]
 | .tuple a => by simp [AV.beq, beqL_same a]
theorem beqL_same : ∀ l : List AV, AV.beqL l l = true
 | [] => by simp [AV.beqL]
 | v :: l => by simp [AV.beqL, beq_same v, beqL_same l]
end
theorem get_alloc_eq (H : AHeap) (x : AObj) {j : Nat} (h : j = H.n) : (H.alloc x).get j = some x := by subst h; exact get_alloc_same H x
theorem rdAt_alloc_eq (H : AHeap) (ro : Bool) (e : Nat) (cells : List AV) {j : Nat} (h : j = H.n) (agg : Bool) (sz off : Nat) : (H.alloc (.row ro e cells)).rdAt j agg sz off = rd agg sz off cells := by subst h; exact rdAt_alloc_same ..
theorem set_alloc_eq (H : AHeap) (x y : AObj) {j : Nat} (h : j = H.n) (hl : H.low ≤ H.n) : (H.alloc x).set j y = H.alloc y := by subst h; exact set_alloc_same H x y hl
theorem set_alloc_ne (H : AHeap) (x y : AObj) {j : Nat} (h : j ≠ H.n) : (H.alloc x).set j y = (H.set j y).alloc x := by
 refine AHeap.eq ?_ rfl rfl
 show (if j < (H.alloc x).n then setP y (path j) (setP x (path H.n) H.t) else setP x (path H.n) H.t) = setP x (path H.n) (if j < H.n then setP y (path j) H.t else H.t)
 have e : (H.alloc x).n = H.n + 1 := rfl
 by_cases h1 : j < H.n
 · rw [if_pos (by omega), if_pos h1]
   exact setP_comm _ _ _ _ _ fun e => h (path_inj e).symm
 · rw [if_neg (by omega), if_neg h1]
theorem guardB_tuple (vs : List AV) (want : Bool) (x y : Option St) : guardB (some (.tuple vs)) want x y = y := rfl
end Go.Wam
set_option linter.unusedVariables false
set_option linter.unusedSimpArgs false
namespace Go.Wam
def AV.notL : AV → Bool
 | .lptr .. => false
 | _ => true
theorem notL_of {v : AV} (h : v.noL = true) : v.notL = true := by cases v <;> first | rfl | (simp [AV.noL] at h)
inductive Slt where
 | l (t off : Nat)
 | v (x : AV)
 | u
def Slt.av : Slt → AV
 | .l t o => .lptr t o
 | .v x => x
 | .u => undefA
def Slt.ok : Slt → Bool
 | .l .. => true
 | .v x => x.notL
 | .u => true
structure SK where
 env : List (Nat × Slt)
 loc : List (Nat × List AV)
 H : AHeap
structure SimK (s : SK) (st : St) : Prop where
 env : ∀ k, look k st.env = (look k s.env).map Slt.av
 mem : ∀ e ∈ st.env, ∃ sv, (e.1, sv) ∈ s.env ∧ sv.av = e.2
 ok : ∀ e ∈ s.env, e.2.ok = true
 loc : st.loc = s.loc
 H : st.H = s.H
def SK.put (s : SK) (dst : Option Nat) (v : Slt) : SK :=
 match dst with
 | some d => { s with env := (d, v) :: s.env }
 | none => s
def SK.putV (s : SK) (dst : Option Nat) (v : AV) : SK := s.put dst (.v v)
theorem look_mem {α : Type} {k : Nat} {v : α} : ∀ {l : List (Nat × α)}, look k l = some v → (k, v) ∈ l
 | [], h => by simp [look] at h
 | (j, w) :: r, h => by
  simp only [look] at h
  split at h
  · rename_i e; subst e; cases h; simp
  · exact List.mem_cons_of_mem _ (look_mem h)
theorem SimK.put {s : SK} {st : St} (h : SimK s st) (dst : Option Nat) {sv : Slt} (hs : sv.ok = true) : SimK (s.put dst sv) (st.put dst sv.av) := by
 cases dst with
 | none => exact h
 | some d =>
  refine ⟨fun k => ?_, fun e he => ?_, fun e he => ?_, h.loc, h.H⟩
  · simp only [SK.put, St.put, look]
    split
    · rfl
    · exact h.env k
  · simp only [SK.put, St.put, List.mem_cons] at he ⊢
    rcases he with rfl | he
    · exact ⟨sv, .inl rfl, rfl⟩
    · obtain ⟨sv', h1, h2⟩ := h.mem e he
      exact ⟨sv', .inr h1, h2⟩
  · simp only [SK.put, List.mem_cons] at he
    rcases he with rfl | he
    · exact hs
    · exact h.ok e he
theorem SimK.putV {s : SK} {st : St} (h : SimK s st) (dst : Option Nat) {v : AV} (hs : v.notL = true) : SimK (s.putV dst v) (st.put dst v) := h.put dst (sv := .v v) hs
def svO (x : Opd) (env : List (Nat × Slt)) : Option Slt :=
 match x with
 | .tmp t => look t env
 | .const v => (match v.notL with | true => some (.v v) | false => none)
 | .func f => some (.v (.func (.func f) [] []))
def valO (x : Opd) (env : List (Nat × Slt)) : Option AV :=
 match svO x env with
 | some (.v v) => some v
 | some .u => some undefA
 | _ => none
def valsO (env : List (Nat × Slt)) : List Opd → Option (List AV)
 | [] => some []
 | x :: r => match valO x env, valsO env r with
  | some v, some vs => some (v :: vs)
  | _, _ => none
def partsV (env : List (Nat × Slt)) : List (Nat × Nat × Opd) → Option (List (Nat × Nat × AV))
 | [] => some []
 | (a, b, x) :: r => match valO x env, partsV env r with
  | some v, some vs => some ((a, b, v) :: vs)
  | _, _ => none
def fillC : List (Nat × Nat × AV) → List AV → Option (List AV)
 | [], cells => some cells
 | (off, sz, v) :: r, cells => if v.noL && v.cells.length = sz && off + sz ≤ cells.length then fillC r (wr off v.cells cells) else none
def optV (env : List (Nat × Slt)) : Option Opd → Option (Option AV)
 | none => some none
 | some x => match valO x env with
  | some v => some (some v)
  | none => none
theorem svO_sim {s : SK} {st : St} (h : SimK s st) {x : Opd} {sv : Slt} (e : svO x s.env = some sv) : x.ev st.env = some sv.av ∧ sv.ok = true := by
 cases x with
 | tmp t =>
  simp only [svO] at e
  refine ⟨?_, h.ok (t, sv) (look_mem e)⟩
  show look t st.env = some sv.av
  rw [h.env, e]; rfl
 | const v =>
  simp only [svO] at e
  split at e
  · rename_i hv; cases e; exact ⟨rfl, hv⟩
  · cases e
 | func f => cases e; exact ⟨rfl, rfl⟩
theorem valO_sim {s : SK} {st : St} (h : SimK s st) {x : Opd} {v : AV} (e : valO x s.env = some v) : x.ev st.env = some v ∧ v.notL = true := by
 unfold valO at e
 split at e
 · rename_i sv hs; cases e; exact svO_sim h hs
 · rename_i hs; cases e; exact ⟨(svO_sim h hs).1, rfl⟩
 · cases e
theorem valsO_sim {s : SK} {st : St} (h : SimK s st) : ∀ {xs : List Opd} {vs : List AV}, valsO s.env xs = some vs → evs st.env xs = some vs ∧ ∀ v ∈ vs, v.notL = true
 | [], vs, e => by cases e; exact ⟨rfl, by simp⟩
 | x :: xs, vs, e => by
  simp only [valsO] at e
  split at e
  · rename_i v vs' h1 h2
    cases e
    obtain ⟨a, b⟩ := valO_sim h h1
    obtain ⟨c, d⟩ := valsO_sim h h2
    exact ⟨by simp only [evs, a, c], by simpa using ⟨b, d⟩⟩
  · cases e
theorem partsV_sim {s : SK} {st : St} (h : SimK s st) : ∀ {ps : List (Nat × Nat × Opd)} {qs : List (Nat × Nat × AV)} (z : List AV), partsV s.env ps = some qs → fillA st.env ps z = fillC qs z
 | [], qs, z, e => by cases e; rfl
 | (a, b, x) :: ps, qs, z, e => by
  simp only [partsV] at e
  split at e
  · rename_i v vs' h1 h2
    cases e
    obtain ⟨c, _⟩ := valO_sim h h1
    simp only [fillA, c, fillC]
    split
    · exact partsV_sim h _ h2
    · rfl
  · cases e
def pickV (c a b : AV) : Option AV :=
 match c with
 | .bool true => some a
 | .bool false => some b
 | _ => none
def ifaceV (t : TypeId) (v : AV) : Option AV := if v.noL = true then some (.iface t v) else none
def funcV (fn : Fn) (a b : List AV) : Option AV := if allNoL a = true ∧ allNoL b = true then some (.func fn a b) else none
def natV : AV → Option Nat
 | .int _ n => if 0 ≤ n then some n.toNat else none
 | _ => none
def nl (o : Option AV) : Option AV := o.bind fun v => if v.notL = true then some v else none
theorem nl_some {o : Option AV} {v : AV} (h : nl o = some v) : o = some v ∧ v.notL = true := by
 unfold nl at h
 cases o with
 | none => cases h
 | some w =>
  simp only [Option.bind_some] at h
  split at h
  · rename_i hw; cases h; exact ⟨rfl, hw⟩
  · cases h
def sliceV (k : SlKind) (v : AV) (l h m : Option AV) : Option AV :=
 match l, h, m with
 | none, none, none => sliceA k v 0 none none
 | some l, none, none => (natV l).bind fun l => sliceA k v l none none
 | none, some h, none => (natV h).bind fun h => sliceA k v 0 (some h) none
 | some l, some h, none => (natV l).bind fun l => (natV h).bind fun h => sliceA k v l (some h) none
 | none, some h, some m => (natV h).bind fun h => (natV m).bind fun m => sliceA k v 0 (some h) (some m)
 | some l, some h, some m => (natV l).bind fun l => (natV h).bind fun h => (natV m).bind fun m => sliceA k v l (some h) (some m)
 | _, none, some _ => none
def isNilV (neg : Bool) : AV → Option AV
 | .nilIface => some (.bool !neg)
 | .iface .. => some (.bool neg)
 | _ => none
def capV : AV → Option AV
 | .nils => some (.int .i64 0)
 | .slice _ _ _ c => some (.int .i64 c)
 | .xslice .. => some (.int .i64 0)
 | _ => none
def opV (s : SK) : IOp → Option AV
 | .pick c a b => match valO c s.env, valO a s.env, valO b s.env with
  | some c, some a, some b => pickV c a b
  | _, _, _ => none
 | .build z ps => match partsV s.env ps with
  | some qs => (fillC qs z).map .agg
  | none => none
 | .bin op e x y => match valO x s.env, valO y s.env with
  | some a, some b => nl (binA op e a b)
  | _, _ => none
 | .un op x => match valO x s.env with
  | some a => nl (unA op a)
  | none => none
 | .conv (.toInt k) x => match valO x s.env with
  | some a => convI k a
  | none => none
 | .conv .strId x => match valO x s.env with
  | some a => convS a
  | none => none
 | .mkIface t x => match valO x s.env with
  | some a => ifaceV t a
  | none => none
 | .mkFunc fn a b => match valsO s.env a, valsO s.env b with
  | some a, some b => funcV fn a b
  | _, _ => none
 | .slice k x lo hi mx => match valO x s.env, optV s.env lo, optV s.env hi, optV s.env mx with
  | some v, some l, some h, some m => nl (sliceV k v l h m)
  | _, _, _, _ => none
 | .field agg sz off x => match valO x s.env with
  | some v => nl (fldV agg sz off v)
  | none => none
 | .indexAddr none sz x i => match valO x s.env, valO i s.env with
  | some v, some n => nl (idxS sz v n)
  | _, _ => none
 | .index none x i => match valO x s.env, valO i s.env with
  | some v, some n => idxStr v n
  | _, _ => none
 | .index (some (m, agg, sz)) x i => match valO x s.env, valO i s.env with
  | some v, some n => nl (idxAgg m agg sz v n)
  | _, _ => none
 | .extract x i => match valO x s.env with
  | some v => nl (extA i v)
  | none => none
 | .len .slice x => match valO x s.env with
  | some v => lenS v
  | none => none
 | .len .str x => match valO x s.env with
  | some v => lenStr v
  | none => none
 | .len (.arr n) x => match svO x s.env with
  | some _ => some (.int .i64 n)
  | none => none
 | .len .map x => match valO x s.env with
  | some v => lenMap s.H v
  | none => none
 | .conv .ofBytes x => match valO x s.env with
  | some v => (bytesA s.H v).map .str
  | none => none
 | .lookup t ok z x k => match valO x s.env, valO k s.env with
  | some u, some v => nl (lookupA s.H t ok z u v)
  | _, _ => none
 | .entryM x => match valO x s.env with
  | some v => nl (entryMA s.H v)
  | none => none
 | .maxs x r => match valO x s.env, valsO s.env r with
  | some v, some vs => nl (foldA max2A v vs)
  | _, _ => none
 | .mins x r => match valO x s.env, valsO s.env r with
  | some v, some vs => nl (foldA min2A v vs)
  | _, _ => none
 | .isNilI neg x => match valO x s.env with
  | some v => isNilV neg v
  | none => none
 | .capS x => match valO x s.env with
  | some v => capV v
  | none => none
 | .ptrEq neg x y => match valO x s.env, valO y s.env with
  | some a, some b => (ptrEqA s.H a b).map fun r => .bool (r != neg)
  | _, _ => none
 | _ => none
theorem natV_some {v : AV} {n : Nat} (h : natV v = some n) : ∃ k i, v = .int k i ∧ 0 ≤ i ∧ i.toNat = n := by
 cases v with
 | int k i =>
  simp only [natV] at h
  split at h
  · rename_i h0; cases h; exact ⟨k, i, rfl, h0, rfl⟩
  · cases h
 | _ => cases h
theorem optV_sim {s : SK} {st : St} (h : SimK s st) {x : Option Opd} {v : Option AV} (e : optV s.env x = some v) :
    (x = none ∧ v = none) ∨ ∃ y w, x = some y ∧ v = some w ∧ y.ev st.env = some w := by
 cases x with
 | none => cases e; exact .inl ⟨rfl, rfl⟩
 | some y =>
  simp only [optV] at e
  split at e
  · rename_i w hw; cases e; exact .inr ⟨y, w, rfl, rfl, (valO_sim h hw).1⟩
  · cases e
theorem opt_bind_some {α β : Type} {o : Option α} {f : α → Option β} {b : β} (h : o.bind f = some b) : ∃ a, o = some a ∧ f a = some b := by
 cases o with
 | none => cases h
 | some a => exact ⟨a, rfl, h⟩
theorem slice_sim {s : SK} {st : St} (h : SimK s st) (k : SlKind) {lo hi mx : Option Opd} {l u m : Option AV} {v r : AV} (hl : optV s.env lo = some l) (hu : optV s.env hi = some u) (hm : optV s.env mx = some m) (e : sliceV k v l u m = some r) :
    ((optInt st.env 0 lo).bind fun l => (optIntO st.env hi).bind fun h => (optIntO st.env mx).bind fun m => sliceA k v l h m) = some r := by
 have one : ∀ {x : Option Opd} {y : Opd} {w : AV} {n : Nat} (d : Nat), y.ev st.env = some w → natV w = some n → optInt st.env d (some y) = some n := by
  intro x y w n d h1 h2
  obtain ⟨k', i, rfl, h3, h4⟩ := natV_some h2
  simp only [optInt, h1, h3, if_true, h4]
 rcases optV_sim h hl with ⟨rfl, rfl⟩ | ⟨y1, w1, rfl, rfl, e1⟩ <;> rcases optV_sim h hu with ⟨rfl, rfl⟩ | ⟨y2, w2, rfl, rfl, e2⟩ <;> rcases optV_sim h hm with ⟨rfl, rfl⟩ | ⟨y3, w3, rfl, rfl, e3⟩ <;> simp only [sliceV] at e
 · simpa [optInt, optIntO] using e
 · cases e
 · obtain ⟨n2, g2, e⟩ := opt_bind_some e
   have a2 := one (x := none) 0 e2 g2
   simp only [optIntO, a2, Option.map_some, Option.bind_some]
   simp only [optInt, Option.bind_some]; exact e
 · obtain ⟨n2, g2, e⟩ := opt_bind_some e
   obtain ⟨n3, g3, e⟩ := opt_bind_some e
   have a2 := one (x := none) 0 e2 g2
   have a3 := one (x := none) 0 e3 g3
   simp only [optIntO, a2, a3, Option.map_some, Option.bind_some]
   simp only [optInt, Option.bind_some]; exact e
 · obtain ⟨n1, g1, e⟩ := opt_bind_some e
   have a1 := one (x := none) 0 e1 g1
   simp only [optIntO, a1, Option.map_some, Option.bind_some]; exact e
 · cases e
 · obtain ⟨n1, g1, e⟩ := opt_bind_some e
   obtain ⟨n2, g2, e⟩ := opt_bind_some e
   have a1 := one (x := none) 0 e1 g1
   have a2 := one (x := none) 0 e2 g2
   simp only [optIntO, a1, a2, Option.map_some, Option.bind_some]; exact e
 · obtain ⟨n1, g1, e⟩ := opt_bind_some e
   obtain ⟨n2, g2, e⟩ := opt_bind_some e
   obtain ⟨n3, g3, e⟩ := opt_bind_some e
   have a1 := one (x := none) 0 e1 g1
   have a2 := one (x := none) 0 e2 g2
   have a3 := one (x := none) 0 e3 g3
   simp only [optIntO, a1, a2, a3, Option.map_some, Option.bind_some]; exact e
theorem lenS_notL {v r : AV} (h : lenS v = some r) : r.notL = true := by cases v <;> first | (cases h; done) | (cases h; rfl)
theorem opV_sim {s : SK} {st : St} (h : SimK s st) (C : CallF) (dst : Option Nat) {op : IOp} {v : AV} (e : opV s op = some v) : stepOp C ⟨dst, op, none⟩ st = some (st.put dst v) ∧ v.notL = true := by
 cases op with
 | pick c a b =>
  simp only [opV] at e
  split at e
  · rename_i c' a' b' h1 h2 h3
    obtain ⟨c1, _⟩ := valO_sim h h1
    obtain ⟨c2, d2⟩ := valO_sim h h2
    obtain ⟨c3, d3⟩ := valO_sim h h3
    rw [st_pick, c1, c2, c3]
    unfold pickV at e
    split at e
    · cases e; exact ⟨rfl, d2⟩
    · cases e; exact ⟨rfl, d3⟩
    · cases e
  · cases e
 | isNilI neg x =>
  simp only [opV] at e
  split at e
  · rename_i a h1
    rw [st_gen _ _ _ _ (by simp)]
    simp only [evOp, (valO_sim h h1).1]
    cases a <;> simp only [isNilV] at e <;> first | (cases e; done) | (cases e; exact ⟨rfl, rfl⟩)
  · cases e
 | capS x =>
  simp only [opV] at e
  split at e
  · rename_i a h1
    rw [st_gen _ _ _ _ (by simp)]
    simp only [evOp, (valO_sim h h1).1]
    cases a <;> simp only [capV] at e <;> first | (cases e; done) | (cases e; exact ⟨rfl, rfl⟩)
  · cases e
 | ptrEq neg x y =>
  simp only [opV] at e
  split at e
  · rename_i a b h1 h2
    rw [st_gen _ _ _ _ (by simp)]
    simp only [evOp, (valO_sim h h1).1, (valO_sim h h2).1]
    rw [← h.H] at e
    cases hp : ptrEqA st.H a b with
    | none => rw [hp] at e; cases e
    | some r => rw [hp] at e; cases e; exact ⟨rfl, rfl⟩
  · cases e
 | build z ps =>
  simp only [opV] at e
  split at e
  · rename_i qs h1
    rw [st_build, partsV_sim h z h1]
    cases hf : fillC qs z with
    | none => rw [hf] at e; cases e
    | some cs => rw [hf] at e; cases e; exact ⟨rfl, rfl⟩
  · cases e
 | bin op t x y =>
  simp only [opV] at e
  split at e
  · rename_i a b h1 h2
    obtain ⟨e1, e2⟩ := nl_some e
    rw [st_bin, (valO_sim h h1).1, (valO_sim h h2).1]
    exact ⟨by simp only [Option.bind_some, e1, Option.map_some], e2⟩
  · cases e
 | un op x =>
  simp only [opV] at e
  split at e
  · rename_i a h1
    obtain ⟨e1, e2⟩ := nl_some e
    rw [st_un, (valO_sim h h1).1]
    exact ⟨by simp only [Option.bind_some, e1, Option.map_some], e2⟩
  · cases e
 | conv c x =>
  cases c with
  | toInt k =>
   simp only [opV] at e
   split at e
   · rename_i a h1
     rw [st_convI, (valO_sim h h1).1]
     exact ⟨by simp only [Option.bind_some, e, Option.map_some], by cases a <;> first | (cases e; done) | (cases e; rfl)⟩
   · cases e
  | strId =>
   simp only [opV] at e
   split at e
   · rename_i a h1
     rw [st_convS, (valO_sim h h1).1]
     exact ⟨by simp only [Option.bind_some, e, Option.map_some], by cases a <;> first | (cases e; done) | (cases e; rfl)⟩
   · cases e
  | ofBytes =>
   simp only [opV] at e
   split at e
   · rename_i a h1
     rw [st_convO, (valO_sim h h1).1, h.H]
     cases hb : bytesA s.H a with
     | none => rw [hb] at e; cases e
     | some l => rw [hb] at e; cases e; exact ⟨by simp only [Option.bind_some, hb, Option.map_some], rfl⟩
   · cases e
  | _ => cases e
 | mkIface t x =>
  simp only [opV] at e
  split at e
  · rename_i a h1
    unfold ifaceV at e
    split at e
    · rename_i hn
      cases e
      rw [st_mkIface, (valO_sim h h1).1]
      exact ⟨by simp only [Option.bind_some, hn, if_true], rfl⟩
    · cases e
  · cases e
 | mkFunc fn a b =>
  simp only [opV] at e
  split at e
  · rename_i a' b' h1 h2
    unfold funcV at e
    split at e
    · rename_i hn
      cases e
      rw [st_mkFunc, (valsO_sim h h1).1, (valsO_sim h h2).1]
      exact ⟨by simp only [Option.bind_some, hn, and_self, if_true], rfl⟩
    · cases e
  · cases e
 | slice k x lo hi mx =>
  simp only [opV] at e
  split at e
  · rename_i v' l u m h1 h2 h3 h4
    obtain ⟨e1, e2⟩ := nl_some e
    have := slice_sim h k h2 h3 h4 e1
    rw [st_slice, (valO_sim h h1).1]
    refine ⟨?_, e2⟩
    simp only [Option.bind_some]
    cases g1 : optInt st.env 0 lo with
    | none => rw [g1] at this; cases this
    | some a1 =>
     cases g2 : optIntO st.env hi with
     | none => rw [g1, g2] at this; cases this
     | some a2 =>
      cases g3 : optIntO st.env mx with
      | none => rw [g1, g2, g3] at this; cases this
      | some a3 =>
       rw [g1, g2, g3] at this
       simp only [Option.bind_some] at this ⊢
       rw [this]; rfl
  · cases e
 | field agg sz off x =>
  simp only [opV] at e
  split at e
  · rename_i a h1
    obtain ⟨e1, e2⟩ := nl_some e
    rw [st_field, (valO_sim h h1).1]
    exact ⟨by simp only [Option.bind_some, e1, Option.map_some], e2⟩
  · cases e
 | indexAddr m sz x i =>
  cases m with
  | none =>
   simp only [opV] at e
   split at e
   · rename_i a b h1 h2
     obtain ⟨e1, e2⟩ := nl_some e
     rw [st_idx, (valO_sim h h1).1, (valO_sim h h2).1]
     exact ⟨by simp only [Option.bind_some, e1, Option.map_some], e2⟩
   · cases e
  | some m => cases e
 | index m x i =>
  cases m with
  | none =>
   simp only [opV] at e
   split at e
   · rename_i a b h1 h2
     rw [st_idxStr, (valO_sim h h1).1, (valO_sim h h2).1]
     refine ⟨by simp only [Option.bind_some, e, Option.map_some], ?_⟩
     unfold idxStr at e
     split at e
     · split at e
       · simp only [Option.map_eq_some_iff] at e
         obtain ⟨_, _, rfl⟩ := e
         rfl
       · cases e
     · cases e
   · cases e
  | some q =>
   obtain ⟨m, agg, sz⟩ := q
   simp only [opV] at e
   split at e
   · rename_i a b h1 h2
     obtain ⟨e1, e2⟩ := nl_some e
     rw [st_idxAgg, (valO_sim h h1).1, (valO_sim h h2).1]
     exact ⟨by simp only [Option.bind_some, e1, Option.map_some], e2⟩
   · cases e
 | extract x i =>
  simp only [opV] at e
  split at e
  · rename_i a h1
    obtain ⟨e1, e2⟩ := nl_some e
    rw [st_extract, (valO_sim h h1).1]
    exact ⟨by simp only [Option.bind_some, e1, Option.map_some], e2⟩
  · cases e
 | len k x =>
  cases k with
  | slice =>
   simp only [opV] at e
   split at e
   · rename_i a h1
     rw [st_len, (valO_sim h h1).1]
     exact ⟨by simp only [Option.bind_some, e, Option.map_some], lenS_notL e⟩
   · cases e
  | str =>
   simp only [opV] at e
   split at e
   · rename_i a h1
     rw [st_lenStr, (valO_sim h h1).1]
     exact ⟨by simp only [Option.bind_some, e, Option.map_some], by cases a <;> first | (cases e; done) | (cases e; rfl)⟩
   · cases e
  | arr n =>
   simp only [opV] at e
   split at e
   · rename_i a h1
     cases e
     rw [st_lenArr, (svO_sim h h1).1]
     exact ⟨rfl, rfl⟩
   · cases e
  | map =>
   simp only [opV] at e
   split at e
   · rename_i a h1
     rw [st_lenMap, (valO_sim h h1).1, h.H]
     refine ⟨by simp only [Option.bind_some, e, Option.map_some], ?_⟩
     unfold lenMap at e
     split at e
     · cases e; rfl
     · split at e
       · cases e; rfl
       · cases e
     · cases e
   · cases e
 | lookup t ok z x k =>
  simp only [opV] at e
  split at e
  · rename_i a b h1 h2
    obtain ⟨e1, e2⟩ := nl_some e
    rw [st_lookup, (valO_sim h h1).1, (valO_sim h h2).1, h.H]
    exact ⟨by simp only [Option.bind_some, e1, Option.map_some], e2⟩
  · cases e
 | entryM x =>
  simp only [opV] at e
  split at e
  · rename_i a h1
    obtain ⟨e1, e2⟩ := nl_some e
    rw [st_entryM, (valO_sim h h1).1, h.H]
    exact ⟨by simp only [Option.bind_some, e1, Option.map_some], e2⟩
  · cases e
 | maxs x r =>
  simp only [opV] at e
  split at e
  · rename_i a b h1 h2
    obtain ⟨e1, e2⟩ := nl_some e
    rw [st_maxs, (valO_sim h h1).1, (valsO_sim h h2).1]
    exact ⟨by simp only [Option.bind_some, e1, Option.map_some], e2⟩
  · cases e
 | mins x r =>
  simp only [opV] at e
  split at e
  · rename_i a b h1 h2
    obtain ⟨e1, e2⟩ := nl_some e
    rw [st_mins, (valO_sim h h1).1, (valsO_sim h h2).1]
    exact ⟨by simp only [Option.bind_some, e1, Option.map_some], e2⟩
  · cases e
 | _ => cases e
def boxC (v : AV) : Option (List AV) := if v.noL = true then some v.cells else none
def stL (sz off : Nat) (v : AV) (cells : List AV) : Option (List AV) := if (v.noL && v.cells.length = sz && off + sz ≤ cells.length) = true then some (wr off v.cells cells) else none
def storeP (H : AHeap) (sz : Nat) (v : AV) : AV → Option AHeap
 | .ptr id off => match H.get id with
  | some (.row false e cells) => (stL sz off v cells).map fun cs => H.set id (.row false e cs)
  | _ => none
 | _ => none
def loadP (H : AHeap) (agg : Bool) (sz : Nat) : AV → Option AV
 | .ptr id off => H.rdAt id agg sz off
 | _ => none
def fldP (off : Nat) : AV → Option AV
 | .ptr id o => some (.ptr id (o + off))
 | _ => none
def idxP (m sz : Nat) : AV → AV → Option AV
 | .ptr id off, .int _ n => if 0 ≤ n ∧ n < m then some (.ptr id (off + n.toNat * sz)) else none
 | _, _ => none
def inN (m : Nat) : AV → Option Nat
 | .int _ n => if 0 ≤ n ∧ n < m then some n.toNat else none
 | _ => none
def clearP (H : AHeap) (sz : Nat) (zero : List AV) (id off len : Nat) : Option AHeap :=
 if len = 0 then some H else match H.get id with
 | some (.row false e cells) => if off + len * sz ≤ cells.length && zero.length = sz then some (H.set id (.row false e (wr off (zerosA zero len) cells))) else none
 | _ => none
def clearW (H : AHeap) (sz : Nat) (zero : List AV) : AV → Option AHeap
 | .nils => some H
 | .eslice .. => some H
 | .xslice .. => some H
 | .slice id off len _ => clearP H sz zero id off len
 | .oslice id off len _ _ => clearP H sz zero id off len
 | _ => none
def callN (C : CallF) (f : AV) (vs : List AV) (H : AHeap) : Option (AV × AHeap) :=
 match f with
 | .func (.func g) first captured => if g < 4294967296 then if allNoL vs = true then (C g (first ++ (vs ++ captured)) H).bind fun r => if r.1.notL = true then some r else none else none else none
 | .yield id => if allNoL vs = true then (C yieldF (.ptr id 0 :: vs) H).bind fun r => if r.1.notL = true then some r else none else none
 | _ => none
def nlR (o : Option (AV × AHeap)) : Option (AV × AHeap) := o.bind fun r => if r.1.notL = true then some r else none
theorem nlR_some {o : Option (AV × AHeap)} {v : AV × AHeap} (h : nlR o = some v) : o = some v ∧ v.1.notL = true := by
 unfold nlR at h
 cases o with
 | none => cases h
 | some w =>
  simp only [Option.bind_some] at h
  split at h
  · rename_i hw; cases h; exact ⟨rfl, hw⟩
  · cases h
def strV : AV → Option (List UInt8)
 | .str l => some l
 | _ => none
def mkSlV (sz bytes : Nat) (zero : List AV) (H : AHeap) : AV → AV → Option (AV × AHeap)
 | .int .i64 l, .int .i64 c => if 0 ≤ l ∧ l ≤ c ∧ c * bytes ≤ 2 ^ 47 ∧ c < 2 ^ 63 then some (.slice H.n 0 l.toNat c.toNat, H.alloc (.row false sz (zerosA zero c.toNat))) else none
 | _, _ => none
def opH (C : CallF) (s : SK) : IOp → Option (AV × AHeap)
 | .alloc false sz zero => some (.ptr s.H.n 0, s.H.alloc (.row false sz zero))
 | .box false sz x => match valO x s.env with
  | some v => (boxC v).map fun cs => (.ptr s.H.n 0, s.H.alloc (.row false sz cs))
  | none => none
 | .buildSlice sz len z ps => match partsV s.env ps with
  | some qs => (fillC qs z).map fun cs => (.slice s.H.n 0 len len, s.H.alloc (.row false sz cs))
  | none => none
 | .conv .toBytes x => match valO x s.env with
  | some v => (strV v).map fun l => (.oslice s.H.n 0 l.length l.length 1, s.H.alloc (.row false 1 (l.map fun b => .int .u8 b.toNat)))
  | none => none
 | .mkMap => some (.map s.H.n, s.H.alloc (.map [] 0))
 | .mkSlice sz bytes zero a b => match valO a s.env, valO b s.env with
  | some u, some v => mkSlV sz bytes zero s.H u v
  | _, _ => none
 | .append sz bytes a x => match valO a s.env, valO x s.env with
  | some u, some v => nlR (appendA s.H sz bytes u v)
  | _, _ => none
 | .clear sz zero x => match valO x s.env with
  | some v => (clearW s.H sz zero v).map fun H => (undefA, H)
  | none => none
 | .rangeS x => match valO x s.env with
  | some v => rangeH s.H v
  | none => none
 | .nextS x => match valO x s.env with
  | some v => nlR (nextA s.H v)
  | none => none
 | .rangeM x => match valO x s.env with
  | some v => nlR (rangeMA s.H v)
  | none => none
 | .mapEntry t z x k => match valO x s.env, valO k s.env with
  | some a, some b => nlR (mapEntryA s.H t z a b)
  | _, _ => none
 | .entryStore x b v => match valO x s.env, valO b s.env, valO v s.env with
  | some a, some b, some c => (entryStoreA s.H a b c).map fun H => (undefA, H)
  | _, _, _ => none
 | .mapUpdate t x k v => match valO x s.env, valO k s.env, valO v s.env with
  | some a, some b, some c => (updA s.H t a b c).map fun H => (undefA, H)
  | _, _, _ => none
 | .delete t x k => match valO x s.env, valO k s.env with
  | some a, some b => (delA s.H t a b).map fun H => (undefA, H)
  | _, _ => none
 | .call f args => match valO f s.env, valsO s.env args with
  | some g, some vs => callN C g vs s.H
  | _, _ => none
 | _ => none
theorem clearP_sim {st : St} {dst : Option Nat} {sz : Nat} {zero : List AV} {id off len : Nat} {H : AHeap} (e : clearP st.H sz zero id off len = some H) : clearA st sz zero id off len = some (undefA, { st with H := H }) := by
 unfold clearP at e
 unfold clearA
 split at e
 · cases e; rename_i h; rw [if_pos h]
 · rename_i h
   rw [if_neg h]
   split at e
   · rename_i e' cells hg
     rw [hg]
     simp only
     split at e
     · rename_i h2; cases e; rw [if_pos h2]
     · cases e
   · cases e
theorem opH_sim {s : SK} {st : St} (h : SimK s st) {C : CallF} (dst : Option Nat) {op : IOp} {r : AV × AHeap} (e : opH C s op = some r) : stepOp C ⟨dst, op, none⟩ st = some (({ st with H := r.2 } : St).put dst r.1) ∧ r.1.notL = true := by
 cases op with
 | alloc l sz zero =>
  cases l with
  | true => cases e
  | false => cases e; rw [st_alloc, h.H]; exact ⟨rfl, rfl⟩
 | box l sz x =>
  cases l with
  | true => cases e
  | false =>
   simp only [opH] at e
   split at e
   · rename_i v h1
     unfold boxC at e
     split at e
     · rename_i hn
       cases e
       rw [st_box, (valO_sim h h1).1, h.H]
       exact ⟨by simp only [Option.bind_some, hn, if_true], rfl⟩
     · cases e
   · cases e
 | buildSlice sz len z ps =>
  simp only [opH] at e
  split at e
  · rename_i qs h1
    rw [st_buildSlice, partsV_sim h z h1, h.H]
    cases hf : fillC qs z with
    | none => rw [hf] at e; cases e
    | some cs => rw [hf] at e; cases e; exact ⟨rfl, rfl⟩
  · cases e
 | conv c x =>
  cases c with
  | toBytes =>
   simp only [opH] at e
   split at e
   · rename_i v h1
     rw [st_convB, (valO_sim h h1).1, Option.bind_some]
     cases v <;> first | (cases e; done) | (cases e; exact ⟨by simp only [convB, h.H], rfl⟩)
   · cases e
  | _ => cases e
 | mkMap => cases e; rw [st_mkMap, h.H]; exact ⟨rfl, rfl⟩
 | mkSlice sz bytes zero a b =>
  simp only [opH] at e
  split at e
  · rename_i u v h1 h2
    rw [st_mkSlice, (valO_sim h h1).1, (valO_sim h h2).1, Option.bind_some, Option.bind_some]
    unfold mkSlV at e
    split at e
    · split at e
      · rename_i hc
        cases e
        exact ⟨by simp only [mkSl, hc, and_self, if_true, h.H], rfl⟩
      · cases e
    · cases e
  · cases e
 | append sz bytes a x =>
  simp only [opH] at e
  split at e
  · rename_i u v h1 h2
    obtain ⟨e1, e2⟩ := nlR_some e
    rw [st_append, (valO_sim h h1).1, (valO_sim h h2).1, Option.bind_some, Option.bind_some, h.H, e1]
    exact ⟨rfl, e2⟩
  · cases e
 | rangeS x =>
  simp only [opH] at e
  split at e
  · rename_i v h1
    rw [st_rangeS, (valO_sim h h1).1, Option.bind_some, h.H, e]
    refine ⟨rfl, ?_⟩
    cases v <;> first | (cases e; done) | (cases e; rfl)
  · cases e
 | nextS x =>
  simp only [opH] at e
  split at e
  · rename_i v h1
    obtain ⟨e1, e2⟩ := nlR_some e
    rw [st_nextS, (valO_sim h h1).1, Option.bind_some, h.H, e1]
    exact ⟨rfl, e2⟩
  · cases e
 | rangeM x =>
  simp only [opH] at e
  split at e
  · rename_i v h1
    obtain ⟨e1, e2⟩ := nlR_some e
    rw [st_rangeM, (valO_sim h h1).1, Option.bind_some, h.H, e1]
    exact ⟨rfl, e2⟩
  · cases e
 | mapEntry t z x k =>
  simp only [opH] at e
  split at e
  · rename_i a b h1 h2
    obtain ⟨e1, e2⟩ := nlR_some e
    rw [st_mapEntry, (valO_sim h h1).1, (valO_sim h h2).1, Option.bind_some, Option.bind_some, h.H, e1]
    exact ⟨rfl, e2⟩
  · cases e
 | entryStore x b v =>
  simp only [opH] at e
  split at e
  · rename_i a b c h1 h2 h3
    rw [st_entryStore, (valO_sim h h1).1, (valO_sim h h2).1, (valO_sim h h3).1, h.H]
    cases hc : entryStoreA s.H a b c with
    | none => rw [hc] at e; cases e
    | some H' => rw [hc] at e; cases e; exact ⟨by simp only [Option.bind_some, hc, Option.map_some], rfl⟩
  · cases e
 | mapUpdate t x k v =>
  simp only [opH] at e
  split at e
  · rename_i a b c h1 h2 h3
    rw [st_mapUpdate, (valO_sim h h1).1, (valO_sim h h2).1, (valO_sim h h3).1, h.H]
    cases hc : updA s.H t a b c with
    | none => rw [hc] at e; cases e
    | some H' => rw [hc] at e; cases e; exact ⟨by simp only [Option.bind_some, hc, Option.map_some], rfl⟩
  · cases e
 | delete t x k =>
  simp only [opH] at e
  split at e
  · rename_i a b h1 h2
    rw [st_delete, (valO_sim h h1).1, (valO_sim h h2).1, h.H]
    cases hc : delA s.H t a b with
    | none => rw [hc] at e; cases e
    | some H' => rw [hc] at e; cases e; exact ⟨by simp only [Option.bind_some, hc, Option.map_some], rfl⟩
  · cases e
 | clear sz zero x =>
  simp only [opH] at e
  split at e
  · rename_i v h1
    rw [st_clear, (valO_sim h h1).1, Option.bind_some]
    cases hc : clearW s.H sz zero v with
    | none => rw [hc] at e; cases e
    | some H' =>
     rw [hc] at e
     cases e
     refine ⟨?_, rfl⟩
     rw [← h.H] at hc
     cases v with
     | nils => cases hc; rfl
     | eslice => cases hc; rfl
     | xslice => cases hc; rfl
     | slice id off len c => simp only [clearV, clearP_sim (dst := dst) hc, Option.map_some]
     | oslice id off len c z => simp only [clearV, clearP_sim (dst := dst) hc, Option.map_some]
     | _ => cases hc
  · cases e
 | call f args =>
  simp only [opH] at e
  split at e
  · rename_i g vs h1 h2
    rw [st_call, (valO_sim h h1).1, (valsO_sim h h2).1, Option.bind_some, Option.bind_some]
    unfold callN at e
    split at e
    · split at e
      · rename_i hg
        split at e
        · rename_i hn
          obtain ⟨r', e1, e2⟩ := opt_bind_some e
          split at e2
          · rename_i h3
            cases e2
            rw [callA_lt C dst st hg hn, h.H, e1]
            exact ⟨rfl, h3⟩
          · cases e2
        · cases e
      · cases e
    · split at e
      · rename_i hn
        obtain ⟨r', e1, e2⟩ := opt_bind_some e
        split at e2
        · rename_i h3
          cases e2
          simp only [callA, callR, hn, if_true, h.H, e1, Option.map_some]
          exact ⟨trivial, h3⟩
        · cases e2
      · cases e
    · cases e
  · cases e
 | _ => cases e
def freeK (t : Nat) (env : List (Nat × Slt)) : Bool := env.all fun e => match e.2 with | .l u _ => !(u == t) || e.1 == t | _ => true
section
variable {R : Type}
def opK (C : CallF) (dst : Option Nat) (op : IOp) (s : SK) (k : SK → Option R) : Option R :=
 match op with
 | .move x => match svO x s.env with
  | some sv => k (s.put dst sv)
  | none => none
 | .nilCheck x => match svO x s.env with
  | some (.l t o) => k (s.put dst (.l t o))
  | some (.v v) => (nilC v).bind fun v => k (s.putV dst v)
  | _ => none
 | .alloc true sz zero => match dst with
  | some t => (match freeK t s.env with
   | true => k { env := (t, .l t 0) :: s.env, loc := (t, zero) :: s.loc, H := s.H }
   | false => none)
  | none => none
 | .box true sz x => match dst, valO x s.env with
  | some t, some v => (match freeK t s.env with
   | true => (boxC v).bind fun cs => k { env := (t, .l t 0) :: s.env, loc := (t, cs) :: s.loc, H := s.H }
   | false => none)
  | _, _ => none
 | .load agg sz a => match svO a s.env with
  | some (.l t off) => (match look t s.loc with
   | some cells => (nl (rd agg sz off cells)).bind fun v => k (s.putV dst v)
   | none => none)
  | some (.v p) => (nl (loadP s.H agg sz p)).bind fun v => k (s.putV dst v)
  | _ => none
 | .store sz a x => match svO a s.env, valO x s.env with
  | some (.l t off), some v => (match look t s.loc with
   | some cells => (stL sz off v cells).bind fun cs => k (({ s with loc := (t, cs) :: s.loc } : SK).putV dst undefA)
   | none => none)
  | some (.v p), some v => (storeP s.H sz v p).bind fun H => k (({ s with H := H } : SK).putV dst undefA)
  | _, _ => none
 | .fieldAddr off x => match svO x s.env with
  | some (.l t o) => k (s.put dst (.l t (o + off)))
  | some (.v p) => (fldP off p).bind fun v => k (s.putV dst v)
  | _ => none
 | .indexAddr (some m) sz x i => match svO x s.env, valO i s.env with
  | some (.l t off), some n => (inN m n).bind fun j => k (s.put dst (.l t (off + j * sz)))
  | some (.v p), some n => (idxP m sz p n).bind fun v => k (s.putV dst v)
  | _, _ => none
 | .alloc false sz zero => (opH C s (.alloc false sz zero)).bind fun r => k (({ s with H := r.2 } : SK).putV dst r.1)
 | .box false sz x => (opH C s (.box false sz x)).bind fun r => k (({ s with H := r.2 } : SK).putV dst r.1)
 | .buildSlice sz len z ps => (opH C s (.buildSlice sz len z ps)).bind fun r => k (({ s with H := r.2 } : SK).putV dst r.1)
 | .conv .toBytes x => (opH C s (.conv .toBytes x)).bind fun r => k (({ s with H := r.2 } : SK).putV dst r.1)
 | .mkMap => (opH C s .mkMap).bind fun r => k (({ s with H := r.2 } : SK).putV dst r.1)
 | .mkSlice sz bytes zero a b => (opH C s (.mkSlice sz bytes zero a b)).bind fun r => k (({ s with H := r.2 } : SK).putV dst r.1)
 | .append sz bytes a x => (opH C s (.append sz bytes a x)).bind fun r => k (({ s with H := r.2 } : SK).putV dst r.1)
 | .clear sz zero x => (opH C s (.clear sz zero x)).bind fun r => k (({ s with H := r.2 } : SK).putV dst r.1)
 | .rangeS x => (opH C s (.rangeS x)).bind fun r => k (({ s with H := r.2 } : SK).putV dst r.1)
 | .nextS x => (opH C s (.nextS x)).bind fun r => k (({ s with H := r.2 } : SK).putV dst r.1)
 | .rangeM x => (opH C s (.rangeM x)).bind fun r => k (({ s with H := r.2 } : SK).putV dst r.1)
 | .mapEntry t z x i => (opH C s (.mapEntry t z x i)).bind fun r => k (({ s with H := r.2 } : SK).putV dst r.1)
 | .entryStore x b v => (opH C s (.entryStore x b v)).bind fun r => k (({ s with H := r.2 } : SK).putV dst r.1)
 | .mapUpdate t x i v => (opH C s (.mapUpdate t x i v)).bind fun r => k (({ s with H := r.2 } : SK).putV dst r.1)
 | .delete t x i => (opH C s (.delete t x i)).bind fun r => k (({ s with H := r.2 } : SK).putV dst r.1)
 | .call f args => (opH C s (.call f args)).bind fun r => k (({ s with H := r.2 } : SK).putV dst r.1)
 | op => (opV s op).bind fun v => k (s.putV dst v)
def guardK (g : AV) (w : Bool) (x y : Option R) : Option R :=
 match g with
 | .bool b => (match b == w with | true => x | false => y)
 | _ => none
def operK (C : CallF) (o : IOper) (s : SK) (k : SK → Option R) : Option R :=
 match o.guard with
 | none => opK C o.dst o.op s k
 | some (g, w) => match look g s.env with
  | some (.v t) => guardK t w (opK C o.dst o.op { s with env := (g, .v (.bool w)) :: s.env } k) (k (({ s with env := (g, .v (.bool !w)) :: s.env } : SK).put o.dst .u))
  | some .u => k (s.put o.dst .u)
  | _ => none
def opsK (C : CallF) : List IOper → SK → (SK → Option R) → Option R
 | [], s, k => k s
 | o :: r, s, k => operK C o s fun s' => opsK C r s' k
end
theorem OkR.bind {α β : Type} {o : Option α} {f : α → Option β} {P : β → Prop} (h : OkR (o.bind f) P) : ∃ a, o = some a ∧ OkR (f a) P := by
 obtain ⟨x, h, hp⟩ := h
 obtain ⟨a, h1, h2⟩ := opt_bind_some h
 exact ⟨a, h1, x, h2, hp⟩
theorem okR_none {α : Type} {P : α → Prop} : ¬ OkR none P := fun ⟨_, h, _⟩ => by cases h
theorem freeK_sim {s : SK} {st : St} (h : SimK s st) {t : Nat} (e : freeK t s.env = true) : freeL t st.env = true := by
 unfold freeK at e
 unfold freeL
 rw [List.all_eq_true] at e ⊢
 rintro ⟨k, v⟩ hm
 obtain ⟨sv, h1, h2⟩ := h.mem _ hm
 have := e _ h1
 simp only at h2 ⊢
 cases sv with
 | l u o => simp only [Slt.av] at h2; subst h2; exact this
 | v x =>
  simp only [Slt.av] at h2
  subst h2
  have := h.ok _ h1
  simp only [Slt.ok] at this
  cases x <;> first | rfl | (simp [AV.notL] at this)
 | u => simp only [Slt.av] at h2; subst h2; rfl
theorem SimK.newL {s : SK} {st : St} (h : SimK s st) (t : Nat) (cs : List AV) : SimK { env := (t, .l t 0) :: s.env, loc := (t, cs) :: s.loc, H := s.H } { env := (t, .lptr t 0) :: st.env, loc := (t, cs) :: st.loc, H := st.H } := by
 have := h.put (some t) (sv := .l t 0) rfl
 exact ⟨this.env, this.mem, this.ok, by simp [h.loc], h.H⟩
theorem SimK.withH {s : SK} {st : St} (h : SimK s st) (H : AHeap) : SimK { s with H := H } { st with H := H } := ⟨h.env, h.mem, h.ok, h.loc, rfl⟩
theorem SimK.withL {s : SK} {st : St} (h : SimK s st) (t : Nat) (cs : List AV) : SimK { s with loc := (t, cs) :: s.loc } { st with loc := (t, cs) :: st.loc } := ⟨h.env, h.mem, h.ok, by simp [h.loc], h.H⟩
section
variable {R : Type} {C : CallF}
theorem opK_V {s : SK} {st : St} (h : SimK s st) {dst : Option Nat} {op : IOp} {k : SK → Option R} {P : R → Prop} (e : OkR ((opV s op).bind fun v => k (s.putV dst v)) P) : ∃ st' s', stepOp C ⟨dst, op, none⟩ st = some st' ∧ SimK s' st' ∧ OkR (k s') P := by
 obtain ⟨v, e1, e2⟩ := e.bind
 obtain ⟨a, b⟩ := opV_sim h C dst e1
 exact ⟨_, _, a, h.putV dst b, e2⟩
theorem opK_H {s : SK} {st : St} (h : SimK s st) {dst : Option Nat} {op : IOp} {k : SK → Option R} {P : R → Prop} (e : OkR ((opH C s op).bind fun r => k (({ s with H := r.2 } : SK).putV dst r.1)) P) : ∃ st' s', stepOp C ⟨dst, op, none⟩ st = some st' ∧ SimK s' st' ∧ OkR (k s') P := by
 obtain ⟨v, e1, e2⟩ := e.bind
 obtain ⟨a, b⟩ := opH_sim h dst e1
 exact ⟨_, _, a, (h.withH v.2).putV dst b, e2⟩
theorem loadP_eq {s : SK} {st : St} (h : SimK s st) {agg : Bool} {sz : Nat} {p v : AV} (e : loadP s.H agg sz p = some v) : loadA st agg sz p = some v := by
 cases p with
 | ptr id off => rw [load_ptr st.env st.loc st.H, h.H]; exact e
 | _ => cases e
theorem opK_sim {s : SK} {st : St} (h : SimK s st) {dst : Option Nat} {op : IOp} {k : SK → Option R} {P : R → Prop} (e : OkR (opK C dst op s k) P) : ∃ st' s', stepOp C ⟨dst, op, none⟩ st = some st' ∧ SimK s' st' ∧ OkR (k s') P := by
 cases op with
 | move x =>
  simp only [opK] at e
  split at e
  · rename_i sv hs
    obtain ⟨a, b⟩ := svO_sim h hs
    exact ⟨_, _, by rw [st_move, a]; rfl, h.put dst b, e⟩
  · exact absurd e okR_none
 | nilCheck x =>
  simp only [opK] at e
  split at e
  · rename_i t o hs
    obtain ⟨a, b⟩ := svO_sim h hs
    exact ⟨_, _, by rw [st_nilCheck, a]; rfl, h.put dst b, e⟩
  · rename_i v hs
    obtain ⟨a, b⟩ := svO_sim h hs
    obtain ⟨w, e1, e2⟩ := e.bind
    refine ⟨_, _, by rw [st_nilCheck, a]; simp only [Slt.av, Option.bind_some, e1, Option.map_some], h.putV dst ?_, e2⟩
    have : w = v := by
     cases v with
     | func fn a b => cases fn <;> simp_all [nilC]
     | _ => simp_all [nilC]
    rw [this]; exact b
  · exact absurd e okR_none
 | alloc l sz zero =>
  cases l with
  | false => exact opK_H h e
  | true =>
   simp only [opK] at e
   split at e
   · rename_i t
     split at e
     · rename_i hf
       refine ⟨_, _, by rw [st_allocL, if_pos (freeK_sim h hf)], h.newL t zero, e⟩
     · exact absurd e okR_none
   · exact absurd e okR_none
 | box l sz x =>
  cases l with
  | false => exact opK_H h e
  | true =>
   simp only [opK] at e
   split at e
   · rename_i t v hs
     split at e
     · rename_i hf
       obtain ⟨cs, e1, e2⟩ := e.bind
       unfold boxC at e1
       split at e1
       · rename_i hn
         cases e1
         refine ⟨_, _, by rw [st_boxL, (valO_sim h hs).1, Option.bind_some, if_pos ⟨freeK_sim h hf, hn⟩], h.newL t v.cells, e2⟩
       · cases e1
     · exact absurd e okR_none
   · exact absurd e okR_none
 | load agg sz a =>
  simp only [opK] at e
  split at e
  · rename_i t off hs
    split at e
    · rename_i cells hc
      obtain ⟨v, e1, e2⟩ := e.bind
      obtain ⟨e3, e4⟩ := nl_some e1
      refine ⟨_, _, ?_, h.putV dst e4, e2⟩
      rw [st_load, (svO_sim h hs).1, Option.bind_some]
      show (loadA st agg sz (.lptr t off)).map _ = _
      rw [load_lptr st.env st.loc st.H, h.loc, hc]
      simp only [e3, Option.map_some]
    · exact absurd e okR_none
  · rename_i p hs
    obtain ⟨v, e1, e2⟩ := e.bind
    obtain ⟨e3, e4⟩ := nl_some e1
    refine ⟨_, _, ?_, h.putV dst e4, e2⟩
    rw [st_load, (svO_sim h hs).1, Option.bind_some]
    show (loadA st agg sz p).map _ = _
    rw [loadP_eq h e3, Option.map_some]
  · exact absurd e okR_none
 | store sz a x =>
  simp only [opK] at e
  split at e
  · rename_i t off v hs hv
    split at e
    · rename_i cells hc
      obtain ⟨cs, e1, e2⟩ := e.bind
      refine ⟨_, _, ?_, (h.withL t cs).putV dst rfl, e2⟩
      rw [st_store, (svO_sim h hs).1, Option.bind_some, (valO_sim h hv).1, Option.bind_some]
      show (storeA st sz v (.lptr t off)).map _ = _
      unfold stL at e1
      split at e1
      · rename_i hq
        cases e1
        simp only [storeA, h.loc, hc, hq, if_true, Option.map_some]
      · cases e1
    · exact absurd e okR_none
  · rename_i p v hs hv
    obtain ⟨H', e1, e2⟩ := e.bind
    refine ⟨_, _, ?_, (h.withH H').putV dst rfl, e2⟩
    rw [st_store, (svO_sim h hs).1, Option.bind_some, (valO_sim h hv).1, Option.bind_some]
    show (storeA st sz v p).map _ = _
    cases p with
    | ptr id off =>
     simp only [storeP] at e1
     simp only [storeA, h.H]
     split at e1
     · rename_i e' cells hg
       rw [hg]
       simp only
       unfold stL at e1
       split at e1
       · rename_i hq
         cases e1
         simp only [hq, if_true, Option.map_some]
       · cases e1
     · cases e1
    | _ => cases e1
  · exact absurd e okR_none
 | fieldAddr off x =>
  simp only [opK] at e
  split at e
  · rename_i t o hs
    refine ⟨_, _, by rw [st_fieldAddr, (svO_sim h hs).1]; rfl, h.put dst (sv := .l t (o + off)) rfl, e⟩
  · rename_i p hs
    obtain ⟨v, e1, e2⟩ := e.bind
    cases p with
    | ptr id o =>
     cases e1
     exact ⟨_, _, by rw [st_fieldAddr, (svO_sim h hs).1]; rfl, h.putV dst rfl, e2⟩
    | _ => cases e1
  · exact absurd e okR_none
 | indexAddr m sz x i =>
  cases m with
  | none => exact opK_V h e
  | some m =>
   simp only [opK] at e
   split at e
   · rename_i t off n hs hn
     obtain ⟨j, e1, e2⟩ := e.bind
     cases n with
     | int k' z =>
      simp only [inN] at e1
      split at e1
      · rename_i hz
        cases e1
        refine ⟨_, _, ?_, h.put dst (sv := .l t (off + z.toNat * sz)) rfl, e2⟩
        rw [st_idxArr, (svO_sim h hs).1, (valO_sim h hn).1]
        simp only [Option.bind_some, Slt.av, idxArr, hz, and_self, if_true, Option.map_some]
      · cases e1
     | _ => cases e1
   · rename_i p n hs hn
     obtain ⟨v, e1, e2⟩ := e.bind
     unfold idxP at e1
     split at e1
     · split at e1
       · rename_i hz
         cases e1
         refine ⟨_, _, ?_, h.putV dst rfl, e2⟩
         rw [st_idxArr, (svO_sim h hs).1, (valO_sim h hn).1]
         simp only [Option.bind_some, Slt.av, idxArr, hz, and_self, if_true, Option.map_some]
       · cases e1
     · cases e1
   · exact absurd e okR_none
 | conv c x =>
  cases c with
  | toBytes => exact opK_H h e
  | _ => exact opK_V h e
 | buildSlice sz len z ps => exact opK_H h e
 | mkMap => exact opK_H h e
 | mkSlice sz bytes zero a b => exact opK_H h e
 | append sz bytes a x => exact opK_H h e
 | clear sz zero x => exact opK_H h e
 | rangeS x => exact opK_H h e
 | nextS x => exact opK_H h e
 | rangeM x => exact opK_H h e
 | mapEntry t z x i => exact opK_H h e
 | entryStore x b v => exact opK_H h e
 | mapUpdate t x i v => exact opK_H h e
 | delete t x i => exact opK_H h e
 | lookup t ok z x i => exact opK_V h e
 | call f args => exact opK_H h e
 | pick c a b => exact opK_V h e
 | build z ps => exact opK_V h e
 | bin op t x y => exact opK_V h e
 | un op x => exact opK_V h e
 | mkIface t x => exact opK_V h e
 | mkFunc fn a b => exact opK_V h e
 | slice k x lo hi mx => exact opK_V h e
 | field agg sz off x => exact opK_V h e
 | index m x i => exact opK_V h e
 | extract x i => exact opK_V h e
 | len k x => exact opK_V h e
 | maxs x r => exact opK_V h e
 | mins x r => exact opK_V h e
 | bad => exact opK_V h e
 | appendZ | nextM | entryM | capS | copy | ptrEq | isNilI | defer => exact opK_V h e
theorem SimK.again {s : SK} {st : St} (h : SimK s st) {g : Nat} {v : AV} (e : look g s.env = some (.v v)) : SimK { s with env := (g, .v v) :: s.env } st := by
 refine ⟨fun k => ?_, fun x hx => ?_, fun x hx => ?_, h.loc, h.H⟩
 · simp only [look]
   split
   · rename_i hk; subst hk; rw [h.env, e]
   · exact h.env k
 · obtain ⟨sv, h1, h2⟩ := h.mem x hx
   exact ⟨sv, by simp [h1], h2⟩
 · simp only [List.mem_cons] at hx
   rcases hx with rfl | hx
   · exact h.ok _ (look_mem e)
   · exact h.ok _ hx
theorem operK_sim {s : SK} {st : St} (h : SimK s st) {o : IOper} {k : SK → Option R} {P : R → Prop} (e : OkR (operK C o s k) P) : ∃ st' s', stepOp C o st = some st' ∧ SimK s' st' ∧ OkR (k s') P := by
 obtain ⟨dst, op, g⟩ := o
 cases g with
 | none => exact opK_sim h e
 | some gw =>
  obtain ⟨g, w⟩ := gw
  simp only [operK] at e
  split at e
  · rename_i t hg
    unfold guardK at e
    split at e
    · rename_i b
      have hl : look g st.env = some (.bool b) := by rw [h.env, hg]; rfl
      split at e
      · rename_i hb
        have hb' : b = w := by simpa using hb
        subst hb'
        obtain ⟨st', s', e1, e2, e3⟩ := opK_sim (h.again hg) e
        exact ⟨st', s', by rw [st_guard, hl]; simp only [guardB, if_true, e1], e2, e3⟩
      · rename_i hb
        have hb' : b = !w := by cases b <;> cases w <;> simp_all
        subst hb'
        exact ⟨_, _, by rw [st_guard, hl]; simp only [guardB]; rw [if_neg (by cases w <;> simp)]; rfl, (h.again hg).put dst (sv := .u) rfl, e⟩
    · exact absurd e okR_none
  · rename_i hg
    have hl : look g st.env = some undefA := by rw [h.env, hg]; rfl
    exact ⟨_, _, by rw [st_guard, hl]; rfl, h.put dst (sv := .u) rfl, e⟩
  · exact absurd e okR_none
end
section
variable {R : Type} {T : FuncId → Option FnDef}
theorem opsK_sim : ∀ {os : List IOper} {s : SK} {st : St} (h : SimK s st) {k : SK → Option R} {P : R → Prop} (e : OkR (opsK (call T) os s k) P), ∃ st' s', sops T os st = some st' ∧ SimK s' st' ∧ OkR (k s') P
 | [], s, st, h, k, P, e => ⟨st, s, sops_nil st, h, e⟩
 | o :: os, s, st, h, k, P, e => by
  obtain ⟨st1, s1, e1, h1, e2⟩ := operK_sim h e
  obtain ⟨st2, s2, e3, h2, e4⟩ := opsK_sim h1 e2
  exact ⟨st2, s2, by rw [sops_cons, e1, Option.bind_some, e3], h2, e4⟩
end
section
variable {R : Type}
def kB (b : Bool) (x : Option R) : Option R :=
 match b with
 | true => x
 | false => none
theorem okR_kB {b : Bool} {x : Option R} {P : R → Prop} (h : OkR (kB b x) P) : b = true ∧ OkR x P := by
 cases b with
 | true => exact ⟨rfl, h⟩
 | false => exact absurd h okR_none
def operDK (C : CallF) (o : IOper) (s : SK) (k : Bool → SK → Option R) : Option R :=
 match o.guard with
 | none => opK C o.dst o.op s (k true)
 | some (g, w) => match look g s.env with
  | some (.v t) => guardK t w (opK C o.dst o.op { s with env := (g, .v (.bool w)) :: s.env } (k true)) (k false (({ s with env := (g, .v (.bool !w)) :: s.env } : SK).put o.dst .u))
  | some .u => k false (s.put o.dst .u)
  | _ => none
def readK (o : IOper) (s s' : SK) : Bool :=
 match isRead o.op, o.dst with
 | true, some d => (match look d s'.env with
  | some sv => sv.av.okB s.H.n
  | none => true)
 | _, _ => true
def opsDK (C : CallF) : List IOper → SK → List (SK × Bool) → (List (SK × Bool) → SK → Option R) → Option R
 | [], s, acc, k => k acc s
 | o :: r, s, acc, k => operDK C o s fun f s' => kB (readK o s s') (opsDK C r s' ((s, f) :: acc) k)
def opRd (s m : SK) : IOp → Option AV
 | .load agg sz a => match svO a s.env with
  | some (.l t off) => (match look t m.loc with
   | some cells => rd agg sz off cells
   | none => none)
  | some (.v p) => loadP m.H agg sz p
  | _ => none
 | .len .map x => match valO x s.env with
  | some v => lenMap m.H v
  | none => none
 | .conv .ofBytes x => match valO x s.env with
  | some v => (bytesA m.H v).map .str
  | none => none
 | .lookup t ok z x i => match valO x s.env, valO i s.env with
  | some u, some v => lookupA m.H t ok z u v
  | _, _ => none
 | _ => none
def chk (o : Option AV) (v : AV) : Bool :=
 match o with
 | some w => AV.beq w v
 | none => false
def checkK (os : List IOper) (tr : List (SK × Bool)) (i p : Nat) : Bool :=
 match os[i]?, tr[i]?, tr[p]?, tr[i + 1]? with
 | some o, some (s, f), some (m, _), some (s', _) => (match f, o.dst with
  | true, some d => (match look d s'.env with
   | some (.v v) => chk (opRd s m o.op) v
   | _ => false)
  | true, none => false
  | false, _ => true)
 | _, _, _, _ => false
def checksK (os : List IOper) (tr : List (SK × Bool)) (x : Option R) : List (Nat × Nat) → Option R
 | [] => x
 | (i, p) :: r => kB (checkK os tr i p) (checksK os tr x r)
def freshK (os : List IOper) (s : SK) : Bool := os.all fun o =>
 match o.op, o.dst with
 | .alloc true _ _, some t => (look t s.loc).isNone && s.env.all fun e => match e.2 with | .l u _ => !(u == t) | _ => true
 | .box true _ _, some t => (look t s.loc).isNone && s.env.all fun e => match e.2 with | .l u _ => !(u == t) | _ => true
 | _, _ => true
end
section
variable {R : Type} {T : FuncId → Option FnDef} {C : CallF}
theorem operDK_sim {s : SK} {st : St} (h : SimK s st) {o : IOper} {k : Bool → SK → Option R} {P : R → Prop} (e : OkR (operDK C o s k) P) : ∃ st' s' f, stepOp C o st = some st' ∧ wantedA st o.guard = some f ∧ SimK s' st' ∧ OkR (k f s') P := by
 obtain ⟨dst, op, g⟩ := o
 cases g with
 | none =>
  obtain ⟨st', s', e1, e2, e3⟩ := opK_sim h e
  exact ⟨st', s', true, e1, rfl, e2, e3⟩
 | some gw =>
  obtain ⟨g, w⟩ := gw
  simp only [operDK] at e
  split at e
  · rename_i t hg
    unfold guardK at e
    split at e
    · rename_i b
      have hl : look g st.env = some (.bool b) := by rw [h.env, hg]; rfl
      split at e
      · rename_i hb
        have hb' : b = w := by simpa using hb
        subst hb'
        obtain ⟨st', s', e1, e2, e3⟩ := opK_sim (h.again hg) e
        exact ⟨st', s', true, by rw [st_guard, hl]; simp only [guardB, if_true, e1], by simp [wantedA, hl], e2, e3⟩
      · rename_i hb
        have hb' : b = !w := by cases b <;> cases w <;> simp_all
        subst hb'
        exact ⟨_, _, false, by rw [st_guard, hl]; simp only [guardB]; rw [if_neg (by cases w <;> simp)]; rfl, by simp [wantedA, hl], (h.again hg).put dst (sv := .u) rfl, e⟩
    · exact absurd e okR_none
  · rename_i hg
    have hl : look g st.env = some undefA := by rw [h.env, hg]; rfl
    exact ⟨_, _, false, by rw [st_guard, hl]; rfl, by simp [wantedA, hl, undefA], h.put dst (sv := .u) rfl, e⟩
  · exact absurd e okR_none
theorem readK_sim {o : IOper} {s s' : SK} {st st' : St} (h : SimK s st) (h' : SimK s' st') (e : readK o s s' = true) : readOk o st st' = true := by
 unfold readK at e
 unfold readOk
 cases hr : isRead o.op with
 | false => rfl
 | true =>
  cases hd : o.dst with
  | none => rfl
  | some d =>
   rw [hr, hd] at e
   simp only [Bool.not_true, Bool.false_or, Option.bind_some, h'.env d, h.H]
   simp only at e
   cases hl : look d s'.env with
   | none => rfl
   | some sv => rw [hl] at e; exact e
theorem opsDK_sim : ∀ (os : List IOper) {s : SK} {st : St} (h : SimK s st) {acc : List (SK × Bool)} {k : List (SK × Bool) → SK → Option R} {P : R → Prop} (e : OkR (opsDK (call T) os s acc k) P),
    ∃ (st' : St) (s' : SK) (tk : List (SK × Bool)) (tr : List St), traceT T os st = some (tr ++ [st']) ∧ readsOk os (tr ++ [st']) = true ∧ SimK s' st' ∧ tk.length = os.length ∧ tr.length = os.length ∧
     (∀ (i : Nat) (sk : SK) (f : Bool), tk[i]? = some (sk, f) → ∃ (sti : St) (o : IOper), tr[i]? = some sti ∧ os[i]? = some o ∧ SimK sk sti ∧ wantedA sti o.guard = some f) ∧ OkR (k (tk.reverse ++ acc) s') P
 | [], s, st, h, acc, k, P, e => ⟨st, s, [], [], by rw [trace_nil]; rfl, rfl, h, rfl, rfl, by simp, e⟩
 | o :: os, s, st, h, acc, k, P, e => by
  obtain ⟨st1, s1, f, e1, ew, h1, e2⟩ := operDK_sim h e
  obtain ⟨er, e3⟩ := okR_kB e2
  obtain ⟨st', s', tk, tr, a1, a2, a3, a4, a4', a5, a6⟩ := opsDK_sim os h1 e3
  obtain ⟨r, hr⟩ := trace_head os st1 (tr ++ [st']) a1
  refine ⟨st', s', (s, f) :: tk, st :: tr, ?_, ?_, a3, by simp [a4], by simp [a4'], ?_, by simpa using a6⟩
  · rw [trace_cons, e1, Option.bind_some, a1]; rfl
  · rw [List.cons_append, hr, readsOk_cons, readK_sim h h1 er, Bool.true_and, ← hr, a2]
  · intro i sk g hi
    cases i with
    | zero => simp only [List.getElem?_cons_zero, Option.some.injEq, Prod.mk.injEq] at hi; obtain ⟨rfl, rfl⟩ := hi; exact ⟨st, o, rfl, rfl, h, ew⟩
    | succ i => simp only [List.getElem?_cons_succ] at hi ⊢; exact a5 i sk g hi
theorem freshK_sim {s : SK} {st : St} (h : SimK s st) {os : List IOper} (e : freshK os s = true) : freshD os st = true := by
 unfold freshK at e
 unfold freshD
 rw [List.all_eq_true] at e ⊢
 intro o ho
 have := e o ho
 have key : ∀ t : Nat, ((look t s.loc).isNone && s.env.all fun e => match e.2 with | .l u _ => !(u == t) | _ => true) = true → ((look t st.loc).isNone && st.env.all fun x => match x.2 with | .lptr u _ => !(u == t) | _ => true) = true := by
  intro t ht
  simp only [Bool.and_eq_true, List.all_eq_true] at ht ⊢
  refine ⟨by rw [h.loc]; exact ht.1, ?_⟩
  rintro ⟨k, v⟩ hm
  obtain ⟨sv, h1, h2⟩ := h.mem _ hm
  have h3 := ht.2 _ h1
  simp only at h2 ⊢
  cases sv with
  | l u o => simp only [Slt.av] at h2; subst h2; exact h3
  | v x =>
   simp only [Slt.av] at h2
   subst h2
   have h4 := h.ok _ h1
   simp only [Slt.ok] at h4
   cases x <;> first | rfl | (simp [AV.notL] at h4)
  | u => simp only [Slt.av] at h2; subst h2; rfl
 cases hop : o.op with
 | alloc l sz z =>
  cases l with
  | false => rfl
  | true =>
   cases hd : o.dst with
   | none => rfl
   | some t => rw [hop, hd] at this; exact key t this
 | box l sz z =>
  cases l with
  | false => rfl
  | true =>
   cases hd : o.dst with
   | none => rfl
   | some t => rw [hop, hd] at this; exact key t this
 | _ => rfl
theorem opRd_sim {s m : SK} {st mt : St} (h : SimK s st) (hm : SimK m mt) {dst : Option Nat} {op : IOp} {v : AV} (e : opRd s m op = some v) : ∃ s', evOp dst { st with loc := mt.loc, H := mt.H } op = some (v, s') := by
 cases op with
 | load agg sz a =>
  simp only [opRd] at e
  rw [ev_load]
  split at e
  · rename_i t off hs
    rw [(svO_sim h hs).1, Option.bind_some]
    split at e
    · rename_i cells hc
      simp only [Slt.av, load_lptr, hm.loc, hc, e, Option.map_some]
      exact ⟨_, rfl⟩
    · cases e
  · rename_i p hs
    rw [(svO_sim h hs).1, Option.bind_some]
    simp only [Slt.av]
    cases p with
    | ptr id off =>
     rw [load_ptr, hm.H]
     simp only [loadP] at e
     rw [e]; exact ⟨_, rfl⟩
    | _ => cases e
  · cases e
 | len k x =>
  cases k with
  | map =>
   simp only [opRd] at e
   split at e
   · rename_i u hs
     simp only [evOp, (valO_sim h hs).1]
     unfold lenMap at e
     split at e
     · cases e; exact ⟨_, rfl⟩
     · split at e
       · rename_i es hg
         cases e
         simp only [hm.H, hg]; exact ⟨_, rfl⟩
       · cases e
     · cases e
   · cases e
  | _ => cases e
 | conv c x =>
  cases c with
  | ofBytes =>
   simp only [opRd] at e
   split at e
   · rename_i u h1
     cases hb : bytesA m.H u with
     | none => rw [hb] at e; cases e
     | some l => rw [hb] at e; cases e; simp only [evOp, (valO_sim h h1).1, hm.H, hb, Option.map_some]; exact ⟨_, rfl⟩
   · cases e
  | _ => cases e
 | lookup t ok z x i =>
  simp only [opRd] at e
  split at e
  · rename_i u v h1 h2
    simp only [evOp, (valO_sim h h1).1, (valO_sim h h2).1, hm.H, e]
    exact ⟨_, rfl⟩
  · cases e
 | _ => cases e
theorem checksK_all {os : List IOper} {tr : List (SK × Bool)} {x : Option R} {P : R → Prop} : ∀ {cs : List (Nat × Nat)}, OkR (checksK os tr x cs) P → (∀ c ∈ cs, checkK os tr c.1 c.2 = true) ∧ OkR x P
 | [], h => ⟨by simp, h⟩
 | (i, p) :: r, h => by
  obtain ⟨h1, h2⟩ := okR_kB h
  obtain ⟨h3, h4⟩ := checksK_all h2
  exact ⟨by simpa using ⟨h1, fun a b hc => h3 (a, b) hc⟩, h4⟩
end
theorem den_regionDK {T : FuncId → Option FnDef} {R : Type} {os : List IOper} {cs : List (Nat × Nat)} {s : SK} {st : St} (h : SimK s st) (hf : freshK os s = true) {k : SK → Option R} {P : R → Prop}
    (e : OkR (opsDK (call T) os s [] fun acc s' => checksK os ((s', true) :: acc).reverse (k s') cs) P) : ∃ st' s', den T (.regionD os cs) st = some (.normal, st') ∧ SimK s' st' ∧ OkR (k s') P := by
 obtain ⟨st', s', tk, tr, a1, a2, a3, a4, a4', a5, a6⟩ := opsDK_sim os h e
 rw [List.append_nil, List.reverse_cons, List.reverse_reverse] at a6
 obtain ⟨b1, b2⟩ := checksK_all a6
 refine ⟨st', s', ?_, a3, b2⟩
 rw [den_regionD, a1, Option.bind_some, if_pos, List.getLast?_append]
 · rfl
 · simp only [drawCond, freshK_sim h hf, a2, Bool.true_and, List.all_eq_true]
   rintro ⟨i, p⟩ hc
   have := b1 _ hc
   simp only [checkK] at this
   split at this
   · rename_i o s1 f m f2 s2 f3 ho h1 hp h2
     have get : ∀ i sk f, (tk ++ [(s', true)])[i]? = some (sk, f) → ∃ sti, (tr ++ [st'])[i]? = some sti ∧ SimK sk sti ∧ (i < tk.length → ∃ o : IOper, os[i]? = some o ∧ wantedA sti o.guard = some f) := by
      intro i sk f hi
      by_cases hlt : i < tk.length
      · rw [List.getElem?_append_left hlt] at hi
        obtain ⟨sti, o, c1, c2, c3, c4⟩ := a5 i sk f hi
        exact ⟨sti, by rw [List.getElem?_append_left (by omega)]; exact c1, c3, fun _ => ⟨o, c2, c4⟩⟩
      · rw [List.getElem?_append_right (by omega)] at hi
        have : i - tk.length = 0 := by
         have := (List.getElem?_eq_some_iff.1 hi).1
         simp at this; omega
        rw [this] at hi
        simp only [List.getElem?_cons_zero, Option.some.injEq, Prod.mk.injEq] at hi
        obtain ⟨rfl, rfl⟩ := hi
        refine ⟨st', by rw [List.getElem?_append_right (by omega)]; rw [show i - tr.length = 0 by omega]; rfl, a3, fun hc => by omega⟩
     have hi : i < tk.length := by have := (List.getElem?_eq_some_iff.1 ho).1; omega
     obtain ⟨st1, c1, c2, c3⟩ := get _ _ _ h1
     obtain ⟨mt, d1, d2, _⟩ := get _ _ _ hp
     obtain ⟨st2, e1, e2, _⟩ := get _ _ _ h2
     obtain ⟨o', o1, o2⟩ := c3 hi
     rw [ho] at o1; cases o1
     simp only [checkAt, ho, c1, d1, e1, o2]
     split at this
     · rename_i d hd
       split at this
       · rename_i v hv
         unfold chk at this
         split at this
         · rename_i w hw
           obtain ⟨sx, hx⟩ := opRd_sim c2 d2 (dst := o.dst) hw
           rw [hd] at hx
           simp only [hd, hx, Option.bind_some, e2.env d, hv, Option.map_some, Slt.av]
           exact this
         · cases this
       · cases this
     · cases this
     · rfl
   · cases this
def SK.toSt (s : SK) : St := { env := s.env.map fun e => (e.1, e.2.av), loc := s.loc, H := s.H }
def ofAV : AV → Slt
 | .lptr t o => .l t o
 | v => .v v
theorem ofAV_av (v : AV) : (ofAV v).av = v := by cases v <;> rfl
theorem ofAV_ok (v : AV) : (ofAV v).ok = true := by cases v <;> rfl
theorem ofAV_v {v : AV} (h : v.notL = true) : ofAV v = .v v := by cases v <;> first | rfl | (simp [AV.notL] at h)
def ofSt (s : St) : SK := { env := s.env.map fun e => (e.1, ofAV e.2), loc := s.loc, H := s.H }
def prK (ks ls : List Nat) (s : SK) : SK := { env := prune ks s.env, loc := prune ls s.loc, H := s.H }
theorem look_map {α β : Type} (f : α → β) (k : Nat) : ∀ l : List (Nat × α), look k (l.map fun e => (e.1, f e.2)) = (look k l).map f
 | [] => rfl
 | (j, w) :: r => by
  simp only [List.map_cons, look]
  split
  · rfl
  · exact look_map f k r
theorem prune_map {α β : Type} (f : α → β) (ks : List Nat) {l : List (Nat × α)} {m : List (Nat × β)} (h : ∀ k, look k m = (look k l).map f) : prune ks m = (prune ks l).map fun e => (e.1, f e.2) := by
 unfold prune
 induction ks with
 | nil => rfl
 | cons k ks ih =>
  simp only [List.filterMap_cons, h k]
  cases look k l with
  | none => exact ih
  | some v => simp only [Option.map_some, List.map_cons, ih]
theorem ofSt_sim (st : St) : SimK (ofSt st) st := by
 refine ⟨fun k => ?_, fun e he => ⟨ofAV e.2, ?_, ofAV_av _⟩, fun e he => ?_, rfl, rfl⟩
 · simp only [ofSt, look_map, Option.map_map]
   have : (Slt.av ∘ ofAV) = id := funext ofAV_av
   rw [this]; simp
 · simp only [ofSt, List.mem_map]
   exact ⟨e, he, rfl⟩
 · simp only [ofSt, List.mem_map] at he
   obtain ⟨e', _, rfl⟩ := he
   exact ofAV_ok _
theorem mem_prune {α : Type} {ks : List Nat} {l : List (Nat × α)} {e : Nat × α} (h : e ∈ prune ks l) : look e.1 l = some e.2 := by
 unfold prune at h
 simp only [List.mem_filterMap] at h
 obtain ⟨k, _, h⟩ := h
 cases hl : look k l with
 | none => rw [hl] at h; cases h
 | some v => rw [hl] at h; cases h; exact hl
theorem prK_st {s : SK} {st : St} (h : SimK s st) (ks ls : List Nat) : prS ks ls st = (prK ks ls s).toSt := by
 simp only [prS, prK, SK.toSt, h.loc, h.H, prune_map Slt.av ks h.env]
theorem toSt_sim {s : SK} (h : ∀ e ∈ s.env, e.2.ok = true) : SimK s s.toSt := by
 refine ⟨fun k => by simp only [SK.toSt, look_map], fun e he => ?_, h, rfl, rfl⟩
 simp only [SK.toSt, List.mem_map] at he
 obtain ⟨e', h1, rfl⟩ := he
 exact ⟨e'.2, h1, rfl⟩
theorem prK_sim {s : SK} {st : St} (h : SimK s st) (ks ls : List Nat) : SimK (prK ks ls s) (prS ks ls st) := by
 rw [prK_st h]
 refine toSt_sim fun e he => ?_
 exact h.ok _ (look_mem (mem_prune he))
section
variable {R : Type}
def condK (v : AV) (x y : Option R) : Option R :=
 match v with
 | .bool true => x
 | .bool false => y
 | _ => none
def isRF : IC → Bool
 | .rangeF .. => true
 | _ => false
def isRange : IC → Bool
 | .block _ b => isRF b
 | .rangeF .. => true
 | .mapR .. => true
 | _ => false
noncomputable def evK (C : CallF) (D : IC → St → Option (AExit × St)) : IC → SK → (AExit → SK → Option R) → Option R
 | .skip, s, k => k .normal s
 | .region os, s, k => opsK C os s (k .normal)
 | .regionD os cs, s, k => (match freshK os s with
  | true => opsDK C os s [] fun acc s' => checksK os ((s', true) :: acc).reverse (k .normal s') cs
  | false => none)
 | .seq a b, s, k => evK C D a s fun x s' => (match x with
  | .normal => evK C D b s' k
  | .exit j => k (.exit j) s'
  | .ret => k .ret s')
 | .cond c a b, s, k => (match valO c s.env with
  | some v => condK v (evK C D a s k) (evK C D b s k)
  | none => none)
 | .block id b, s, k => evK C D b s fun x s' => (match x with
  | .normal => k .normal s'
  | .exit j => (match Nat.beq j id with
   | true => k .normal s'
   | false => k (.exit j) s')
  | .ret => k .ret s')
 | .loop (.keep ks ls b), s, k => (D (.loop (.keep ks ls b)) (prK ks ls s).toSt).bind fun r => k r.1 (ofSt r.2)
 | .loop _, _, _ => none
 | .exit id, s, k => k (.exit id) s
 | .ret, s, k => k .ret s
 | .rangeF .., _, _ => none
 | .mapR .., _, _ => none
 | .stuck, _, _ => none
 | .keep ks ls c, s, k => (match isRange c with
  | true => (D c (prK ks ls s).toSt).bind fun r => k r.1 (ofSt r.2)
  | false => evK C D c (prK ks ls s) k)
end
section
variable {T : FuncId → Option FnDef} {R : Type}
theorem den_loop_pr (ks ls : List Nat) (b : IC) (st : St) : den T (.loop (.keep ks ls b)) (prS ks ls st) = den T (.loop (.keep ks ls b)) st := by
 have idem : ∀ {α : Type} (ks : List Nat) (l : List (Nat × α)), prune ks (prune ks l) = prune ks l := by
  intro α ks l
  have key : ∀ (ks' : List Nat), (∀ k ∈ ks', k ∈ ks) → prune ks' (prune ks l) = prune ks' l := by
   intro ks'
   induction ks' with
   | nil => intro _; rfl
   | cons k ks' ih =>
    intro hk
    have h1 : look k (prune ks l) = look k l := by
     have : ∀ ks : List Nat, k ∈ ks → look k (prune ks l) = look k l := by
      intro ks
      induction ks with
      | nil => intro h; cases h
      | cons j js ihj =>
       intro h
       simp only [prune, List.filterMap_cons]
       cases hl : look j l with
       | none =>
        simp only [Option.map_none]
        by_cases hjk : k = j
        · subst hjk
          rw [hl]
          cases hx : look k (List.filterMap (fun k => Option.map (fun v => (k, v)) (look k l)) js) with
          | none => rfl
          | some v => have := mem_prune (ks := js) (look_mem hx); rw [hl] at this; cases this
        · exact ihj (by rcases List.mem_cons.1 h with h | h; exact absurd h hjk; exact h)
       | some v =>
        simp only [Option.map_some, look]
        split
        · rename_i e; subst e; exact hl.symm
        · rename_i e; exact ihj (by rcases List.mem_cons.1 h with h | h; exact absurd h.symm e; exact h)
     exact this ks (hk k (by simp))
    have h2 := ih fun j hj => hk j (by simp [hj])
    simp only [prune, List.filterMap_cons] at h2 ⊢
    simp only [prune] at h1
    rw [h1, h2]
  exact key ks fun _ h => h
 rw [den_loop, den_loop, den_keep, den_keep]
 simp only [prS, idem]
theorem evK_sim : ∀ (ic : IC) {s : SK} {st : St} (h : SimK s st) {k : AExit → SK → Option R} {P : R → Prop} (e : OkR (evK (call T) (den T) ic s k) P), ∃ x st' s', den T ic st = some (x, st') ∧ SimK s' st' ∧ OkR (k x s') P := by
 intro ic
 induction ic with
 | skip => intro s st h k P e; exact ⟨_, _, _, den_skip st, h, e⟩
 | region os =>
  intro s st h k P e
  obtain ⟨st', s', e1, h1, e2⟩ := opsK_sim h e
  exact ⟨_, _, _, by rw [den_region, e1]; rfl, h1, e2⟩
 | regionD os cs =>
  intro s st h k P e
  simp only [evK] at e
  split at e
  · rename_i hf
    obtain ⟨st', s', e1, h1, e2⟩ := den_regionDK h hf e
    exact ⟨_, _, _, e1, h1, e2⟩
  · exact absurd e okR_none
 | seq a b iha ihb =>
  intro s st h k P e
  obtain ⟨x, st', s', e1, h1, e2⟩ := iha h e
  cases x with
  | normal =>
   obtain ⟨x, st2, s2, e3, h2, e4⟩ := ihb h1 e2
   exact ⟨_, _, _, by rw [den_seq, e1, Option.bind_some]; exact e3, h2, e4⟩
  | exit j => exact ⟨_, _, _, by rw [den_seq, e1, Option.bind_some]; rfl, h1, e2⟩
  | ret => exact ⟨_, _, _, by rw [den_seq, e1, Option.bind_some]; rfl, h1, e2⟩
 | cond c a b iha ihb =>
  intro s st h k P e
  simp only [evK] at e
  split at e
  · rename_i v hv
    unfold condK at e
    split at e
    · obtain ⟨x, st', s', e1, h1, e2⟩ := iha h e
      exact ⟨_, _, _, by rw [den_cond, (valO_sim h hv).1]; exact e1, h1, e2⟩
    · obtain ⟨x, st', s', e1, h1, e2⟩ := ihb h e
      exact ⟨_, _, _, by rw [den_cond, (valO_sim h hv).1]; exact e1, h1, e2⟩
    · exact absurd e okR_none
  · exact absurd e okR_none
 | block id b ih =>
  intro s st h k P e
  obtain ⟨x, st', s', e1, h1, e2⟩ := ih h e
  cases x with
  | normal => exact ⟨_, _, _, by rw [den_block, e1]; rfl, h1, e2⟩
  | exit j =>
   simp only at e2
   split at e2
   · rename_i hj
     have := Nat.eq_of_beq_eq_true hj
     subst this
     exact ⟨_, _, _, by rw [den_block, e1]; simp only [Option.map_some, outBlock, if_true], h1, e2⟩
   · rename_i hj
     exact ⟨_, _, _, by rw [den_block, e1]; simp only [Option.map_some, outBlock]; rw [if_neg (fun hc => by rw [hc, Nat.beq_refl] at hj; cases hj)], h1, e2⟩
  | ret => exact ⟨_, _, _, by rw [den_block, e1]; rfl, h1, e2⟩
 | loop b ih =>
  intro s st h k P e
  cases b with
  | keep ks ls b =>
   obtain ⟨r, e1, e2⟩ := OkR.bind e
   rw [← prK_st h, den_loop_pr] at e1
   exact ⟨r.1, r.2, _, e1, ofSt_sim r.2, e2⟩
  | _ => exact absurd e okR_none
 | rangeF | mapR | stuck => intro s st h k P e; exact absurd e okR_none
 | exit id => intro s st h k P e; exact ⟨_, _, _, den_exit id st, h, e⟩
 | ret => intro s st h k P e; exact ⟨_, _, _, den_ret st, h, e⟩
 | keep ks ls c ih =>
  intro s st h k P e
  simp only [evK] at e
  cases hc : isRange c with
  | true =>
   rw [hc] at e
   obtain ⟨r, e1, e2⟩ := OkR.bind e
   rw [← prK_st h] at e1
   exact ⟨r.1, r.2, _, by rw [den_keep]; exact e1, ofSt_sim r.2, e2⟩
  | false =>
   rw [hc] at e
   obtain ⟨x, st', s', e1, h1, e2⟩ := ih (prK_sim h ks ls) e
   exact ⟨_, _, _, by rw [den_keep]; exact e1, h1, e2⟩
def rvK (s : SK) : RV → Option AV
 | .tmp t => (match look t s.env with
  | some (.v v) => some v
  | _ => none)
 | .cell t agg sz => (match look t s.env with
  | some (.l u off) => (match look u s.loc with
   | some cells => rd agg sz off cells
   | none => none)
  | some (.v p) => loadP s.H agg sz p
  | _ => none)
def rvsK (s : SK) : List RV → Option (List AV)
 | [] => some []
 | x :: r => (rvK s x).bind fun v => (rvsK s r).bind fun vs => some (v :: vs)
def leaveK (rs : List RV) (H0 : AHeap) (x : AExit) (s : SK) : Option (AV × AHeap) :=
 match x with
 | .exit _ => none
 | _ => (rvsK s rs).bind fun vs => if allNoL vs = true then some (packA vs, fin H0 (packA vs) s.H) else none
def enterK (args : List AV) (H : AHeap) : SK := { env := zipI 0 (args) |>.map fun e => (e.1, .v e.2), loc := [], H := H.top }
theorem rvK_sim {s : SK} {st : St} (h : SimK s st) {r : RV} {v : AV} (e : rvK s r = some v) : r.ev st = some v := by
 cases r with
 | tmp t =>
  simp only [rvK] at e
  simp only [RV.ev, h.env]
  split at e
  · rename_i w hw; cases e; rw [hw]; rfl
  · cases e
 | cell t agg sz =>
  simp only [rvK] at e
  simp only [RV.ev, h.env]
  split at e
  · rename_i u off hu
    rw [hu]
    split at e
    · rename_i cells hc
      simp only [Option.map_some, Slt.av]
      rw [load_lptr st.env st.loc st.H, h.loc, hc]; exact e
    · cases e
  · rename_i p hp
    rw [hp]
    simp only [Option.map_some, Slt.av]
    exact loadP_eq h e
  · cases e
theorem rvsK_sim {s : SK} {st : St} (h : SimK s st) : ∀ {rs : List RV} {vs : List AV}, rvsK s rs = some vs → rvs st rs = some vs
 | [], vs, e => by cases e; rfl
 | r :: rs, vs, e => by
  obtain ⟨v, h1, e⟩ := opt_bind_some e
  obtain ⟨ws, h2, e⟩ := opt_bind_some e
  cases e
  simp only [rvs, rvK_sim h h1, rvsK_sim h h2]
theorem enterK_sim {args : List AV} {H : AHeap} (hn : args.all AV.notL = true) : SimK (enterK args H) (enterA args H) := by
 have : enterA args H = (enterK args H).toSt := by
  simp only [enterA, enterK, SK.toSt, List.map_map]
  congr 1
  rw [List.map_congr_left (g := id)]
  · simp
  · intro e _; rfl
 rw [this]
 refine toSt_sim fun e he => ?_
 simp only [enterK, List.mem_map] at he
 obtain ⟨⟨i, v⟩, h1, rfl⟩ := he
 have : ∀ (i : Nat) (args : List AV), (∀ v ∈ args, v.notL = true) → ∀ e ∈ zipI i args, e.2.notL = true := by
  intro i args
  induction args generalizing i with
  | nil => intro _ e he; cases he
  | cons a as ih =>
   intro ha e he
   simp only [zipI, List.mem_cons] at he
   rcases he with rfl | he
   · exact ha _ (by simp)
   · exact ih (i + 1) (fun v hv => ha v (by simp [hv])) e he
 exact this 0 args (by simpa using hn) _ h1
theorem call_evK {f : FuncId} {nt na : Nat} {rs : List RV} {ls : List Nat} {b : IC} (hF : T f = some (.ir ⟨nt, na, rs, ls, b⟩)) (hf : f < yieldF) (hp : plainC b = true) {args : List AV} {H : AHeap} {P : AV × AHeap → Prop} (hl : args.length = na) (hn : args.all AV.notL = true)
    (e : OkR (evK (call T) (den T) b (enterK args H) (leaveK rs H)) P) : OkR (call T f args H) P := by
 have hs := enterK_sim (H := H) hn
 obtain ⟨x, st', s', e1, h1, e2⟩ := evK_sim b hs e
 rw [call_at hF hf hp, if_pos hl, e1, Option.bind_some]
 have key : ∀ {x : AExit}, OkR ((rvsK s' rs).bind fun vs => if allNoL vs = true then some (packA vs, fin H (packA vs) s'.H) else none) P → OkR (match rvs st' rs with | some vs => if allNoL vs then some (packA vs, fin H (packA vs) st'.H) else none | none => none) P := by
  intro x e
  obtain ⟨vs, h2, e⟩ := e.bind
  rw [rvsK_sim h1 h2, h1.H]
  exact e
 cases x with
 | normal => exact key (x := .normal) e2
 | exit j => exact absurd e2 okR_none
 | ret => exact key (x := .ret) e2
theorem okR_eq {α : Type} {o : Option α} {a : α} (h : OkR o fun r => r = a) : o = some a := by obtain ⟨x, h, rfl⟩ := h; exact h
theorem loop_invK {ks ls : List Nat} {b : IC} (I : Nat → SK → Prop) (Q : AExit → SK → Prop)
    (step : ∀ n s, I n s → ∀ P : AExit × SK → Prop, (∀ e l H m, m < n → I m ⟨prune ks e, prune ls l, H⟩ → P (.normal, ⟨e, l, H⟩)) → (∀ j s', Q (.exit j) s' → P (.exit j, s')) → (∀ s', Q .ret s' → P (.ret, s')) → OkR (evK (call T) (den T) b s fun x s' => some (x, s')) P) :
    ∀ n s, s.env.all (fun e => e.2.ok) = true → I n (prK ks ls s) → ∃ x st s', den T (.loop (.keep ks ls b)) s.toSt = some (x, st) ∧ SimK s' st ∧ Q x s' := by
 have main : ∀ n (s : SK) (st : St), SimK s st → I n (prK ks ls s) → ∃ x st' s', den T (.loop (.keep ks ls b)) st = some (x, st') ∧ SimK s' st' ∧ Q x s' := by
  intro n
  induction n using Nat.strongRecOn with
  | ind n ih =>
   intro s st hs hI
   obtain ⟨x, st', s', e1, h1, ⟨r, hr, hp⟩⟩ := evK_sim b (prK_sim hs ks ls) (step n _ hI (fun r => match r with
    | (.normal, s') => ∃ m, m < n ∧ I m (prK ks ls s')
    | (x, s') => Q x s') (fun e l H m hm hi => ⟨m, hm, hi⟩) (fun j s' h => h) (fun s' h => h))
   cases hr
   rw [den_loop, den_keep]
   have e : den T b { env := prune ks st.env, loc := prune ls st.loc, H := st.H } = some (x, st') := e1
   rw [e, Option.bind_some]
   cases x with
   | normal => obtain ⟨m, hm, hi⟩ := hp; exact ih m hm s' st' h1 hi
   | exit j => exact ⟨_, _, _, rfl, h1, hp⟩
   | ret => exact ⟨_, _, _, rfl, h1, hp⟩
 intro n s ho hI
 exact main n s _ (toSt_sim (by simpa using ho)) hI
end
end Go.Wam
set_option linter.unusedVariables false
set_option linter.unusedSimpArgs false
namespace Go.Wam
abbrev oq (d : Nat) (op : IOp) : IOper := ⟨some d, op, none⟩
abbrev tq (t : Nat) : Opd := .tmp t
section
variable {R : Type} (C : CallF) (D : IC → St → Option (AExit × St)) (s : SK) (k : AExit → SK → Option R)
noncomputable def seqK (b : IC) (k : AExit → SK → Option R) : AExit → SK → Option R := fun x s' => match x with
    | .normal => evK C D b s' k
    | .exit j => k (.exit j) s'
    | .ret => k .ret s'
def blockK (id : Nat) (k : AExit → SK → Option R) : AExit → SK → Option R := fun x s' => match x with
    | .normal => k .normal s'
    | .exit j => (match Nat.beq j id with
     | true => k .normal s'
     | false => k (.exit j) s')
    | .ret => k .ret s'
theorem seqK_normal (b : IC) : seqK C D b k .normal s = evK C D b s k := rfl
theorem seqK_exit (b : IC) (j : Nat) : seqK C D b k (.exit j) s = k (.exit j) s := rfl
theorem seqK_ret (b : IC) : seqK C D b k .ret s = k .ret s := rfl
theorem blockK_normal (id : Nat) : blockK id k .normal s = k .normal s := rfl
theorem blockK_exit (id j : Nat) : blockK id k (.exit j) s = if j = id then k .normal s else k (.exit j) s := by
 unfold blockK
 simp only
 split
 · rename_i h; rw [if_pos (Nat.eq_of_beq_eq_true h)]
 · rename_i h; rw [if_neg (fun e => by subst e; rw [Nat.beq_refl] at h; cases h)]
theorem blockK_ret (id : Nat) : blockK id k .ret s = k .ret s := rfl
def condO (o : Option AV) (x y : Option R) : Option R :=
 match o with
 | some v => condK v x y
 | none => none
theorem condO_bool (p : Bool) (x y : Option R) : condO (some (.bool p)) x y = if p = true then x else y := by cases p <;> rfl
theorem evK_skip : evK C D .skip s k = k .normal s := by rw [evK]
theorem evK_exit (id : Nat) : evK C D (.exit id) s k = k (.exit id) s := by rw [evK]
theorem evK_ret : evK C D .ret s k = k .ret s := by rw [evK]
theorem evK_keep (ks ls : List Nat) (c : IC) (hc : isRange c = false) : evK C D (.keep ks ls c) s k = evK C D c (prK ks ls s) k := by rw [evK, hc]
noncomputable def evR (c : IC) (s : SK) (k : AExit → SK → Option R) : Option R := match isRange c with
 | true => (D c s.toSt).bind fun r => k r.1 (ofSt r.2)
 | false => evK C D c s k
@[simp] theorem evR_eq {c : IC} (h : isRange c = false) : evR C D c s k = evK C D c s k := by unfold evR; rw [h]
theorem evR_range (id : Nat) (f : Opd) (ps : List Nat) (ia ib : IC) : evR C D (.block id (.rangeF f ps ia ib)) s k = (D (.block id (.rangeF f ps ia ib)) s.toSt).bind fun r => k r.1 (ofSt r.2) := rfl
theorem evR_mapR (d0 d1 : Nat) (it : Opd) (b : Nat) (ks' ls' : List Nat) (body : IC) : evR C D (.mapR d0 d1 it b ks' ls' body) s k = (D (.mapR d0 d1 it b ks' ls' body) s.toSt).bind fun r => k r.1 (ofSt r.2) := rfl
section
variable (os : List IOper) (cs : List Nat) (a b : IC) (x : Opd) (i : Nat) (ks ls : List Nat)
@[simp] theorem isRF_skip : isRF .skip = false := rfl
@[simp] theorem isRF_region : isRF (.region os) = false := rfl
@[simp] theorem isRF_regionD (ds : List (Nat × Nat)) : isRF (.regionD os ds) = false := rfl
@[simp] theorem isRF_mapR (d0 d1 : Nat) (body : IC) : isRF (.mapR d0 d1 x i ks ls body) = false := rfl
@[simp] theorem isRange_regionD (ds : List (Nat × Nat)) : isRange (.regionD os ds) = false := rfl
@[simp] theorem isRF_seq : isRF (.seq a b) = false := rfl
@[simp] theorem isRF_cond : isRF (.cond x a b) = false := rfl
@[simp] theorem isRF_block : isRF (.block i a) = false := rfl
@[simp] theorem isRF_loop : isRF (.loop a) = false := rfl
@[simp] theorem isRF_exit : isRF (.exit i) = false := rfl
@[simp] theorem isRF_ret : isRF .ret = false := rfl
@[simp] theorem isRF_keep : isRF (.keep ks ls a) = false := rfl
@[simp] theorem isRange_skip : isRange .skip = false := rfl
@[simp] theorem isRange_region : isRange (.region os) = false := rfl
@[simp] theorem isRange_seq : isRange (.seq a b) = false := rfl
@[simp] theorem isRange_cond : isRange (.cond x a b) = false := rfl
@[simp] theorem isRange_block : isRange (.block i a) = isRF a := rfl
@[simp] theorem isRange_loop : isRange (.loop a) = false := rfl
@[simp] theorem isRange_exit : isRange (.exit i) = false := rfl
@[simp] theorem isRange_ret : isRange .ret = false := rfl
@[simp] theorem isRange_keep : isRange (.keep ks ls a) = false := rfl
end
theorem evK_cond (c : Opd) (a b : IC) : evK C D (.cond c a b) s k = condO (valO c s.env) (evK C D a s k) (evK C D b s k) := by rw [evK]; rfl
theorem evK_block (id : Nat) (b : IC) : evK C D (.block id b) s k = evK C D b s (blockK id k) := by rw [evK]; rfl
theorem evK_seq (a b : IC) : evK C D (.seq a b) s k = evK C D a s (seqK C D b k) := by rw [evK]; rfl
theorem evK_seq_seq (a a' b : IC) : evK C D (.seq (.seq a a') b) s k = evK C D (.seq a a') s (seqK C D b k) := evK_seq ..
theorem evK_seq_cond (c : Opd) (a a' b : IC) : evK C D (.seq (.cond c a a') b) s k = evK C D (.cond c a a') s (seqK C D b k) := evK_seq ..
theorem evK_seq_block (id : Nat) (a b : IC) : evK C D (.seq (.block id a) b) s k = evK C D (.block id a) s (seqK C D b k) := evK_seq ..
theorem evK_seq_loop (a b : IC) : evK C D (.seq (.loop a) b) s k = evK C D (.loop a) s (seqK C D b k) := evK_seq ..
theorem evK_seq_skip (b : IC) : evK C D (.seq .skip b) s k = evK C D b s k := by rw [evK_seq, evK_skip, seqK_normal]
theorem evK_seq_keep (ks ls : List Nat) (a b : IC) : evK C D (.seq (.keep ks ls a) b) s k = evK C D (.keep ks ls a) s (seqK C D b k) := evK_seq ..
theorem evK_seq_exit (id : Nat) (b : IC) : evK C D (.seq (.exit id) b) s k = k (.exit id) s := by rw [evK_seq, evK_exit, seqK_exit]
theorem evK_seq_ret (b : IC) : evK C D (.seq .ret b) s k = k .ret s := by rw [evK_seq, evK_ret, seqK_ret]
theorem prK_eq (ks ls : List Nat) (e : List (Nat × Slt)) (l : List (Nat × List AV)) (H : AHeap) : prK ks ls ⟨e, l, H⟩ = ⟨prune ks e, prune ls l, H⟩ := rfl
theorem toSt_eq (e : List (Nat × Slt)) (l : List (Nat × List AV)) (H : AHeap) : SK.toSt ⟨e, l, H⟩ = ⟨e.map fun x => (x.1, x.2.av), l, H⟩ := rfl
theorem av_l (t o : Nat) : (Slt.l t o).av = .lptr t o := rfl
theorem av_v (v : AV) : (Slt.v v).av = v := rfl
def valS : Option Slt → Option AV
 | some (.v v) => some v
 | some .u => some undefA
 | _ => none
theorem valS_v (v : AV) : valS (some (.v v)) = some v := rfl
def valT : Option Slt → Option AV
 | some (.v v) => some v
 | _ => none
theorem valT_v (v : AV) : valT (some (.v v)) = some v := rfl
theorem valS_u : valS (some .u) = some undefA := rfl
theorem av_u : Slt.u.av = undefA := rfl
theorem valO_tmp (t : Nat) (env : List (Nat × Slt)) : valO (.tmp t) env = valS (look t env) := by
 simp only [valO, svO]
 cases look t env with
 | none => rfl
 | some v => cases v <;> rfl
theorem nl_eq (v : AV) : nl (some v) = if v.notL = true then some v else none := rfl
theorem nl_none : nl none = none := rfl
theorem nl_if (c : Prop) [Decidable c] (x y : Option AV) : nl (if c then x else y) = if c then nl x else nl y := by split <;> rfl
theorem nlR_eq (r : AV × AHeap) : nlR (some r) = if r.1.notL = true then some r else none := rfl
theorem boxC_eq (v : AV) : boxC v = if v.noL = true then some v.cells else none := rfl
theorem stL_eq (sz off : Nat) (v : AV) (cells : List AV) : stL sz off v cells = if v.noL = true ∧ v.cells.length = sz ∧ off + sz ≤ cells.length then some (cells.take off ++ (v.cells ++ cells.drop (off + v.cells.length))) else none := by
 unfold stL wr
 by_cases h : v.noL = true ∧ v.cells.length = sz ∧ off + sz ≤ cells.length
 · rw [if_pos h, if_pos (by simp [h.1, h.2.1, h.2.2])]
 · rw [if_neg h, if_neg (by simpa [and_assoc] using h)]
theorem storeP_ptr (H : AHeap) (sz : Nat) (v : AV) (id off : Nat) : storeP H sz v (.ptr id off) = match H.get id with
    | some (.row false e cells) => (stL sz off v cells).map fun cs => H.set id (.row false e cs)
    | _ => none := rfl
theorem loadP_ptr (H : AHeap) (agg : Bool) (sz id off : Nat) : loadP H agg sz (.ptr id off) = H.rdAt id agg sz off := rfl
theorem fldP_ptr (off id o : Nat) : fldP off (.ptr id o) = some (.ptr id (o + off)) := rfl
theorem idxP_ptr (m sz id off : Nat) (k : IntKind) (n : Int) : idxP m sz (.ptr id off) (.int k n) = if 0 ≤ n ∧ n < m then some (.ptr id (off + n.toNat * sz)) else none := rfl
theorem inN_int (m : Nat) (k : IntKind) (n : Int) : inN m (.int k n) = if 0 ≤ n ∧ n < m then some n.toNat else none := rfl
theorem callN_func (g : FuncId) (a b vs : List AV) (H : AHeap) : callN C (.func (.func g) a b) vs H = if g < 4294967296 then if allNoL vs = true then (C g (a ++ (vs ++ b)) H).bind fun r => if r.1.notL = true then some r else none else none else none := rfl
theorem callN_yield (id : Nat) (vs : List AV) (H : AHeap) : callN C (.yield id) vs H = if allNoL vs = true then (C yieldF (.ptr id 0 :: vs) H).bind fun r => if r.1.notL = true then some r else none else none := rfl
theorem strV_str (l : List UInt8) : strV (.str l) = some l := rfl
theorem fillC_nil (cells : List AV) : fillC [] cells = some cells := rfl
theorem fillC_cons (off sz : Nat) (v : AV) (r : List (Nat × Nat × AV)) (cells : List AV) : fillC ((off, sz, v) :: r) cells = if v.noL = true ∧ v.cells.length = sz ∧ off + sz ≤ cells.length then fillC r (cells.take off ++ (v.cells ++ cells.drop (off + v.cells.length))) else none := by
 simp only [fillC, wr]
 by_cases h : v.noL = true ∧ v.cells.length = sz ∧ off + sz ≤ cells.length
 · rw [if_pos h, if_pos (by simp [h.1, h.2.1, h.2.2])]
 · rw [if_neg h, if_neg (by simpa [and_assoc] using h)]
theorem pickV_bool (p : Bool) (a b : AV) : pickV (.bool p) a b = some (if p = true then a else b) := by cases p <;> rfl
theorem guardK_bool (b w : Bool) (x y : Option R) : guardK (.bool b) w x y = if b = w then x else y := by cases b <;> cases w <;> rfl
theorem kB_eq (b : Bool) (x : Option R) : kB b x = if b = true then x else none := by cases b <;> rfl
theorem chk_some (w v : AV) : chk (some w) v = AV.beq w v := rfl
theorem ifaceV_eq (t : TypeId) (v : AV) : ifaceV t v = if v.noL = true then some (.iface t v) else none := rfl
theorem funcV_eq (fn : Fn) (a b : List AV) : funcV fn a b = if allNoL a = true ∧ allNoL b = true then some (.func fn a b) else none := rfl
theorem natV_int (k : IntKind) (n : Int) : natV (.int k n) = if 0 ≤ n then some n.toNat else none := rfl
theorem notL_noL {v : AV} (h : v.noL = true) : v.notL = true := notL_of h
@[simp] theorem notL_bool (b : Bool) : (AV.bool b).notL = true := rfl
@[simp] theorem notL_int (k : IntKind) (n : Int) : (AV.int k n).notL = true := rfl
@[simp] theorem notL_str (l : List UInt8) : (AV.str l).notL = true := rfl
@[simp] theorem notL_nilp : AV.nilp.notL = true := rfl
@[simp] theorem notL_ptr (i o : Nat) : (AV.ptr i o).notL = true := rfl
@[simp] theorem notL_nils : AV.nils.notL = true := rfl
@[simp] theorem notL_slice (i o n c : Nat) : (AV.slice i o n c).notL = true := rfl
@[simp] theorem notL_oslice (i o n c z : Nat) : (AV.oslice i o n c z).notL = true := rfl
@[simp] theorem notL_eslice (i o n c : Nat) : (AV.eslice i o n c).notL = true := rfl
@[simp] theorem notL_xslice (i o : Nat) (s : Option Nat) : (AV.xslice i o s).notL = true := rfl
@[simp] theorem notL_nilm : AV.nilm.notL = true := rfl
@[simp] theorem notL_map (i : Nat) : (AV.map i).notL = true := rfl
@[simp] theorem notL_func (f : Fn) (a b : List AV) : (AV.func f a b).notL = true := rfl
@[simp] theorem notL_nilFunc : AV.nilFunc.notL = true := rfl
@[simp] theorem notL_iface (t : TypeId) (v : AV) : (AV.iface t v).notL = true := rfl
@[simp] theorem notL_nilIface : AV.nilIface.notL = true := rfl
@[simp] theorem notL_agg (l : List AV) : (AV.agg l).notL = true := rfl
@[simp] theorem notL_tuple (l : List AV) : (AV.tuple l).notL = true := rfl
theorem leaveK_ret (rs : List RV) (H0 : AHeap) : leaveK rs H0 .ret s = (rvsK s rs).bind fun vs => if allNoL vs = true then some (packA vs, fin H0 (packA vs) s.H) else none := rfl
theorem leaveK_normal (rs : List RV) (H0 : AHeap) : leaveK rs H0 .normal s = (rvsK s rs).bind fun vs => if allNoL vs = true then some (packA vs, fin H0 (packA vs) s.H) else none := rfl
theorem rvsK_nil : rvsK s [] = some [] := rfl
theorem rvsK_cons (x : RV) (r : List RV) : rvsK s (x :: r) = (rvK s x).bind fun v => (rvsK s r).bind fun vs => some (v :: vs) := rfl
theorem rvK_tmp (t : Nat) (e : List (Nat × Slt)) (l : List (Nat × List AV)) (H : AHeap) : rvK ⟨e, l, H⟩ (.tmp t) = valT (look t e) := by
 simp only [rvK]
 cases look t e with
 | none => rfl
 | some v => cases v <;> rfl
def rvC (l : List (Nat × List AV)) (H : AHeap) (agg : Bool) (sz : Nat) : Option Slt → Option AV
 | some (.l u off) => (look u l).bind (rd agg sz off)
 | some (.v p) => loadP H agg sz p
 | _ => none
theorem rvC_l (l : List (Nat × List AV)) (H : AHeap) (agg : Bool) (sz u off : Nat) : rvC l H agg sz (some (.l u off)) = (look u l).bind (rd agg sz off) := rfl
theorem rvC_v (l : List (Nat × List AV)) (H : AHeap) (agg : Bool) (sz : Nat) (p : AV) : rvC l H agg sz (some (.v p)) = loadP H agg sz p := rfl
theorem rvK_cell (t : Nat) (agg : Bool) (sz : Nat) (e : List (Nat × Slt)) (l : List (Nat × List AV)) (H : AHeap) : rvK ⟨e, l, H⟩ (.cell t agg sz) = rvC l H agg sz (look t e) := by
 simp only [rvK]
 cases look t e with
 | none => rfl
 | some v =>
  cases v with
  | l u off => simp only [rvC]; cases look u l <;> rfl
  | v p => rfl
  | u => rfl
theorem enterK_eq (args : List AV) (H : AHeap) : enterK args H = ⟨(zipI 0 args).map fun e => (e.1, .v e.2), [], H.top⟩ := rfl
end
def Slt.norm : Slt → Slt
 | .u => .v undefA
 | x => x
def SK.norm (s : SK) : SK := { env := s.env.map fun e => (e.1, e.2.norm), loc := s.loc, H := s.H }
theorem norm_eq (e : List (Nat × Slt)) (l : List (Nat × List AV)) (H : AHeap) : SK.norm ⟨e, l, H⟩ = ⟨e.map fun x => (x.1, x.2.norm), l, H⟩ := rfl
theorem norm_l (t o : Nat) : (Slt.l t o).norm = .l t o := rfl
theorem norm_v (v : AV) : (Slt.v v).norm = .v v := rfl
theorem norm_u : Slt.u.norm = .v undefA := rfl
theorem ofAV_of {sv : Slt} (h : sv.ok = true) : ofAV sv.av = sv.norm := by
 cases sv with
 | l t o => rfl
 | v x => exact ofAV_v h
 | u => rfl
theorem look_ofSt {s : SK} {st : St} (h : SimK s st) (k : Nat) : look k (ofSt st).env = (look k s.env).map Slt.norm := by
 simp only [ofSt, look_map, h.env]
 cases hl : look k s.env with
 | none => rfl
 | some sv => simp only [Option.map_some, ofAV_of (h.ok _ (look_mem hl))]
theorem prK_ofSt {s : SK} {st : St} (h : SimK s st) (ks ls : List Nat) : prK ks ls (ofSt st) = (prK ks ls s).norm := by
 have hl : (ofSt st).loc = s.loc := h.loc
 have hH : (ofSt st).H = s.H := h.H
 simp only [prK, SK.norm, hl, hH, prune_map Slt.norm ks (look_ofSt h)]
theorem rvsK_ofSt {s : SK} {st : St} (h : SimK s st) : ∀ (rs : List RV) (vs : List AV), rvsK s rs = some vs → rvsK (ofSt st) rs = some vs := by
 intro rs
 induction rs with
 | nil => intro vs e; exact e
 | cons r rs ih =>
  intro vs e
  rw [rvsK_cons] at e ⊢
  obtain ⟨v, h1, e⟩ := opt_bind_some e
  obtain ⟨ws, h2, e⟩ := opt_bind_some e
  have hl : (ofSt st).loc = s.loc := h.loc
  have hH : (ofSt st).H = s.H := h.H
  have : rvK (ofSt st) r = some v := by
   cases r with
   | tmp t =>
    simp only [rvK, look_ofSt h] at h1 ⊢
    cases hs : look t s.env with
    | none => rw [hs] at h1; cases h1
    | some sv => rw [hs] at h1; cases sv <;> first | (cases h1; done) | exact h1
   | cell t agg sz =>
    simp only [rvK, look_ofSt h, hl, hH] at h1 ⊢
    cases hs : look t s.env with
    | none => rw [hs] at h1; cases h1
    | some sv => rw [hs] at h1; cases sv <;> first | (cases h1; done) | exact h1
  rw [this, Option.bind_some, ih ws h2, Option.bind_some]
  exact e
theorem loopK {T : FuncId → Option FnDef} {ks ls : List Nat} {b L : IC} (hL : L = .keep ks ls b) (I : Nat → SK → Prop) (Q : AExit → SK → Prop)
    (step : ∀ n s, I n s → ∀ P : AExit × SK → Prop, (∀ e l H m, m < n → I m ⟨prune ks e, prune ls l, H⟩ → P (.normal, ⟨e, l, H⟩)) → (∀ j s', Q (.exit j) s' → P (.exit j, s')) → (∀ s', Q .ret s' → P (.ret, s')) → OkR (evK (call T) (den T) b s fun x s' => some (x, s')) P)
    (n : Nat) (s : SK) (ho : s.env.all (fun e => e.2.ok) = true) (hI : I n (prK ks ls s)) :
    ∃ x st s', den T (.loop L) s.toSt = some (x, st) ∧ Q x s' ∧ (∀ ks ls, prK ks ls (ofSt st) = (prK ks ls s').norm) ∧ (∀ rs vs, rvsK s' rs = some vs → rvsK (ofSt st) rs = some vs) ∧ (ofSt st).H = s'.H := by
 subst hL
 obtain ⟨x, st, s', h1, h2, h3⟩ := loop_invK I Q step n s ho hI
 exact ⟨x, st, s', h1, h3, prK_ofSt h2, rvsK_ofSt h2, h2.H⟩
theorem ok_l (t o : Nat) : (Slt.l t o).ok = true := rfl
theorem ok_u : Slt.u.ok = true := rfl
theorem ok_v (v : AV) : (Slt.v v).ok = v.notL := rfl
theorem bind_cg {α β : Type} {o o' : Option α} {f : α → Option β} (h : o = o') : o.bind f = o'.bind f := by rw [h]
theorem guardK_cg {R : Type} {g g' : AV} {w : Bool} {x y : Option R} (h : g = g') : guardK g w x y = guardK g' w x y := by rw [h]
theorem kB_cg {R : Type} {b b' : Bool} {x : Option R} (h : b = b') : kB b x = kB b' x := by rw [h]
theorem condO_cg {R : Type} {o o' : Option AV} {x y : Option R} (h : o = o') : condO o x y = condO o' x y := by rw [h]
@[congr] theorem evR_cg {R : Type} {C : CallF} {D : IC → St → Option (AExit × St)} {c : IC} {s s' : SK} {k : AExit → SK → Option R} (h : s = s') : evR C D c s k = evR C D c s' k := by rw [h]
theorem evK_cg {R : Type} {C : CallF} {D : IC → St → Option (AExit × St)} {c : IC} {s s' : SK} {k : AExit → SK → Option R} (h : s = s') : evK C D c s k = evK C D c s' k := by rw [h]
end Go.Wam
set_option linter.unusedVariables false
namespace Go.Wam
noncomputable section
abbrev D (α : Type) := Nat → α × Nat
def fzN {α : Type} (n : Nat) (k : Nat → α) : α := Nat.rec (k 0) (fun p _ => k (Nat.succ p)) n
def ptD {α : Type} (a : α) : D α := fun n => (a, n)
def bdD {α β : Type} (x : D α) (f : α → D β) : D β := fun n => Prod.rec (fun a m => f a m) (x n)
def ifD {α : Type} (b : Bool) (x y : α) : α := Bool.rec y x b
def byteD : D Nat := fun n => fzN n fun n => (Nat.land n 255, Nat.shiftRight n 8)
def wideD (k : Nat) : D Nat := fun n => fzN n fun n => (Nat.land n (Nat.sub (Nat.pow 2 k) 1), Nat.shiftRight n k)
def numD : D Nat := bdD byteD fun b => ifD (Nat.blt b 251) (ptD b) (ifD (Nat.beq b 251) (wideD 16) (ifD (Nat.beq b 252) (wideD 32) (wideD 64)))
def selD {α : Type} [Inhabited α] (t : Nat) (l : List (D α)) : D α := List.rec (motive := fun _ => Nat → D α) (fun _ => ptD default) (fun x _ ih t => ifD (Nat.beq t 0) x (ih (Nat.sub t 1))) l t
def repD {α : Type} (x : D α) (k : Nat) : D (List α) := Nat.rec (ptD []) (fun _ ih => bdD x fun a => bdD ih fun r => ptD (a :: r)) k
def listD {α : Type} (x : D α) : D (List α) := bdD numD fun k => repD x k
def boolD : D Bool := bdD byteD fun t => ptD (Nat.beq t 1)
def onumD : D (Option Nat) := bdD numD fun t => ptD (ifD (Nat.beq t 0) none (some (Nat.sub t 1)))
def u8D : D UInt8 := bdD byteD fun t => ptD (UInt8.ofNat t)
instance : Inhabited IntKind := ⟨.i64⟩
instance : Inhabited BinOp := ⟨.add⟩
instance : Inhabited UnOp := ⟨.not⟩
instance : Inhabited Conv := ⟨.strId⟩
instance : Inhabited LenKind := ⟨.str⟩
instance : Inhabited SlKind := ⟨.str⟩
instance : Inhabited KeyT := ⟨.str⟩
instance : Inhabited Opd := ⟨.tmp 0⟩
instance : Inhabited IOp := ⟨.bad⟩
instance : Inhabited IC := ⟨.stuck⟩
instance : Inhabited RV := ⟨.tmp 0⟩
instance : Inhabited EqT := ⟨.none⟩
def kindD : D IntKind := bdD byteD fun t => (selD t [ptD .i64, ptD .u8, ptD .i32, ptD .u32, ptD .u64, ptD .i8, ptD .i16, ptD .u16])
def bnopD : D BinOp := bdD byteD fun t => (selD t [ptD .add, ptD .sub, ptD .mul, ptD .quo, ptD .rem, ptD .and, ptD .or, ptD .xor, ptD .shl, ptD .shr, ptD .andNot, ptD .eql, ptD .neq, ptD .lss, ptD .leq, ptD .gtr, ptD .geq])
def unopD : D UnOp := bdD byteD fun t => (selD t [ptD .neg, ptD .xor, ptD .not, ptD .plus])
def fnD : D Fn := bdD numD fun f => ptD (.func f)
def avF (k : Nat) : D AV := Nat.rec (ptD default) (fun _ ih => bdD byteD fun t => (selD t [bdD numD fun n => ptD (.int .i64 (Int.ofNat n)), bdD boolD fun b => ptD (.bool b), bdD (listD u8D) fun s => ptD (.str s), bdD kindD fun k => bdD numD fun n => ptD (.int k (Int.ofNat n)), bdD kindD fun k => bdD numD fun n => ptD (.int k (Int.negSucc n)),
 ptD .nilp, ptD .nils, ptD .nilm, ptD .nilFunc, ptD .nilIface, bdD (listD ih) fun l => ptD (.agg l), bdD (listD ih) fun l => ptD (.tuple l), bdD fnD fun f => bdD (listD ih) fun a => bdD (listD ih) fun b => ptD (.func f a b),
 bdD numD fun a => bdD numD fun b => ptD (.ptr a b), bdD numD fun a => bdD numD fun b => bdD numD fun c => bdD numD fun d => ptD (.slice a b c d), bdD numD fun a => bdD numD fun b => bdD numD fun c => bdD numD fun d => bdD numD fun e => ptD (.oslice a b c d e), bdD numD fun a => bdD numD fun b => bdD numD fun c => bdD numD fun d => ptD (.eslice a b c d), bdD numD fun a => ptD (.map a), bdD numD fun a => bdD numD fun b => ptD (.lptr a b), bdD numD fun a => bdD ih fun v => ptD (.iface a v)])) k
def avD : D AV := avF 8
def avsD : D (List AV) := listD avD
def opdD : D Opd := bdD byteD fun t => ifD (Nat.blt t 240) (ptD (.tmp t)) (selD (Nat.sub t 240) [bdD avD fun v => ptD (.const v), bdD numD fun f => ptD (.func f), bdD numD fun f => ptD (.tmp f)])
def opdsD : D (List Opd) := listD opdD
def oopdD : D (Option Opd) := bdD byteD fun t => ifD (Nat.beq t 0) (ptD none) (bdD opdD fun x => ptD (some x))
def partsD : D (List (Nat × Nat × Opd)) := listD (bdD numD fun a => bdD numD fun b => bdD opdD fun x => ptD (a, b, x))
def oarrD : D (Option (Nat × Bool × Nat)) := bdD byteD fun t => ifD (Nat.beq t 0) (ptD none) (bdD numD fun a => bdD boolD fun b => bdD numD fun c => ptD (some (a, b, c)))
def eqF (k : Nat) : D EqT := Nat.rec (ptD default) (fun _ ih => bdD byteD fun t => (selD t [ptD .none, ptD .int, ptD .bool, ptD .str, ptD .ptr, ptD .slice, ptD .map, ptD .func, bdD (listD (bdD numD fun a => bdD boolD fun b => bdD numD fun c => bdD ih fun e => ptD (a, b, c, e))) fun l => ptD (.struct l)])) k
def eqtD : D EqT := eqF 8
def convD : D Conv := bdD byteD fun t => (selD t [bdD kindD fun k => ptD (.toInt k), ptD .strId, ptD .toBytes, ptD .ofBytes, ptD .ptrId])
def slkD : D SlKind := bdD byteD fun t => (selD t [ptD .str, bdD numD fun s => ptD (.slice s), bdD numD fun n => bdD numD fun s => ptD (.arr n s)])
def lenkD : D LenKind := bdD byteD fun t => (selD t [ptD .str, ptD .slice, bdD numD fun n => ptD (.arr n), ptD .map])
def keytD : D KeyT := bdD byteD fun t => (selD t [bdD kindD fun k => ptD (.int k), ptD .str, bdD kindD fun k => bdD numD fun n => ptD (.arr k n)])
def iopD (t : Nat) : D IOp := (selD t [(bdD bnopD fun x0 => bdD eqtD fun x1 => bdD opdD fun x2 => bdD opdD fun x3 => ptD (.bin x0 x1 x2 x3)), (bdD boolD fun x0 => bdD numD fun x1 => bdD opdD fun x2 => ptD (.load x0 x1 x2)), (bdD numD fun x0 => bdD opdD fun x1 => ptD (.fieldAddr x0 x1)), (bdD opdD fun x0 => ptD (.move x0)), (bdD opdD fun x0 => bdD opdsD fun x1 => ptD (.call x0 x1)), (bdD opdD fun x0 => bdD numD fun x1 => ptD (.extract x0 x1)), (bdD opdD fun x0 => ptD (.nilCheck x0)), (bdD lenkD fun x0 => bdD opdD fun x1 => ptD (.len x0 x1)), (bdD boolD fun x0 => bdD numD fun x1 => bdD numD fun x2 => bdD opdD fun x3 => ptD (.field x0 x1 x2 x3)), (bdD oarrD fun x0 => bdD opdD fun x1 => bdD opdD fun x2 => ptD (.index x0 x1 x2)), (bdD onumD fun x0 => bdD numD fun x1 => bdD opdD fun x2 => bdD opdD fun x3 => ptD (.indexAddr x0 x1 x2 x3)), (bdD numD fun x0 => bdD opdD fun x1 => bdD opdD fun x2 => ptD (.store x0 x1 x2)), (bdD convD fun x0 => bdD opdD fun x1 => ptD (.conv x0 x1)), (bdD avsD fun x0 => bdD partsD fun x1 => ptD (.build x0 x1)), (bdD boolD fun x0 => bdD numD fun x1 => bdD avsD fun x2 => ptD (.alloc x0 x1 x2)), (bdD boolD fun x0 => bdD numD fun x1 => bdD opdD fun x2 => ptD (.box x0 x1 x2)), (bdD numD fun x0 => bdD numD fun x1 => bdD opdD fun x2 => bdD opdD fun x3 => ptD (.append x0 x1 x2 x3)), (bdD opdD fun x0 => bdD opdD fun x1 => bdD opdD fun x2 => ptD (.pick x0 x1 x2)), (bdD unopD fun x0 => bdD opdD fun x1 => ptD (.un x0 x1)), (bdD slkD fun x0 => bdD opdD fun x1 => bdD oopdD fun x2 => bdD oopdD fun x3 => bdD oopdD fun x4 => ptD (.slice x0 x1 x2 x3 x4)), (bdD fnD fun x0 => bdD opdsD fun x1 => bdD opdsD fun x2 => ptD (.mkFunc x0 x1 x2)), (bdD numD fun x0 => bdD numD fun x1 => bdD avsD fun x2 => bdD partsD fun x3 => ptD (.buildSlice x0 x1 x2 x3)), (bdD keytD fun x0 => bdD boolD fun x1 => bdD avD fun x2 => bdD opdD fun x3 => bdD opdD fun x4 => ptD (.lookup x0 x1 x2 x3 x4)), (bdD keytD fun x0 => bdD opdD fun x1 => bdD opdD fun x2 => bdD opdD fun x3 => ptD (.mapUpdate x0 x1 x2 x3)), (ptD .mkMap), (bdD numD fun x0 => bdD opdD fun x1 => ptD (.mkIface x0 x1)), (bdD numD fun x0 => bdD numD fun x1 => bdD avsD fun x2 => bdD opdD fun x3 => bdD opdD fun x4 => ptD (.mkSlice x0 x1 x2 x3 x4)), (bdD numD fun x0 => bdD numD fun x1 => bdD avsD fun x2 => bdD opdD fun x3 => bdD opdD fun x4 => ptD (.appendZ x0 x1 x2 x3 x4)), (bdD numD fun x0 => bdD avsD fun x1 => bdD opdD fun x2 => ptD (.clear x0 x1 x2)), (bdD keytD fun x0 => bdD opdD fun x1 => bdD opdD fun x2 => ptD (.delete x0 x1 x2)), (bdD opdD fun x0 => ptD (.rangeS x0)), (bdD opdD fun x0 => ptD (.nextS x0)), (bdD opdD fun x0 => ptD (.rangeM x0)), (bdD opdD fun x0 => ptD (.nextM x0)), (bdD opdD fun x0 => ptD (.entryM x0)), (bdD keytD fun x0 => bdD avD fun x1 => bdD opdD fun x2 => bdD opdD fun x3 => ptD (.mapEntry x0 x1 x2 x3)), (bdD opdD fun x0 => bdD opdD fun x1 => bdD opdD fun x2 => ptD (.entryStore x0 x1 x2)), (bdD opdD fun x0 => ptD (.capS x0)), (bdD numD fun x0 => bdD opdD fun x1 => bdD opdD fun x2 => ptD (.copy x0 x1 x2)), (bdD boolD fun x0 => bdD opdD fun x1 => bdD opdD fun x2 => ptD (.ptrEq x0 x1 x2)), (bdD boolD fun x0 => bdD opdD fun x1 => ptD (.isNilI x0 x1)), (bdD opdD fun x0 => bdD opdsD fun x1 => ptD (.defer x0 x1)), (bdD opdD fun x0 => bdD opdsD fun x1 => ptD (.maxs x0 x1)), (bdD opdD fun x0 => bdD opdsD fun x1 => ptD (.mins x0 x1)), (ptD .bad)])
def ioperD : D IOper := bdD byteD fun t => bdD onumD fun d => ifD (Nat.blt t 64) (bdD (iopD t) fun o => ptD ⟨d, o, none⟩) (bdD (iopD (Nat.sub t 64)) fun o => bdD numD fun g => bdD boolD fun b => ptD ⟨d, o, some (g, b)⟩)
instance : Inhabited AObj := ⟨.dead⟩
def dOs (n : Nat) : List IOper := Prod.rec (fun a _ => a) (listD ioperD n)
end
end Go.Wam
set_option linter.unusedVariables false
set_option linter.unusedSimpArgs false
namespace Go.Wam
def gCl : List AV → AHeap → Option (AV × AHeap) := fun a H => match a with
 | [.nilm] => some (.nilm, H)
 | [.map id] => match H.get id with
  | some (.map es c) => some (.map H.n, H.alloc (.map es c))
  | _ => none
 | _ => none
def CloneSome (P : Program) (f : FuncId) : Prop := ∀ (b : Nat) (es : Array MapEntry) (clock : Nat) (w : World), w.heap[b]? = some (.map es clock) →
 Calls P f #[.map (some b)] w fun e w' => e = .returned (.map (some w.heap.size)) ∧ w' = w.alloc (.map es clock)
def CloneNil (P : Program) (f : FuncId) : Prop := ∀ w : World, Calls P f #[.map none] w fun e w' => e = .returned (.map none) ∧ w' = w
section
variable {P : Program} {f : FuncId}
theorem cl_trip (hF : FOk P f) (hs : CloneSome P f) (hn : CloneNil P f) : ∀ args H v H', gCl args H = some (v, H') → ATrip P f args H v H' := by
 intro args H v H' h
 unfold gCl at h
 split at h
 · cases h
   refine ⟨hF, Nat.le_refl _, fun m w S _ => ?_⟩
   have ha : (concL m ml0 [.nilm]).toArray = #[.map none] := by simp [concL, conc]
   rw [ha]
   refine (hn w).mono ?_
   rintro e w' ⟨rfl, rfl⟩
   exact ⟨_, rfl, m, by simp [conc], S, .refl .., trivial⟩
 · rename_i id
   split at h
   · rename_i es c hm
     cases h
     refine ⟨hF, by simp, fun m w S _ => ?_⟩
     have ha : (concL m ml0 [.map id]).toArray = #[.map (some (m id).block)] := by simp [concL, conc]
     rw [ha]
     obtain ⟨ces, b1, b2⟩ := S.obj id _ hm
     refine (hs _ ces c w b1).mono ?_
     rintro e w' ⟨rfl, rfl⟩
     have hp := pushed_mk w (.map ces c)
     have S1 := S.frame (w' := w.alloc (.map ces c)) fun b hb => hp.old (S.used_lt hb)
     have S2 := S1.add_obj (o := .map es c) (l := ⟨w.heap.size, 0, 0⟩) ⟨ces, hp.new, b2⟩ (S.ok id _ hm) (fun b hb e => by have := S.used_lt hb; simp only at e; omega) rfl
     refine ⟨_, rfl, upd m H.n ⟨w.heap.size, 0, 0⟩, ?_, S2, .of_push S.wf rfl hp rfl, ?_⟩
     · simp [conc, upd_same]
     · simp only [AV.okP, good, AHeap.alloc_n]
       exact ⟨by omega, Nat.zero_le _⟩
   · cases h
 · cases h
end
end Go.Wam
