/- The abstract machine: rounds, and the table of functions. No condition. -/
import Derived.Test.YtpdmmpajjdaebaaGreatAmM
set_option linter.unusedVariables false
set_option linter.unusedSimpArgs false
namespace Go.Wam
section
variable {P : Program} {C : CallF} {m m' : Nat → Loc} {ml ml' : Nat → Nat} {nt : Nat} {loc : List (Nat × List AV)} {H H' H1 : AHeap} {w w' : World} {s s' : St} {a : Act}

theorem look_append {α : Type} {t : Nat} : ∀ {x y : List (Nat × α)}, look t (x ++ y) = (look t x).or (look t y)
  | [], y => by simp [look]
  | (k, v) :: x, y => by
    simp only [List.cons_append, look]
    split
    · simp
    · exact look_append

theorem foldl_set_size : ∀ (l : List (Nat × Value)) (t : Array Value), (l.foldl (fun tmps (p, v) => tmps.setIfInBounds p v) t).size = t.size
  | [], t => rfl
  | (p, v) :: l, t => by simp only [List.foldl_cons]; rw [foldl_set_size l]; simp

theorem foldl_set_get : ∀ (l : List (Nat × Value)) (t : Array Value) (i : Nat), (∀ e ∈ l, e.1 < t.size) → (l.foldl (fun tmps (p, v) => tmps.setIfInBounds p v) t).getD i undef = (look i l.reverse).getD (t.getD i undef)
  | [], t, i, _ => by simp [look]
  | (p, v) :: l, t, i, h => by
    simp only [List.foldl_cons, List.reverse_cons]
    rw [foldl_set_get l _ i (fun e he => by simp; exact h e (by simp [he])), look_append]
    have hp := h (p, v) (by simp)
    simp only at hp
    cases look i l.reverse with
    | some x => simp
    | none =>
      simp only [Option.none_or, Option.getD_none, look]
      rw [Array.getD_eq_getD_getElem?, Array.getElem?_setIfInBounds]
      by_cases hi : p = i
      · subst hi; simp [hp]
      · simp only [hi, if_false, Option.getD_none, Array.getD_eq_getD_getElem?]

theorem look_rev_map {i : Nat} {m : Nat → Loc} {ml : Nat → Nat} : ∀ (l : List (Nat × AV)), look i (l.map fun e => (e.1, conc m ml e.2)) = (look i l).map (conc m ml)
  | [] => rfl
  | (k, v) :: l => by
    simp only [List.map_cons, look]
    split
    · rfl
    · exact look_rev_map l

theorem runY_n (hC : CallOk P C) {n : Nat} {args : List AV} {v : AV} (h : runY C n args H = some (v, H')) : H.n ≤ H'.n ∧ H'.dfs = H.dfs := by
  unfold runY at h
  split at h
  · split at h
    · split at h
      · split at h
        · rename_i s1 h1
          have n1 := evC_n hC n _ _ _ _ h1
          split at h
          · rename_i env1 ps1 ia1 ib1 hg
            rw [Option.bind_eq_some_iff] at h
            obtain ⟨⟨x, s2⟩, h2, h⟩ := h
            have n2 := evC_n hC n _ _ _ _ h2
            simp only [AHeap.set_n] at n1 n2
            · split at h
              · split at h
                · cases h; simp only [AHeap.set_n, and_true]; omega
                · cases h
              · cases h
          · cases h
        · cases h
      · cases h
    · cases h
  · cases h

set_option maxHeartbeats 400000 in
theorem runY_sound (hm : P.follows .mixedOrders = true) (hC : CallOk P C) {n : Nat} {args : List AV} {v : AV} (h : runY C n args H = some (v, H')) : YTrip P args H v H' := by
  refine ⟨(runY_n hC h).1, ?_⟩
  unfold runY at h
  split at h
  · rename_i id vs
    refine ⟨id, vs, rfl, fun m w S hargs => ?_⟩
    split at h
    · rename_i env ps ia ib hid
      split at h
      · rename_i hlen
        obtain ⟨r, b1, b2, b3, b4, b5⟩ := S.obj id _ hid
        have hb5 := b5
        obtain ⟨pe, lt, ⟨locals, ca, cb⟩, pa, pb⟩ := b5
        have hvs : AV.okPL (good m H.n) vs := (okPL_iff _ _).2 fun x hx => hargs x (by simp [hx])
        have hy := run_yield (P := P) (args := (concL m ml0 vs).toArray) b1 (by rw [← Array.length_toList (xs := r.params), pe]; simp [concL_eq, hlen])
        refine ⟨_, _, _, _, hy, ?_⟩
        have hfold : ((r.params.zip (concL m ml0 vs).toArray).foldl (fun tmps (x : Tmp × Value) => tmps.setIfInBounds x.1 x.2) r.tmps) = (ps.zip (concL m ml0 vs)).foldl (fun tmps (p, v) => tmps.setIfInBounds p v) r.tmps := by
          rw [← Array.foldl_toList, Array.toList_zip, pe]
        rw [show (fun tmps (x : Tmp × Value) => match x with | (t, a) => tmps.setIfInBounds t a) = (fun (tmps : Array Value) (x : Tmp × Value) => tmps.setIfInBounds x.1 x.2) from rfl, hfold]
        have hzip : ps.zip (concL m ml0 vs) = (ps.zip vs).map fun e => (e.1, conc m ml0 e.2) := by
          rw [concL_eq, List.zip_map_right]; rfl
        have hlt : ∀ e ∈ ps.zip (concL m ml0 vs), e.1 < r.tmps.size := fun e he => lt e.1 (List.of_mem_zip he).1
        have R0 : Rel P m ml0 r.tmps.size { env := (ps.zip vs).reverse ++ env, loc := [], H := { H with dfs := [] } } { tmps := (ps.zip (concL m ml0 vs)).foldl (fun tmps (p, v) => tmps.setIfInBounds p v) r.tmps, defers := [] } w := by
          refine ⟨S.dfs [], fun t u hu => ?_, foldl_set_size _ _, rfl, fun d hd => by cases hd⟩
          simp only [look_append] at hu
          rw [foldl_set_get _ _ t hlt, hzip, ← List.map_reverse, look_rev_map]
          cases hl : look t (ps.zip vs).reverse with
          | some u' =>
            rw [hl] at hu
            simp at hu; subst hu
            refine ⟨rfl, .of ?_⟩
            have : ∀ {l : List (Nat × AV)}, look t l = some u' → ∃ k, (k, u') ∈ l := by
              intro l
              induction l with
              | nil => intro h; simp [look] at h
              | cons e l ih =>
                obtain ⟨k, x⟩ := e
                intro h
                simp only [look] at h
                split at h
                · cases h; exact ⟨k, by simp⟩
                · obtain ⟨k', hk⟩ := ih h; exact ⟨k', by simp [hk]⟩
            obtain ⟨k, hk⟩ := this hl
            exact (okPL_iff _ _).1 hvs u' (List.of_mem_zip (List.mem_reverse.1 hk)).2
          | none =>
            rw [hl] at hu
            simp only [Option.none_or] at hu
            refine ⟨by simp only [Option.map_none, Option.getD_none]; exact b4 t u hu, .of (S.ok id _ hid t u hu)⟩
        split at h
        · rename_i s1 h1
          split at h
          · rename_i env1 ps1 ia1 ib1 hid1
            cases h2 : evC C n ib { s1 with H := s1.H.set id (.loop .busy none env1 ps1 ia1 ib1) } with
            | none => simp [h2] at h
            | some q =>
              obtain ⟨x, s2⟩ := q
              simp only [h2, Option.bind_some] at h
              split at h
              · rename_i hdf
                split at h
                · rename_i env2 ps2 ia2 ib2 hid2
                  simp only [Option.some.injEq, Prod.mk.injEq] at h
                  obtain ⟨rfl, rfl⟩ := h
                  refine roundIn_of_wpIn trivial ?_
                  refine code_sound hm hC n (some (m id).block) 0 ia r.assign ca (.inr pa) m ml0 w _ s1 _ .normal R0 h1 _ fun m1 ml1 w1 a1 R1 G1 => ?_
                  simp only [toExit, Exit.then]
                  have hidn := AHeap.get_lt hid S.wf
                  have hag1 : m1 id = m id := G1.agree id hidn
                  obtain ⟨r1, c1, c2, c3, c4, c5⟩ := R1.sim.obj id _ hid1
                  rw [hag1] at c1
                  refine ⟨_, run_beginRound c1 c2, ?_⟩
                  have S2 : Sim P m1 ml1 s1.loc (s1.H.set id (.loop .busy none env1 ps1 ia1 ib1)) (w1.putObj (m id).block (.loop { r1 with state := .busy })) := by
                    refine R1.sim.set_obj hid1 rfl ⟨{ r1 with state := .busy }, ?_, rfl, c3, c4, ⟨c5.pe, c5.lt, c5.comp, c5.pa, c5.pb⟩⟩ (show AObj.okP (good m1 s1.H.n) (.loop .busy none env1 ps1 ia1 ib1) from (by have := R1.sim.ok id _ hid1; exact this)) rfl (by rw [hag1]; exact wrote_put.other)
                    rw [hag1]; exact World.putObj_heap_same (Array.getElem?_eq_some_iff.1 c1).1
                  have G2 : Grow m1 ml1 s1.loc s1.H w1 m1 ml1 s1.loc (s1.H.set id (.loop .busy none env1 ps1 ia1 ib1)) (w1.putObj (m id).block (.loop { r1 with state := .busy })) := .of_set R1.sim.wf hid1 rfl rfl (by rw [hag1]; exact wrote_put)
                  have R2 : Rel P m1 ml1 r.tmps.size { s1 with H := s1.H.set id (.loop .busy none env1 ps1 ia1 ib1) } a1 (w1.putObj (m id).block (.loop { r1 with state := .busy })) := ⟨S2, R1.env, R1.size, R1.defers, R1.dok⟩
                  refine code_sound hm hC n (some (m id).block) 0 ib r.body cb (.inr pb) m1 ml1 _ _ s2 a1 x R2 h2 _ fun m3 ml3 w3 a3 R3 G3 => ?_
                  have Gt := (G1.trans G2).trans G3
                  have hag3 : m3 id = m id := Gt.agree id hidn
                  obtain ⟨r3, d1, d2, d3, d4, d5⟩ := R3.sim.obj id _ hid2
                  rw [hag3] at d1
                  have fin : ∀ (jump : Option Code) (pend : Option AExit), jump = pend.map codeX → ((x = .normal) ↔ pend = none) →
                      ∃ u w4, (Instr.endRound (m id).block jump).run P w3 = .ok u w4 ∧ ∃ u', Ending.returned u = .returned u' ∧ Left P m H w (.bool (decide (x = .normal))) { s2.H.set id (.loop (if x = .normal then .ready else .done) pend env2 ps2 ia2 ib2) with dfs := H.dfs } u' w4 := by
                    intro jump pend hj hp
                    refine ⟨_, _, run_endRound jump d1, _, rfl, m3, ?_, ?_, ?_, by simp [AV.okP]⟩
                    · subst hj
                      by_cases hx : x = .normal
                      · rw [hp.1 hx]; simp [conc, hx]
                      · cases pend with
                        | none => exact absurd (hp.2 rfl) hx
                        | some y => simp [conc, hx]
                    · refine Sim.dfs ((Sim.set_obj (o' := .loop (if x = .normal then .ready else .done) pend env2 ps2 ia2 ib2) R3.sim hid2 rfl ⟨{ r3 with state := if jump.isNone then .ready else .done, pending := jump }, ?_, ?_, hj, d4, ⟨d5.pe, d5.lt, d5.comp, d5.pa, d5.pb⟩⟩ (show AObj.okP (good m3 s2.H.n) (.loop (if x = .normal then .ready else .done) pend env2 ps2 ia2 ib2) from (by have := R3.sim.ok id _ hid2; exact this)) rfl (by rw [hag3]; exact wrote_put.other)).drop ml0) H.dfs
                      · rw [hag3]; exact World.putObj_heap_same (Array.getElem?_eq_some_iff.1 d1).1
                      · subst hj
                        by_cases hx : x = .normal
                        · rw [hp.1 hx]; simp [hx]
                        · cases pend with
                          | none => exact absurd (hp.2 rfl) hx
                          | some y => simp [hx]
                    · have G4 := Gt.trans (Grow.of_set (o' := .loop (if x = .normal then .ready else .done) pend env2 ps2 ia2 ib2) R3.sim.wf hid2 rfl rfl (by rw [hag3]; exact wrote_put (o' := .loop { r3 with state := if jump.isNone then .ready else .done, pending := jump })))
                      exact ⟨G4.n_le, G4.agree, G4.size, G4.os, G4.tape, G4.output, G4.keep, G4.own, fun t c h => by simp [look] at h, G4.low, G4.pres, G4.ro⟩
                  cases x with
                  | normal => exact fin none none rfl (by simp)
                  | exit j => exact fin (some (.exit j)) (some (.exit j)) rfl (by simp)
                  | ret => exact fin (some .ret) (some .ret) rfl (by simp)
                · cases h
              · cases h
          · cases h
        · cases h
      · cases h
    · cases h
  · cases h

/-- A table of functions that fits the program. -/
def TableOk (P : Program) (T : FuncId → Option FnDef) : Prop :=
  ∀ f d, T f = some d → match d with
    | .ir F => FnFits P f F
    | .prim g => ∀ args H v H', g args H = some (v, H') → ATrip P f args H v H'
    | .ext g => ∀ args H v H', g args H = some (v, H') → ETrip P f args H v H'

theorem Left.dfs {u : Value} {v : AV} (h : Left P m H w v H' u w') (d : List Dfr) : Left P m H w v { H' with dfs := d } u w' := by
  obtain ⟨m', h1, S, G, h2⟩ := h
  exact ⟨m', h1, S.dfs d, G.dfs d, h2⟩
theorem ATrip.dfs {f : FuncId} {args : List AV} {v : AV} (h : ATrip P f args H v H') (d : List Dfr) : ATrip P f args H v { H' with dfs := d } := by
  obtain ⟨h1, h2, h3⟩ := h
  exact ⟨h1, h2, fun m w S ha => (h3 m w S ha).mono fun e w' ⟨u, k1, k2⟩ => ⟨u, k1, k2.dfs d⟩⟩
theorem ETrip.dfs {f : FuncId} {args : List AV} {v : AV} (h : ETrip P f args H v H') (d : List Dfr) : ETrip P f args H v { H' with dfs := d } := by
  obtain ⟨h2, h3⟩ := h
  exact ⟨h2, fun m w S ha => let ⟨u, w', k1, k2⟩ := h3 m w S ha; ⟨u, w', k1, k2.dfs d⟩⟩
theorem keepD_some {r : Option (AV × AHeap)} {v : AV} (h : keepD r H = some (v, H')) : ∃ H1, r = some (v, H1) ∧ H' = { H1 with dfs := H.dfs } := by
  unfold keepD at h
  split at h
  · cases h; exact ⟨_, rfl, rfl⟩
  · cases h

theorem evF_sound {T : FuncId → Option FnDef} (hm : P.follows .mixedOrders = true) (hT : TableOk P T) : ∀ n, CallOk P (evF T n) := by
  intro n
  induction n with
  | zero => intro g args H v H' h; simp [evF] at h
  | succ n ih =>
    intro g args H v H' h
    simp only [evF] at h
    have hy : ¬ yieldF < yieldF := Nat.lt_irrefl _
    split at h
    · rename_i hg
      subst hg
      exact ⟨(runY_n ih h).2, fun _ => runY_sound hm ih h, fun hlt => absurd hlt hy, fun f hf => absurd (show deferF ≤ yieldF by rw [hf]; exact Nat.le_add_right _ _) (by decide)⟩
    · rename_i hg
      split at h
      · rename_i hd
        split at h
        · rename_i F hF
          refine ⟨(runFD_n ih h).2, fun hx => absurd hx hg, fun hlt => absurd (Nat.lt_of_lt_of_le hlt (Nat.le_trans (show yieldF ≤ deferF by decide) hd)) (Nat.lt_irrefl _), fun f hf => ?_⟩
          have : g - deferF = f := by rw [hf]; exact Nat.add_sub_cancel_left ..
          rw [this] at hF
          exact runFD_sound hm ih (hT f _ hF) h
        · cases h
      · rename_i hd
        have hD : ∀ f, g = deferF + f → DTrip P f args H v H' := fun f hf => absurd (show deferF ≤ g by rw [hf]; exact Nat.le_add_right _ _) hd
        split at h
        · rename_i F hF
          exact ⟨(runF_n ih h).2, fun hx => absurd hx hg, fun _ => .inl (runF_sound hm ih (hT g _ hF) h), hD⟩
        · rename_i p hp
          obtain ⟨H1, h1, rfl⟩ := keepD_some h
          exact ⟨rfl, fun hx => absurd hx hg, fun _ => .inl ((hT g _ hp args H v H1 h1).dfs H.dfs), hD⟩
        · rename_i p hp
          split at h
          · cases h
          · rename_i hne
            obtain ⟨H1, h1, rfl⟩ := keepD_some h
            exact ⟨rfl, fun hx => absurd hx hg, fun _ => .inr ⟨(hT g _ hp args H v H1 h1).dfs H.dfs, fun id r e => hne id r e⟩, hD⟩
        · cases h

end
end Go.Wam
