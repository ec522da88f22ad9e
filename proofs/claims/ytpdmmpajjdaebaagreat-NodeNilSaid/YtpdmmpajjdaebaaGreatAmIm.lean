/- Maps: look-up, store, delete. No condition. -/
import Derived.Test.YtpdmmpajjdaebaaGreatAmIk
set_option linter.unusedVariables false
set_option linter.unusedSimpArgs false
namespace Go.Wam
open Go Go.MapKept

section
variable {P : Program} {s : St} {m : Nat → Loc} {ml : Nat → Nat} {w : World} {loc : List (Nat × List AV)} {H : AHeap}

theorem zeroV_run {t : TypeId} {z : AV} (h : zeroV P t = some z) (m : Nat → Loc) (ml : Nat → Nat) (p : Nat → Nat → Prop) :
    (∀ w, (zeroValue t).run P w = .ok (conc m ml z) w) ∧ z.okP p := by
  unfold zeroV at h
  cases hi : P.info? t with
  | none => simp [hi] at h
  | some i =>
    cases hz : i.zero with
    | none => simp [hi, hz] at h
    | some v =>
      simp only [hi, hz, Option.bind_some] at h
      have run : ∀ w, (zeroValue t).run P w = .ok v w := fun w => by simp [zeroValue, info_run hi, hz]
      have leaf : leafV v = some z → (∀ w, (zeroValue t).run P w = .ok (conc m ml z) w) ∧ z.okP p := fun h => by
        obtain ⟨f1, f2, _⟩ := leaf_conc h m ml p
        exact ⟨fun w => by rw [f1]; exact run w, f2⟩
      cases v with
      | agg cs =>
        simp only [Option.map_eq_some_iff] at h
        obtain ⟨l, hl, rfl⟩ := h
        obtain ⟨f1, f2, f3⟩ := leafs_conc hl m ml p
        refine ⟨fun w => ?_, by simpa [AV.okP] using ⟨f2, List.all_eq_true.1 f3⟩⟩
        rw [run]; simp [conc, f1]
      | _ => exact leaf h

theorem wrote_set {w : World} {b : Nat} {o o' : Obj} (h : w.heap[b]? = some o) : Wrote w { w with heap := w.heap.setIfInBounds b o' } b :=
  ⟨(Go.MapKept.heap_set h).2, by simp, rfl, rfl, rfl⟩

/-! ## Lists of entries -/
theorem findK_split {t : KeyT} {k : AV} : ∀ (es : List ME), (findK t k es = none ∧ (∀ e ∈ es, keyEq t k e.1 = false) ∧ delK t k es = es) ∨
    ∃ E1 e E2, es = E1 ++ e :: E2 ∧ keyEq t k e.1 = true ∧ findK t k es = some e.2 ∧ (∀ v, setK t k v es = E1 ++ (k, v, e.2.2) :: E2) ∧ delK t k es = E1 ++ E2
  | [] => .inl ⟨rfl, by simp, rfl⟩
  | e :: es => by
    cases hq : keyEq t k e.1 with
    | true => exact .inr ⟨[], e, es, rfl, hq, by simp [findK, hq], fun v => by simp [setK, hq], by simp [delK, hq]⟩
    | false =>
      rcases findK_split (t := t) (k := k) es with ⟨h1, h2, h3⟩ | ⟨E1, e', E2, h1, h2, h3, h4, h5⟩
      · refine .inl ⟨by simp [findK, hq, h1], fun x hx => ?_, by simp [delK, hq, h3]⟩
        rcases List.mem_cons.1 hx with rfl | hx
        · exact hq
        · exact h2 x hx
      · exact .inr ⟨e :: E1, e', E2, by rw [h1]; rfl, h2, by simp only [findK, hq]; exact h3, fun v => by simp only [setK, hq]; rw [h4]; rfl, by simp only [delK, hq]; rw [h5]; rfl⟩

theorem insK_perm (t : KeyT) (x : ME) : ∀ es : List ME, (insK t x es).Perm (x :: es)
  | [] => .refl _
  | e :: es => by
    simp only [insK]
    split
    · exact .refl _
    · exact ((insK_perm t x es).cons e).trans (.swap x e es)

def triple (c : MapEntry) : Value × Value × Nat := (c.key, c.val, c.born)
def concE (m : Nat → Loc) (ml : Nat → Nat) (e : ME) : Value × Value × Nat := (conc m ml e.1, conc m ml e.2.1, e.2.2)

theorem keysOk_mem {t : KeyT} {es : List ME} (h : keysOk t es = true) {e : ME} (he : e ∈ es) : isK t e.1 = true := List.all_eq_true.1 h e he

variable {ces : Array MapEntry} {es : List ME} {c : Nat} {t : KeyT} {k v : AV}

theorem MapAt.keys (M : MapAt m ml ces es c) (hK : keysOk t es = true) : ∀ ce ∈ ces.toList, ∃ k', isK t k' = true ∧ ce.key = conc m ml k' := by
  intro ce hce
  have h1 : triple ce ∈ ces.toList.map triple := List.mem_map_of_mem hce
  have h2 := M.1.mem_iff.1 h1
  obtain ⟨e, he, hee⟩ := List.mem_map.1 h2
  exact ⟨e.1, keysOk_mem hK he, (congrArg Prod.fst hee).symm⟩

/-- An entry that was found is the one of our list. -/
theorem MapAt.found (M : MapAt m ml ces es c) (hK : keysOk t es = true) (hk : isK t k = true) {E1 E2 : List ME} {e : ME} (hs : es = E1 ++ e :: E2) (hq : keyEq t k e.1 = true) {i : Nat} {ce : MapEntry} (hi : ces[i]? = some ce) (hce : ce.key = conc m ml k) :
    ce.val = conc m ml e.2.1 ∧ ce.born = e.2.2 := by
  have hmem : ce ∈ ces.toList := by rw [Array.mem_toList_iff]; exact Array.mem_of_getElem? hi
  have h2 := M.1.mem_iff.1 (List.mem_map_of_mem (f := triple) hmem)
  obtain ⟨e', he', hee⟩ := List.mem_map.1 h2
  have heK : isK t e.1 = true := keysOk_mem hK (by rw [hs]; simp)
  have hkk : conc m ml e'.1 = conc m ml e.1 := by
    have h3 := congrArg Prod.fst hee
    simp only [triple] at h3
    rw [h3, hce]
    exact (conc_key hk heK).2 hq
  have hee' : e' = e := by
    have hnd := M.2.2.2
    obtain ⟨a, ha, hae⟩ := List.mem_iff_getElem.1 he'
    have heM : e ∈ es := by rw [hs]; simp
    obtain ⟨b, hb, hbe⟩ := List.mem_iff_getElem.1 heM
    have : a = b := by
      refine (List.getElem_inj (i := a) (j := b) (h₀ := by simpa using ha) (h₁ := by simpa using hb) hnd).1 ?_
      simp only [List.getElem_map, hae, hbe, hkk]
    subst this
    rw [← hae, ← hbe]
  subst hee'
  simp only [triple, Prod.mk.injEq] at hee
  exact ⟨hee.2.1.symm, hee.2.2.symm⟩

theorem mapKey_find {kt : TypeId} (KR : KeyRun P m ml kt t) (M : MapAt m ml ces es c) (hK : keysOk t es = true) (hk : isK t k = true) (w : World) :
    (findK t k es = none ∧ (Instr.findKey kt (conc m ml k) ces.toList).run P w = .ok none w) ∨
    ∃ E1 e E2 i ce, es = E1 ++ e :: E2 ∧ keyEq t k e.1 = true ∧ findK t k es = some e.2 ∧ (∀ v, setK t k v es = E1 ++ (k, v, e.2.2) :: E2) ∧ delK t k es = E1 ++ E2 ∧
      (Instr.findKey kt (conc m ml k) ces.toList).run P w = .ok (some (i, conc m ml e.2.1)) w ∧ ces[i]? = some ce ∧ ce.key = conc m ml k ∧ ce.val = conc m ml e.2.1 ∧ ce.born = e.2.2 := by
  obtain ⟨r, h1, h2⟩ := KR.fk k hk ces.toList (M.keys hK) w
  rcases findK_split (t := t) (k := k) es with ⟨f1, f2, f3⟩ | ⟨E1, e, E2, f1, f2, f3, f4, f5⟩
  · refine .inl ⟨f1, ?_⟩
    rcases h2 with ⟨rfl, _⟩ | ⟨i, ce, rfl, h3, h4⟩
    · exact h1
    · exfalso
      have hmem : ce ∈ ces.toList := List.mem_of_getElem? h3
      have := M.1.mem_iff.1 (List.mem_map_of_mem (f := triple) hmem)
      obtain ⟨e', he', hee⟩ := List.mem_map.1 this
      have h5 := congrArg Prod.fst hee
      simp only [triple] at h5
      have h6 := (conc_key (m := m) (ml := ml) hk (keysOk_mem hK he')).1 (by rw [h5, h4])
      rw [f2 e' he'] at h6; cases h6
  · refine .inr ?_
    rcases h2 with ⟨rfl, h3⟩ | ⟨i, ce, rfl, h3, h4⟩
    · exfalso
      have he : e ∈ es := by rw [f1]; simp
      have := M.1.mem_iff.2 (List.mem_map_of_mem (f := concE m ml) he)
      obtain ⟨ce, hce, hee⟩ := List.mem_map.1 this
      refine h3 ce hce ?_
      have h5 := congrArg Prod.fst hee
      simp only [concE] at h5
      rw [h5]
      exact ((conc_key hk (keysOk_mem hK he)).2 f2).symm
    · have hi : ces[i]? = some ce := by simpa using h3
      obtain ⟨g1, g2⟩ := M.found hK hk f1 f2 hi h4
      exact ⟨E1, e, E2, i, ce, f1, f2, f3, f4, f5, by rw [h1, g1], hi, h4, g1, g2⟩

theorem perm_set {α : Type} {l : List α} {i : Nat} {x : α} (y : α) (h : l[i]? = some x) : ∃ r, l.Perm (x :: r) ∧ (l.set i y).Perm (y :: r) ∧ (l.eraseIdx i).Perm r := by
  obtain ⟨hi, hx⟩ := List.getElem?_eq_some_iff.1 h
  refine ⟨l.take i ++ l.drop (i + 1), ?_, ?_, ?_⟩
  · have : l = l.take i ++ x :: l.drop (i + 1) := by rw [← hx]; simp
    conv => lhs; rw [this]
    exact List.perm_middle
  · rw [List.set_eq_take_append_cons_drop, if_pos hi]; exact List.perm_middle
  · rw [List.eraseIdx_eq_take_drop_succ]

theorem map_modify {ces : Array MapEntry} {i : Nat} {ce : MapEntry} (hi : ces[i]? = some ce) (f : MapEntry → MapEntry) : (ces.modify i f).toList.map triple = (ces.toList.map triple).set i (triple (f ce)) := by
  apply List.ext_getElem?
  intro j
  simp only [List.getElem?_map, Array.getElem?_toList, Array.getElem?_modify, List.getElem?_set]
  obtain ⟨hlt, rfl⟩ := Array.getElem?_eq_some_iff.1 hi
  by_cases h : i = j
  · subst h; simp [hi, hlt]
  · simp [h]

/-- An entry that is written anew. -/
theorem MapAt.modify (M : MapAt m ml ces es c) (hK : keysOk t es = true) (hk : isK t k = true) {E1 E2 : List ME} {e : ME} (hs : es = E1 ++ e :: E2) (hq : keyEq t k e.1 = true) {i : Nat} {ce : MapEntry} (hi : ces[i]? = some ce) (hce : ce.key = conc m ml k) (hv : ce.val = conc m ml e.2.1) (hb : ce.born = e.2.2)
    (f : MapEntry → MapEntry) (v : AV) (hf : triple (f ce) = (conc m ml k, conc m ml v, e.2.2)) : MapAt m ml (ces.modify i f) (E1 ++ (k, v, e.2.2) :: E2) c := by
  have hke : conc m ml k = conc m ml e.1 := (conc_key hk (keysOk_mem hK (by rw [hs]; simp))).2 hq
  obtain ⟨p1, p2, p3, p4⟩ := M
  subst hs
  have hx : (ces.toList.map triple)[i]? = some (concE m ml e) := by
    simp only [List.getElem?_map, Array.getElem?_toList, hi, Option.map_some, triple, concE, hce, hke, hv, hb]
  obtain ⟨r, q1, q2, _⟩ := perm_set (concE m ml (k, v, e.2.2)) hx
  refine ⟨?_, ?_, ?_, ?_⟩
  · show ((ces.modify i f).toList.map triple).Perm ((E1 ++ (k, v, e.2.2) :: E2).map (concE m ml))
    rw [map_modify hi, hf]
    refine q2.trans ?_
    rw [List.map_append, List.map_cons]
    refine .trans ?_ List.perm_middle.symm
    refine .cons _ ?_
    have : ((E1 ++ e :: E2).map (concE m ml)).Perm (concE m ml e :: (E1.map (concE m ml) ++ E2.map (concE m ml))) := by rw [List.map_append, List.map_cons]; exact List.perm_middle
    exact ((q1.symm.trans p1).trans this).cons_inv
  · intro x hx
    simp only [List.mem_append, List.mem_cons] at hx
    rcases hx with hx | rfl | hx
    · exact p2 x (by simp [hx])
    · exact p2 e (by simp)
    · exact p2 x (by simp [hx])
  · simpa using p3
  · simpa [hke] using p4

/-- A new entry. -/
theorem MapAt.push (M : MapAt m ml ces es c) (hK : keysOk t es = true) (hk : isK t k = true) (hn : ∀ e ∈ es, keyEq t k e.1 = false) (v : AV) :
    MapAt m ml (ces.push { key := conc m ml k, val := conc m ml v, born := c }) (insK t (k, v, c) es) (c + 1) := by
  obtain ⟨p1, p2, p3, p4⟩ := M
  have ip := insK_perm t (k, v, c) es
  refine ⟨?_, ?_, ?_, ?_⟩
  · show ((ces.push _).toList.map triple).Perm ((insK t (k, v, c) es).map (concE m ml))
    rw [Array.toList_push, List.map_append]
    refine (List.perm_append_comm).trans ?_
    refine .trans ?_ (ip.map (concE m ml)).symm
    exact .cons _ p1
  · intro x hx
    rcases List.mem_cons.1 (ip.mem_iff.1 hx) with rfl | hx
    · exact Nat.lt_succ_self _
    · exact Nat.lt_succ_of_lt (p2 x hx)
  · refine (ip.map (·.2.2)).nodup_iff.2 ?_
    simp only [List.map_cons, List.nodup_cons]
    refine ⟨fun hx => ?_, p3⟩
    obtain ⟨e, he, hee⟩ := List.mem_map.1 hx
    have := p2 e he
    omega
  · refine (ip.map (fun e => conc m ml e.1)).nodup_iff.2 ?_
    simp only [List.map_cons, List.nodup_cons]
    refine ⟨fun hx => ?_, p4⟩
    obtain ⟨e, he, hee⟩ := List.mem_map.1 hx
    have := (conc_key hk (keysOk_mem hK he)).1 hee.symm
    rw [hn e he] at this; cases this

/-- An entry less. -/
theorem MapAt.erase (M : MapAt m ml ces es c) {E1 E2 : List ME} {e : ME} (hs : es = E1 ++ e :: E2) {i : Nat} {ce : MapEntry} (hi : ces[i]? = some ce) (ht : triple ce = concE m ml e) : MapAt m ml (ces.eraseIdxIfInBounds i) (E1 ++ E2) c := by
  obtain ⟨p1, p2, p3, p4⟩ := M
  subst hs
  have hx : (ces.toList.map triple)[i]? = some (concE m ml e) := by simp only [List.getElem?_map, Array.getElem?_toList, hi, Option.map_some, ht]
  obtain ⟨r, q1, _, q3⟩ := perm_set (concE m ml e) hx
  have sub : (E1 ++ E2).Sublist (E1 ++ e :: E2) := List.Sublist.append_left (List.sublist_cons_self e E2) E1
  refine ⟨?_, fun x hx => p2 x (sub.subset hx), p3.sublist (sub.map _), p4.sublist (sub.map _)⟩
  show ((ces.eraseIdxIfInBounds i).toList.map triple).Perm ((E1 ++ E2).map (concE m ml))
  have hl : (ces.eraseIdxIfInBounds i).toList = ces.toList.eraseIdx i := by simp
  have me : ∀ {α β : Type} (f : α → β) (l : List α) (j : Nat), (l.eraseIdx j).map f = (l.map f).eraseIdx j := by
    intro α β f l
    induction l with
    | nil => simp
    | cons a l ih => intro j; cases j <;> simp [ih]
  rw [hl, me]
  refine q3.trans ?_
  have : ((E1 ++ e :: E2).map (concE m ml)).Perm (concE m ml e :: (E1.map (concE m ml) ++ E2.map (concE m ml))) := by rw [List.map_append, List.map_cons]; exact List.perm_middle
  rw [List.map_append]
  exact ((q1.symm.trans p1).trans this).cons_inv

/-! ## The operations -/
theorem lookupA_run {t kt e : TypeId} {kT : KeyT} {ok : Bool} {z x k r : AV} (ht : P.underlying t = some (.map kt e)) (hk : keyT P kt = some kT) (hz : zeroV P e = some z) (S : Sim P m ml loc H w) (h : lookupA H kT ok z x k = some r) :
    (Instr.lookup t (conc m ml x) (conc m ml k) ok).run P w = .ok (conc m ml r) w ∧ r.okP (good m H.n) := by
  have KR := keyRun (m := m) (ml := ml) hk
  obtain ⟨z1, z2⟩ := zeroV_run hz m ml (good m H.n)
  unfold lookupA at h
  cases hK : isK kT k with
  | false => simp [hK] at h
  | true =>
    rw [hK] at h
    simp only [Bool.true_eq_false, if_false] at h
    split at h
    · cases h
      obtain ⟨r0, f0, f1⟩ := KR.fk k hK [] (by simp) w
      have : r0 = none := by rcases f1 with ⟨h, _⟩ | ⟨i, c, _, h, _⟩; exact h; simp at h
      subst this
      cases ok
      · exact ⟨by simp [Instr.lookup, run_underlying ht, KR.ck k hK, f0, z1, conc, Result.andThen], z2⟩
      · exact ⟨by simp [Instr.lookup, run_underlying ht, KR.ck k hK, f0, z1, conc, concL, Result.andThen], by simp [AV.okP, AV.okPL, z2]⟩
    · rename_i id
      split at h
      · rename_i es c hi
        obtain ⟨ces, b1, M⟩ := S.obj id _ hi
        have hok := S.ok id _ hi
        split at h
        · rename_i hKs
          rcases mapKey_find KR M hKs hK w with ⟨f1, f2⟩ | ⟨E1, e', E2, i, ce, f1, f2, f3, f4, f5, f6, _⟩
          · rw [f1] at h
            cases h
            cases ok
            · exact ⟨by simp [Instr.lookup, run_underlying ht, Go.MapKept.run_getObj_map b1, KR.ck k hK, f2, z1, conc, Result.andThen], z2⟩
            · exact ⟨by simp [Instr.lookup, run_underlying ht, Go.MapKept.run_getObj_map b1, KR.ck k hK, f2, z1, conc, concL, Result.andThen], by simp [AV.okP, AV.okPL, z2]⟩
          · rw [f3] at h
            cases h
            have hv : e'.2.1.okP (good m H.n) := (hok e' (by rw [f1]; simp)).2
            cases ok
            · exact ⟨by simp [Instr.lookup, run_underlying ht, Go.MapKept.run_getObj_map b1, KR.ck k hK, f6, conc, Result.andThen], hv⟩
            · exact ⟨by simp [Instr.lookup, run_underlying ht, Go.MapKept.run_getObj_map b1, KR.ck k hK, f6, conc, concL, Result.andThen], by simp [AV.okP, AV.okPL, hv]⟩
        · cases h
      · cases h
    · cases h

theorem updA_run {t kt e : TypeId} {kT : KeyT} {x k v : AV} {H' : AHeap} (ht : P.underlying t = some (.map kt e)) (hk : keyT P kt = some kT) (S : Sim P m ml loc H w) (hkv : vOk (good m H.n) LT k) (hvv : vOk (good m H.n) LT v) (h : updA H kT x k v = some H') :
    ∃ w', (Instr.mapUpdate t (conc m ml x) (conc m ml k) (conc m ml v)).run P w = .ok () w' ∧ Sim P m ml loc H' w' ∧ Grow m ml loc H w m ml loc H' w' ∧ H'.n = H.n ∧ H'.dfs = H.dfs := by
  have KR := keyRun (m := m) (ml := ml) hk
  unfold updA at h
  cases hK : isK kT k with
  | false => simp [hK] at h
  | true =>
    rw [hK] at h
    simp only [Bool.true_eq_false, if_false] at h
    split at h
    · rename_i id
      split at h
      · rename_i es c hi
        obtain ⟨ces, b1, M⟩ := S.obj id _ hi
        have hok := S.ok id _ hi
        split at h
        · rename_i hn
          simp only [Bool.and_eq_true] at hn
          obtain ⟨⟨hn1, hn2⟩, hKs⟩ := hn
          have hk1 := hkv.noL hn1
          have hv1 := hvv.noL hn2
          rcases mapKey_find KR M hKs hK w with ⟨f1, f2⟩ | ⟨E1, e', E2, i, ce, f1, f2, f3, f4, f5, f6, f7, f8, f9, f10⟩
          · rw [f1] at h
            cases h
            have hnn : ∀ e ∈ es, keyEq kT k e.1 = false := by
              rcases findK_split (t := kT) (k := k) es with ⟨_, h, _⟩ | ⟨_, e, _, _, _, h, _⟩
              · exact h
              · rw [f1] at h; cases h
            refine ⟨{ w with heap := w.heap.setIfInBounds (m id).block (.map (ces.push { key := conc m ml k, val := conc m ml v, born := c }) (c + 1)) }, ?_,
              S.set_obj hi rfl ⟨_, (Go.MapKept.heap_set b1).1, M.push hKs hK hnn v⟩ ?_ rfl (wrote_set b1).other, .of_set S.wf hi rfl rfl (wrote_set b1), rfl, rfl⟩
            · simp [Instr.mapUpdate, conc, run_underlying ht, Go.MapKept.run_getObj_map b1, KR.ck k hK, f2, Go.MapKept.run_setObj_map _ b1, Result.andThen]
            · intro e he
              rcases List.mem_cons.1 ((insK_perm kT (k, v, c) es).mem_iff.1 he) with rfl | he
              · exact ⟨hk1, hv1⟩
              · exact hok e he
          · rw [f3] at h
            cases h
            rw [f4 v]
            refine ⟨{ w with heap := w.heap.setIfInBounds (m id).block (.map (ces.modify i fun e => { e with key := conc m ml k, val := conc m ml v }) c) }, ?_,
              S.set_obj hi rfl ⟨_, (Go.MapKept.heap_set b1).1, M.modify hKs hK f1 f2 f7 f8 f9 f10 _ v (by simp [triple, f10])⟩ ?_ rfl (wrote_set b1).other, .of_set S.wf hi rfl rfl (wrote_set b1), rfl, rfl⟩
            · simp [Instr.mapUpdate, conc, run_underlying ht, Go.MapKept.run_getObj_map b1, KR.ck k hK, f6, f7, f8, KR.ks k hK, Go.MapKept.run_setObj_map _ b1, Result.andThen]
            · intro e he
              rw [f1] at hok
              simp only [List.mem_append, List.mem_cons] at he
              rcases he with he | rfl | he
              · exact hok e (by simp [he])
              · exact ⟨hk1, hv1⟩
              · exact hok e (by simp [he])
        · cases h
      · cases h
    · cases h

theorem delA_run {t kt e ty : TypeId} {ts : Array TypeId} {kT : KeyT} {x k : AV} {H' : AHeap} (hts : ts[0]? = some t) (ht : P.underlying t = some (.map kt e)) (hk : keyT P kt = some kT) (S : Sim P m ml loc H w) (h : delA H kT x k = some H') :
    ∃ w', (Builtin.delete_ ts ty #[conc m ml x, conc m ml k]).run P w = .ok (.tuple #[]) w' ∧ Sim P m ml loc H' w' ∧ Grow m ml loc H w m ml loc H' w' ∧ H'.n = H.n ∧ H'.dfs = H.dfs := by
  have KR := keyRun (m := m) (ml := ml) hk
  unfold delA at h
  cases hK : isK kT k with
  | false => simp [hK] at h
  | true =>
    rw [hK] at h
    simp only [Bool.true_eq_false, if_false] at h
    split at h
    · cases h
      exact ⟨w, by simp [Builtin.delete_, hts, conc, run_underlying ht, KR.ck k hK, Result.andThen], S, .refl _ _ _ _ _, rfl, rfl⟩
    · rename_i id
      split at h
      · rename_i es c hi
        obtain ⟨ces, b1, M⟩ := S.obj id _ hi
        have hok := S.ok id _ hi
        split at h
        · rename_i hKs
          cases h
          rcases mapKey_find KR M hKs hK w with ⟨f1, f2⟩ | ⟨E1, e', E2, i, ce, f1, f2, f3, f4, f5, f6, f7, f8, f9, f10⟩
          · have hd : delK kT k es = es := by
              rcases findK_split (t := kT) (k := k) es with ⟨_, _, h⟩ | ⟨_, e, _, _, _, h, _⟩
              · exact h
              · rw [f1] at h; cases h
            rw [hd]
            refine ⟨{ w with heap := w.heap.setIfInBounds (m id).block (.map ces c) }, ?_, S.set_obj hi rfl ⟨_, (Go.MapKept.heap_set b1).1, M⟩ hok rfl (wrote_set b1).other, .of_set S.wf hi rfl rfl (wrote_set b1), rfl, rfl⟩
            simp [Builtin.delete_, hts, conc, run_underlying ht, Go.MapKept.run_getObj_map b1, KR.ck k hK, f2, Go.MapKept.run_setObj_map _ b1, Result.andThen]
          · rw [f5]
            have htr : triple ce = concE m ml e' := by
              simp only [triple, concE, f8, f9, f10, (conc_key hK (keysOk_mem hKs (by rw [f1]; simp))).2 f2]
            refine ⟨{ w with heap := w.heap.setIfInBounds (m id).block (.map (ces.eraseIdxIfInBounds i) c) }, ?_, S.set_obj hi rfl ⟨_, (Go.MapKept.heap_set b1).1, M.erase f1 f7 htr⟩ ?_ rfl (wrote_set b1).other, .of_set S.wf hi rfl rfl (wrote_set b1), rfl, rfl⟩
            · simp [Builtin.delete_, hts, conc, run_underlying ht, Go.MapKept.run_getObj_map b1, KR.ck k hK, f6, Go.MapKept.run_setObj_map _ b1, Result.andThen]
            · intro e he
              refine hok e ?_
              rw [f1]
              simp only [List.mem_append, List.mem_cons] at he ⊢
              rcases he with h | h
              · exact .inl h
              · exact .inr (.inr h)
        · cases h
      · cases h
    · cases h

theorem mapEntryA_run {t kt e : TypeId} {kT : KeyT} {z x k r : AV} {H' : AHeap} (ht : P.underlying t = some (.map kt e)) (hk : keyT P kt = some kT) (hz : zeroV P e = some z) (S : Sim P m ml loc H w) (hkv : vOk (good m H.n) LT k) (h : mapEntryA H kT z x k = some (r, H')) :
    ∃ w', (Instr.mapEntry t (conc m ml x) (conc m ml k)).run P w = .ok (conc m ml r) w' ∧ Sim P m ml loc H' w' ∧ Grow m ml loc H w m ml loc H' w' ∧ r.okP (good m H'.n) ∧ H'.dfs = H.dfs := by
  have KR := keyRun (m := m) (ml := ml) hk
  obtain ⟨z1, z2⟩ := zeroV_run hz m ml (good m H.n)
  unfold mapEntryA at h
  cases hK : isK kT k with
  | false => simp [hK] at h
  | true =>
    rw [hK] at h
    simp only [Bool.true_eq_false, if_false] at h
    split at h
    · rename_i id
      split at h
      · rename_i es c hi
        obtain ⟨ces, b1, M⟩ := S.obj id _ hi
        have hok := S.ok id _ hi
        split at h
        · rename_i hn
          simp only [Bool.and_eq_true] at hn
          obtain ⟨hn1, hKs⟩ := hn
          have hk1 := hkv.noL hn1
          rcases mapKey_find KR M hKs hK w with ⟨f1, f2⟩ | ⟨E1, e', E2, i, ce, f1, f2, f3, f4, f5, f6, f7, f8, f9, f10⟩
          · rw [f1] at h
            cases h
            have hnn : ∀ e ∈ es, keyEq kT k e.1 = false := by
              rcases findK_split (t := kT) (k := k) es with ⟨_, h, _⟩ | ⟨_, e, _, _, _, h, _⟩
              · exact h
              · rw [f1] at h; cases h
            refine ⟨{ w with heap := w.heap.setIfInBounds (m id).block (.map (ces.push { key := conc m ml k, val := conc m ml z, born := c }) (c + 1)) }, ?_,
              S.set_obj hi rfl ⟨_, (Go.MapKept.heap_set b1).1, M.push hKs hK hnn z⟩ ?_ rfl (wrote_set b1).other, .of_set S.wf hi rfl rfl (wrote_set b1), by simpa [AV.okP, AV.okPL] using z2, rfl⟩
            · simp [Instr.mapEntry, conc, concL, goInt, run_underlying ht, Go.MapKept.run_getObj_map b1, KR.ck k hK, f2, z1, Go.MapKept.run_setObj_map _ b1, Result.andThen]
            · intro e he
              rcases List.mem_cons.1 ((insK_perm kT (k, z, c) es).mem_iff.1 he) with rfl | he
              · exact ⟨hk1, z2⟩
              · exact hok e he
          · rw [f3] at h
            cases h
            rw [f4 e'.2.1]
            have hv : e'.2.1.okP (good m H.n) := (hok e' (by rw [f1]; simp)).2
            refine ⟨{ w with heap := w.heap.setIfInBounds (m id).block (.map (ces.modify i fun e => { e with key := conc m ml k }) c) }, ?_,
              S.set_obj hi rfl ⟨_, (Go.MapKept.heap_set b1).1, M.modify hKs hK f1 f2 f7 f8 f9 f10 _ e'.2.1 (by simp [triple, f9, f10])⟩ ?_ rfl (wrote_set b1).other, .of_set S.wf hi rfl rfl (wrote_set b1), by simpa [AV.okP, AV.okPL] using hv, rfl⟩
            · simp [Instr.mapEntry, conc, concL, goInt, run_underlying ht, Go.MapKept.run_getObj_map b1, KR.ck k hK, f6, f7, f8, f10, KR.ks k hK, Go.MapKept.run_setObj_map _ b1, Result.andThen]
            · intro e he
              rw [f1] at hok
              simp only [List.mem_append, List.mem_cons] at he
              rcases he with he | rfl | he
              · exact hok e (by simp [he])
              · exact ⟨hk1, hv⟩
              · exact hok e (by simp [he])
        · cases h
      · cases h
    · cases h

theorem setB_split {b : Int} {v : AV} : ∀ {es es' : List ME}, setB b v es = some es' → ∃ (E1 : List ME) (e : ME) (E2 : List ME), es = E1 ++ e :: E2 ∧ (e.2.2 : Int) = b ∧ es' = E1 ++ (e.1, v, e.2.2) :: E2
  | [], es', h => by simp [setB] at h
  | e :: es, es', h => by
    simp only [setB] at h
    split at h
    · rename_i hb; cases h; exact ⟨[], e, es, rfl, hb, rfl⟩
    · rw [Option.map_eq_some_iff] at h
      obtain ⟨l, hl, rfl⟩ := h
      obtain ⟨E1, e', E2, h1, h2, h3⟩ := setB_split hl
      exact ⟨e :: E1, e', E2, by rw [h1]; rfl, h2, by rw [h3]; rfl⟩

theorem born_unique (M : MapAt m ml ces es c) {e : ME} (he : e ∈ es) {ce : MapEntry} (hce : ce ∈ ces.toList) (hb : ce.born = e.2.2) : triple ce = concE m ml e := by
  have := M.1.mem_iff.1 (List.mem_map_of_mem (f := triple) hce)
  obtain ⟨e', he', hee⟩ := List.mem_map.1 this
  have : e' = e := by
    have hnd := M.2.2.1
    obtain ⟨a, ha, hae⟩ := List.mem_iff_getElem.1 he'
    obtain ⟨b, hb', hbe⟩ := List.mem_iff_getElem.1 he
    have hbb : e'.2.2 = e.2.2 := by have := congrArg (fun x => x.2.2) hee; simp only [triple] at this; rw [← hb]; exact this
    have : a = b := by
      refine (List.getElem_inj (i := a) (j := b) (h₀ := by simpa using ha) (h₁ := by simpa using hb') hnd).1 ?_
      simp only [List.getElem_map, hae, hbe, hbb]
    subst this
    rw [← hae, ← hbe]
  subst this
  exact hee.symm

theorem entryStoreA_run {t : TypeId} {x b v : AV} {H' : AHeap} (S : Sim P m ml loc H w) (hvv : vOk (good m H.n) LT v) (h : entryStoreA H x b v = some H') :
    ∃ w', (Instr.entryStore t (conc m ml x) (conc m ml b) (conc m ml v)).run P w = .ok () w' ∧ Sim P m ml loc H' w' ∧ Grow m ml loc H w m ml loc H' w' ∧ H'.n = H.n ∧ H'.dfs = H.dfs := by
  unfold entryStoreA at h
  split at h
  · rename_i id q bn
    split at h
    · rename_i es c hi
      obtain ⟨ces, b1, M⟩ := S.obj id _ hi
      have hok := S.ok id _ hi
      split at h
      · rename_i hl
        rw [Option.map_eq_some_iff] at h
        obtain ⟨es', hes, rfl⟩ := h
        obtain ⟨E1, e, E2, h1, h2, h3⟩ := setB_split hes
        subst h3
        have heM : e ∈ es := by rw [h1]; simp
        have hex : ∃ i, ces.findIdx? (fun x => (x.born : Int) == bn) = some i := by
          cases hf : ces.findIdx? (fun x => (x.born : Int) == bn) with
          | some i => exact ⟨i, rfl⟩
          | none =>
            exfalso
            have := M.1.mem_iff.2 (List.mem_map_of_mem (f := concE m ml) heM)
            obtain ⟨ce, hce, hee⟩ := List.mem_map.1 this
            rw [Array.findIdx?_eq_none_iff] at hf
            have h4 := hf ce (by simpa using hce)
            have h5 := congrArg (fun x => x.2.2) hee
            simp only [concE] at h5
            simp only [beq_eq_false_iff_ne, ne_eq] at h4
            exact h4 (by rw [h5]; exact h2)
        obtain ⟨i, hf⟩ := hex
        obtain ⟨hlt, hp, _⟩ := Array.findIdx?_eq_some_iff_getElem.1 hf
        have hget : ces[i]? = some ces[i] := by simp [hlt]
        have hb : ces[i].born = e.2.2 := by have := of_decide_eq_true (by simpa using hp : decide ((ces[i].born : Int) = bn) = true); omega
        have htr := born_unique M heM (ce := ces[i]) (by simp) hb
        have t1 := congrArg Prod.fst htr
        have t2 := congrArg (fun x => x.2.1) htr
        simp only [triple, concE] at t1 t2
        refine ⟨{ w with heap := w.heap.setIfInBounds (m id).block (.map (ces.modify i fun e => { e with val := conc m ml v }) c) }, ?_, S.set_obj hi rfl ⟨_, (Go.MapKept.heap_set b1).1, ?_⟩ ?_ rfl (wrote_set b1).other, .of_set S.wf hi rfl rfl (wrote_set b1), rfl, rfl⟩
        · simp [Instr.entryStore, conc, Go.MapKept.run_getObj_map b1, asInt, asIntOf, hf, Go.MapKept.run_setObj_map _ b1, Result.andThen]
        · obtain ⟨p1, p2, p3, p4⟩ := M
          subst h1
          have hx : (ces.toList.map triple)[i]? = some (concE m ml e) := by simp only [List.getElem?_map, Array.getElem?_toList, hget, Option.map_some, htr]
          obtain ⟨r, q1, q2, _⟩ := perm_set (concE m ml (e.1, v, e.2.2)) hx
          refine ⟨?_, ?_, by simpa using p3, by simpa using p4⟩
          · show ((ces.modify i _).toList.map triple).Perm ((E1 ++ (e.1, v, e.2.2) :: E2).map (concE m ml))
            rw [map_modify hget, show triple { ces[i] with val := conc m ml v } = concE m ml (e.1, v, e.2.2) by simp [triple, concE, t1, hb]]
            refine q2.trans ?_
            rw [List.map_append, List.map_cons]
            refine .trans ?_ List.perm_middle.symm
            refine .cons _ ?_
            have : ((E1 ++ e :: E2).map (concE m ml)).Perm (concE m ml e :: (E1.map (concE m ml) ++ E2.map (concE m ml))) := by rw [List.map_append, List.map_cons]; exact List.perm_middle
            exact ((q1.symm.trans p1).trans this).cons_inv
          · intro x hx
            simp only [List.mem_append, List.mem_cons] at hx
            rcases hx with hx | rfl | hx
            · exact p2 x (by simp [hx])
            · exact p2 e (by simp)
            · exact p2 x (by simp [hx])
        · intro x hx
          rw [h1] at hok
          simp only [List.mem_append, List.mem_cons] at hx
          rcases hx with hx | rfl | hx
          · exact hok x (by simp [hx])
          · exact ⟨(hok e (by simp)).1, hvv.noL hl⟩
          · exact hok x (by simp [hx])
      · cases h
    · cases h
  · cases h

theorem findB_spec {b : Nat} : ∀ {es : List ME} {e : ME}, findB b es = some e → e ∈ es ∧ e.2.2 = b
  | [], e, h => by simp [findB] at h
  | x :: es, e, h => by
    simp only [findB] at h
    split at h
    · rename_i hb; cases h; exact ⟨by simp, hb⟩
    · obtain ⟨h1, h2⟩ := findB_spec h; exact ⟨by simp [h1], h2⟩

theorem entryMA_run {u r : AV} (S : Sim P m ml loc H w) (h : entryMA H u = some r) : (Instr.entry (conc m ml u)).run P w = .ok (conc m ml r) w ∧ r.okP (good m H.n) := by
  unfold entryMA at h
  split at h
  · rename_i rr
    split at h
    · rename_i id since b seen last hi
      obtain ⟨b1, b2⟩ := S.obj rr _ hi
      have hl : conc m ml (.ptr rr 0) = .pointer (some ⟨(m rr).block, 0, none⟩) := by simp [conc, Loc.at, b2]
      split at h
      · rename_i es c hm
        obtain ⟨ces, c1, M⟩ := S.obj id _ hm
        have hok := S.ok id _ hm
        split at h
        · rename_i hcl
          rw [Option.map_eq_some_iff] at h
          obtain ⟨e, he, rfl⟩ := h
          obtain ⟨hm1, hm2⟩ := findB_spec he
          have hfind : ces.find? (fun x => x.born == b) = (ces.toList.find? fun x => x.born == b) := by simp
          have hex : ∃ ce, ces.find? (fun x => x.born == b) = some ce ∧ triple ce = concE m ml e := by
            cases hf : ces.toList.find? (fun x => x.born == b) with
            | none =>
              exfalso
              have := M.1.mem_iff.2 (List.mem_map_of_mem (f := concE m ml) hm1)
              obtain ⟨ce, hce, hee⟩ := List.mem_map.1 this
              have h4 := List.find?_eq_none.1 hf ce hce
              have h5 := congrArg (fun x => x.2.2) hee
              simp only [concE] at h5
              exact h4 (by rw [h5, hm2]; simp)
            | some ce =>
              refine ⟨ce, by rw [hfind, hf], born_unique M hm1 (List.mem_of_find?_eq_some hf) ?_⟩
              have := List.find?_some hf
              rw [hm2]; simpa using this
          obtain ⟨ce, f1, f2⟩ := hex
          have t1 := congrArg Prod.fst f2
          have t2 := congrArg (fun x => x.2.1) f2
          simp only [triple, concE] at t1 t2
          have hback : ((b :: seen).reverse.toArray).back? = some b := by simp
          obtain ⟨o1, o2⟩ := hok e hm1
          refine ⟨?_, by simp [AV.okP, AV.okPL, o1, o2]⟩
          rw [hl]
          simp only [Option.map_some] at b1
          simp [Instr.entry, getObj, Sem.run, b1, c1, hcl, f1, t1, t2, conc, concL, Result.andThen]
        · cases h
      · cases h
    · cases h
  · cases h

theorem rangeMA_run {t kt e : TypeId} {u r : AV} {H' : AHeap} (ht : P.underlying t = some (.map kt e)) (S : Sim P m ml loc H w) (h : rangeMA H u = some (r, H')) :
    ∃ m' w', (Instr.range t (conc m ml u)).run P w = .ok (conc m' ml r) w' ∧ Sim P m' ml loc H' w' ∧ Grow m ml loc H w m' ml loc H' w' ∧ r.okP (good m' H'.n) ∧ H'.dfs = H.dfs := by
  unfold rangeMA at h
  split at h
  · cases h
    have hp := pushed_mk w (.mapIter none 0 #[] 0)
    have S1 := S.frame (w' := { w with heap := w.heap.push (.mapIter none 0 #[] 0) }) fun b hb => hp.old (S.used_lt hb)
    refine ⟨upd m H.n ⟨w.heap.size, 0, 0⟩, _, ?_, S1.add_obj (o := .miter none 0 [] 0) (l := ⟨w.heap.size, 0, 0⟩) ⟨hp.new, rfl⟩ trivial (fun b hb e => by have := S.used_lt hb; simp only at e; omega) rfl, .of_push S.wf rfl hp rfl, by simp [AV.okP, good], rfl⟩
    simp [Instr.range, conc, run_underlying ht, Loc.at, Result.andThen]
  · rename_i id
    split at h
    · rename_i es c hi
      cases h
      obtain ⟨ces, b1, M⟩ := S.obj id _ hi
      have hp := pushed_mk w (.mapIter (some (m id).block) c #[] c)
      have S1 := S.frame (w' := { w with heap := w.heap.push (.mapIter (some (m id).block) c #[] c) }) fun b hb => hp.old (S.used_lt hb)
      refine ⟨upd m H.n ⟨w.heap.size, 0, 0⟩, _, ?_, S1.add_obj (o := .miter (some id) c [] c) (l := ⟨w.heap.size, 0, 0⟩) ⟨hp.new, rfl⟩ ⟨AHeap.get_lt hi S.wf, Nat.zero_le _⟩ (fun b hb e => by have := S.used_lt hb; simp only at e; omega) rfl, .of_push S.wf rfl hp rfl, by simp [AV.okP, good], rfl⟩
      simp [Instr.range, conc, run_underlying ht, Go.MapKept.run_getObj_map b1, Loc.at, Result.andThen]
    · cases h
  · cases h
theorem nextA_run {u r : AV} {H' : AHeap} {ty : TypeId} (S : Sim P m ml loc H w) (h : nextA H u = some (r, H')) :
    ∃ w', (Instr.next (conc m ml u) true ty).run P w = .ok (conc m ml r) w' ∧ Sim P m ml loc H' w' ∧ Grow m ml loc H w m ml loc H' w' ∧ r.okP (good m H'.n) := by
  unfold nextA at h
  split at h
  · rename_i id
    split at h
    · rename_i l pos hi
      obtain ⟨b1, b2⟩ := S.obj id _ hi
      have hl : conc m ml (.ptr id 0) = .pointer (some ⟨(m id).block, 0, none⟩) := by simp [conc, Loc.at, b2]
      split at h
      · rename_i hlt
        cases h
        refine ⟨{ w with heap := w.heap.setIfInBounds (m id).block (.stringIter ⟨l.toArray⟩ (pos + (Utf8.decode ⟨l.toArray⟩ pos).2)) }, ?_, S.set_obj hi rfl ⟨(Go.MapKept.heap_set b1).1, b2⟩ trivial rfl (wrote_set b1).other, .of_set S.wf hi rfl rfl (wrote_set b1), by simp [AV.okP, AV.okPL]⟩
        rw [hl]
        have hs : pos < (⟨l.toArray⟩ : ByteArray).size := hlt
        simp [Instr.next, getObj, setObj, Sem.run, b1, hs, Result.andThen, conc, concL, goInt]
      · rename_i hlt
        cases h
        have hs : ¬ pos < (⟨l.toArray⟩ : ByteArray).size := hlt
        exact ⟨w, by rw [hl]; simp [Instr.next, getObj, Sem.run, b1, hs, Result.andThen, conc, concL], S, .refl .., by simp [AV.okP, AV.okPL]⟩
    · cases h
  · cases h
end
end Go.Wam
