/- The abstract machine: reading, writing and making, as the model does them. No condition. -/
import Derived.Test.YtpdmmpajjdaebaaGreatAmF
set_option linter.unusedVariables false
set_option linter.unusedSimpArgs false
namespace Go.Wam

/-- w' is w but for one block's cells. -/
structure Wrote (w w' : World) (b : Nat) : Prop where
  other : ∀ x, x ≠ b → w'.heap[x]? = w.heap[x]?
  size : w'.heap.size = w.heap.size
  os : w'.os = w.os
  tape : w'.tape = w.tape
  output : w'.output = w.output

theorem Wrote.refl (w : World) (b : Nat) : Wrote w w b := ⟨fun _ _ => rfl, rfl, rfl, rfl, rfl⟩
theorem Wrote.trans {w w1 w2 : World} {b : Nat} (h : Wrote w w1 b) (k : Wrote w1 w2 b) : Wrote w w2 b :=
  ⟨fun x hx => (k.other x hx).trans (h.other x hx), k.size.trans h.size, k.os.trans h.os, k.tape.trans h.tape, k.output.trans h.output⟩

section
variable {P : Program} {ρ : Operand → Value} {s : St} {m m' : Nat → Loc} {ml ml' : Nat → Nat} {loc : List (Nat × List AV)} {H : AHeap} {w w' : World}

theorem setCell_wrote {st : Bool} (w : World) {b o : Nat} {arr : Array Value} (h : Unfrozen st w b arr) (v : Value) : Wrote w (w.setCell ⟨b, o, none⟩ v) b ∧ Unfrozen st (w.setCell ⟨b, o, none⟩ v) b (arr.setIfInBounds o v) := by
  obtain ⟨ty, fr, h1, h2⟩ := h
  have hlt := lt_of_some h1
  refine ⟨⟨fun x hx => ?_, ?_, rfl, rfl, rfl⟩, ty, fr, ?_, ?_⟩
  · simp [World.setCell, Array.getElem?_modify, Ne.symm hx]
  · simp [World.setCell]
  · simp [World.setCell, Array.getElem?_modify, h1]
  · simpa using h2

theorem storeCells_run {st : Bool} (P : Program) (l : Loc) : ∀ (vs : List Value) (i : Nat) (w : World) (arr : Array Value), Unfrozen st w l.block arr → l.base + i + vs.length ≤ arr.size → (∀ v ∈ vs, v.oneCell' = true) →
    ∀ off, ∃ w' arr', i = off + (i - off) → off ≤ i → (storeCells (l.at off) vs (i - off)).run P w = .ok () w' ∧ Wrote w w' l.block ∧ Unfrozen st w' l.block arr' ∧ arr'.toList = wr (l.base + i) vs arr.toList := by
  intro vs
  induction vs with
  | nil =>
    intro i w arr h hle h1 off
    exact ⟨w, arr, fun _ _ => ⟨rfl, .refl _ _, h, by simp [wr]⟩⟩
  | cons v vs ih =>
    intro i w arr h hle h1 off
    simp only [List.length_cons] at hle
    have hc : w.cell? (l.at i) = some arr[l.base + i] := by
      rw [Loc.at, h.cell]; exact Array.getElem?_eq_getElem (by omega)
    have hf : w.frozen? (l.at i) = false := by
      obtain ⟨ty, fr, e1, e2⟩ := h
      have := e2 (l.base + i) (.inl (by omega))
      simp only [World.frozen?, Loc.at, e1]
      by_cases hh : fr.1 ≤ l.base + i
      · have : ¬ l.base + i < fr.2 := fun x => this ⟨hh, x⟩
        simp [this]
      · simp [hh]
    obtain ⟨k1, k2⟩ := setCell_wrote w (o := l.base + i) h v
    obtain ⟨w', arr', r⟩ := ih (i + 1) (w.setCell ⟨l.block, l.base + i, none⟩ v) (arr.setIfInBounds (l.base + i) v) k2 (by simp; omega) (fun u hu => h1 u (by simp [hu])) off
    refine ⟨w', arr', fun hi hoff => ?_⟩
    obtain ⟨r1, r2, r3, r4⟩ := r (by omega) (by omega)
    refine ⟨?_, k1.trans r2, r3, ?_⟩
    · have e : (l.at off).add (i - off) = l.at i := by rw [Loc.at_add]; congr 1; omega
      simp only [storeCells, Sem.run_bind, e]
      rw [run_store P w (l.at i) v .plain (h1 v (by simp))]
      simp only [hc, hf, Bool.false_eq_true, if_false, Result.andThen_ok]
      have e2 : i - off + 1 = i + 1 - off := by omega
      rw [e2]
      exact r1
    · rw [r4]
      apply List.ext_getElem?
      intro j
      rw [wr_get _ _ _ (by simp; omega), wr_get _ _ _ (by simp; omega)]
      simp only [Array.toList_setIfInBounds, List.getElem?_set, List.length_cons]
      by_cases a1 : j < l.base + i
      · have a2 : j < l.base + (i + 1) := by omega
        have a3 : ¬ l.base + i = j := by omega
        simp [a1, a2, a3]
      · by_cases a2 : j = l.base + i
        · subst a2
          have a3 : l.base + i < l.base + (i + 1) := by omega
          simp [a3]; omega
        · have a3 : ¬ j < l.base + (i + 1) := by omega
          have a4 : ¬ l.base + i = j := by omega
          simp only [a1, a3, a4, if_false]
          have e : j - (l.base + i) = (j - (l.base + (i + 1))) + 1 := by omega
          rw [e, List.getElem?_cons_succ]
          have : (j < l.base + (i + 1) + vs.length) = (j < l.base + i + (vs.length + 1)) := by rw [eq_iff_iff]; omega
          simp [this]

/-- Cells written from one on. -/
theorem store_run {st : Bool} (P : Program) {l : Loc} {off : Nat} {vs : List Value} {w : World} {arr : Array Value} (h : Unfrozen st w l.block arr) (hle : l.base + off + vs.length ≤ arr.size) (h1 : ∀ v ∈ vs, v.oneCell' = true) :
    ∃ w' arr', (storeCells (l.at off) vs).run P w = .ok () w' ∧ Wrote w w' l.block ∧ Unfrozen st w' l.block arr' ∧ arr'.toList = wr (l.base + off) vs arr.toList := by
  obtain ⟨w', arr', r⟩ := storeCells_run P l vs off w arr h hle h1 off
  have := r (by omega) (Nat.le_refl _)
  rw [Nat.sub_self] at this
  exact ⟨w', arr', this⟩

theorem loadCells_from (P : Program) (l : Loc) (off : Nat) (w : World) : ∀ (n i : Nat) (vs : List Value) (acc : Array Value), vs.length = n → (∀ j v, vs[j]? = some v → w.cell? (l.at (off + i + j)) = some v) →
    (loadCellsFrom (l.at off) i n acc).run P w = .ok (acc ++ vs.toArray) w := by
  intro n
  induction n with
  | zero => intro i vs acc hl _; have : vs = [] := List.length_eq_zero_iff.1 hl; subst this; simp [loadCellsFrom]
  | succ n ih =>
    intro i vs acc hl h
    cases vs with
    | nil => simp at hl
    | cons v vs =>
      have h0 := h 0 v rfl
      simp only [loadCellsFrom, Sem.run_bind, Loc.at_add, run_load, Nat.add_zero] at h0 ⊢
      rw [h0]
      simp only [Result.andThen_ok]
      rw [ih (i + 1) vs (acc.push v) (by simpa using hl) (fun j u hj => by have := h (j + 1) u (by simpa using hj); rw [← this]; congr 2; omega)]
      simp

theorem loadCells_run (P : Program) {l : Loc} {off n : Nat} {w : World} {vs : List Value} (hl : vs.length = n) (h : ∀ j v, vs[j]? = some v → w.cell? (l.at (off + j)) = some v) :
    (loadCells (l.at off) n).run P w = .ok vs.toArray w := by
  have := loadCells_from P l off w n 0 vs #[] hl (fun j v hj => by simpa using h j v hj)
  simpa [loadCells] using this

/-- Where a row's cells can be read. -/
def CellsAt (m : Nat → Loc) (ml : Nat → Nat) (w : World) (l : Loc) (cells : List AV) : Prop := ∀ i v, cells[i]? = some v → w.cell? (l.at i) = some (conc m ml v)

theorem ObjAt.cells {l : Loc} {ro : Bool} {sz : Nat} {cells : List AV} (h : ObjAt P m ml w l (.row ro sz cells)) : CellsAt m ml w l cells := by
  cases ro
  · obtain ⟨arr, h1, h2, h3, h4⟩ := h
    intro i v hi
    rw [Loc.at, h1.cell]
    exact h4 i v hi
  · exact h.2.2

theorem LocAt.cells {b : Nat} {cells : List AV} (h : LocAt m ml w b cells) (r : Nat) : CellsAt m ml w ⟨b, 0, r⟩ cells := by
  obtain ⟨arr, h1, h2⟩ := h
  intro i v hi
  rw [Loc.at, h1.cell]
  simp only [Nat.zero_add]
  rw [← Array.getElem?_toList, h2, concL_eq, List.getElem?_map, hi]
  rfl

theorem rd_run {t : TypeId} {g : Bool} {sz off : Nat} {l : Loc} {cells : List AV} {v : AV} (hg : aggT P t = some g) (hs : szT P t = some sz) (hc : CellsAt m ml w l cells) (h : rd g sz off cells = some v) :
    (loadVar t (l.at off)).run P w = .ok (conc m ml v) w := by
  unfold rd at h
  simp only [loadVar, Sem.run_bind, aggT_run hg, Result.andThen_ok]
  cases g
  · simp only [Bool.false_eq_true, if_false] at h ⊢
    rw [run_load, hc _ _ h]
  · simp only [if_true] at h ⊢
    split at h
    · rename_i hle
      cases h
      simp only [Sem.run_bind, szT_run hs, Result.andThen_ok]
      rw [loadCells_run P (vs := concL m ml ((cells.drop off).take sz)) (by simp [concL_eq]; omega)]
      · simp [conc]
      · intro j u hj
        rw [concL_eq, List.getElem?_map] at hj
        cases hd : ((cells.drop off).take sz)[j]? with
        | none => simp [hd] at hj
        | some x =>
          simp [hd] at hj; subst hj
          apply hc
          rw [List.getElem?_take] at hd
          split at hd
          · rw [List.getElem?_drop] at hd; exact hd
          · cases hd
    · cases h

theorem loadA_run {t : TypeId} {g : Bool} {sz : Nat} {p v : AV} (hg : aggT P t = some g) (hs : szT P t = some sz) (S : Sim P m ml s.loc s.H w) (h : loadA s g sz p = some v) :
    (Instr.loadAt t (conc m ml p)).run P w = .ok (conc m ml v) w ∧ v.okP (good m s.H.n) := by
  unfold loadA at h
  split at h
  · rename_i id off
    split at h
    · rename_i ro e cells hi
      have ho := S.obj id _ hi
      have hok := S.ok id _ hi
      simp only [Instr.loadAt, conc, Instr.sureAddr, pure_bind]
      exact ⟨rd_run hg hs ho.cells h, rd_ok h hok.1 hok.2⟩
    · cases h
  · rename_i t' off
    split at h
    · rename_i cells hi
      have ho := S.locs t' _ hi
      have hok := S.locok t' _ hi
      simp only [Instr.loadAt, conc, Instr.sureAddr, pure_bind]
      have := rd_run hg hs (ho.cells 0) h
      simp only [Loc.at, Nat.zero_add] at this
      exact ⟨this, rd_ok h hok.1 hok.2⟩
    · cases h
  · cases h

/-! ## What a step leaves -/
theorem Grow.of_set {id : Nat} {o o' : AObj} (hw : H.wf) (hid : H.get id = some o) (ho : o.owned = true) (ho' : o'.isRo = false) (h : Wrote w w' (m id).block) : Grow m ml loc H w m ml loc (H.set id o') w' := by
  have hlt := AHeap.get_lt hid hw
  refine ⟨Nat.le_refl _, fun _ _ => rfl, by rw [h.size]; exact Nat.le_refl _, h.os, h.tape, h.output, fun b hb h1 h2 => h.other b fun e => h1 id ⟨o, hid, ho⟩ e.symm, ?_, fun t c ht => .inl ⟨c, ht, rfl⟩, ?_, ?_, ?_⟩
  · rintro i ⟨x, hx, hxo⟩
    rw [AHeap.get_set hw hlt] at hx
    split at hx
    · rename_i e; subst e; exact .inl ⟨i, ⟨o, hid, ho⟩, rfl⟩
    · exact .inl ⟨i, ⟨x, hx, hxo⟩, rfl⟩
  · simp only [AHeap.set]; split <;> omega
  · intro i h1 h2
    rw [AHeap.get_set hw hlt, if_neg]
    simp only [AHeap.set] at h1
    rintro rfl
    split at h1 <;> omega
  · rintro i ⟨x, hx, hxo⟩
    rw [AHeap.get_set hw hlt] at hx
    split at hx
    · cases hx; rw [ho'] at hxo; cases hxo
    · exact ⟨x, hx, hxo⟩

theorem Grow.of_push {o : Obj} {o' : AObj} {l : Loc} (hw : H.wf) (ho' : o'.isRo = false) (h : Pushed w w' o) (hl : l.block = w.heap.size) : Grow m ml loc H w (upd m H.n l) ml loc (H.alloc o') w' := by
  refine ⟨by simp, fun i hi => upd_ne _ _ (by omega), by rw [h.size]; omega, h.os, h.tape, h.output, fun b hb _ _ => h.old hb, ?_, fun t c ht => .inl ⟨c, ht, rfl⟩, Nat.le_refl _, ?_, ?_⟩
  · intro i hi
    rw [Owned.alloc_iff hw] at hi
    rcases hi with ⟨rfl, _⟩ | hi
    · rw [upd_same, hl]; exact .inr (Nat.le_refl _)
    · exact .inl ⟨i, hi, by rw [upd_ne _ _ (Nat.ne_of_lt (hi.lt hw))]⟩
  · intro i h1 h2
    rw [AHeap.get_alloc, if_neg (by omega)]
  · intro i hi
    rw [IsRo.alloc_iff hw] at hi
    rcases hi with ⟨_, hi⟩ | hi
    · rw [ho'] at hi; cases hi
    · exact hi

theorem Grow.of_pushL {o : Obj} {t : Nat} {cells : List AV} (h : Pushed w w' o) : Grow m ml loc H w m (upd ml t w.heap.size) ((t, cells) :: loc) H w' := by
  refine ⟨Nat.le_refl _, fun i hi => rfl, by rw [h.size]; omega, h.os, h.tape, h.output, fun b hb _ _ => h.old hb, fun i hi => .inl ⟨i, hi, rfl⟩, ?_, Nat.le_refl _, fun _ _ _ => rfl, fun _ h => h⟩
  intro u c hu
  simp only [look] at hu
  split at hu
  · rename_i e; subst e; rw [upd_same]; exact .inr (Nat.le_refl _)
  · rename_i e; exact .inl ⟨c, hu, by rw [upd_ne _ _ (fun x => e x.symm)]⟩

theorem Grow.of_setL {t : Nat} {cells cells' : List AV} (ht : look t loc = some cells) (h : Wrote w w' (ml t)) : Grow m ml loc H w m ml ((t, cells') :: loc) H w' := by
  refine ⟨Nat.le_refl _, fun i hi => rfl, by rw [h.size]; exact Nat.le_refl _, h.os, h.tape, h.output, fun b hb h1 h2 => h.other b fun e => h2 t cells ht e.symm, fun i hi => .inl ⟨i, hi, rfl⟩, ?_, Nat.le_refl _, fun _ _ _ => rfl, fun _ h => h⟩
  intro u c hu
  simp only [look] at hu
  split at hu
  · rename_i e; subst e; exact .inl ⟨cells, ht, rfl⟩
  · exact .inl ⟨c, hu, rfl⟩

theorem oneCell_conc {v : AV} (h : v.one = true) : (conc m ml v).oneCell' = true := by
  cases v <;> simp_all [AV.one, conc, Value.oneCell']

theorem oneCells_conc {vs : List AV} (h : vs.all AV.one = true) : ∀ v ∈ concL m ml vs, v.oneCell' = true := by
  intro v hv
  rw [concL_eq, List.mem_map] at hv
  obtain ⟨x, hx, rfl⟩ := hv
  exact oneCell_conc (List.all_eq_true.1 h x hx)

/-- A row written from a cell on: the row's object again. -/
theorem rowAt_wr {st : Bool} {l : Loc} {off : Nat} {vs cells : List AV} (h : RowAt st m ml w l cells) (hle : off + vs.length ≤ cells.length) (h1 : vs.all AV.one = true) :
    ∃ w', (storeCells (l.at off) (concL m ml vs)).run P w = .ok () w' ∧ Wrote w w' l.block ∧ RowAt st m ml w' l (wr off vs cells) := by
  obtain ⟨arr, e1, e2, e3, e4⟩ := h
  obtain ⟨w', arr', r1, r2, r3, r4⟩ := store_run P (off := off) (vs := concL m ml vs) e1 (by simp [concL_eq]; omega) (oneCells_conc h1)
  have hs : arr'.size = arr.size := by
    rw [← Array.length_toList, r4, wr_length _ _ _ (by simp [concL_eq]; omega), Array.length_toList]
  refine ⟨w', r1, r2, arr', r3, by omega, by rw [wr_length _ _ _ hle]; exact e3, ?_⟩
  intro i v hi
  rw [← Array.getElem?_toList, r4, wr_get _ _ _ (by simp [concL_eq]; omega)]
  rw [wr_get _ _ _ hle] at hi
  have hlen : (concL m ml vs).length = vs.length := by simp [concL_eq]
  rw [hlen]
  by_cases a1 : i < off
  · have a2 : l.base + i < l.base + off := by omega
    simp only [a1, a2, if_true] at hi ⊢
    rw [Array.getElem?_toList]
    exact e4 i v hi
  · have a2 : ¬ l.base + i < l.base + off := by omega
    by_cases a3 : i < off + vs.length
    · have a4 : l.base + i < l.base + off + vs.length := by omega
      simp only [a1, a2, a3, a4, if_true, if_false] at hi ⊢
      have e : l.base + i - (l.base + off) = i - off := by omega
      rw [e, concL_eq, List.getElem?_map, hi]
      rfl
    · have a4 : ¬ l.base + i < l.base + off + vs.length := by omega
      simp only [a1, a2, a3, a4, if_false] at hi ⊢
      rw [Array.getElem?_toList]
      exact e4 i v hi

theorem locAt_wr {b off : Nat} {vs cells : List AV} (h : LocAt m ml w b cells) (hle : off + vs.length ≤ cells.length) (h1 : vs.all AV.one = true) :
    ∃ w', (storeCells ⟨b, off, none⟩ (concL m ml vs)).run P w = .ok () w' ∧ Wrote w w' b ∧ LocAt m ml w' b (wr off vs cells) := by
  obtain ⟨arr, e1, e2⟩ := h
  have hs : arr.size = cells.length := by rw [← Array.length_toList, e2]; simp [concL_eq]
  obtain ⟨w', arr', r1, r2, r3, r4⟩ := store_run P (l := ⟨b, 0, 0⟩) (off := off) (vs := concL m ml vs) e1 (by simp [concL_eq]; omega) (oneCells_conc h1)
  simp only [Loc.at, Nat.zero_add] at r1 r2 r3 r4
  exact ⟨w', r1, r2, arr', r3, by rw [r4, e2, concL_wr]⟩

theorem storeA_run {t : TypeId} {sz : Nat} {p v : AV} {s' : St} (hs : szT P t = some sz) (S : Sim P m ml s.loc s.H w) (hv : vOk (good m s.H.n) LT v) (h : storeA s sz v p = some s') :
    ∃ w', (Instr.storeAt t (conc m ml p) (conc m ml v)).run P w = .ok () w' ∧ Sim P m ml s'.loc s'.H w' ∧ Grow m ml s.loc s.H w m ml s'.loc s'.H w' ∧ s'.env = s.env ∧ s'.H.n = s.H.n := by
  have st : ∀ a : Addr, v.cells.length = sz → (storeVar t a (conc m ml v)).run P w = (storeCells a (concL m ml v.cells)).run P w := by
    intro a hl
    have : (conc m ml v).cells.size = sz := by rw [← Array.length_toList, conc_cells, concL_eq, List.length_map, hl]
    simp only [storeVar, Sem.run_bind, szT_run hs, Result.andThen_ok, this, ne_eq, not_true_eq_false, if_false, conc_cells]
  unfold storeA at h
  split at h
  · rename_i id off
    split at h
    · rename_i e cells hi
      split at h
      · rename_i hc
        cases h
        simp only [Bool.and_eq_true, decide_eq_true_eq] at hc
        obtain ⟨⟨hl, hsz⟩, hle⟩ := hc
        obtain ⟨o1, o2⟩ := cells_ok (hv.noL hl) hl
        have ho := S.obj id _ hi
        have hok := S.ok id _ hi
        obtain ⟨w', r1, r2, r3⟩ := rowAt_wr (P := P) ho (off := off) (vs := v.cells) (by omega) o2
        refine ⟨w', ?_, S.set_obj hi rfl r3 ⟨wr_okPL o1 hok.1, wr_one o2 hok.2⟩ rfl r2.other, .of_set S.wf hi rfl rfl r2, rfl, rfl⟩
        simp only [Instr.storeAt, conc, Instr.sureAddr, pure_bind]
        rw [st _ hsz]
        exact r1
      · cases h
    · cases h
  · rename_i t' off
    split at h
    · rename_i cells hi
      split at h
      · rename_i hc
        cases h
        simp only [Bool.and_eq_true, decide_eq_true_eq] at hc
        obtain ⟨⟨hl, hsz⟩, hle⟩ := hc
        obtain ⟨o1, o2⟩ := cells_ok (hv.noL hl) hl
        have ho := S.locs t' _ hi
        have hok := S.locok t' _ hi
        obtain ⟨w', r1, r2, r3⟩ := locAt_wr (P := P) ho (off := off) (vs := v.cells) (by omega) o2
        refine ⟨w', ?_, S.set_loc hi r3 (wr_okPL o1 hok.1) (wr_one o2 hok.2) r2.other, .of_setL hi r2, rfl, rfl⟩
        simp only [Instr.storeAt, conc, Instr.sureAddr, pure_bind]
        rw [st _ hsz]
        exact r1
      · cases h
    · cases h
  · cases h

end
end Go.Wam
