/- The abstract machine: memory: reading, writing, making. No condition. -/
import Derived.Test.YtpdmmpajjdaebaaGreatAmE
set_option linter.unusedVariables false
set_option linter.unusedSimpArgs false
namespace Go.Wam

/-- w' is w with one block more (what was drawn aside). -/
structure Pushed (w w' : World) (o : Obj) : Prop where
  heap : w'.heap = w.heap.push o
  os : w'.os = w.os
  tape : w'.tape = w.tape
  output : w'.output = w.output

theorem Pushed.old {w w' : World} {o : Obj} (h : Pushed w w' o) {b : Nat} (hb : b < w.heap.size) : w'.heap[b]? = w.heap[b]? := by
  rw [h.heap, Array.getElem?_push]
  simp [Nat.ne_of_lt hb]
theorem Pushed.new {w w' : World} {o : Obj} (h : Pushed w w' o) : w'.heap[w.heap.size]? = some o := by
  rw [h.heap, Array.getElem?_push]; simp
theorem Pushed.size {w w' : World} {o : Obj} (h : Pushed w w' o) : w'.heap.size = w.heap.size + 1 := by
  rw [h.heap, Array.size_push]

theorem lt_of_some {w : World} {b : Nat} {o : Obj} (h : w.heap[b]? = some o) : b < w.heap.size := (Array.getElem?_eq_some_iff.1 h).1

theorem Unfrozen.congr {st : Bool} {w w' : World} {b : Nat} {arr : Array Value} (h : Unfrozen st w b arr) (e : w'.heap[b]? = w.heap[b]?) : Unfrozen st w' b arr := by
  obtain ⟨ty, fr, h1, h2⟩ := h
  exact ⟨ty, fr, by rw [e, h1], h2⟩
theorem Unfrozen.lt {st : Bool} {w : World} {b : Nat} {arr : Array Value} (h : Unfrozen st w b arr) : b < w.heap.size := by
  obtain ⟨ty, fr, h1, _⟩ := h; exact lt_of_some h1

theorem cell_at {w : World} {b o : Nat} : w.cell? ⟨b, o, none⟩ = match w.heap[b]? with | some (.cells c _ _) => c[o]? | _ => none := by
  unfold World.cell?
  simp only [Option.isSome_none, Bool.false_eq_true, if_false]
  split <;> simp_all

theorem cell_congr {w w' : World} {b o : Nat} (e : w'.heap[b]? = w.heap[b]?) : w'.cell? ⟨b, o, none⟩ = w.cell? ⟨b, o, none⟩ := by
  rw [cell_at, cell_at, e]

theorem Unfrozen.cell {st : Bool} {w : World} {b : Nat} {arr : Array Value} (h : Unfrozen st w b arr) (o : Nat) : w.cell? ⟨b, o, none⟩ = arr[o]? := by
  obtain ⟨ty, fr, h1, _⟩ := h
  rw [cell_at, h1]

theorem AObj.dead_of {o : AObj} (h : ¬ (o.owned = true ∨ o.isRo = true)) : o = .dead := by
  cases o with
  | row ro _ _ => cases ro <;> simp [AObj.owned, AObj.isRo] at h
  | dead => rfl
  | _ => simp [AObj.owned] at h

theorem MapAt.rename {m m' : Nat → Loc} {ml ml' : Nat → Nat} {p : Nat → Nat → Prop} {ces : Array MapEntry} {es : List ME} {c : Nat} (h : MapAt m ml ces es c) (hm : ∀ i k, p i k → m' i = m i) (ho : ∀ e ∈ es, e.1.okP p ∧ e.2.1.okP p) : MapAt m' ml' ces es c := by
  obtain ⟨h1, h2, h3, h4⟩ := h
  refine ⟨?_, h2, h3, ?_⟩
  · rw [show (es.map fun e => (conc m' ml' e.1, conc m' ml' e.2.1, e.2.2)) = es.map fun e => (conc m ml e.1, conc m ml e.2.1, e.2.2) from List.map_congr_left fun e he => by rw [conc_congr ml ml' hm _ (ho e he).1, conc_congr ml ml' hm _ (ho e he).2]]
    exact h1
  · rw [show (es.map fun e => conc m' ml' e.1) = es.map fun e => conc m ml e.1 from List.map_congr_left fun e he => by rw [conc_congr ml ml' hm _ (ho e he).1]]
    exact h4

section
variable {P : Program}
theorem ObjAt.congr {m : Nat → Loc} {ml : Nat → Nat} {w w' : World} {l : Loc} {o : AObj} (h : ObjAt P m ml w l o) (e : w'.heap[l.block]? = w.heap[l.block]?) : ObjAt P m ml w' l o := by
  cases o with
  | row ro sz cells =>
    cases ro
    · obtain ⟨arr, h1, h2, h3, h4⟩ := h
      exact ⟨arr, h1.congr e, h2, h3, h4⟩
    · obtain ⟨h1, ⟨o, h2⟩, h3⟩ := h
      exact ⟨h1, ⟨o, by rw [e, h2]⟩, fun i v hi => by rw [← h3 i v hi]; exact cell_congr e⟩
  | map es clock => obtain ⟨ces, h1, h2⟩ := h; exact ⟨ces, by rw [e, h1], h2⟩
  | siter s pos => exact ⟨by rw [e, h.1], h.2⟩
  | miter a b c d => exact ⟨by rw [e, h.1], h.2⟩
  | loop st pend env ps ia ib => obtain ⟨r, h1, h2⟩ := h; exact ⟨r, by rw [e, h1], h2⟩
  | dfd => exact (show w'.heap[l.block]? = _ by rw [e]; exact h)
  | dead => trivial

theorem ObjAt.rename {m m' : Nat → Loc} {ml ml' : Nat → Nat} {w : World} {l : Loc} {o : AObj} {p : Nat → Nat → Prop} (h : ObjAt P m ml w l o) (hm : ∀ i k, p i k → m' i = m i) (ho : o.okP p) : ObjAt P m' ml' w l o := by
  cases o with
  | row ro sz cells =>
    obtain ⟨ho, _⟩ := ho
    have key : ∀ v ∈ cells, conc m' ml' v = conc m ml v := fun v hv => conc_congr ml ml' hm v ((okPL_iff _ _).1 ho v hv)
    cases ro
    · obtain ⟨arr, h1, h2, h3, h4⟩ := h
      exact ⟨arr, h1, h2, h3, fun i v hi => by rw [key v (List.mem_of_getElem? hi)]; exact h4 i v hi⟩
    · obtain ⟨h1, h2, h3⟩ := h
      exact ⟨h1, h2, fun i v hi => by rw [key v (List.mem_of_getElem? hi)]; exact h3 i v hi⟩
  | map es clock => obtain ⟨ces, h1, h2⟩ := h; exact ⟨ces, h1, h2.rename hm ho⟩
  | siter s pos => exact h
  | miter a b c d =>
    cases a with
    | none => exact h
    | some i => exact ⟨by rw [h.1]; simp only [Option.map_some, hm i 0 ho], h.2⟩
  | loop st pend env ps ia ib =>
    obtain ⟨r, h1, h2, h3, h4, h5⟩ := h
    exact ⟨r, h1, h2, h3, fun t v hv => by rw [conc_congr ml ml' hm v (ho t v hv)]; exact h4 t v hv, h5⟩
  | dfd => exact h
  | dead => trivial

theorem LocAt.congr {m : Nat → Loc} {ml : Nat → Nat} {w w' : World} {b : Nat} {cells : List AV} (h : LocAt m ml w b cells) (e : w'.heap[b]? = w.heap[b]?) : LocAt m ml w' b cells := by
  obtain ⟨arr, h1, h2⟩ := h
  exact ⟨arr, h1.congr e, h2⟩
theorem LocAt.rename {m m' : Nat → Loc} {ml ml' : Nat → Nat} {w : World} {b : Nat} {cells : List AV} {p : Nat → Nat → Prop} (h : LocAt m ml w b cells) (hm : ∀ i k, p i k → m' i = m i) (ho : AV.okPL p cells) : LocAt m' ml' w b cells := by
  obtain ⟨arr, h1, h2⟩ := h
  exact ⟨arr, h1, by rw [h2, concL_congr ml ml' hm cells ho]⟩

/-- The blocks that the machine's state stands on. -/
def UsedB (m : Nat → Loc) (ml : Nat → Nat) (loc : List (Nat × List AV)) (H : AHeap) (b : Nat) : Prop :=
  (∃ id, (Owned H id ∨ IsRo H id) ∧ (m id).block = b) ∨ (∃ t c, look t loc = some c ∧ ml t = b)

theorem ObjAt.lt {m : Nat → Loc} {ml : Nat → Nat} {w : World} {l : Loc} {o : AObj} (h : ObjAt P m ml w l o) (ho : o.owned = true ∨ o.isRo = true) : l.block < w.heap.size := by
  cases o with
  | row ro sz cells =>
    cases ro
    · obtain ⟨arr, h1, _⟩ := h; exact h1.lt
    · obtain ⟨_, ⟨o, h2⟩, _⟩ := h; exact lt_of_some h2
  | map es => obtain ⟨ces, h1, _⟩ := h; exact lt_of_some h1
  | siter s pos => exact lt_of_some h.1
  | miter a b c d => exact lt_of_some h.1
  | loop st pend env ps ia ib => obtain ⟨r, h1, _⟩ := h; exact lt_of_some h1
  | dfd => exact lt_of_some h
  | dead => simp [AObj.owned, AObj.isRo] at ho
end

section
variable {P : Program} {m m' : Nat → Loc} {ml ml' : Nat → Nat} {loc : List (Nat × List AV)} {H : AHeap} {w w' : World}

theorem Sim.used_lt (S : Sim P m ml loc H w) {b : Nat} (h : UsedB m ml loc H b) : b < w.heap.size := by
  rcases h with ⟨id, ho, rfl⟩ | ⟨t, c, ht, rfl⟩
  · rcases ho with ⟨o, h1, h2⟩ | ⟨o, h1, h2⟩
    · exact (S.obj id o h1).lt (.inl h2)
    · exact (S.obj id o h1).lt (.inr h2)
  · obtain ⟨arr, h1, _⟩ := S.locs t c ht
    exact h1.lt

/-- The state stands where the blocks that it stands on are the same. -/
theorem Sim.frame (S : Sim P m ml loc H w) (h : ∀ b, UsedB m ml loc H b → w'.heap[b]? = w.heap[b]?) : Sim P m ml loc H w' where
  wf := S.wf
  obj := fun id o ho => by
    by_cases hu : o.owned = true ∨ o.isRo = true
    · refine (S.obj id o ho).congr (h _ (.inl ⟨id, ?_, rfl⟩))
      rcases hu with hu | hu
      · exact .inl ⟨o, ho, hu⟩
      · exact .inr ⟨o, ho, hu⟩
    · cases AObj.dead_of hu; trivial
  ok := S.ok
  inj := S.inj
  sep := S.sep
  locs := fun t c ht => (S.locs t c ht).congr (h _ (.inr ⟨t, c, ht, rfl⟩))
  locok := S.locok
  locinj := S.locinj
  locsep := S.locsep

theorem AObj.okP_mono {p q : Nat → Nat → Prop} (h : ∀ i k, p i k → q i k) {o : AObj} (ho : o.okP p) : o.okP q := by
  cases o with
  | row ro sz cells => exact ⟨okPL_mono h _ ho.1, ho.2⟩
  | map es => exact fun e he => ⟨Go.Wam.okP_mono h _ (ho e he).1, Go.Wam.okP_mono h _ (ho e he).2⟩
  | siter s pos => trivial
  | miter a b c d => cases a with | none => trivial | some i => exact h i 0 ho
  | loop st pend env ps ia ib => exact fun t v hv => Go.Wam.okP_mono h v (ho t v hv)
  | dfd => trivial
  | dead => trivial

/-- Another map that agrees on the ids that are there. -/
theorem Sim.rename (S : Sim P m ml loc H w) (hm : ∀ i, i < H.n → m' i = m i) (hl : ∀ t c, look t loc = some c → ml' t = ml t) : Sim P m' ml' loc H w where
  wf := S.wf
  obj := fun id o ho => by
    rw [hm id (AHeap.get_lt ho S.wf)]
    exact (S.obj id o ho).rename (fun i k hi => hm i hi.1) (S.ok id o ho)
  ok := fun id o ho => by
    have := S.ok id o ho
    have hg : ∀ i k, good m H.n i k → good m' H.n i k := fun i k ⟨a, b⟩ => ⟨a, by rw [hm i a]; exact b⟩
    exact AObj.okP_mono hg this
  inj := fun i j hi hj he => S.inj i j hi hj (by rw [← hm i (hi.lt S.wf), ← hm j (hj.lt S.wf)]; exact he)
  sep := fun i j hi hj => by
    obtain ⟨o, ho, _⟩ := hj
    rw [hm i (hi.lt S.wf), hm j (AHeap.get_lt ho S.wf)]
    exact S.sep i j hi ⟨o, ho, by assumption⟩
  locs := fun t c ht => by
    rw [hl t c ht]
    exact (S.locs t c ht).rename (fun i k hi => hm i hi.1) (S.locok t c ht).1
  locok := fun t c ht => ⟨okPL_mono (fun i k ⟨a, b⟩ => ⟨a, by rw [hm i a]; exact b⟩) _ (S.locok t c ht).1, (S.locok t c ht).2⟩
  locinj := fun t u c d ht hu he => S.locinj t u c d ht hu (by rw [← hl t c ht, ← hl u d hu]; exact he)
  locsep := fun t c i ht hi => by
    rw [hl t c ht]
    have hlt : i < H.n := by
      rcases hi with hi | ⟨o, ho, _⟩
      · exact hi.lt S.wf
      · exact AHeap.get_lt ho S.wf
    rw [hm i hlt]
    exact S.locsep t c i ht hi

theorem Owned.alloc_iff {H : AHeap} (hw : H.wf) (o : AObj) (i : Nat) : Owned (H.alloc o) i ↔ (i = H.n ∧ o.owned = true) ∨ Owned H i := by
  unfold Owned
  simp only [AHeap.get_alloc]
  by_cases h : i = H.n
  · subst h
    simp only [if_true, Option.some.injEq, exists_eq_left', true_and]
    constructor
    · exact .inl
    · rintro (h | ⟨o', h1, _⟩)
      · exact h
      · have := AHeap.get_lt h1 hw; omega
  · simp [h]
theorem IsRo.alloc_iff {H : AHeap} (hw : H.wf) (o : AObj) (i : Nat) : IsRo (H.alloc o) i ↔ (i = H.n ∧ o.isRo = true) ∨ IsRo H i := by
  unfold IsRo
  simp only [AHeap.get_alloc]
  by_cases h : i = H.n
  · subst h
    simp only [if_true, Option.some.injEq, exists_eq_left', true_and]
    constructor
    · exact .inl
    · rintro (h | ⟨o', h1, _⟩)
      · exact h
      · have := AHeap.get_lt h1 hw; omega
  · simp [h]
theorem IsRo.lt {H : AHeap} {id : Nat} (h : IsRo H id) (hw : H.wf) : id < H.n := let ⟨_, h, _⟩ := h; AHeap.get_lt h hw

def upd {α : Type} (f : Nat → α) (i : Nat) (x : α) : Nat → α := fun j => if j = i then x else f j
@[simp] theorem upd_same {α : Type} (f : Nat → α) (i : Nat) (x : α) : upd f i x i = x := by simp [upd]
theorem upd_ne {α : Type} (f : Nat → α) {i j : Nat} (x : α) (h : j ≠ i) : upd f i x j = f j := by simp [upd, h]

/-- One object more, whose block nobody stands on. -/
theorem Sim.add_obj (S : Sim P m ml loc H w) {o : AObj} {l : Loc} (ho : ObjAt P m ml w l o) (hok : o.okP (good m H.n)) (hb : ∀ b, UsedB m ml loc H b → b ≠ l.block) (hro : o.isRo = false) :
    Sim P (upd m H.n l) ml loc (H.alloc o) w := by
  have S' : Sim P (upd m H.n l) ml loc H w := S.rename (fun i hi => upd_ne _ _ (by omega)) (fun _ _ _ => rfl)
  have hg : ∀ i k, good m H.n i k → good (upd m H.n l) (H.alloc o).n i k := fun i k ⟨a, b⟩ => ⟨by simp; omega, by rw [upd_ne _ _ (by omega)]; exact b⟩
  have hg' : ∀ i k, good (upd m H.n l) H.n i k → good (upd m H.n l) (H.alloc o).n i k := fun i k ⟨a, b⟩ => ⟨by simp; omega, b⟩
  refine { wf := AHeap.wf_alloc S.wf, obj := ?_, ok := ?_, inj := ?_, sep := ?_, locs := S'.locs, locok := fun t c ht => ⟨okPL_mono hg' _ (S'.locok t c ht).1, (S'.locok t c ht).2⟩, locinj := S.locinj, locsep := ?_ }
  · intro id x hx
    rw [AHeap.get_alloc] at hx
    split at hx
    · rename_i h; cases hx; subst h; simp only [upd_same]
      exact ho.rename (fun i k hi => upd_ne _ _ (by have := hi.1; omega)) hok
    · exact S'.obj id x hx
  · intro id x hx
    rw [AHeap.get_alloc] at hx
    split at hx
    · cases hx; exact AObj.okP_mono hg hok
    · exact AObj.okP_mono hg' (S'.ok id x hx)
  · intro i j hi hj he
    rw [Owned.alloc_iff S.wf] at hi hj
    rcases hi with ⟨rfl, _⟩ | hi <;> rcases hj with ⟨rfl, _⟩ | hj
    · rfl
    · rw [upd_same, upd_ne _ _ (Nat.ne_of_lt (hj.lt S.wf))] at he
      exact absurd he.symm (hb _ (.inl ⟨j, .inl hj, rfl⟩))
    · rw [upd_same, upd_ne _ _ (Nat.ne_of_lt (hi.lt S.wf))] at he
      exact absurd he (hb _ (.inl ⟨i, .inl hi, rfl⟩))
    · exact S'.inj i j hi hj he
  · intro i j hi hj
    rw [Owned.alloc_iff S.wf] at hi
    rw [IsRo.alloc_iff S.wf] at hj
    rcases hj with ⟨_, hj⟩ | hj
    · rw [hro] at hj; cases hj
    · rcases hi with ⟨rfl, _⟩ | hi
      · rw [upd_same, upd_ne _ _ (Nat.ne_of_lt (hj.lt S.wf))]
        exact fun e => hb _ (.inl ⟨j, .inr hj, rfl⟩) e.symm
      · exact S'.sep i j hi hj
  · intro t c i ht hi
    rw [Owned.alloc_iff S.wf, IsRo.alloc_iff S.wf] at hi
    have : (i = H.n) ∨ (Owned H i ∨ IsRo H i) := by
      rcases hi with (⟨h, _⟩ | h) | (⟨h, _⟩ | h)
      · exact .inl h
      · exact .inr (.inl h)
      · exact .inl h
      · exact .inr (.inr h)
    rcases this with rfl | h
    · rw [upd_same]
      exact fun e => hb _ (.inr ⟨t, c, ht, rfl⟩) e.symm
    · exact S'.locsep t c i ht h

/-- One local variable more (or anew). -/
theorem Sim.add_loc (S : Sim P m ml loc H w) {t : Nat} {cells : List AV} {b : Nat} (ho : LocAt m ml w b cells) (hok : AV.okPL (good m H.n) cells) (h1 : cells.all AV.one = true) (hb : ∀ x, UsedB m ml loc H x → x ≠ b) :
    Sim P m (upd ml t b) ((t, cells) :: loc) H w := by
  have hl : ∀ u c, look u ((t, cells) :: loc) = some c → (u = t ∧ c = cells) ∨ (u ≠ t ∧ look u loc = some c) := by
    intro u c h
    simp only [look] at h
    split at h
    · rename_i e; cases h; exact .inl ⟨e.symm, rfl⟩
    · rename_i e; exact .inr ⟨fun x => e x.symm, h⟩
  refine { wf := S.wf, obj := fun id o h => ?_, ok := S.ok, inj := S.inj, sep := S.sep, locs := ?_, locok := ?_, locinj := ?_, locsep := ?_ }
  · exact (S.obj id o h).rename (fun _ _ _ => rfl) (S.ok id o h)
  · intro u c h
    rcases hl u c h with ⟨rfl, rfl⟩ | ⟨hne, h⟩
    · rw [upd_same]; exact ho.rename (p := good m H.n) (fun _ _ _ => rfl) hok
    · rw [upd_ne _ _ hne]; exact (S.locs u c h).rename (p := good m H.n) (fun _ _ _ => rfl) (S.locok u c h).1
  · intro u c h
    rcases hl u c h with ⟨rfl, rfl⟩ | ⟨hne, h⟩
    · exact ⟨hok, h1⟩
    · exact S.locok u c h
  · intro u v c d hu hv he
    rcases hl u c hu with ⟨rfl, rfl⟩ | ⟨hne, hu1⟩ <;> rcases hl v d hv with ⟨rfl, rfl⟩ | ⟨hne', hv1⟩
    · rfl
    · rw [upd_same, upd_ne _ _ hne'] at he; exact absurd he.symm (hb _ (.inr ⟨v, d, hv1, rfl⟩))
    · rw [upd_same, upd_ne _ _ hne] at he; exact absurd he (hb _ (.inr ⟨u, c, hu1, rfl⟩))
    · rw [upd_ne _ _ hne, upd_ne _ _ hne'] at he; exact S.locinj u v c d hu1 hv1 he
  · intro u c i hu hi
    rcases hl u c hu with ⟨rfl, rfl⟩ | ⟨hne, hu⟩
    · rw [upd_same]; exact hb _ (.inl ⟨i, hi, rfl⟩)
    · rw [upd_ne _ _ hne]; exact S.locsep u c i hu hi

/-- An object in the place of another of the same block. -/
theorem Sim.set_obj (S : Sim P m ml loc H w) {id : Nat} {o o' : AObj} (hid : H.get id = some o) (hown : o.owned = true) (ho : ObjAt P m ml w' (m id) o') (hok : o'.okP (good m H.n)) (hown' : o'.isRo = false)
    (hw : ∀ b, b ≠ (m id).block → w'.heap[b]? = w.heap[b]?) : Sim P m ml loc (H.set id o') w' := by
  have hlt := AHeap.get_lt hid S.wf
  have hO : Owned H id := ⟨o, hid, hown⟩
  have own : ∀ i, Owned (H.set id o') i → Owned H i := by
    rintro i ⟨x, hx, hxo⟩
    rw [AHeap.get_set S.wf hlt] at hx
    split at hx
    · rename_i h; subst h; exact hO
    · exact ⟨x, hx, hxo⟩
  have ro : ∀ i, IsRo (H.set id o') i → IsRo H i ∧ i ≠ id := by
    rintro i ⟨x, hx, hxo⟩
    rw [AHeap.get_set S.wf hlt] at hx
    split at hx
    · cases hx; rw [hown'] at hxo; cases hxo
    · exact ⟨⟨x, hx, hxo⟩, by assumption⟩
  refine { wf := AHeap.wf_set S.wf, obj := ?_, ok := ?_, inj := fun i j hi hj => S.inj i j (own i hi) (own j hj), sep := fun i j hi hj => S.sep i j (own i hi) (ro j hj).1, locs := ?_, locok := S.locok, locinj := S.locinj,
           locsep := fun t c i ht hi => S.locsep t c i ht (hi.imp (own i) fun h => (ro i h).1) }
  · intro i x hx
    rw [AHeap.get_set S.wf hlt] at hx
    split at hx
    · rename_i h; subst h; cases hx; exact ho
    · rename_i hne
      by_cases hu : x.owned = true ∨ x.isRo = true
      · refine (S.obj i x hx).congr (hw _ ?_)
        rcases hu with hu | hu
        · exact fun e => hne (S.inj i id ⟨x, hx, hu⟩ hO e)
        · exact fun e => S.sep id i hO ⟨x, hx, hu⟩ e.symm
      · cases AObj.dead_of hu; trivial
  · intro i x hx
    rw [AHeap.get_set S.wf hlt] at hx
    split at hx
    · cases hx; exact hok
    · exact S.ok i x hx
  · intro t c ht
    exact (S.locs t c ht).congr (hw _ (fun e => S.locsep t c id ht (.inl hO) e.symm))

/-- A local variable written. -/
theorem Sim.set_loc (S : Sim P m ml loc H w) {t : Nat} {cells cells' : List AV} (ht : look t loc = some cells) (ho : LocAt m ml w' (ml t) cells') (hok : AV.okPL (good m H.n) cells') (h1 : cells'.all AV.one = true)
    (hw : ∀ b, b ≠ ml t → w'.heap[b]? = w.heap[b]?) : Sim P m ml ((t, cells') :: loc) H w' := by
  have hl : ∀ u c, look u ((t, cells') :: loc) = some c → (u = t ∧ c = cells') ∨ (u ≠ t ∧ look u loc = some c) := by
    intro u c h
    simp only [look] at h
    split at h
    · rename_i e; cases h; exact .inl ⟨e.symm, rfl⟩
    · rename_i e; exact .inr ⟨fun x => e x.symm, h⟩
  refine { wf := S.wf, obj := ?_, ok := S.ok, inj := S.inj, sep := S.sep, locs := ?_, locok := ?_, locinj := ?_, locsep := ?_ }
  · intro i x hx
    by_cases hu : x.owned = true ∨ x.isRo = true
    · refine (S.obj i x hx).congr (hw _ (S.locsep t cells i ht ?_))
      exact hu.imp (fun h => ⟨x, hx, h⟩) fun h => ⟨x, hx, h⟩
    · cases AObj.dead_of hu; trivial
  · intro u c h
    rcases hl u c h with ⟨rfl, rfl⟩ | ⟨hne, h⟩
    · exact ho
    · exact (S.locs u c h).congr (hw _ (fun e => hne (S.locinj u t c cells h ht e)))
  · intro u c h
    rcases hl u c h with ⟨rfl, rfl⟩ | ⟨hne, h⟩
    · exact ⟨hok, h1⟩
    · exact S.locok u c h
  · intro u v c d hu hv he
    rcases hl u c hu with ⟨rfl, rfl⟩ | ⟨hne, hu1⟩ <;> rcases hl v d hv with ⟨rfl, rfl⟩ | ⟨hne', hv1⟩
    · rfl
    · exact S.locinj _ _ _ _ ht hv1 he
    · exact S.locinj _ _ _ _ hu1 ht he
    · exact S.locinj u v c d hu1 hv1 he
  · intro u c i hu hi
    rcases hl u c hu with ⟨rfl, rfl⟩ | ⟨hne, hu⟩
    · exact S.locsep _ _ i ht hi
    · exact S.locsep u c i hu hi

end
end Go.Wam
