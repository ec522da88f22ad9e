/- The abstract machine: what is made anew. No condition. -/
import Derived.Test.YtpdmmpajjdaebaaGreatAmG
import Derived.IntWalk
set_option linter.unusedVariables false
set_option linter.unusedSimpArgs false
namespace Go.Wam
section
variable {P : Program} {ρ : Operand → Value} {s s' : St} {m m' : Nat → Loc} {ml ml' : Nat → Nat} {p : Nat → Nat → Prop} {L : Nat → Prop} {w w' : World}

theorem pushed_mk (w : World) (o : Obj) : Pushed w { w with heap := w.heap.push o } o := ⟨rfl, rfl, rfl, rfl⟩

theorem newRow_run (P : Program) (e : TypeId) (cs : Array Value) (w : World) : (newRow e cs).run P w = .ok ⟨w.heap.size, 0, none⟩ { w with heap := w.heap.push (.cells cs e) } := by
  simp [newRow]

theorem Unfrozen.of_new {st : Bool} {o : Obj} (h : Pushed w w' o) {arr : Array Value} {ty : TypeId} {fr : Nat × Nat} (ho : o = .cells arr ty fr) (hf : ∀ i, (i < arr.size ∨ (st = true ∧ i = arr.size)) → ¬ (fr.1 ≤ i ∧ i < fr.2)) : Unfrozen st w' w.heap.size arr :=
  ⟨ty, fr, by rw [h.new, ho], hf⟩

theorem rowAt_new {st : Bool} {o : Obj} (h : Pushed w w' o) {arr : Array Value} {ty : TypeId} {fr : Nat × Nat} (ho : o = .cells arr ty fr) (hf : ∀ i, (i < arr.size ∨ (st = true ∧ i = arr.size)) → ¬ (fr.1 ≤ i ∧ i < fr.2)) {cells : List AV}
    (hc : ∀ (i : Nat) (v : AV), cells[i]? = some v → arr[i]? = some (conc m ml v)) (hl : cells.length ≤ arr.size) : RowAt st m ml w' ⟨w.heap.size, 0, arr.size⟩ cells :=
  ⟨arr, .of_new h ho hf, by simp, hl, fun i v hi => by simpa using hc i v hi⟩

theorem rowAt_new0 {st : Bool} {arr : Array Value} {ty : TypeId} (h : Pushed w w' (.cells arr ty)) {cells : List AV}
    (hc : ∀ (i : Nat) (v : AV), cells[i]? = some v → arr[i]? = some (conc m ml v)) (hl : cells.length ≤ arr.size) : RowAt st m ml w' ⟨w.heap.size, 0, arr.size⟩ cells :=
  rowAt_new h rfl (by simp) hc hl

theorem locAt_new {o : Obj} (h : Pushed w w' o) {arr : Array Value} {ty : TypeId} (ho : o = .cells arr ty (0, 0)) {cells : List AV} (hc : arr.toList = concL m ml cells) : LocAt m ml w' w.heap.size cells :=
  ⟨arr, .of_new h ho (by simp), hc⟩

theorem concL_get {cells : List AV} {arr : Array Value} (h : arr.toList = concL m ml cells) : (∀ (i : Nat) (v : AV), cells[i]? = some v → arr[i]? = some (conc m ml v)) ∧ cells.length = arr.size := by
  constructor
  · intro i v hi
    rw [← Array.getElem?_toList, h, concL_eq, List.getElem?_map, hi]; rfl
  · rw [← Array.length_toList, h]; simp [concL_eq]

/-- What an operation has made: one block. -/
def Made (P : Program) (ρ : Operand → Value) (m : Nat → Loc) (ml : Nat → Nat) (p : Nat → Nat → Prop) (dst : Option Nat) (s : St) (o : Oper) (w : World) (v : AV) (s' : St) : Prop :=
  ∃ w' ob, Pushed w w' ob ∧
    ((∃ l ao, l.block = w.heap.size ∧ s' = { s with H := s.H.alloc ao } ∧ ao.owned = true ∧ ao.okP p ∧ ObjAt P m ml w' l ao ∧ (execOp ρ o).run P w = .ok (.value (conc (upd m s.H.n l) ml v)) w' ∧
        v.okP (fun i k => i = s.H.n ∧ k ≤ l.room) ∧ ∀ ml2, conc (upd m s.H.n l) ml2 v = conc (upd m s.H.n l) ml v) ∨
     (∃ t cells, dst = some t ∧ freeL t s.env = true ∧ s' = { s with loc := (t, cells) :: s.loc } ∧ v = .lptr t 0 ∧ AV.okPL p cells ∧ cells.all AV.one = true ∧ LocAt m ml w' w.heap.size cells ∧
        (execOp ρ o).run P w = .ok (.value (.pointer (some ⟨w.heap.size, 0, none⟩))) w'))

theorem zerosA_length {z : List AV} (n : Nat) : (zerosA z n).length = n * z.length := by
  induction n with
  | zero => simp [zerosA]
  | succ n ih => simp [zerosA, ih, Nat.add_mul]; omega

theorem zerosA_get {z : List AV} (hz : 0 < z.length) (n : Nat) : ∀ i, i < n * z.length → (zerosA z n)[i]? = z[i % z.length]? := by
  induction n with
  | zero => intro i hi; simp at hi
  | succ n ih =>
    intro i hi
    simp only [zerosA, List.getElem?_append]
    by_cases h : i < z.length
    · simp [h, Nat.mod_eq_of_lt h]
    · simp only [h, if_false]
      rw [ih (i - z.length) (by rw [Nat.add_mul] at hi; omega)]
      congr 1
      rw [Nat.mod_eq_sub_mod (by omega : i ≥ z.length)]

theorem zeros_conc {z : List AV} {za : Array Value} (h : za.toList = concL m ml z) (hz : 0 < z.length) (n : Nat) :
    ((Array.range (n * z.length)).map (za[· % za.size]!)).toList = concL m ml (zerosA z n) := by
  have hs : za.size = z.length := by rw [← Array.length_toList, h]; simp [concL_eq]
  apply List.ext_getElem?
  intro i
  rw [concL_eq, List.getElem?_map]
  by_cases hi : i < n * z.length
  · rw [zerosA_get hz n i hi]
    have hm : i % z.length < z.length := Nat.mod_lt _ hz
    have : za[i % za.size]! = conc m ml z[i % z.length] := by
      have h2 : za[i % za.size]? = some (conc m ml z[i % z.length]) := by
        rw [← Array.getElem?_toList, h, concL_eq, List.getElem?_map, hs, List.getElem?_eq_getElem hm]; rfl
      rw [getElem!_def, h2]
    simp [hi, this, List.getElem?_eq_getElem hm]
  · have h1 : (zerosA z n)[i]? = none := by rw [List.getElem?_eq_none]; rw [zerosA_length]; omega
    rw [h1]
    simp [hi]

theorem zerosA_ok {z : List AV} (h : AV.okPL p z) (h1 : z.all AV.one = true) (n : Nat) : AV.okPL p (zerosA z n) ∧ (zerosA z n).all AV.one = true := by
  induction n with
  | zero => simp [zerosA, AV.okPL]
  | succ n ih =>
    simp only [zerosA, List.all_append, h1, ih.2, Bool.and_self, and_true]
    rw [okPL_iff]
    intro v hv
    rcases List.mem_append.1 hv with hv | hv
    · exact (okPL_iff _ _).1 h v hv
    · exact (okPL_iff _ _).1 ih.1 v hv

theorem wrap_i64 {n : Int} (h0 : 0 ≤ n) (h : n < 2 ^ 63) : IntKind.i64.wrap n = n := by
  exact IntWalk.i64_in n (by omega)

theorem bytes_info {t : TypeId} {b : Nat} (h : (P.info? t).map (·.bytes) = some b) : ∃ i, P.info? t = some i ∧ i.bytes = b := by
  cases hi : P.info? t with
  | none => simp [hi] at h
  | some i => simp [hi] at h; exact ⟨i, rfl, h⟩

theorem markStr_run {b n : Nat} {e : TypeId} (h : w.shape? b = some (e, n)) : (markStringish ⟨b, 0, none⟩).run P w = .ok () (w.freeze ⟨b, n, none⟩ 1) := by
  simp [markStringish, h]

set_option maxHeartbeats 400000 in
theorem run_alloc {locals : List Nat} {dst : Option Nat} {o : Oper} {io : IOp} (hc : compOp P locals dst o.op = some io) (hcls : io.cls = .alloc) {v : AV} (he : evOp dst s io = some (v, s'))
    (hρ : ∀ x ∈ o.op.operands, OpR ρ s.env m ml p L x) (w : World) : Made P ρ m ml p dst s o w v s' := by
  obtain ⟨dst', op, type, pos, after, guard⟩ := o
  simp only at hc hρ
  cases op
  case alloc e =>
    simp only [compOp] at hc
    obtain ⟨sz, z, h1, h2, h3⟩ := opt2_some hc
    cases h3
    obtain ⟨⟨zv, hz1, hz2⟩, hz3, hz4⟩ := zeroT_run h2 m ml p
    have run : (execOp ρ ⟨dst', .alloc e, type, pos, after, guard⟩).run P w = .ok (.value (.pointer (some ⟨w.heap.size, 0, none⟩))) { w with heap := w.heap.push (.cells zv.cells e) } := by
      simp only [execOp, Instr.alloc, Sem.run_bind, hz1, Result.andThen_ok, newVar, newRow_run, Sem.run_pure]
    obtain ⟨g1, g2⟩ := concL_get hz2
    cases hl : isLocal locals dst
    · rw [hl] at he
      simp only [evOp, Option.some.injEq, Prod.mk.injEq] at he
      obtain ⟨rfl, rfl⟩ := he
      refine ⟨_, _, pushed_mk w (.cells zv.cells e), .inl ⟨⟨w.heap.size, 0, zv.cells.size⟩, _, rfl, rfl, rfl, ⟨hz3, hz4⟩, rowAt_new0 (pushed_mk w _) g1 (by omega), ?_, by simp [AV.okP], fun _ => by simp [conc]⟩⟩
      rw [run]; simp [conc, Loc.at]
    · rw [hl] at he
      cases dst with
      | none => simp [isLocal] at hl
      | some t =>
        simp only [evOp] at he
        split at he
        · rename_i hf
          cases he
          exact ⟨_, _, pushed_mk w _, .inr ⟨t, z, rfl, hf, rfl, rfl, hz3, hz4, locAt_new (pushed_mk w _) rfl hz2, run⟩⟩
        · cases he
  case box e x =>
    simp only [compOp] at hc
    obtain ⟨sz, y, h1, h2, h3⟩ := opt2_some hc
    cases h3
    have run : ∀ u, ρ x = conc m ml u → (execOp ρ ⟨dst', .box e x, type, pos, after, guard⟩).run P w = .ok (.value (.pointer (some ⟨w.heap.size, 0, none⟩))) { w with heap := w.heap.push (.cells (conc m ml u).cells e) } := by
      intro u hu
      simp only [execOp, Instr.box, hu, Sem.run_bind, newVar, newRow_run, Result.andThen_ok, Sem.run_pure]
    cases hl : isLocal locals dst
    · rw [hl] at he
      simp only [evOp] at he
      split at he
      · rename_i u hu
        split at he
        · rename_i hn
          cases he
          obtain ⟨e1, e2⟩ := hρ x (by simp [Op.operands]) _ _ h2 hu
          obtain ⟨o1, o2⟩ := cells_ok (e2.noL hn) hn
          obtain ⟨g1, g2⟩ := concL_get (m := m) (ml := ml) (conc_cells u)
          refine ⟨_, _, pushed_mk w (.cells (conc m ml u).cells e), .inl ⟨⟨w.heap.size, 0, (conc m ml u).cells.size⟩, _, rfl, rfl, rfl, ⟨o1, o2⟩, rowAt_new0 (pushed_mk w _) g1 (by omega), ?_, by simp [AV.okP], fun _ => by simp [conc]⟩⟩
          rw [run u e1]; simp [conc, Loc.at]
        · cases he
      · cases he
    · rw [hl] at he
      cases dst with
      | none => simp [isLocal] at hl
      | some t =>
        simp only [evOp] at he
        split at he
        · rename_i t' u ht hu
          cases ht
          split at he
          · rename_i hn
            cases he
            simp only [Bool.and_eq_true] at hn
            obtain ⟨e1, e2⟩ := hρ x (by simp [Op.operands]) _ _ h2 hu
            obtain ⟨o1, o2⟩ := cells_ok (e2.noL hn.2) hn.2
            exact ⟨_, _, pushed_mk w _, .inr ⟨t, _, rfl, hn.1, rfl, rfl, o1, o2, locAt_new (pushed_mk w _) rfl (conc_cells u), run u e1⟩⟩
          · cases he
        · cases he
  case buildSlice t len parts =>
    simp only [compOp] at hc
    split at hc
    · rename_i e hu
      split at hc
      · rename_i sz hsz
        split at hc
        · cases hc
        · rename_i hle
          split at hc
          · rename_i zero hzero
            obtain ⟨z, q, hz, hq, h3⟩ := opt2_some hc
            cases h3
            obtain ⟨hsz1, hnz⟩ := pszT_szT hsz
            simp only [evOp] at he
            cases hf : fillA s.env q z with
            | none => simp [hf] at he
            | some r =>
              simp [hf] at he; obtain ⟨rfl, rfl⟩ := he
              obtain ⟨z1, z2, z3⟩ := leafs_conc hz m ml p
              have hρ' : ∀ i x, (i, x) ∈ parts.toList → OpR ρ s.env m ml p L x := fun i x hx => hρ x (by simp [Op.operands]; exact ⟨i, by simpa using hx⟩)
              obtain ⟨f1, f2, f3⟩ := fill_conc (place := fun i => some (i * sz, sz)) parts.toList q z r hρ' (partsA_spec _ _ hq) hf z2 z3
              have hza : (Array.range (len * sz)).map (zero[· % zero.size]!) = (concL m ml z).toArray := by apply Array.ext'; rw [z1]
              have hzr : ∀ w, ((if len * sz = 0 then pure #[] else do pure (← zeroValue e).cells) : Sem (Array Value)).run P w = .ok zero w := by
                intro w
                split at hzero
                · rename_i h0; rw [if_pos h0]; cases hzero; rfl
                · rename_i h0
                  rw [if_neg h0]
                  cases hi : P.info? e with
                  | none => simp [hi] at hzero
                  | some i =>
                    cases hzz : i.zero with
                    | none => simp [hi, hzz] at hzero
                    | some zz => simp [hi, hzz] at hzero; simp [zeroValue, info_run hi, hzz, hzero]
              have run : (execOp ρ ⟨dst', .buildSlice t len parts, type, pos, after, guard⟩).run P w = .ok (.value (.slice (some ⟨w.heap.size, 0, none⟩) len len)) { w with heap := w.heap.push (.cells (concL m ml r).toArray e) } := by
                by_cases h0 : len * sz = 0
                · have hz0 : zero = #[] := by rw [if_pos h0] at hzero; cases hzero; rfl
                  subst hz0
                  simp only [execOp, Instr.buildSlice, Sem.run_bind, run_underlying hu, Result.andThen_ok, szT_run hsz1, if_neg hle, if_pos h0, pure_bind, hza, Array.toList_map, f1, newRow_run, Sem.run_pure]
                · have hzr' := hzr w
                  rw [if_neg h0] at hzr'
                  obtain ⟨zz, hzz, hzz2⟩ : ∃ zz : Value, (∀ w, (zeroValue e).run P w = .ok zz w) ∧ zz.cells = zero := by
                    rw [if_neg h0] at hzero
                    cases hi : P.info? e with
                    | none => simp [hi] at hzero
                    | some i =>
                      cases hzz : i.zero with
                      | none => simp [hi, hzz] at hzero
                      | some zz => simp [hi, hzz] at hzero; exact ⟨zz, fun w => by simp [zeroValue, info_run hi, hzz], hzero⟩
                  subst hzz2
                  simp only [execOp, Instr.buildSlice, Sem.run_bind, run_underlying hu, Result.andThen_ok, szT_run hsz1, if_neg hle, if_neg h0, hzz, pure_bind, hza, Array.toList_map, f1, newRow_run, Sem.run_pure]
              obtain ⟨g1, g2⟩ := concL_get (m := m) (ml := ml) (cells := r) (arr := (concL m ml r).toArray) rfl
              refine ⟨_, _, pushed_mk w (.cells (concL m ml r).toArray e), .inl ⟨⟨w.heap.size, 0, (concL m ml r).toArray.size⟩, _, rfl, rfl, rfl, ⟨f2, f3⟩, rowAt_new0 (pushed_mk w _) g1 (by omega), ?_, by simp [AV.okP], fun _ => by simp [conc]⟩⟩
              rw [run]; simp [conc, Loc.at]
          · cases hc
      · cases hc
    · cases hc
  case makeMap t r =>
    cases r with
    | none =>
      simp only [compOp] at hc
      cases hc
      simp only [evOp, Option.some.injEq, Prod.mk.injEq] at he
      obtain ⟨rfl, rfl⟩ := he
      refine ⟨_, _, pushed_mk w (.map #[] 0), .inl ⟨⟨w.heap.size, 0, 0⟩, _, rfl, rfl, rfl, by simp [AObj.okP], ?_, ?_, by simp [AV.okP], fun _ => by simp [conc]⟩⟩
      · exact ⟨#[], (pushed_mk w _).new, by simp [MapAt]⟩
      · simp [execOp, Instr.makeMap, conc]
    | some x => simp [compOp] at hc
  case next x b =>
    exfalso
    cases b <;> simp only [compOp] at hc
    · rw [Option.map_eq_some_iff] at hc; obtain ⟨_, _, rfl⟩ := hc; simp [IOp.cls] at hcls
    · rw [Option.map_eq_some_iff] at hc; obtain ⟨_, _, rfl⟩ := hc; simp [IOp.cls] at hcls
  case range t x =>
    simp only [compOp] at hc
    split at hc
    · rename_i hu
      cases hx : opd x with
      | none => simp [hx] at hc
      | some y =>
        simp [hx] at hc; subst hc
        simp only [evOp] at he
        split at he <;> cases he
        rename_i l hv
        obtain ⟨e1, _⟩ := hρ x (by simp [Op.operands]) _ _ hx hv
        refine ⟨_, _, pushed_mk w (.stringIter ⟨l.toArray⟩ 0), .inl ⟨⟨w.heap.size, 0, 0⟩, _, rfl, rfl, rfl, by simp [AObj.okP], ?_, ?_, by simp [AV.okP], fun _ => by simp [conc]⟩⟩
        · exact ⟨(pushed_mk w _).new, rfl⟩
        · simp [execOp, Instr.range, conc, e1, run_underlying hu, Loc.at]
    · exfalso
      rw [Option.map_eq_some_iff] at hc; obtain ⟨_, _, rfl⟩ := hc; simp [IOp.cls] at hcls
    · cases hc
  case makeSlice t a b =>
    simp only [compOp] at hc
    split at hc
    · rename_i e hu
      split at hc
      · rename_i sz bytes z hsz hb hz
        split at hc
        · rename_i hzl
          obtain ⟨la, lb, h1, h2, h3⟩ := opt2_some hc
          cases h3
          obtain ⟨hsz1, hnz⟩ := pszT_szT hsz
          obtain ⟨⟨zv, hz1, hz2⟩, hz3, hz4⟩ := zeroT_run hz m ml p
          obtain ⟨i, hi, hib⟩ := bytes_info hb
          simp only [evOp] at he
          split at he
          · rename_i n c hn hcv
            split at he
            · rename_i hle
              cases he
              obtain ⟨hl0, hlc, hcb, hc63⟩ := hle
              obtain ⟨e1, _⟩ := hρ a (by simp [Op.operands]) _ _ h1 hn
              obtain ⟨f1, _⟩ := hρ b (by simp [Op.operands]) _ _ h2 hcv
              have hzs : zv.cells.size = sz := by rw [← Array.length_toList, hz2]; simp [concL_eq, hzl]
              have harr : ∀ za : Array Value, (c.toNat * sz ≠ 0 → za = zv.cells) → ((Array.range (c.toNat * sz)).map (za[· % za.size]!)).toList = concL m ml (zerosA z c.toNat) := by
                intro za hza
                by_cases h0 : c.toNat * sz = 0
                · have : c.toNat = 0 := by
                    rcases Nat.mul_eq_zero.1 h0 with h | h
                    · exact h
                    · exact absurd h hnz
                  simp [this, zerosA, concL]
                · rw [hza h0]
                  have := zeros_conc (m := m) (ml := ml) hz2 (by omega) c.toNat
                  rw [hzl] at this
                  exact this
              obtain ⟨za, hza, hzr⟩ : ∃ za : Array Value, (c.toNat * sz ≠ 0 → za = zv.cells) ∧ ∀ w, ((if c.toNat * sz = 0 then pure #[] else do pure (← zeroValue e).cells) : Sem (Array Value)).run P w = .ok za w := by
                by_cases h0 : c.toNat * sz = 0
                · exact ⟨#[], fun h => absurd h0 h, fun w => by rw [if_pos h0]; rfl⟩
                · exact ⟨zv.cells, fun _ => rfl, fun w => by rw [if_neg h0]; simp [hz1]⟩
              have hcz := harr za hza
              have wl := wrap_i64 hl0 (by omega : n < 2 ^ 63)
              have wc := wrap_i64 (by omega : 0 ≤ c) hc63
              have hcb' : ¬ ((bytes : Int) * c > 2 ^ 48) := by rw [Int.mul_comm]; omega
              have run : (execOp ρ ⟨dst', .makeSlice t a b, type, pos, after, guard⟩).run P w = .ok (.value (.slice (some ⟨w.heap.size, 0, none⟩) n.toNat c.toNat)) { w with heap := w.heap.push (.cells ((Array.range (c.toNat * sz)).map (za[· % za.size]!)) e) } := by
                have hcond : ¬ (((decide (c < 0) || decide ((bytes : Int) * c > 2 ^ 48)) = true ∨ n < 0) ∨ n > c) := by
                  have : ¬ c < 0 := by omega
                  simp only [this, hcb', decide_false, Bool.or_self, Bool.false_eq_true, false_or]
                  omega
                simp only [execOp, Instr.makeSlice, e1, f1, conc, asInt, asIntOf, pure_bind, Sem.run_bind, run_underlying hu, Result.andThen_ok, info_run hi, hib, wl, wc, Sem.run_pure]
                rw [if_neg (by simpa using hcond)]
                by_cases h0 : c.toNat * sz = 0
                · have hz0 : za = #[] := by have := hzr w; rw [if_pos h0] at this; simpa using this.symm
                  subst hz0
                  simp only [Sem.run_bind, run_askRoom, Result.andThen_ok, szT_run hsz1, if_pos h0, newRow_run, Sem.run_pure, pure_bind]
                · have hz0 := hza h0
                  subst hz0
                  simp only [Sem.run_bind, run_askRoom, Result.andThen_ok, szT_run hsz1, if_neg h0, hz1, newRow_run, Sem.run_pure, pure_bind]
              obtain ⟨g1, g2⟩ := concL_get hcz
              obtain ⟨k1, k2⟩ := zerosA_ok hz3 hz4 c.toNat
              refine ⟨_, _, pushed_mk w (.cells ((Array.range (c.toNat * sz)).map (za[· % za.size]!)) e), .inl ⟨⟨w.heap.size, 0, ((Array.range (c.toNat * sz)).map (za[· % za.size]!)).size⟩, _, rfl, rfl, rfl, ⟨k1, k2⟩, rowAt_new0 (pushed_mk w _) g1 (by omega), ?_, by simp [AV.okP], fun _ => by simp [conc]⟩⟩
              rw [run]; simp [conc, Loc.at]
            · cases he
          · cases he
        · cases hc
      · cases hc
    · cases hc
  case convert sr d x =>
    simp only [compOp] at hc
    split at hc
    · cases hc; simp [IOp.cls] at hcls
    · cases hc; simp [IOp.cls] at hcls
    · rename_i e y h1 h2 hx
      split at hc <;> cases hc
      rename_i he1 hs1
      simp only [evOp] at he
      split at he <;> rename_i hq hv <;> first | (cases hq; done) | (cases he; done) | skip
      rename_i l
      cases he
      obtain ⟨e1, _⟩ := hρ x (by simp [Op.operands]) _ _ hx hv
      let cap := (Question.appendCap l.length 0 e).cut (w.tape w.drawn (.appendCap l.length 0 e))
      have hcap : l.length ≤ cap := by simp [cap, Question.cut]
      let arr : Array Value := ((⟨l.toArray⟩ : ByteArray).data.map fun b => Value.int .u8 b.toNat) ++ Array.replicate (cap - l.length) (.int .u8 0)
      have hsz : arr.size = cap := by simp [arr]; omega
      let w1 : World := { w with heap := w.heap.push (.cells arr e (cap, cap + 1)), drawn := w.drawn + 1 }
      have run : (execOp ρ ⟨dst', .convert sr d x, type, pos, after, guard⟩).run P w = .ok (.value (.slice (some ⟨w.heap.size, 0, none⟩) l.length cap)) w1 := by
        have c1 : (convert sr d (.string ⟨l.toArray⟩)).run P w = (Conv.stringToBytes e ⟨l.toArray⟩).run P w := by
          simp only [convert, Sem.run_bind, run_underlying h1, run_underlying h2, Result.andThen_ok, run_underlying he1]
        simp only [execOp, e1, conc, Sem.run_bind, c1]
        simp only [Conv.stringToBytes, Sem.run_bind, run_choose, Question.forced, Bool.false_eq_true, if_false, Result.andThen_ok, newRow_run, bsize]
        have hsh : ({ w with drawn := w.drawn + 1, heap := w.heap.push (.cells arr e) } : World).shape? w.heap.size = some (e, cap) := by
          simp [World.shape?, hsz]
        rw [markStr_run hsh]
        simp only [Result.andThen_ok, Sem.run_pure]
        congr 1
        simp only [World.freeze, w1]
        simp only [Nat.one_ne_zero, if_false, Nat.reduceAdd]
        congr 1
        apply Array.ext'
        apply List.ext_getElem?
        intro j
        simp only [Array.getElem?_toList, Array.getElem?_modify, Array.getElem?_push]
        by_cases hj : j = w.heap.size
        · subst hj; simp
        · have hj' : ¬ w.heap.size = j := fun x => hj x.symm
          simp [hj, hj']
      have hp1 : Pushed w w1 (.cells arr e (cap, cap + 1)) := ⟨rfl, rfl, rfl, rfl⟩
      refine ⟨w1, _, hp1, .inl ⟨⟨w.heap.size, 0, cap⟩, _, rfl, rfl, rfl, ⟨?_, ?_⟩, ?_, ?_, by simp [AV.okP]; exact hcap, fun _ => by simp [conc]⟩⟩
      · rw [okPL_iff]; intro v hv; rw [List.mem_map] at hv; obtain ⟨b, _, rfl⟩ := hv; simp [AV.okP]
      · rw [List.all_eq_true]; intro v hv; rw [List.mem_map] at hv; obtain ⟨b, _, rfl⟩ := hv; rfl
      · have := rowAt_new (st := false) (m := m) (ml := ml) hp1 rfl (fun i hi => by simp [hsz] at hi; simp; omega) (cells := l.map fun b => AV.int .u8 b.toNat) (fun i v hi => ?_) (by simp [hsz]; exact hcap)
        · rw [hsz] at this; exact this
        · rw [List.getElem?_map] at hi
          cases hb : l[i]? with
          | none => simp [hb] at hi
          | some b =>
            simp [hb] at hi; subst hi
            have hlt := (List.getElem?_eq_some_iff.1 hb).1
            simp only [arr, conc]
            rw [Array.getElem?_append_left (by simpa using hlt)]
            simp [hb]
      · rw [run]; simp [conc, Loc.at]
    · split at hc <;> cases hc
      simp [IOp.cls] at hcls
    · split at hc <;> cases hc
      simp [IOp.cls] at hcls
    · cases hc
  case defer c =>
    exfalso
    obtain ⟨callee, args, argTypes⟩ := c
    cases callee <;> simp only [compOp] at hc <;> first | (cases hc; done) | (obtain ⟨_, _, _, _, h3⟩ := opt2_some hc; cases h3; simp [IOp.cls] at hcls)
  case binOp op t x y yt =>
    exfalso
    rcases comp_bin hc with ⟨e, a, b, rfl, _⟩ | ⟨neg, a, rfl, _⟩ | ⟨neg, a, b, rfl, _⟩ <;> simp [IOp.cls] at hcls
  case call c =>
    exfalso
    obtain ⟨callee, args, argTypes⟩ := c
    cases callee <;> simp only [compOp, compBuiltin, opt2] at hc
    all_goals (repeat' (split at hc)) <;> (try cases hc) <;> (try (simp [IOp.cls] at hcls; done))
  all_goals
    exfalso
    simp only [compOp, opt2] at hc
    first
      | (cases hc; done)
      | ((repeat' (split at hc)) <;> (try cases hc) <;> (try (rw [Option.map_eq_some_iff] at hc; obtain ⟨_, _, rfl⟩ := hc)) <;> simp [IOp.cls] at hcls)

end
end Go.Wam
