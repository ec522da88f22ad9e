/- The abstract machine: each operation that calls nothing. No condition. -/
import Derived.Test.YtpdmmpajjdaebaaGreatAmIm
set_option linter.unusedVariables false
set_option linter.unusedSimpArgs false
namespace Go.Wam
section
variable {P : Program} {ρ : Operand → Value} {s s' : St} {m m' : Nat → Loc} {ml ml' : Nat → Nat} {p : Nat → Nat → Prop} {L : Nat → Prop} {loc : List (Nat × List AV)} {H : AHeap} {w w' : World}

theorem cutA_run (S : Sim P m ml loc H w) {id off k : Nat} {xs : List AV} (h : cutA H id off k = some xs) :
    (loadCells ((m id).at off) k).run P w = .ok (concL m ml xs).toArray w ∧ AV.okPL (good m H.n) xs ∧ xs.all AV.one = true ∧ xs.length = k := by
  unfold cutA at h
  split at h
  · rename_i ro e cells hi
    split at h
    · rename_i hle
      cases h
      have ho := S.obj id _ hi
      have hok := S.ok id _ hi
      have hl : ((cells.drop off).take k).length = k := by simp; omega
      refine ⟨?_, ?_, ?_, hl⟩
      · refine loadCells_run P (by simp [concL_eq]; omega) ?_
        intro j u hj
        rw [concL_eq, List.getElem?_map] at hj
        cases hd : ((cells.drop off).take k)[j]? with
        | none => simp [hd] at hj
        | some x =>
          simp [hd] at hj; subst hj
          apply ho.cells
          rw [List.getElem?_take] at hd
          split at hd
          · rw [List.getElem?_drop] at hd; exact hd
          · cases hd
      · exact (okPL_iff _ _).2 fun v hv => (okPL_iff _ _).1 hok.1 v (List.mem_of_mem_drop (List.mem_of_mem_take hv))
      · rw [List.all_eq_true]; exact fun v hv => List.all_eq_true.1 hok.2 v (List.mem_of_mem_drop (List.mem_of_mem_take hv))
    · cases h
  · cases h

theorem firstA_run (S : Sim P m ml loc H w) {sz n : Nat} {x : AV} {xs : List AV} (h : firstA H sz x = some (n, xs)) :
    (Builtin.lenOf (conc m ml x)).run P w = .ok n w ∧ (Builtin.firstCells sz n (conc m ml x)).run P w = .ok (concL m ml xs).toArray w ∧ AV.okPL (good m H.n) xs ∧ xs.all AV.one = true ∧ xs.length = n * sz := by
  unfold firstA at h
  split at h
  · cases h; simp [conc, Builtin.lenOf, Builtin.firstCells, concL, AV.okPL]
  · cases h; simp [conc, Builtin.lenOf, Builtin.firstCells, concL, AV.okPL, loadCells, loadCellsFrom]
  · cases h; simp [conc, Builtin.lenOf, Builtin.firstCells, concL, AV.okPL, loadCells, loadCellsFrom]
  · rename_i id off len c
    split at h
    · rename_i h0; subst h0
      cases h; simp [conc, Builtin.lenOf, Builtin.firstCells, concL, AV.okPL, loadCells, loadCellsFrom]
    cases hc : cutA H id off (len * sz) with
    | none => simp [hc] at h
    | some cs =>
      simp [hc] at h; obtain ⟨rfl, rfl⟩ := h
      obtain ⟨h1, h2, h3, h4⟩ := cutA_run (P := P) S hc
      exact ⟨by simp [conc, Builtin.lenOf], by simp only [conc, Builtin.firstCells]; exact h1, h2, h3, h4⟩
  · rename_i id off len kc c
    split at h
    · rename_i h0; subst h0
      cases h; simp [conc, Builtin.lenOf, Builtin.firstCells, concL, AV.okPL, loadCells, loadCellsFrom]
    cases hc : cutA H id off (len * sz) with
    | none => simp [hc] at h
    | some cs =>
      simp [hc] at h; obtain ⟨rfl, rfl⟩ := h
      obtain ⟨h1, h2, h3, h4⟩ := cutA_run (P := P) S hc
      exact ⟨by simp [conc, Builtin.lenOf], by simp only [conc, Builtin.firstCells]; exact h1, h2, h3, h4⟩
  · rename_i l
    split at h
    · rename_i h1
      cases h
      subst h1
      refine ⟨by simp [conc, Builtin.lenOf, bsize], ?_, ?_, ?_, by simp⟩
      · simp only [conc, Builtin.firstCells, extract_mk, Sem.run_pure]
        congr 1
        simp only [List.drop_zero, Nat.sub_zero, List.take_length, concL_eq, List.map_toArray, List.map_map]
        congr 1
      · rw [okPL_iff]; intro v hv; rw [List.mem_map] at hv; obtain ⟨b, _, rfl⟩ := hv; simp [AV.okP]
      · rw [List.all_eq_true]; intro v hv; rw [List.mem_map] at hv; obtain ⟨b, _, rfl⟩ := hv; rfl
    · cases h
  · cases h

theorem grow_le (need : Nat) : ∀ (k c : Nat), c < need → Builtin.growBy need k c ≤ 2 * need + 192 * k := by
  intro k
  induction k with
  | zero => intro c h; simp [Builtin.growBy]; omega
  | succ k ih =>
    intro c h
    simp only [Builtin.growBy]
    split
    · omega
    · by_cases h2 : c + (c + 768) / 4 < need
      · have := ih _ h2; omega
      · cases k with
        | zero => simp [Builtin.growBy]; omega
        | succ k => simp only [Builtin.growBy]; rw [if_pos (by omega)]; omega

theorem next_le (need old : Nat) (h : old < need) : Builtin.nextslicecap need old ≤ 2 * need := by
  unfold Builtin.nextslicecap
  split
  · omega
  · split
    · omega
    · rename_i h1 h2
      have key : ∀ (k c : Nat), 256 ≤ c → c < need → Builtin.growBy need k c ≤ 2 * need := by
        intro k
        induction k with
        | zero => intro c _ h; simp [Builtin.growBy]; omega
        | succ k ih =>
          intro c h0 h
          simp only [Builtin.growBy]
          split
          · omega
          · by_cases h2 : c + (c + 768) / 4 < need
            · exact ih _ (by omega) h2
            · cases k with
              | zero => simp [Builtin.growBy]; omega
              | succ k => simp only [Builtin.growBy]; rw [if_pos (by omega)]; omega
      exact key _ _ (by omega) h

theorem zeroCells_size (z : Array Value) (n : Nat) : (Builtin.zeroCells z n).size = n * z.size := by simp [Builtin.zeroCells]

/-- The facts that comp has seen of an append. -/
structure AppT (P : Program) (t e : TypeId) (sz bytes : Nat) : Prop where
  ht : P.underlying t = some (.slice e)
  hs : szT P e = some sz
  hnz : sz ≠ 0
  hb : ∃ i z, P.info? e = some i ∧ i.bytes = bytes ∧ i.zero = some z ∧ z.cells.size = sz
  hbz : bytes ≠ 0

/-- An append that fits. -/
theorem append_fits {t u e ty : TypeId} {sz bytes : Nat} (A : AppT P t e sz bytes) (hu : ∃ d, P.underlying u = some d ∧ ∀ k, d ≠ .int k) {base : Option Addr} {len cap n : Nat} {xv : Value} {xs : Array Value}
    (h1 : (Builtin.lenOf xv).run P w = .ok n w) (h2 : (Builtin.firstCells sz n xv).run P w = .ok xs w) (hle : len + n ≤ cap)
    (h3 : ∀ a, base = some a → (storeCells (a.add (len * sz)) xs.toList).run P w = .ok () w') (h4 : base = none → w' = w) :
    (Builtin.append_ #[t, u] ty #[.slice base len cap, xv]).run P w = .ok (.slice base (len + n) cap) w' := by
  obtain ⟨d, hd1, hd2⟩ := hu
  have hm : (match d with | .int _ => true | _ => false) = false := by cases d <;> first | rfl | exact absurd rfl (hd2 _)
  simp only [Builtin.append_, List.getElem?_toArray, List.getElem?_cons_zero, List.getElem?_cons_succ, Sem.run_bind, run_underlying A.ht, Result.andThen_ok, szT_run A.hs, run_underlying hd1, Sem.run_pure, hm, Bool.false_eq_true, if_false, h1, Bool.not_false, if_true]
  rw [if_pos hle]
  cases base with
  | none => have := h4 rfl; subst this; simp only [Sem.run_bind, h2, Result.andThen_ok, Sem.run_pure]
  | some a => simp only [Sem.run_bind, h2, Result.andThen_ok, h3 a rfl, Sem.run_pure]

/-- An append that makes a new row. -/
theorem append_grows {t u e ty : TypeId} {sz bytes : Nat} (A : AppT P t e sz bytes) (hu : ∃ d, P.underlying u = some d ∧ ∀ k, d ≠ .int k) {base : Option Addr} {len cap n : Nat} {xv : Value} {xs os : Array Value}
    (h1 : (Builtin.lenOf xv).run P w = .ok n w) (h2 : ∀ d, (Builtin.firstCells sz n xv).run P { w with drawn := d } = .ok xs { w with drawn := d }) (hlt : cap < len + n) (hb : (len + n) * bytes ≤ 2 ^ 47)
    (h3 : ∀ d, (Builtin.firstCells sz len (.slice base len cap)).run P { w with drawn := d } = .ok os { w with drawn := d }) :
    ∃ newCap w', ∃ rest : Array Value, len + n ≤ newCap ∧ rest.size = (newCap - (len + n)) * sz ∧ Pushed w w' (.cells (os ++ xs ++ rest) e) ∧
      (Builtin.append_ #[t, u] ty #[.slice base len cap, xv]).run P w = .ok (.slice (some ⟨w.heap.size, 0, none⟩) (len + n) newCap) w' := by
  obtain ⟨d, hd1, hd2⟩ := hu
  have hm : (match d with | .int _ => true | _ => false) = false := by cases d <;> first | rfl | exact absurd rfl (hd2 _)
  obtain ⟨i, z, hi, hbi, hz, hzs⟩ := A.hb
  have hn : len + n ≤ 2 ^ 47 := by
    have : 1 ≤ bytes := by have := A.hbz; omega
    calc len + n = (len + n) * 1 := by omega
      _ ≤ (len + n) * bytes := Nat.mul_le_mul_left _ this
      _ ≤ 2 ^ 47 := hb
  have hnext : ¬ (Builtin.nextslicecap (len + n) cap * bytes > 2 ^ 48) := by
    have := next_le (len + n) cap hlt
    have h5 : Builtin.nextslicecap (len + n) cap * bytes ≤ 2 * (len + n) * bytes := Nat.mul_le_mul_right _ this
    have h6 : 2 * (len + n) * bytes = 2 * ((len + n) * bytes) := by rw [Nat.mul_assoc]
    omega
  let nc := (Question.appendCap (len + n) cap e).cut (w.tape w.drawn (.appendCap (len + n) cap e))
  have hnc : len + n ≤ nc := by simp [nc, Question.cut]
  refine ⟨nc, { w with drawn := w.drawn + 1, heap := w.heap.push (.cells (os ++ xs ++ Builtin.zeroCells z.cells (nc - (len + n))) e) }, Builtin.zeroCells z.cells (nc - (len + n)), hnc, ?_, ⟨rfl, rfl, rfl, rfl⟩, ?_⟩
  · rw [zeroCells_size, hzs]
  · simp only [Builtin.append_, List.getElem?_toArray, List.getElem?_cons_zero, List.getElem?_cons_succ, Sem.run_bind, run_underlying A.ht, Result.andThen_ok, szT_run A.hs, run_underlying hd1, Sem.run_pure, hm, Bool.false_eq_true, if_false, h1, Bool.not_false, if_true]
    rw [if_neg (by omega)]
    simp only [Sem.run_bind, info_run hi, Result.andThen_ok, hbi]
    have hc1 : ¬ (((len + n : Nat) : Int) > IntKind.i64.max ∧ (False ∨ bytes = 0)) := by
      rintro ⟨_, h | h⟩
      · exact h
      · exact A.hbz h
    rw [if_neg hc1]
    simp only [info_run hi, Result.andThen_ok, hbi, if_neg hnext, Sem.run_bind, run_choose, Question.forced, Bool.false_eq_true, if_false, run_askRoom, h3, h2, zeroValue, hz, Sem.run_pure, newRow_run]
    rfl


/-- What the model appends: n elements, whose cells are xs. -/
structure AppTo (P : Program) (t u e ty : TypeId) (sz bytes n : Nat) (xv : Value) (xs : Array Value) (w : World) : Prop where
  fits : ∀ {base : Option Addr} {len cap : Nat} {w' : World}, len + n ≤ cap → (∀ a, base = some a → (storeCells (a.add (len * sz)) xs.toList).run P w = .ok () w') → (base = none → w' = w) →
    (Builtin.append_ #[t, u] ty #[.slice base len cap, xv]).run P w = .ok (.slice base (len + n) cap) w'
  grows : ∀ {base : Option Addr} {len cap : Nat} {os : Array Value}, cap < len + n → (len + n) * bytes ≤ 2 ^ 47 → (∀ d, (Builtin.firstCells sz len (.slice base len cap)).run P { w with drawn := d } = .ok os { w with drawn := d }) →
    ∃ newCap w', ∃ rest : Array Value, len + n ≤ newCap ∧ rest.size = (newCap - (len + n)) * sz ∧ Pushed w w' (.cells (os ++ xs ++ rest) e) ∧
      (Builtin.append_ #[t, u] ty #[.slice base len cap, xv]).run P w = .ok (.slice (some ⟨w.heap.size, 0, none⟩) (len + n) newCap) w'

theorem AppTo.plain {t u e ty : TypeId} {sz bytes : Nat} (A : AppT P t e sz bytes) (hu : ∃ d, P.underlying u = some d ∧ ∀ k, d ≠ .int k) {n : Nat} {xv : Value} {xs : Array Value}
    (h1 : (Builtin.lenOf xv).run P w = .ok n w) (h2 : (Builtin.firstCells sz n xv).run P w = .ok xs w) (h3 : ∀ d, (Builtin.firstCells sz n xv).run P { w with drawn := d } = .ok xs { w with drawn := d }) : AppTo P t u e ty sz bytes n xv xs w :=
  ⟨fun hle a b => append_fits A hu h1 h2 hle a b, fun hlt hb h => append_grows A hu h1 h3 hlt hb h⟩

theorem AppTo.zeros {t u e ty : TypeId} {sz bytes : Nat} (A : AppT P t e sz bytes) {k q : IntKind} (hu : P.underlying u = some (.int k)) {n : Nat} (hn : n < 2 ^ 63) (hnb : n * bytes ≤ 2 ^ 48) {z : Value} (hz : ∀ w, (zeroValue e).run P w = .ok z w) (hzs : z.cells.size = sz) :
    AppTo P t u e ty sz bytes n (.int q n) (if n * sz = 0 then #[] else Builtin.zeroCells z.cells n) w := by
  obtain ⟨i, z', hi, hbi, hz', hzs'⟩ := A.hb
  have hw : IntKind.i64.wrap (n : Int) = n := by
    have h1 : ((n : Int) % (2 ^ IntKind.i64.bits : Int)) = n := by show (n : Int) % 2 ^ 64 = n; omega
    have h2 : ¬ ((n : Int) ≥ (2 ^ (IntKind.i64.bits - 1) : Int)) := by show ¬ ((n : Int) ≥ 2 ^ 63); omega
    simp only [IntKind.wrap, h1, h2, decide_false, Bool.and_false, Bool.false_eq_true, if_false]
  have hl0 : ¬ ((n : Int) < 0) := by omega
  have hb48 : ¬ ((n : Int) * (bytes : Int) > 2 ^ 48) := by
    have : ((n * bytes : Nat) : Int) ≤ 2 ^ 48 := by exact_mod_cast hnb
    rw [Int.natCast_mul] at this; omega
  have happ : ∀ w', (if n * sz = 0 then pure #[] else do pure (Builtin.zeroCells (← zeroValue e).cells n) : Sem (Array Value)).run P w' = .ok (if n * sz = 0 then #[] else Builtin.zeroCells z.cells n) w' := by
    intro w'
    split
    · simp
    · simp [hz, Result.andThen]
  refine ⟨fun {base len cap w'} hle h3 h4 => ?_, fun {base len cap os} hlt hb h3 => ?_⟩
  · simp only [Builtin.append_, List.getElem?_toArray, List.getElem?_cons_zero, List.getElem?_cons_succ, Sem.run_bind, run_underlying A.ht, Result.andThen_ok, szT_run A.hs, run_underlying hu, Sem.run_pure, if_true, asInt, asIntOf, hw, if_neg hl0, info_run hi, hbi, if_neg hb48, Int.toNat_natCast, Bool.not_true, Bool.false_eq_true, if_false]
    rw [if_pos hle]
    cases base with
    | none => have := h4 rfl; subst this; simp only [Sem.run_bind, happ, Result.andThen_ok, Sem.run_pure]
    | some a => simp only [Sem.run_bind, happ, Result.andThen_ok, h3 a rfl, Sem.run_pure]
  · have hn2 : len + n ≤ 2 ^ 47 := by
      have : 1 ≤ bytes := by have := A.hbz; omega
      calc len + n = (len + n) * 1 := by omega
        _ ≤ (len + n) * bytes := Nat.mul_le_mul_left _ this
        _ ≤ 2 ^ 47 := hb
    have hnext : ¬ (Builtin.nextslicecap (len + n) cap * bytes > 2 ^ 48) := by
      have := next_le (len + n) cap hlt
      have h5 : Builtin.nextslicecap (len + n) cap * bytes ≤ 2 * (len + n) * bytes := Nat.mul_le_mul_right _ this
      have h6 : 2 * (len + n) * bytes = 2 * ((len + n) * bytes) := by rw [Nat.mul_assoc]
      omega
    let nc := (Question.appendCap (len + n) cap e).cut (w.tape w.drawn (.appendCap (len + n) cap e))
    have hnc : len + n ≤ nc := by simp [nc, Question.cut]
    refine ⟨nc, { w with drawn := w.drawn + 1, heap := w.heap.push (.cells (os ++ (if n * sz = 0 then #[] else Builtin.zeroCells z.cells n) ++ Builtin.zeroCells z.cells (nc - (len + n))) e) }, Builtin.zeroCells z.cells (nc - (len + n)), hnc, ?_, ⟨rfl, rfl, rfl, rfl⟩, ?_⟩
    · rw [zeroCells_size, hzs]
    · simp only [Builtin.append_, List.getElem?_toArray, List.getElem?_cons_zero, List.getElem?_cons_succ, Sem.run_bind, run_underlying A.ht, Result.andThen_ok, szT_run A.hs, run_underlying hu, Sem.run_pure, if_true, asInt, asIntOf, hw, if_neg hl0, info_run hi, hbi, if_neg hb48, Int.toNat_natCast, Bool.not_true, Bool.false_eq_true, if_false]
      rw [if_neg (by omega)]
      have hc1 : ¬ (((len + n : Nat) : Int) > IntKind.i64.max ∧ (True ∨ bytes = 0)) := by
        rintro ⟨h, _⟩
        simp only [IntKind.max_i64] at h; omega
      simp only [Sem.run_bind, info_run hi, Result.andThen_ok, hbi]
      rw [if_neg hc1]
      simp only [info_run hi, Result.andThen_ok, hbi, if_neg hnext, Sem.run_bind, run_choose, Question.forced, Bool.false_eq_true, if_false, run_askRoom, h3, happ, hz, Sem.run_pure, newRow_run]
      rfl

/-- What an operation that calls nothing does, in the model. -/
def StepOk (P : Program) (ρ : Operand → Value) (m : Nat → Loc) (ml : Nat → Nat) (dst : Option Nat) (s : St) (o : Oper) (w : World) (v : AV) (s' : St) : Prop :=
  ∃ m' ml' w', ((execOp ρ o).run P w = .ok (.value (conc m' ml' v)) w' ∨ ((execOp ρ o).run P w = .ok .skip w' ∧ v = undefA)) ∧
    Sim P m' ml' s'.loc s'.H w' ∧ Grow m ml s.loc s.H w m' ml' s'.loc s'.H w' ∧ vOk (good m' s'.H.n) LT v ∧ s'.env = s.env ∧ ∀ t, ml' t = ml t ∨ (dst = some t ∧ freeL t s.env = true)

theorem oldA_run (S : Sim P m ml loc H w) {id off len sz : Nat} {xs : List AV} (h : oldA H id off len sz = some xs) :
    (∀ d, (loadCells ((m id).at off) (len * sz)).run P { w with drawn := d } = .ok (concL m ml xs).toArray { w with drawn := d }) ∧ AV.okPL (good m H.n) xs ∧ xs.all AV.one = true ∧ xs.length = len * sz := by
  unfold oldA at h
  split at h
  · rename_i h0; subst h0
    cases h; simp [concL, AV.okPL, loadCells, loadCellsFrom]
  · obtain ⟨h1, h2, h3, h4⟩ := cutA_run (P := P) S h
    exact ⟨fun d => (cutA_run (P := P) (S.frame (w' := { w with drawn := d }) fun _ _ => rfl) h).1, h2, h3, h4⟩

theorem firstA_drawn (S : Sim P m ml loc H w) {sz n : Nat} {x : AV} {xs : List AV} (h : firstA H sz x = some (n, xs)) (d : Nat) :
    (Builtin.firstCells sz n (conc m ml x)).run P { w with drawn := d } = .ok (concL m ml xs).toArray { w with drawn := d } :=
  (firstA_run (P := P) (S.frame (w' := { w with drawn := d }) fun _ _ => rfl) h).2.1

theorem upd_conc (S : Sim P m ml loc H w) (l : Loc) {vs : List AV} (h : AV.okPL (good m H.n) vs) : concL (upd m H.n l) ml vs = concL m ml vs :=
  concL_congr ml ml (fun i k hi => upd_ne _ _ (Nat.ne_of_lt hi.1)) vs h

/-- A row made by an append. -/
theorem row_grown {st : Bool} (S : Sim P m ml loc H w) {os xs : List AV} {rest : Array Value} {e : TypeId} (hp : Pushed w w' (.cells ((concL m ml os).toArray ++ (concL m ml xs).toArray ++ rest) e)) :
    RowAt st m ml w' ⟨w.heap.size, 0, os.length + xs.length + rest.size⟩ (os ++ xs) := by
  have hsz : ((concL m ml os).toArray ++ (concL m ml xs).toArray ++ rest).size = os.length + xs.length + rest.size := by simp [concL_eq]
  have := rowAt_new0 (st := st) (m := m) (ml := ml) hp (cells := os ++ xs) (fun i v hi => ?_) (by rw [hsz]; simp)
  · rw [hsz] at this; exact this
  · have hlt := (List.getElem?_eq_some_iff.1 hi).1
    rw [Array.getElem?_append_left (by simp [concL_eq]; simpa using hlt)]
    have e : (concL m ml os).toArray ++ (concL m ml xs).toArray = ((os ++ xs).map (conc m ml)).toArray := by simp [concL_eq]
    rw [e]
    simp only [List.getElem?_toArray, List.getElem?_map, hi, Option.map_some]

theorem owned_dead {id i : Nat} {o : AObj} (hw : H.wf) (hi : H.get id = some o) (h : Owned (H.set id .dead) i) : Owned H i ∧ i ≠ id := by
  obtain ⟨x, h1, h2⟩ := h
  rw [AHeap.get_set hw (AHeap.get_lt hi hw)] at h1
  split at h1
  · cases h1; simp [AObj.owned] at h2
  · exact ⟨⟨x, h1, h2⟩, by assumption⟩

theorem ro_dead {id i : Nat} {o : AObj} (hw : H.wf) (hi : H.get id = some o) (h : IsRo (H.set id .dead) i) : IsRo H i ∧ i ≠ id := by
  obtain ⟨x, h1, h2⟩ := h
  rw [AHeap.get_set hw (AHeap.get_lt hi hw)] at h1
  split at h1
  · cases h1; simp [AObj.isRo] at h2
  · exact ⟨⟨x, h1, h2⟩, by assumption⟩

theorem dead_pres {id i : Nat} {o o' : AObj} (hw : H.wf) (hi : H.get id = some o) (h1 : i < ((H.set id .dead).alloc o').low) (h2 : i < H.n) : ((H.set id .dead).alloc o').get i = H.get i := by
  have hlt := AHeap.get_lt hi hw
  rw [AHeap.get_alloc, if_neg (by simp; omega), AHeap.get_set hw hlt, if_neg]
  simp only [AHeap.set, AHeap.alloc] at h1
  rintro rfl
  split at h1 <;> omega

theorem dead_ro {id i : Nat} {o o' : AObj} (hw : H.wf) (hi : H.get id = some o) (ho' : o'.isRo = false) (h : IsRo ((H.set id .dead).alloc o') i) : IsRo H i := by
  rw [IsRo.alloc_iff (AHeap.wf_set hw)] at h
  rcases h with ⟨_, h⟩ | h
  · rw [ho'] at h; cases h
  · exact (ro_dead hw hi h).1

theorem dead_low {id : Nat} {o' : AObj} : ((H.set id .dead).alloc o').low ≤ H.low := by
  simp only [AHeap.set, AHeap.alloc]
  split <;> omega

theorem Grow.of_alias {id : Nat} {o o' : AObj} {l : Loc} (hw : H.wf) (hi : H.get id = some o) (ho : o.owned = true) (ho' : o'.isRo = false) (h : Wrote w w' (m id).block) (hl : l.block = (m id).block) :
    Grow m ml loc H w (upd m H.n l) ml loc ((H.set id .dead).alloc o') w' := by
  refine ⟨by simp, fun i hi2 => upd_ne _ _ (by omega), by rw [h.size]; exact Nat.le_refl _, h.os, h.tape, h.output, fun b hb h1 h2 => h.other b fun e => h1 id ⟨o, hi, ho⟩ e.symm, ?_, fun t c ht => .inl ⟨c, ht, rfl⟩, dead_low, fun i h1 h2 => dead_pres hw hi h1 h2, fun i h => dead_ro hw hi ho' h⟩
  intro i hi2
  rw [Owned.alloc_iff (AHeap.wf_set hw)] at hi2
  rcases hi2 with ⟨rfl, _⟩ | hi2
  · exact .inl ⟨id, ⟨o, hi, ho⟩, by simp [hl]⟩
  · have := (owned_dead hw hi hi2).1
    exact .inl ⟨i, this, by rw [upd_ne _ _ (Nat.ne_of_lt (this.lt hw))]⟩

theorem Grow.of_dead_push {id : Nat} {o o' : AObj} {ob : Obj} {l : Loc} (hw : H.wf) (hi : H.get id = some o) (ho' : o'.isRo = false) (h : Pushed w w' ob) (hl : l.block = w.heap.size) :
    Grow m ml loc H w (upd m H.n l) ml loc ((H.set id .dead).alloc o') w' := by
  refine ⟨by simp, fun i hi2 => upd_ne _ _ (by omega), by rw [h.size]; omega, h.os, h.tape, h.output, fun b hb _ _ => h.old hb, ?_, fun t c ht => .inl ⟨c, ht, rfl⟩, dead_low, fun i h1 h2 => dead_pres hw hi h1 h2, fun i h => dead_ro hw hi ho' h⟩
  intro i hi2
  rw [Owned.alloc_iff (AHeap.wf_set hw)] at hi2
  rcases hi2 with ⟨rfl, _⟩ | hi2
  · exact .inr (by simp [hl])
  · have := (owned_dead hw hi hi2).1
    exact .inl ⟨i, this, by rw [upd_ne _ _ (Nat.ne_of_lt (this.lt hw))]⟩

set_option maxHeartbeats 400000 in
theorem appendX_run {t u e ty : TypeId} {sz bytes n : Nat} {xv : Value} {xs : List AV} (A : AppT P t e sz bytes) (T : AppTo P t u e ty sz bytes n xv (concL m ml xs).toArray w) (x3 : AV.okPL (good m H.n) xs) (x4 : xs.all AV.one = true) (x5 : xs.length = n * sz) (S : Sim P m ml loc H w) {a v : AV} {H' : AHeap} (ha : vOk (good m H.n) LT a) (h : appendX H sz bytes n xs a = some (v, H')) :
    ∃ m' w', (Builtin.append_ #[t, u] ty #[conc m ml a, xv]).run P w = .ok (conc m' ml v) w' ∧ Sim P m' ml loc H' w' ∧ Grow m ml loc H w m' ml loc H' w' ∧ vOk (good m' H'.n) LT v := by
  unfold appendX at h
  -- a row that is made
  have G : ∀ {base : Option Addr} {len cap : Nat} {os : List AV}, cap < len + n → (len + n) * bytes ≤ 2 ^ 47 → (∀ d, (Builtin.firstCells sz len (.slice base len cap)).run P { w with drawn := d } = .ok (concL m ml os).toArray { w with drawn := d }) →
      os.length = len * sz → AV.okPL (good m H.n) os → os.all AV.one = true →
      ∃ l w', l.block = w.heap.size ∧ (∀ st, RowAt st m ml w' l (os ++ xs)) ∧ (∃ o, Pushed w w' o) ∧ (∃ q, l.room = q * sz ∧ len + n ≤ q ∧ l.base = 0 ∧
        (Builtin.append_ #[t, u] ty #[.slice base len cap, xv]).run P w = .ok (.slice (some (l.at 0)) (len + n) q) w') := by
    intro base len cap os hlt hb h3 hos ho1 ho2
    obtain ⟨nc, w', rest, k1, k2, k3, k4⟩ := T.grows hlt hb h3
    refine ⟨⟨w.heap.size, 0, os.length + xs.length + rest.size⟩, w', rfl, fun st => row_grown S k3, ⟨_, k3⟩, nc, ?_, k1, rfl, ?_⟩
    · simp only [hos, x5, k2]
      rw [← Nat.add_mul, ← Nat.add_mul]
      congr 1; omega
    · rw [k4]; rfl
  have okx : ∀ os : List AV, AV.okPL (good m H.n) os → os.all AV.one = true → (AObj.row false sz (os ++ xs)).okP (good m H.n) := by
    intro os h1 h2
    refine ⟨(okPL_iff _ _).2 fun v hv => ?_, by simp [h2, x4]⟩
    rcases List.mem_append.1 hv with hv | hv
    · exact (okPL_iff _ _).1 h1 v hv
    · exact (okPL_iff _ _).1 x3 v hv
  split at h
  · -- nil
    split at h
    · rename_i h0
      cases h
      subst h0
      refine ⟨m, w, ?_, S, .refl .., .of (by simp [AV.okP])⟩
      simp only [conc]
      exact T.fits (Nat.le_refl _) (fun a h => by cases h) (fun _ => rfl)
    · rename_i h0
      split at h
      · rename_i hb
        cases h
        obtain ⟨l, w', g1, g2, ⟨o, g3⟩, q, g4, g5, g6, g7⟩ := G (base := none) (len := 0) (cap := 0) (os := []) (by omega) (by simpa using hb) (fun d => by simp [Builtin.firstCells, concL]) (by simp) (by simp [AV.okPL]) rfl
        simp only [Nat.zero_add] at g5 g7
        have S1 : Sim P m ml loc H w' := S.frame fun b hb => g3.old (S.used_lt hb)
        refine ⟨upd m H.n l, w', ?_, S1.add_obj (o := .row false sz xs) (g2 _) (okx [] (by simp [AV.okPL]) rfl) (fun b hb e => by have := S.used_lt hb; omega) rfl, .of_push S.wf rfl g3 g1, .of ?_⟩
        · simp only [conc]
          rw [g7]
          simp only [upd_same, g4, Nat.sub_zero]
          rw [Nat.mul_div_cancel _ (by have := A.hnz; omega)]
        · simp only [AV.okP, good, AHeap.alloc_n, upd_same, g4, Nat.zero_add, Nat.max_self]
          exact ⟨by omega, Nat.mul_le_mul_right _ g5⟩
      · cases h
  · -- a slice without room, told
    split at h
    · rename_i h0
      cases h
      subst h0
      refine ⟨m, w, ?_, S, .refl .., ha⟩
      simp only [conc]
      have : xs = [] := List.length_eq_zero_iff.1 (by rw [x5]; simp)
      subst this
      exact T.fits (Nat.le_refl _) (fun a h => by simp [concL, storeCells]) (fun h => by cases h)
    · rename_i b0 off0 spot0 h0
      split at h
      · rename_i hb
        cases h
        obtain ⟨l, w', g1, g2, ⟨o, g3⟩, q, g4, g5, g6, g7⟩ := G (base := some ⟨b0, off0, spot0⟩) (len := 0) (cap := 0) (os := []) (by omega) (by simpa using hb) (fun d => by simp [Builtin.firstCells, concL, loadCells, loadCellsFrom]) (by simp) (by simp [AV.okPL]) rfl
        simp only [Nat.zero_add] at g5 g7
        have S1 : Sim P m ml loc H w' := S.frame fun b hb => g3.old (S.used_lt hb)
        refine ⟨upd m H.n l, w', ?_, S1.add_obj (o := .row false sz xs) (g2 _) (okx [] (by simp [AV.okPL]) rfl) (fun b hb e => by have := S.used_lt hb; omega) rfl, .of_push S.wf rfl g3 g1, .of ?_⟩
        · simp only [conc]
          rw [g7]
          simp only [upd_same, g4, Nat.sub_zero]
          rw [Nat.mul_div_cancel _ (by have := A.hnz; omega)]
        · simp only [AV.okP, good, AHeap.alloc_n, upd_same, g4, Nat.zero_add, Nat.max_self]
          exact ⟨by omega, Nat.mul_le_mul_right _ g5⟩
      · cases h
  · -- the empty rest of an open slice
    split at h
    · rename_i h0
      cases h
      subst h0
      refine ⟨m, w, ?_, S, .refl .., ha⟩
      simp only [conc]
      have : xs = [] := List.length_eq_zero_iff.1 (by rw [x5]; simp)
      subst this
      exact T.fits (Nat.zero_le _) (fun a h => by simp [concL, storeCells]) (fun h => by cases h)
    · cases h
  · -- a capacity that is known
    rename_i id off len c
    have hg := ha.noL rfl
    simp only [AV.okP] at hg
    split at h
    · rename_i h0
      cases h
      obtain ⟨rfl, hlc⟩ := h0
      refine ⟨m, w, ?_, S, .refl .., ha⟩
      simp only [conc]
      have : xs = [] := List.length_eq_zero_iff.1 (by rw [x5]; simp)
      subst this
      exact T.fits hlc (fun a h => by simp [concL, storeCells]) (fun h => by cases h)
    · split at h
      · cases h
      · rename_i hb
        split at h
        · rename_i hfit
          split at h
          · rename_i e' cells hi
            split at h
            · rename_i hle
              cases h
              have ho := S.obj id _ hi
              have hok := S.ok id _ hi
              obtain ⟨w', r1, r2, r3⟩ := rowAt_wr (P := P) ho (off := off + len * sz) (vs := xs) (by rw [x5, Nat.add_assoc, ← Nat.add_mul]; exact hle) x4
              refine ⟨m, w', ?_, S.set_obj hi rfl r3 ⟨wr_okPL x3 hok.1, wr_one x4 hok.2⟩ rfl r2.other, .of_set S.wf hi rfl rfl r2, .of (by simp only [AV.okP]; exact hg)⟩
              simp only [conc]
              exact T.fits hfit (fun a h => by cases h; rw [Loc.at_add]; exact r1) (fun h => by cases h)
            · cases h
          · cases h
        · rename_i hfit
          split at h
          · rename_i os hos
            cases h
            obtain ⟨o1, o2, o3, o4⟩ := oldA_run (P := P) S hos
            obtain ⟨l, w', g1, g2, ⟨o, g3⟩, q, g4, g5, g6, g7⟩ := G (base := some ((m id).at off)) (len := len) (cap := c) (os := os) (by omega) (by omega)
              (fun d => by simp only [Builtin.firstCells]; exact o1 d) o4 o2 o3
            have S1 : Sim P m ml loc H w' := S.frame fun b hb => g3.old (S.used_lt hb)
            refine ⟨upd m H.n l, w', ?_, S1.add_obj (o := .row false sz (os ++ xs)) (g2 _) (okx os o2 o3) (fun b hb e => by have := S.used_lt hb; omega) rfl, .of_push S.wf rfl g3 g1, .of ?_⟩
            · simp only [conc]
              rw [g7]
              simp only [upd_same, g4, Nat.sub_zero]
              rw [Nat.mul_div_cancel _ (by have := A.hnz; omega)]
            · simp only [AV.okP, good, AHeap.alloc_n, upd_same, g4, Nat.zero_add, Nat.max_self]
              exact ⟨by omega, Nat.mul_le_mul_right _ g5⟩
          · cases h
  · -- an open slice
    rename_i id off len kc z
    have hg := ha.noL rfl
    simp only [AV.okP] at hg
    split at h
    · cases h
    rename_i hzz
    simp only [ne_eq, Decidable.not_not] at hzz
    subst hzz
    have hz := A.hnz
    split at h
    · rename_i h0
      cases h
      subst h0
      refine ⟨m, w, ?_, S, .refl .., ha⟩
      simp only [conc]
      have : xs = [] := List.length_eq_zero_iff.1 (by rw [x5]; simp)
      subst this
      have hmx : len * z ≤ max len kc * z := Nat.mul_le_mul_right _ (Nat.le_max_left _ _)
      have hle : len ≤ ((m id).room - off) / z := (Nat.le_div_iff_mul_le (by omega)).2 (by have := hg.2; omega)
      exact T.fits hle (fun a h => by simp [concL, storeCells]) (fun h => by cases h)
    · split at h
      · cases h
      · rename_i hb
        simp only [Nat.not_lt] at hb
        split at h
        · rename_i e' cells hi
          have ho := S.obj id _ hi
          have hok := S.ok id _ hi
          split at h
          · rename_i hle
            cases h
            obtain ⟨w', r1, r2, r3⟩ := rowAt_wr (P := P) ho (off := off + len * z) (vs := xs) (by rw [x5, Nat.add_assoc, ← Nat.add_mul]; exact hle) x4
            have hroom : off + (len + n) * z ≤ (m id).room := by obtain ⟨arr, _, _, h3, _⟩ := ho; omega
            have hfit : len + n ≤ ((m id).room - off) / z := (Nat.le_div_iff_mul_le (by omega)).2 (by omega)
            refine ⟨m, w', ?_, S.set_obj hi rfl r3 ⟨wr_okPL x3 hok.1, wr_one x4 hok.2⟩ rfl r2.other, .of_set S.wf hi rfl rfl r2, .of ?_⟩
            · simp only [conc]
              exact T.fits hfit (fun a h => by cases h; rw [Loc.at_add]; exact r1) (fun h => by cases h)
            · simp only [AV.okP, good]; refine ⟨hg.1, ?_⟩; rw [show max (len + n) (max kc (len + n)) = max (len + n) kc by omega]; rcases Nat.le_total kc (len + n) with hk | hk
              · rw [Nat.max_eq_left hk]; exact hroom
              · rw [Nat.max_eq_right hk]; have hmx : kc * z ≤ max len kc * z := Nat.mul_le_mul_right _ (Nat.le_max_right _ _); have := hg.2; omega
          · rename_i hnle
            split at h
            · rename_i hle0
              obtain ⟨hle, htag⟩ := hle0
              cases h
              have hos : cutA H id off (len * z) = some ((cells.drop off).take (len * z)) := by simp [cutA, hi, hle]
              obtain ⟨o1, o2, o3, o4⟩ := cutA_run (P := P) S hos
              have hlt := AHeap.get_lt hi S.wf
              by_cases hfit : len + n ≤ ((m id).room - off) / z
              · -- in place
                have hroom : (len + n) * z ≤ (m id).room - off := (Nat.le_div_iff_mul_le (by omega)).1 hfit
                obtain ⟨arr, e1, e2, e3, e4⟩ := ho
                obtain ⟨w', arr', r1, r2, r3, r4⟩ := store_run P (l := m id) (off := off + len * z) (vs := concL m ml xs) e1 (by simp only [concL_eq, List.length_map, x5]; rw [Nat.add_mul] at hroom; omega) (oneCells_conc x4)
                have S1 : Sim P m ml loc (H.set id .dead) w' := S.set_obj hi rfl trivial trivial rfl r2.other
                have hsz : arr'.size = arr.size := by
                  rw [← Array.length_toList, r4, wr_length _ _ _ (by simp only [concL_eq, List.length_map, x5, Array.length_toList]; rw [Nat.add_mul] at hroom; omega), Array.length_toList]
                have r3' : Unfrozen (decide (z ≠ 1)) w' (m id).block arr' := by
                  obtain ⟨ty, fr, u1, u2⟩ := r3
                  refine ⟨ty, fr, u1, fun i hi => u2 i (hi.imp (fun h => h) fun ⟨h1, h2⟩ => ⟨?_, h2⟩)⟩
                  simp only [decide_eq_true_eq] at h1 ⊢
                  exact fun he => h1 (htag he)
                have hrow : RowAt (decide (z ≠ 1)) m ml w' ⟨(m id).block, (m id).base + off, (m id).room - off⟩ ((cells.drop off).take (len * z) ++ xs) := by
                  refine ⟨arr', r3', by simp only; rw [hsz]; rw [Nat.add_mul] at hroom; omega, by simp only [List.length_append, o4, x5]; rw [Nat.add_mul] at hroom; omega, ?_⟩
                  intro i v hi
                  simp only
                  rw [← Array.getElem?_toList, r4, wr_get _ _ _ (by simp only [concL_eq, List.length_map, x5, Array.length_toList]; rw [Nat.add_mul] at hroom; omega)]
                  rw [List.getElem?_append, o4] at hi
                  by_cases a1 : i < len * z
                  · have a2 : (m id).base + off + i < (m id).base + (off + len * z) := by omega
                    simp only [a1, a2, if_true] at hi ⊢
                    rw [List.getElem?_take] at hi
                    simp only [a1, if_true, List.getElem?_drop] at hi
                    rw [Array.getElem?_toList, Nat.add_assoc]
                    exact e4 _ _ hi
                  · have a2 : ¬ (m id).base + off + i < (m id).base + (off + len * z) := by omega
                    simp only [a1, if_false] at hi
                    have hlt2 := (List.getElem?_eq_some_iff.1 hi).1
                    have a3 : (m id).base + off + i < (m id).base + (off + len * z) + (concL m ml xs).length := by simp only [concL_eq, List.length_map]; omega
                    simp only [a2, a3, if_true, if_false]
                    have e : (m id).base + off + i - ((m id).base + (off + len * z)) = i - len * z := by omega
                    rw [e, concL_eq, List.getElem?_map, hi]
                    rfl
                have hO : Owned H id := ⟨_, hi, rfl⟩
                have hget : ∀ i, (H.set id .dead).get i = if i = id then some .dead else H.get i := fun i => AHeap.get_set S.wf hlt
                have S2 : Sim P (upd m H.n ⟨(m id).block, (m id).base + off, (m id).room - off⟩) ml loc ((H.set id .dead).alloc (.row false z ((cells.drop off).take (len * z) ++ xs))) w' := by
                  refine S1.add_obj (l := ⟨(m id).block, (m id).base + off, (m id).room - off⟩) hrow (okx _ o2 o3) ?_ rfl
                  rintro b (⟨i, hi2, rfl⟩ | ⟨t', c', ht', rfl⟩)
                  · intro eb
                    rcases hi2 with ⟨o, h1, h2⟩ | ⟨o, h1, h2⟩
                    · rw [hget] at h1
                      split at h1
                      · cases h1; simp [AObj.owned] at h2
                      · rename_i hne; exact hne (S.inj i id ⟨o, h1, h2⟩ hO eb)
                    · rw [hget] at h1
                      split at h1
                      · cases h1; simp [AObj.isRo] at h2
                      · exact S.sep id i hO ⟨o, h1, h2⟩ eb.symm
                  · exact fun eb => S.locsep t' c' id ht' (.inl hO) eb.symm
                refine ⟨_, w', ?_, S2, ?_, .of ?_⟩
                · simp only [conc]
                  have e0 : (upd m H.n ⟨(m id).block, (m id).base + off, (m id).room - off⟩ H.n).at 0 = (m id).at off := by simp [Loc.at]
                  rw [e0, upd_same]
                  simp only [Nat.sub_zero]
                  exact T.fits hfit (fun a h => by cases h; rw [Loc.at_add]; exact r1) (fun h => by cases h)
                · exact .of_alias S.wf hi rfl rfl r2 rfl
                · simp only [AV.okP, good, AHeap.alloc_n, AHeap.set_n, upd_same, Nat.zero_add, Nat.max_self]
                  exact ⟨by omega, hroom⟩
              · -- a new row
                obtain ⟨l, w', g1, g2, ⟨o, g3⟩, q, g4, g5, g6, g7⟩ := G (base := some ((m id).at off)) (len := len) (cap := ((m id).room - off) / z) (os := (cells.drop off).take (len * z)) (by omega) hb
                  (fun d => by simp only [Builtin.firstCells]; exact (cutA_run (P := P) (S.frame (w' := { w with drawn := d }) fun _ _ => rfl) hos).1) o4 o2 o3
                have S1 : Sim P m ml loc H w' := S.frame fun b hb => g3.old (S.used_lt hb)
                have S1' : Sim P m ml loc (H.set id .dead) w' := S1.set_obj hi rfl trivial trivial rfl (fun _ _ => rfl)
                refine ⟨upd m H.n l, w', ?_, S1'.add_obj (o := .row false z ((cells.drop off).take (len * z) ++ xs)) (g2 _) (okx _ o2 o3) ?_ rfl, ?_, .of ?_⟩
                · simp only [conc]
                  rw [g7]
                  simp only [AHeap.set_n, upd_same, g4, Nat.sub_zero]
                  rw [Nat.mul_div_cancel _ (by omega)]
                · rintro b (⟨i, hi2, rfl⟩ | ⟨t', c', ht', rfl⟩) e
                  · have : UsedB m ml loc H (m i).block := .inl ⟨i, hi2.imp (fun h => (owned_dead S.wf hi h).1) fun h => (ro_dead S.wf hi h).1, rfl⟩
                    have := S.used_lt this; omega
                  · have := S.used_lt (.inr ⟨t', c', ht', rfl⟩); omega
                · exact .of_dead_push S.wf hi rfl g3 g1
                · simp only [AV.okP, good, AHeap.alloc_n, AHeap.set_n, upd_same, g4, Nat.zero_add, Nat.max_self]
                  exact ⟨by omega, Nat.mul_le_mul_right _ g5⟩
            · cases h
        · cases h
  · cases h


theorem appendA_run {t u e ty : TypeId} {sz bytes : Nat} (A : AppT P t e sz bytes) (hu : ∃ d, P.underlying u = some d ∧ ∀ k, d ≠ .int k) (S : Sim P m ml loc H w) {a x v : AV} {H' : AHeap} (ha : vOk (good m H.n) LT a) (h : appendA H sz bytes a x = some (v, H')) :
    ∃ m' w', (Builtin.append_ #[t, u] ty #[conc m ml a, conc m ml x]).run P w = .ok (conc m' ml v) w' ∧ Sim P m' ml loc H' w' ∧ Grow m ml loc H w m' ml loc H' w' ∧ vOk (good m' H'.n) LT v := by
  unfold appendA at h
  split at h
  · cases h
  rename_i n xs hx
  obtain ⟨x1, x2, x3, x4, x5⟩ := firstA_run (P := P) S hx
  exact appendX_run A (.plain A hu x1 x2 fun d => firstA_drawn (P := P) S hx d) x3 x4 x5 S ha h

theorem appendZ_run {t u e ty : TypeId} {sz bytes : Nat} {k : IntKind} {z : Value} {zl : List AV} (A : AppT P t e sz bytes) (hu : P.underlying u = some (.int k)) (hz : ∀ w, (zeroValue e).run P w = .ok z w) (hzl : leafs z.cells.toList = some zl) (hzs : z.cells.size = sz)
    (S : Sim P m ml loc H w) {a x v : AV} {H' : AHeap} (ha : vOk (good m H.n) LT a) (h : appendZ H sz bytes zl a x = some (v, H')) :
    ∃ m' w', (Builtin.append_ #[t, u] ty #[conc m ml a, conc m ml x]).run P w = .ok (conc m' ml v) w' ∧ Sim P m' ml loc H' w' ∧ Grow m ml loc H w m' ml loc H' w' ∧ vOk (good m' H'.n) LT v := by
  unfold appendZ at h
  split at h
  · rename_i l
    split at h
    · rename_i hl
      obtain ⟨f1, f2, f3⟩ := leafs_conc hzl m ml (good m H.n)
      have hzlen : zl.length = sz := by rw [← hzs, ← Array.length_toList, ← f1]; simp [concL_eq]
      obtain ⟨k1, k2⟩ := zerosA_ok f2 f3 l.toNat
      have hsz := A.hnz
      -- a bound on how many there are
      have hb : l.toNat = 0 ∨ l.toNat * bytes ≤ 2 ^ 47 := by
        by_cases h0 : l.toNat = 0
        · exact .inl h0
        · right
          unfold appendX at h
          split at h <;> (try simp only [h0, if_false, false_and] at h)
          · split at h
            · assumption
            · cases h
          · split at h
            · assumption
            · cases h
          · cases h
          · split at h
            · cases h
            · rename_i hb; refine Nat.le_trans ?_ (Nat.not_lt.1 hb); exact Nat.mul_le_mul_right _ (Nat.le_add_left _ _)
          · split at h
            · cases h
            · split at h
              · cases h
              · rename_i hb; refine Nat.le_trans ?_ (Nat.not_lt.1 hb); exact Nat.mul_le_mul_right _ (Nat.le_add_left _ _)
          · cases h
      have hxs : (if l.toNat * sz = 0 then #[] else Builtin.zeroCells z.cells l.toNat) = (concL m ml (zerosA zl l.toNat)).toArray := by
        split
        · rename_i h0
          have : l.toNat = 0 := by rcases Nat.mul_eq_zero.1 h0 with h | h; exact h; exact absurd h hsz
          rw [this]; simp [zerosA, concL]
        · have := zeros_conc (m := m) (ml := ml) (za := z.cells) f1.symm (by omega) l.toNat
          apply Array.ext'
          rw [← this, Builtin.zeroCells]
          simp [hzs, hzlen]
      have T := AppTo.zeros (w := w) (ty := ty) A (q := .i64) hu (n := l.toNat) (by omega) (by rcases hb with h | h; rw [h]; simp; omega) hz hzs
      rw [hxs, Int.toNat_of_nonneg hl.1] at T
      exact appendX_run A T k1 k2 (by rw [zerosA_length, hzlen]) S ha h
    · cases h
  · cases h

theorem lenX_run {x : AV} {n : Nat} (h : lenX x = some n) (w : World) : (Builtin.lenOf (conc m ml x)).run P w = .ok n w := by
  unfold lenX at h
  split at h <;> cases h <;> simp [conc, Builtin.lenOf, bsize]

theorem firstN_run (S : Sim P m ml loc H w) {sz n : Nat} {x : AV} {xs : List AV} (h : firstN H sz n x = some xs) :
    (Builtin.firstCells sz n (conc m ml x)).run P w = .ok (concL m ml xs).toArray w ∧ AV.okPL (good m H.n) xs ∧ xs.all AV.one = true ∧ xs.length = n * sz := by
  unfold firstN at h
  split at h
  · obtain ⟨h1, h2, h3, h4⟩ := cutA_run (P := P) S h
    exact ⟨by simp only [conc, Builtin.firstCells]; exact h1, h2, h3, h4⟩
  · obtain ⟨h1, h2, h3, h4⟩ := cutA_run (P := P) S h
    exact ⟨by simp only [conc, Builtin.firstCells]; exact h1, h2, h3, h4⟩
  · rename_i l
    split at h
    · rename_i h1
      cases h
      obtain ⟨rfl, hle⟩ := h1
      refine ⟨?_, ?_, ?_, by simp; omega⟩
      · simp only [conc, Builtin.firstCells, extract_mk, Sem.run_pure]
        congr 1
        simp only [List.drop_zero, Nat.sub_zero, concL_eq, List.map_toArray, List.map_map]
        congr 1
      · rw [okPL_iff]; intro v hv; rw [List.mem_map] at hv; obtain ⟨b, _, rfl⟩ := hv; simp [AV.okP]
      · rw [List.all_eq_true]; intro v hv; rw [List.mem_map] at hv; obtain ⟨b, _, rfl⟩ := hv; rfl
    · cases h
  · cases h

theorem copyTo_run {t e ty : TypeId} {ts : Array TypeId} {sz lx len id off cap : Nat} (hts : ts[0]? = some t) (ht : P.underlying t = some (.slice e)) (hs : szT P e = some sz) (S : Sim P m ml s.loc s.H w) {x v : AV} (hx : lenX x = some lx) (h : copyTo s sz (min lx len) id off x = some (v, s')) :
    ∃ w', (Builtin.copy_ ts ty #[.slice (some ((m id).at off)) len cap, conc m ml x]).run P w = .ok (conc m ml v) w' ∧ Sim P m ml s'.loc s'.H w' ∧ Grow m ml s.loc s.H w m ml s'.loc s'.H w' ∧ v.okP (good m s'.H.n) ∧ s'.env = s.env := by
  unfold copyTo at h
  have hl := lenX_run (P := P) (m := m) (ml := ml) hx w
  split at h
  · rename_i h0
    cases h
    refine ⟨w, ?_, S, .refl .., by simp [AV.okP], rfl⟩
    have hf : (Builtin.firstCells sz 0 (conc m ml x)).run P w = .ok #[] w := by
      unfold lenX at hx
      split at hx <;> first | (cases hx; done) | simp [conc, Builtin.firstCells, loadCells, loadCellsFrom]
    have h0' : Nat.min lx len = 0 := h0
    simp only [Builtin.copy_, hts, List.getElem?_toArray, List.getElem?_cons_zero, List.getElem?_cons_succ, Sem.run_bind, run_underlying ht, Result.andThen_ok, hl, szT_run hs, h0', hf]
    simp [storeCells, goInt, conc]
  · split at h
    · rename_i xs e' cells hxs hi
      split at h
      · rename_i hle
        cases h
        obtain ⟨f1, f2, f3, f4⟩ := firstN_run (P := P) S hxs
        have ho := S.obj id _ hi
        have hok := S.ok id _ hi
        obtain ⟨w', r1, r2, r3⟩ := rowAt_wr (P := P) ho (off := off) (vs := xs) (by rw [f4]; exact hle) f3
        refine ⟨w', ?_, S.set_obj hi rfl r3 ⟨wr_okPL f2 hok.1, wr_one f3 hok.2⟩ rfl r2.other, .of_set S.wf hi rfl rfl r2, by simp [AV.okP], rfl⟩
        have hmn : Nat.min lx len = min lx len := rfl
        simp only [Builtin.copy_, hts, List.getElem?_toArray, List.getElem?_cons_zero, List.getElem?_cons_succ, Sem.run_bind, run_underlying ht, Result.andThen_ok, hl, szT_run hs, hmn, f1, r1, Sem.run_pure, goInt, conc]
      · cases h
    · cases h

theorem copyA_run {t e ty : TypeId} {ts : Array TypeId} {sz : Nat} (hts : ts[0]? = some t) (ht : P.underlying t = some (.slice e)) (hs : szT P e = some sz) (S : Sim P m ml s.loc s.H w) {d x v : AV} (h : copyA s sz d x = some (v, s')) :
    ∃ w', (Builtin.copy_ ts ty #[conc m ml d, conc m ml x]).run P w = .ok (conc m ml v) w' ∧ Sim P m ml s'.loc s'.H w' ∧ Grow m ml s.loc s.H w m ml s'.loc s'.H w' ∧ v.okP (good m s'.H.n) ∧ s'.env = s.env := by
  have zero : ∀ {lx : Nat} {base : Option Addr} {cap : Nat}, lenX x = some lx → (Builtin.copy_ ts ty #[.slice base 0 cap, conc m ml x]).run P w = .ok (.int .i64 0) w := by
    intro lx base cap hx
    have hl := lenX_run (P := P) (m := m) (ml := ml) hx w
    have hf : (Builtin.firstCells sz 0 (conc m ml x)).run P w = .ok #[] w := by
      unfold lenX at hx
      split at hx <;> first | (cases hx; done) | simp [conc, Builtin.firstCells, loadCells, loadCellsFrom]
    have h0' : Nat.min lx 0 = 0 := Nat.min_zero _
    simp only [Builtin.copy_, hts, List.getElem?_toArray, List.getElem?_cons_zero, List.getElem?_cons_succ, Sem.run_bind, run_underlying ht, Result.andThen_ok, hl, szT_run hs, h0', hf]
    cases base <;> simp [storeCells, goInt]
  unfold copyA at h
  split at h
  · rename_i hx; cases h; exact ⟨w, by simp only [conc]; exact zero hx, S, .refl .., by simp [AV.okP], rfl⟩
  · rename_i hx; cases h; exact ⟨w, by simp only [conc]; exact zero hx, S, .refl .., by simp [AV.okP], rfl⟩
  · rename_i hx; cases h; exact ⟨w, by simp only [conc]; exact zero hx, S, .refl .., by simp [AV.okP], rfl⟩
  · rename_i hx; simp only [conc]; exact copyTo_run hts ht hs S hx h
  · rename_i hx; simp only [conc]; exact copyTo_run hts ht hs S hx h
  · cases h

theorem u8s_conc : ∀ {cs : List AV} {l : List UInt8}, u8s cs = some l → ∃ ns : List Int, concL m ml cs = ns.map (Value.int .u8) ∧ ∀ b : ByteArray, ns.foldl (fun r n => r.push (UInt8.ofNat n.toNat)) b = ⟨b.data ++ l.toArray⟩
  | [], l, h => by cases h; exact ⟨[], rfl, fun b => by simp⟩
  | c :: r, l, h => by
    cases c <;> try (cases h; done)
    rename_i q n
    cases q <;> try (cases h; done)
    simp only [u8s, Option.map_eq_some_iff] at h
    obtain ⟨l', h', rfl⟩ := h
    obtain ⟨ns, h1, h2⟩ := u8s_conc h'
    refine ⟨n :: ns, by simp [concL, conc, h1], fun b => ?_⟩
    rw [List.foldl_cons, h2]
    apply ByteArray.ext
    simp [ByteArray.push]
theorem bytesA_run {sr d e : TypeId} {x : AV} {l : List UInt8} (S : Sim P m ml loc H w) (hs : P.underlying sr = some (.slice e)) (he : P.underlying e = some (.int .u8)) (hd : P.underlying d = some .string) (h : bytesA H x = some l) :
    (convert sr d (conc m ml x)).run P w = .ok (.string ⟨l.toArray⟩) w := by
  have go : ∀ {a : Addr} {n c : Nat} {xs : List AV}, (loadCells a (n * 1)).run P w = .ok (concL m ml xs).toArray w → u8s xs = some l → (convert sr d (.slice (some a) n c)).run P w = .ok (.string ⟨l.toArray⟩) w := by
    intro a n c xs h1 h2
    obtain ⟨ns, h3, h4⟩ := u8s_conc (m := m) (ml := ml) h2
    rw [run_convert_bytes_string w sr d e _ _ _ hs he hd, run_bytesToString w a n c ns (by rw [← h3]; simpa using h1), h4]
    congr 2
    simp
  unfold bytesA at h
  split at h
  · cases h
    simp only [conc]
    rw [run_convert_bytes_string w sr d e _ _ _ hs he hd]
    simp [Conv.bytesToString]; rfl
  · cases h
    simp only [conc]
    exact go (xs := []) (by simp [loadCells, loadCellsFrom, concL]) rfl
  · cases h
    simp only [conc]
    exact go (xs := []) (by simp [loadCells, loadCellsFrom, concL]) rfl
  · rename_i id off len c
    obtain ⟨⟨n, xs⟩, h1, h2⟩ := Option.bind_eq_some_iff.1 h
    obtain ⟨f1, f2, _⟩ := firstA_run (P := P) S h1
    have hn : n = len := by
      simp only [conc, Builtin.lenOf] at f1
      simpa using f1.symm
    subst hn
    simp only [conc, Builtin.firstCells] at f2 ⊢
    exact go f2 h2
  · rename_i id off len kc z
    obtain ⟨⟨n, xs⟩, h1, h2⟩ := Option.bind_eq_some_iff.1 h
    obtain ⟨f1, f2, _⟩ := firstA_run (P := P) S h1
    have hn : n = len := by
      simp only [conc, Builtin.lenOf] at f1
      simpa using f1.symm
    subst hn
    simp only [conc, Builtin.firstCells] at f2 ⊢
    exact go f2 h2
  · cases h
/-- Two pointers to cells of our own. -/
theorem ptrEqA_run (S : Sim P m ml loc H w) {t e : TypeId} {a b : AV} {r : Bool} (ht : P.underlying t = some (.pointer e)) (hs : ∃ k, szT P e = some (k + 1)) (h : ptrEqA H a b = some r) : (Op.equal t (conc m ml a) (conc m ml b)).run P w = .ok r w := by
  obtain ⟨k, hk⟩ := hs
  have d : Op.maxDepth = 9999 + 1 := rfl
  unfold Op.equal
  rw [d]
  generalize 9999 = d
  unfold ptrEqA at h
  split at h
  · cases h; simp only [conc]; rw [eqR_ptrL w d _ ht]; rfl
  · cases h; simp only [conc]; rw [eqR_ptrL w d _ ht]; rfl
  · cases h; simp only [conc]; rw [eqR_ptrL w d _ ht]; rfl
  · cases h; simp only [conc]; rw [eqR_ptrR w d _ ht]
  · cases h; simp only [conc]; rw [eqR_ptrR w d _ ht]
  · rename_i i x j y
    split at h
    · rename_i e1 xs e2 ys hi hj
      split at h
      · rename_i hc
        cases h
        simp only [Bool.and_eq_true, decide_eq_true_eq] at hc
        have q1 : decide (e1 ≠ 1) = true := by simpa using hc.1.2
        have q2 : decide (e2 ≠ 1) = true := by simpa using hc.2
        obtain ⟨arr, ⟨ty1, fr1, a1, a2⟩, a3, a4, _⟩ := S.obj i _ hi
        obtain ⟨arr', ⟨ty2, fr2, b1, b2⟩, b3, b4, _⟩ := S.obj j _ hj
        have hin : (m i).block = (m j).block → i = j := fun e => S.inj i j ⟨_, hi, rfl⟩ ⟨_, hj, rfl⟩ e
        simp only [conc, Loc.at]
        have hsz : (sizeOf e).run P w = .ok (k + 1) w := szT_run hk w
        simp only [Op.equalIn, Sem.run_bind, run_underlying ht, Result.andThen_ok, hsz]
        rw [if_pos (by omega)]
        by_cases hb : (m i).block = (m j).block
        · have := hin hb; subst this
          have hq : ((⟨(m i).block, (m i).base + x, none⟩ : Addr) == ⟨(m i).block, (m i).base + y, none⟩) = decide (x = y) := by
            rw [Bool.eq_iff_iff, beq_iff_eq, decide_eq_true_eq]
            constructor
            · intro e; injection e with _ e _; omega
            · rintro rfl; rfl
          simp [sameAddr, hq]
        · have hne : i ≠ j := fun e => hb (by rw [e])
          have f1 : w.frozen? ⟨(m i).block, (m i).base + x, none⟩ = false := by
            simp only [World.frozen?, a1]
            have := a2 ((m i).base + x) (.inl (by omega))
            simpa using this
          have f2 : w.frozen? ⟨(m i).block, arr.size, none⟩ = false := by
            simp only [World.frozen?, a1]
            have := a2 arr.size (.inr ⟨q1, rfl⟩)
            simpa using this
          have g1 : w.frozen? ⟨(m j).block, (m j).base + y, none⟩ = false := by
            simp only [World.frozen?, b1]
            have := b2 ((m j).base + y) (.inl (by omega))
            simpa using this
          have g2 : w.frozen? ⟨(m j).block, arr'.size, none⟩ = false := by
            simp only [World.frozen?, b1]
            have := b2 arr'.size (.inr ⟨q2, rfl⟩)
            simpa using this
          have s1 : w.shape? (m i).block = some (ty1, arr.size) := by simp [World.shape?, a1]
          have s2 : w.shape? (m j).block = some (ty2, arr'.size) := by simp [World.shape?, b1]
          simp [sameAddr, hb, hne, frozen, Sem.run, f1, g1, noView, viewAt, shape, s1, s2, mayBeOne, stringish, f2, g2, Result.andThen]
      · cases h
    · cases h
  · cases h

theorem read_run {locals : List Nat} {dst : Option Nat} {o : Oper} {io : IOp} (hc : compOp P locals dst o.op = some io) (hcls : io.cls = .read) {v : AV} (he : evOp dst s io = some (v, s'))
    (hρ : ∀ x ∈ o.op.operands, OpR ρ s.env m ml p L x) (S : Sim P m ml s.loc s.H w) : s' = s ∧ (execOp ρ o).run P w = .ok (.value (conc m ml v)) w ∧ v.okP (good m s.H.n) := by
  obtain ⟨dst', op, type, pos, after, guard⟩ := o
  simp only at hc hρ
  cases op
  case load t a =>
    simp only [compOp] at hc
    split at hc
    · rename_i g sz y h1 h2 hx
      cases hc
      simp only [evOp] at he
      split at he
      · rename_i q hq
        cases hl : loadA s g sz q with
        | none => simp [hl] at he
        | some u =>
          simp [hl] at he; obtain ⟨rfl, rfl⟩ := he
          obtain ⟨e1, _⟩ := hρ a (by simp [Op.operands]) _ _ hx hq
          obtain ⟨r1, r2⟩ := loadA_run (P := P) h1 h2 S hl
          exact ⟨rfl, by simp only [execOp, e1, Sem.run_bind, r1, Result.andThen_ok, Sem.run_pure], r2⟩
      · cases he
    · cases hc
  case call c =>
    obtain ⟨callee, args, argTypes⟩ := c
    cases callee with
    | value f => simp only [compOp] at hc; obtain ⟨_, _, _, _, h3⟩ := opt2_some hc; cases h3; simp [IOp.cls] at hcls
    | invoke r n => simp [compOp] at hc
    | builtin b =>
      simp only [compOp, compBuiltin] at hc
      split at hc
      · rename_i t x ha hx1
        have ha' : argTypes = #[t] := by apply Array.ext'; simpa using ha
        have hx' : args = #[x] := by apply Array.ext'; simpa using hx1
        subst ha' hx'
        split at hc
        · cases hc; simp [IOp.cls] at hcls
        · cases hc; simp [IOp.cls] at hcls
        · cases hc; simp [IOp.cls] at hcls
        · rename_i k e y hu hx
          cases hc
          have L : ∀ (u : AV), y.ev s.env = some u → ρ x = conc m ml u := fun u h2 => (hρ x (by simp [Op.operands, Call.operands]) _ _ hx h2).1
          simp only [evOp] at he
          split at he <;> rename_i hq hv <;> first | (cases hq; done) | (cases he; done) | skip
          · cases he
            refine ⟨rfl, ?_, by simp [AV.okP]⟩
            simp [execOp, resolve, invoke, builtin, Builtin.len_, run_underlying hu, L _ hv, conc, goInt]
          · rename_i id
            split at he
            · rename_i es c hi
              cases he
              obtain ⟨ces, h1, h2⟩ := S.obj id _ hi
              have hlen : ces.size = es.length := by
                have := h2.1.length_eq
                simpa using this
              refine ⟨rfl, ?_, by simp [AV.okP]⟩
              simp [execOp, resolve, invoke, builtin, Builtin.len_, run_underlying hu, L _ hv, conc, goInt, getObj, Sem.run, h1, hlen]
            · cases he
        · cases hc
      · exfalso
        (repeat' (split at hc)) <;> (try cases hc) <;> (try (obtain ⟨_, _, _, _, h3⟩ := opt2_some hc; cases h3)) <;> simp [IOp.cls] at hcls
      · exfalso
        (repeat' (split at hc)) <;> (try cases hc) <;> simp [IOp.cls] at hcls
      · exfalso
        split at hc <;> cases hc
        simp [IOp.cls] at hcls
      · exfalso
        split at hc
        · split at hc
          · obtain ⟨_, _, _, _, h3⟩ := opt2_some hc; cases h3; simp [IOp.cls] at hcls
          · cases hc
        · cases hc
      · obtain ⟨_, _, _, _, h3⟩ := opt2_some hc; cases h3; simp [IOp.cls] at hcls
      · obtain ⟨_, _, _, _, h3⟩ := opt2_some hc; cases h3; simp [IOp.cls] at hcls
      · exfalso
        (repeat' (split at hc)) <;> cases hc
        simp [IOp.cls] at hcls
      · cases hc
  case range t x =>
    exfalso
    simp only [compOp] at hc
    split at hc
    · rw [Option.map_eq_some_iff] at hc; obtain ⟨_, _, rfl⟩ := hc; simp [IOp.cls] at hcls
    · rw [Option.map_eq_some_iff] at hc; obtain ⟨_, _, rfl⟩ := hc; simp [IOp.cls] at hcls
    · cases hc
  case next x b =>
    exfalso
    cases b <;> simp only [compOp] at hc
    · rw [Option.map_eq_some_iff] at hc; obtain ⟨_, _, rfl⟩ := hc; simp [IOp.cls] at hcls
    · rw [Option.map_eq_some_iff] at hc; obtain ⟨_, _, rfl⟩ := hc; simp [IOp.cls] at hcls
  case entry x =>
    simp only [compOp] at hc
    cases hx : opd x with
    | none => simp [hx] at hc
    | some y =>
      simp [hx] at hc; subst hc
      simp only [evOp] at he
      split at he
      · rename_i u hu
        cases hl : entryMA s.H u with
        | none => simp [hl] at he
        | some r =>
          simp [hl] at he; obtain ⟨rfl, rfl⟩ := he
          obtain ⟨e1, _⟩ := hρ x (by simp [Op.operands]) _ _ hx hu
          obtain ⟨r1, r2⟩ := entryMA_run (P := P) S hl
          exact ⟨rfl, by simp only [execOp, e1, Sem.run_bind, r1, Result.andThen_ok, Sem.run_pure], r2⟩
      · cases he
  case binOp op t x y yt =>
    rcases comp_bin hc with ⟨e, a, b, rfl, _⟩ | ⟨neg, a, rfl, _⟩ | ⟨neg, a, b, rfl, h1, h2, e, ht, hs, hop⟩
    · exfalso; simp [IOp.cls] at hcls
    · exfalso; simp [IOp.cls] at hcls
    · simp only [evOp] at he
      split at he
      · rename_i u v' hu hv
        cases hl : ptrEqA s.H u v' with
        | none => simp [hl] at he
        | some r =>
          simp [hl] at he; obtain ⟨rfl, rfl⟩ := he
          obtain ⟨e1, _⟩ := hρ x (by simp [Op.operands]) _ _ h1 hu
          obtain ⟨f1, _⟩ := hρ y (by simp [Op.operands]) _ _ h2 hv
          have key := ptrEqA_run (P := P) S ht hs hl
          refine ⟨rfl, ?_, by simp [AV.okP]⟩
          have pa : ∀ z r', ptrEqA s.H u z = some r' → ∃ q, conc m ml u = .pointer q := by
            intro z r' hz
            unfold ptrEqA at hz
            split at hz <;> first | (cases hz; done) | (simp [conc])
          have pb : ∃ q, conc m ml v' = .pointer q := by
            unfold ptrEqA at hl
            split at hl <;> first | (cases hl; done) | (simp [conc])
          obtain ⟨qa, ha⟩ := pa _ _ hl
          obtain ⟨qb, hb⟩ := pb
          rw [ha, hb] at key
          simp only [execOp, e1, f1, ha, hb]
          rcases hop with ⟨rfl, rfl⟩ | ⟨rfl, rfl⟩
          · rw [binOp_eql_of _ _ _ (by simp) (by simp) (by simp) (by simp)]
            simp only [eqGuard_at_pointer, pure_bind, Sem.run_bind, key, Result.andThen_ok, Sem.run_pure, conc]
            simp
          · rw [binOp_neq_of _ _ _ (by simp) (by simp) (by simp) (by simp)]
            simp only [eqGuard_at_pointer, pure_bind, Sem.run_bind, key, Result.andThen_ok, Sem.run_pure, conc]
            simp
      · cases he
  case mapEntry t x k =>
    exfalso
    simp only [compOp] at hc
    (repeat' (split at hc)) <;> cases hc
    simp [IOp.cls] at hcls
  case entryStore t x k v =>
    exfalso
    simp only [compOp] at hc
    (repeat' (split at hc)) <;> cases hc
    simp [IOp.cls] at hcls
  case defer c =>
    exfalso
    obtain ⟨callee, args, argTypes⟩ := c
    cases callee <;> simp only [compOp] at hc <;> first | (cases hc; done) | (obtain ⟨_, _, _, _, h3⟩ := opt2_some hc; cases h3; simp [IOp.cls] at hcls)
  case lookup t x k ok =>
    simp only [compOp] at hc
    split at hc
    · rename_i kt e hu
      split at hc
      · rename_i kT z a b hkt hz hx hk
        cases hc
        simp only [evOp] at he
        split at he
        · rename_i u v1 hau hbv
          cases hl : lookupA s.H kT ok z u v1 with
          | none => simp [hl] at he
          | some r =>
            simp [hl] at he; obtain ⟨rfl, rfl⟩ := he
            obtain ⟨e1, _⟩ := hρ x (by simp [Op.operands]) _ _ hx hau
            obtain ⟨e2, _⟩ := hρ k (by simp [Op.operands]) _ _ hk hbv
            obtain ⟨r1, r2⟩ := lookupA_run (P := P) hu hkt hz S hl
            exact ⟨rfl, by simp only [execOp, e1, e2, Sem.run_bind, r1, Result.andThen_ok, Sem.run_pure], r2⟩
        · cases he
      · cases hc
    · cases hc
  case mapUpdate t x k v1 | insert t x k v1 =>
    exfalso
    simp only [compOp] at hc
    (repeat' (split at hc)) <;> cases hc
    simp [IOp.cls] at hcls
  case convert sr d x =>
    simp only [compOp] at hc
    split at hc
    · cases hc; simp [IOp.cls] at hcls
    · cases hc; simp [IOp.cls] at hcls
    · exfalso
      (repeat' (split at hc)) <;> cases hc <;> simp [IOp.cls] at hcls
    · rename_i e1 y h1 h2 hx
      split at hc
      · rename_i hu8
        cases hc
        simp only [evOp] at he
        split at he <;> rename_i hq hv <;> first | (cases hq; done) | (cases he; done) | skip
        rename_i u
        cases hb : bytesA s.H u with
        | none => simp [hb] at he
        | some l =>
          simp [hb] at he; obtain ⟨rfl, rfl⟩ := he
          obtain ⟨f1, _⟩ := hρ x (by simp [Op.operands]) _ _ hx hv
          have := bytesA_run (P := P) S h1 hu8 h2 hb
          exact ⟨rfl, by simp only [execOp, f1, Sem.run_bind, this, Result.andThen_ok, Sem.run_pure, conc], by simp [AV.okP]⟩
      · cases hc
    · rename_i e1 y h1 h2 hx
      split at hc
      · rename_i k hk
        cases hc
        simp only [evOp] at he
        split at he <;> rename_i hq hv <;> first | (cases hq; done) | (cases he; done) | skip
        rename_i id off
        split at he
        · rename_i e' cells hi
          split at he
          · rename_i hlt
            cases he
            obtain ⟨f1, _⟩ := hρ x (by simp [Op.operands]) _ _ hx hv
            obtain ⟨arr, ⟨ty1, fr1, a1, a2⟩, a3, a4, _⟩ := S.obj id _ hi
            have s1 : w.shape? (m id).block = some (ty1, arr.size) := by simp [World.shape?, a1]
            have hnot : ¬ (arr.size ≤ (m id).base + off) := by omega
            have hsz : (sizeOf e1).run P w = .ok (k + 1) w := szT_run hk w
            refine ⟨rfl, ?_, ?_⟩
            · simp only [execOp, f1, conc, Loc.at]
              simp [convert, run_underlying h1, run_underlying h2, Conv.unsafePointer, Conv.seenAt, viewAt, shape, Sem.run, s1, cellsIn, hsz, hnot, Result.andThen]
            · simp only [AV.okP, good]
              exact ⟨AHeap.get_lt hi S.wf, Nat.zero_le _⟩
          · cases he
        · cases he
      · cases hc
    · cases hc
  case makeMap t r =>
    exfalso
    cases r <;> simp only [compOp] at hc <;> cases hc
    simp [IOp.cls] at hcls
  all_goals
    exfalso
    simp only [compOp, opt2] at hc
    first
      | (cases hc; done)
      | ((repeat' (split at hc)) <;> (try cases hc) <;> (try (rw [Option.map_eq_some_iff] at hc; obtain ⟨_, _, rfl⟩ := hc)) <;> simp [IOp.cls] at hcls)

theorem clear_run {t e ty : TypeId} {sz : Nat} {z : List AV} (ht : P.underlying t = some (.slice e)) (hs : szT P e = some sz) (hz : zeroT P e = some z) (hzl : z.length = sz) (hnz : sz ≠ 0) (S : Sim P m ml s.loc s.H w)
    {id off len : Nat} {v : AV} (h : clearA s sz z id off len = some (v, s')) (cap : Nat) :
    ∃ w', (Builtin.clear_ #[t] ty #[.slice (some ((m id).at off)) len cap]).run P w = .ok (.tuple #[]) w' ∧ v = undefA ∧ Sim P m ml s'.loc s'.H w' ∧ Grow m ml s.loc s.H w m ml s'.loc s'.H w' ∧ s'.env = s.env := by
  unfold clearA at h
  split at h
  · rename_i h0
    cases h
    subst h0
    refine ⟨w, ?_, rfl, S, .refl .., rfl⟩
    simp [Builtin.clear_, run_underlying ht]
  · rename_i h0
    split at h
    · rename_i e' cells hi
      split at h
      · rename_i hc
        cases h
        simp only [Bool.and_eq_true, decide_eq_true_eq] at hc
        obtain ⟨⟨zv, hz1, hz2⟩, hz3, hz4⟩ := zeroT_run hz m ml (good m s.H.n)
        obtain ⟨k1, k2⟩ := zerosA_ok hz3 hz4 len
        have ho := S.obj id _ hi
        have hok := S.ok id _ hi
        obtain ⟨w', r1, r2, r3⟩ := rowAt_wr (P := P) ho (off := off) (vs := zerosA z len) (by rw [zerosA_length, hzl]; exact hc.1) k2
        refine ⟨w', ?_, rfl, S.set_obj hi rfl r3 ⟨wr_okPL k1 hok.1, wr_one k2 hok.2⟩ rfl r2.other, .of_set S.wf hi rfl rfl r2, rfl⟩
        have hzc : (Builtin.zeroCells zv.cells len).toList = concL m ml (zerosA z len) := by
          have hs2 : zv.cells.size = z.length := by rw [← Array.length_toList, hz2]; simp [concL_eq]
          have := zeros_conc (m := m) (ml := ml) hz2 (by omega) len
          rw [← this, Builtin.zeroCells, hs2]
        obtain ⟨n, rfl⟩ : ∃ n, len = n + 1 := ⟨len - 1, by omega⟩
        simp only [Builtin.clear_, List.getElem?_toArray, List.getElem?_cons_zero, Sem.run_bind, run_underlying ht, Result.andThen_ok, hz1, hzc, r1, Sem.run_pure]
      · cases h
    · cases h

/-- An operation that writes, or may. -/
theorem effect_sound {locals : List Nat} {dst : Option Nat} {o : Oper} {io : IOp} (hc : compOp P locals dst o.op = some io) (hnd : plainOp io = true) (hcls : io.cls = .effect) {v : AV} (he : evOp dst s io = some (v, s'))
    (hρ : ∀ x ∈ o.op.operands, OpR ρ s.env m ml (good m s.H.n) LT x) (S : Sim P m ml s.loc s.H w) :
    ∃ m' w', ((execOp ρ o).run P w = .ok (.value (conc m' ml v)) w' ∨ ((execOp ρ o).run P w = .ok .skip w' ∧ v = undefA)) ∧
      Sim P m' ml s'.loc s'.H w' ∧ Grow m ml s.loc s.H w m' ml s'.loc s'.H w' ∧ vOk (good m' s'.H.n) LT v ∧ s'.env = s.env := by
  obtain ⟨dst', op, type, pos, after, guard⟩ := o
  simp only at hc hρ
  cases op
  case store t a x =>
    simp only [compOp] at hc
    split at hc
    · rename_i sz y z h1 hy hz
      cases hc
      simp only [evOp] at he
      split at he
      · rename_i q u hq hu
        cases hs : storeA s sz u q with
        | none => simp [hs] at he
        | some s1 =>
          simp [hs] at he; obtain ⟨rfl, rfl⟩ := he
          obtain ⟨e1, _⟩ := hρ a (by simp [Op.operands]) _ _ hy hq
          obtain ⟨f1, f2⟩ := hρ x (by simp [Op.operands]) _ _ hz hu
          obtain ⟨w', r1, r2, r3, r4, r5⟩ := storeA_run (P := P) h1 S f2 hs
          exact ⟨m, w', .inr ⟨by simp only [execOp, e1, f1, Sem.run_bind, r1, Result.andThen_ok, Sem.run_pure], rfl⟩, r2, r3, .of (by simp [undefA, AV.okP, AV.okPL]), r4⟩
      · cases he
    · cases hc
  case call c =>
    obtain ⟨callee, args, argTypes⟩ := c
    cases callee with
    | value f => simp only [compOp] at hc; obtain ⟨_, _, _, _, h3⟩ := opt2_some hc; cases h3; simp [evOp] at he
    | invoke r n => simp [compOp] at hc
    | builtin b =>
      simp only [compOp, compBuiltin] at hc
      split at hc
      · exfalso
        (repeat' (split at hc)) <;> (try cases hc) <;> simp [IOp.cls] at hcls
      · rename_i t u x y ha hx1
        have ha' : argTypes = #[t, u] := by apply Array.ext'; simpa using ha
        have hx' : args = #[x, y] := by apply Array.ext'; simpa using hx1
        subst ha' hx'
        split at hc
        · rename_i e ht
          split at hc
          · rename_i sz bytes z hsz hb hz
            split at hc
            · cases hc
            · rename_i hcond
              obtain ⟨hs1, hnz⟩ := pszT_szT hsz
              simp only [Bool.or_eq_true, not_or, bne_iff_ne, ne_eq, Decidable.not_not, Option.isNone_iff_eq_none, decide_eq_true_eq] at hcond
              obtain ⟨⟨c2, c3⟩, c4⟩ := hcond
              have hinf : ∃ i, P.info? e = some i ∧ i.bytes = bytes ∧ i.zero = some z := by
                cases hi : P.info? e with
                | none => simp [hi] at hb
                | some i => simp [hi] at hb hz; exact ⟨i, rfl, hb, hz⟩
              obtain ⟨i, hi1, hi2, hi3⟩ := hinf
              have A : AppT P t e sz bytes := ⟨ht, hs1, hnz, ⟨i, z, hi1, hi2, hi3, c4⟩, c3⟩
              split at hc
              · rename_i hint
                split at hc
                · rename_i zl hzl
                  obtain ⟨a, b, hxa, hyb, h3⟩ := opt2_some hc
                  cases h3
                  have hk : ∃ k, P.underlying u = some (.int k) := by
                    unfold isInt at hint
                    split at hint
                    · rename_i k hk; exact ⟨k, hk⟩
                    · cases hint
                  obtain ⟨k, hk⟩ := hk
                  simp only [evOp] at he
                  split at he
                  · rename_i q r hq hr
                    cases hap : appendZ s.H sz bytes zl q r with
                    | none => simp [hap] at he
                    | some vr =>
                      obtain ⟨v1, H1⟩ := vr
                      simp [hap] at he; obtain ⟨rfl, rfl⟩ := he
                      obtain ⟨e1, e2⟩ := hρ x (by simp [Op.operands, Call.operands]) _ _ hxa hq
                      obtain ⟨f1, _⟩ := hρ y (by simp [Op.operands, Call.operands]) _ _ hyb hr
                      obtain ⟨m', w', r1, r2, r3, r4⟩ := appendZ_run (ty := type) A hk (z := z) (fun w => by simp [zeroValue, info_run hi1, hi3]) hzl c4 S e2 hap
                      refine ⟨m', w', .inl ?_, r2, r3, r4, rfl⟩
                      simp only [execOp, resolve, List.map_toArray, List.map_cons, List.map_nil, e1, f1, pure_bind, Sem.run_bind, invoke, builtin, r1, Result.andThen_ok, Sem.run_pure]
                  · cases he
                · cases hc
              · rename_i hint
                obtain ⟨a, b, hxa, hyb, h3⟩ := opt2_some hc
                cases h3
                have hu : ∃ d, P.underlying u = some d ∧ ∀ k, d ≠ .int k := by
                  cases hd : P.underlying u with
                  | none => exact absurd hd c2
                  | some d => exact ⟨d, rfl, fun k hk => by subst hk; simp [isInt, hd] at hint⟩
                simp only [evOp] at he
                split at he
                · rename_i q r hq hr
                  cases hap : appendA s.H sz bytes q r with
                  | none => simp [hap] at he
                  | some vr =>
                    obtain ⟨v1, H1⟩ := vr
                    simp [hap] at he; obtain ⟨rfl, rfl⟩ := he
                    obtain ⟨e1, e2⟩ := hρ x (by simp [Op.operands, Call.operands]) _ _ hxa hq
                    obtain ⟨f1, _⟩ := hρ y (by simp [Op.operands, Call.operands]) _ _ hyb hr
                    obtain ⟨m', w', r1, r2, r3, r4⟩ := appendA_run (ty := type) A hu S e2 hap
                    refine ⟨m', w', .inl ?_, r2, r3, r4, rfl⟩
                    simp only [execOp, resolve, List.map_toArray, List.map_cons, List.map_nil, e1, f1, pure_bind, Sem.run_bind, invoke, builtin, r1, Result.andThen_ok, Sem.run_pure]
                · cases he
          · cases hc
        · cases hc
      · rename_i t x ha hx1
        have ha' : argTypes = #[t] := by apply Array.ext'; simpa using ha
        have hx' : args = #[x] := by apply Array.ext'; simpa using hx1
        subst ha' hx'
        split at hc
        · rename_i e ht
          split at hc
          · rename_i sz z y hsz hz hx
            split at hc
            · rename_i hzl
              cases hc
              obtain ⟨hs1, hnz⟩ := pszT_szT hsz
              simp only [evOp] at he
              split at he
              · rename_i hv
                cases he
                obtain ⟨e1, _⟩ := hρ x (by simp [Op.operands, Call.operands]) _ _ hx hv
                refine ⟨m, w, .inl ?_, S, .refl .., .of (by simp [undefA, AV.okP, AV.okPL]), rfl⟩
                simp [execOp, resolve, invoke, builtin, Builtin.clear_, e1, conc, run_underlying ht, undefA, concL]
              · rename_i hv
                cases he
                obtain ⟨e1, _⟩ := hρ x (by simp [Op.operands, Call.operands]) _ _ hx hv
                refine ⟨m, w, .inl ?_, S, .refl .., .of (by simp [undefA, AV.okP, AV.okPL]), rfl⟩
                simp [execOp, resolve, invoke, builtin, Builtin.clear_, e1, conc, run_underlying ht, undefA, concL]
              · rename_i hv
                cases he
                obtain ⟨e1, _⟩ := hρ x (by simp [Op.operands, Call.operands]) _ _ hx hv
                refine ⟨m, w, .inl ?_, S, .refl .., .of (by simp [undefA, AV.okP, AV.okPL]), rfl⟩
                simp [execOp, resolve, invoke, builtin, Builtin.clear_, e1, conc, run_underlying ht, undefA, concL]
              · rename_i id off len c hv
                obtain ⟨e1, _⟩ := hρ x (by simp [Op.operands, Call.operands]) _ _ hx hv
                obtain ⟨w', r1, rfl, r3, r4, r5⟩ := clear_run (P := P) (ty := type) ht hs1 hz hzl hnz S he c
                refine ⟨m, w', .inl ?_, r3, r4, .of (by simp [undefA, AV.okP, AV.okPL]), r5⟩
                simp only [execOp, resolve, List.map_toArray, List.map_cons, List.map_nil, e1, conc, pure_bind, Sem.run_bind, invoke, builtin, r1, Result.andThen_ok, Sem.run_pure, undefA, concL]
              · rename_i id off len kc c hv
                obtain ⟨e1, _⟩ := hρ x (by simp [Op.operands, Call.operands]) _ _ hx hv
                obtain ⟨w', r1, rfl, r3, r4, r5⟩ := clear_run (P := P) (ty := type) ht hs1 hz hzl hnz S he (((m id).room - off) / c)
                refine ⟨m, w', .inl ?_, r3, r4, .of (by simp [undefA, AV.okP, AV.okPL]), r5⟩
                simp only [execOp, resolve, List.map_toArray, List.map_cons, List.map_nil, e1, conc, pure_bind, Sem.run_bind, invoke, builtin, r1, Result.andThen_ok, Sem.run_pure, undefA, concL]
              · cases he
            · cases hc
          · cases hc
        · cases hc
      · exfalso
        split at hc <;> cases hc
        simp [IOp.cls] at hcls
      · rename_i t ts d x ha hx1
        have hx' : args = #[d, x] := by apply Array.ext'; simpa using hx1
        subst hx'
        have hts : argTypes[0]? = some t := by rw [← Array.getElem?_toList, ha]; rfl
        split at hc
        · rename_i e ht
          split at hc
          · rename_i sz hsz
            obtain ⟨a, b, hxa, hyb, h3⟩ := opt2_some hc
            cases h3
            obtain ⟨hs1, hnz⟩ := pszT_szT hsz
            simp only [evOp] at he
            split at he
            · rename_i q r hq hr
              obtain ⟨e1, _⟩ := hρ d (by simp [Op.operands, Call.operands]) _ _ hxa hq
              obtain ⟨f1, _⟩ := hρ x (by simp [Op.operands, Call.operands]) _ _ hyb hr
              obtain ⟨w', r1, r2, r3, r4, r5⟩ := copyA_run (P := P) (ty := type) hts ht hs1 S he
              refine ⟨m, w', .inl ?_, r2, r3, .of r4, r5⟩
              simp only [execOp, resolve, List.map_toArray, List.map_cons, List.map_nil, e1, f1, pure_bind, Sem.run_bind, invoke, builtin, r1, Result.andThen_ok, Sem.run_pure]
            · cases he
          · cases hc
        · cases hc
      · obtain ⟨_, _, _, _, h3⟩ := opt2_some hc; cases h3; simp [IOp.cls] at hcls
      · obtain ⟨_, _, _, _, h3⟩ := opt2_some hc; cases h3; simp [IOp.cls] at hcls
      · rename_i t ts x k ha hx1
        have hx' : args = #[x, k] := by apply Array.ext'; simpa using hx1
        subst hx'
        have hts : argTypes[0]? = some t := by rw [← Array.getElem?_toList, ha]; rfl
        split at hc
        · rename_i kt e hu
          split at hc
          · rename_i kT y z hkt hx hk
            cases hc
            simp only [evOp] at he
            split at he
            · rename_i a b hay hbz
              cases hd : delA s.H kT a b with
              | none => simp [hd] at he
              | some H1 =>
                simp [hd] at he; obtain ⟨rfl, rfl⟩ := he
                obtain ⟨e1, _⟩ := hρ x (by simp [Op.operands, Call.operands]) _ _ hx hay
                obtain ⟨e2, _⟩ := hρ k (by simp [Op.operands, Call.operands]) _ _ hk hbz
                obtain ⟨w', r1, r2, r3, r4⟩ := delA_run (P := P) (ty := type) hts hu hkt S hd
                refine ⟨m, w', .inl ?_, r2, r3, .of (by simp [undefA, AV.okP, AV.okPL]), rfl⟩
                simp only [execOp, resolve, List.map_toArray, List.map_cons, List.map_nil, e1, e2, conc, pure_bind, Sem.run_bind, invoke, builtin, r1, Result.andThen_ok, Sem.run_pure, undefA, concL]
            · cases he
          · cases hc
        · cases hc
      · cases hc
  case range t x =>
    simp only [compOp] at hc
    split at hc
    · exfalso
      rw [Option.map_eq_some_iff] at hc; obtain ⟨_, _, rfl⟩ := hc; simp [IOp.cls] at hcls
    · rename_i kt e hu
      cases hx : opd x with
      | none => simp [hx] at hc
      | some y =>
        simp [hx] at hc; subst hc
        simp only [evOp] at he
        split at he
        · rename_i u hv
          cases hn : rangeMA s.H u with
          | none => simp [hn] at he
          | some q =>
            obtain ⟨r1, H1⟩ := q
            simp [hn] at he; obtain ⟨rfl, rfl⟩ := he
            obtain ⟨e1, _⟩ := hρ x (by simp [Op.operands]) _ _ hx hv
            obtain ⟨m', w', k1, k2, k3, k4, _⟩ := rangeMA_run (P := P) hu S hn
            exact ⟨m', w', .inl (by simp only [execOp, e1, Sem.run_bind, k1, Result.andThen_ok, Sem.run_pure]), k2, k3, .of k4, rfl⟩
        · cases he
    · cases hc
  case mapEntry t x k =>
    simp only [compOp] at hc
    split at hc
    · rename_i kt e hu
      split at hc
      · rename_i kT z y q hkt hz hx hk
        cases hc
        simp only [evOp] at he
        split at he
        · rename_i a b hay hbz
          cases hd : mapEntryA s.H kT z a b with
          | none => simp [hd] at he
          | some q =>
            obtain ⟨r1, H1⟩ := q
            simp [hd] at he; obtain ⟨rfl, rfl⟩ := he
            obtain ⟨e1, _⟩ := hρ x (by simp [Op.operands]) _ _ hx hay
            obtain ⟨e2, f2⟩ := hρ k (by simp [Op.operands]) _ _ hk hbz
            obtain ⟨w', k1, k2, k3, k4, _⟩ := mapEntryA_run (P := P) hu hkt hz S f2 hd
            exact ⟨m, w', .inl (by simp only [execOp, e1, e2, Sem.run_bind, k1, Result.andThen_ok, Sem.run_pure]), k2, k3, .of k4, rfl⟩
        · cases he
      · cases hc
    · cases hc
  case entryStore t x b v1 =>
    simp only [compOp] at hc
    split at hc
    · rename_i y z q hx hb hv
      cases hc
      simp only [evOp] at he
      split at he
      · rename_i a bb c hay hbz hcq
        cases hd : entryStoreA s.H a bb c with
        | none => simp [hd] at he
        | some H1 =>
          simp [hd] at he; obtain ⟨rfl, rfl⟩ := he
          obtain ⟨e1, _⟩ := hρ x (by simp [Op.operands]) _ _ hx hay
          obtain ⟨e2, _⟩ := hρ b (by simp [Op.operands]) _ _ hb hbz
          obtain ⟨e3, f3⟩ := hρ v1 (by simp [Op.operands]) _ _ hv hcq
          obtain ⟨w', r1, r2, r3, r4⟩ := entryStoreA_run (P := P) (t := t) S f3 hd
          exact ⟨m, w', .inr ⟨by simp only [execOp, e1, e2, e3, Sem.run_bind, r1, Result.andThen_ok, Sem.run_pure], rfl⟩, r2, r3, .of (by simp [undefA, AV.okP, AV.okPL]), rfl⟩
      · cases he
    · cases hc
  case entry x =>
    exfalso
    simp only [compOp] at hc
    rw [Option.map_eq_some_iff] at hc; obtain ⟨_, _, rfl⟩ := hc; simp [IOp.cls] at hcls
  case defer c =>
    exfalso
    obtain ⟨callee, args, argTypes⟩ := c
    cases callee <;> simp only [compOp] at hc <;> first | (cases hc; done) | (obtain ⟨_, _, _, _, h3⟩ := opt2_some hc; cases h3; simp [plainOp] at hnd)
  case binOp op t x y yt =>
    exfalso
    rcases comp_bin hc with ⟨e, a, b, rfl, _⟩ | ⟨neg, a, rfl, _⟩ | ⟨neg, a, b, rfl, _⟩ <;> simp [IOp.cls] at hcls
  case next x b =>
    cases b
    · simp only [compOp] at hc
      rw [Option.map_eq_some_iff] at hc; obtain ⟨_, _, rfl⟩ := hc; simp [evOp] at he
    · simp only [compOp] at hc
      cases hx : opd x with
      | none => simp [hx] at hc
      | some y =>
        simp [hx] at hc; subst hc
        simp only [evOp] at he
        split at he
        · rename_i u hu
          cases hn : nextA s.H u with
          | none => simp [hn] at he
          | some q =>
            obtain ⟨r1, H1⟩ := q
            simp [hn] at he; obtain ⟨rfl, rfl⟩ := he
            obtain ⟨e1, _⟩ := hρ x (by simp [Op.operands]) _ _ hx hu
            obtain ⟨w', k1, k2, k3, k4⟩ := nextA_run (P := P) (ty := type) S hn
            exact ⟨m, w', .inl (by simp only [execOp, e1, Sem.run_bind, k1, Result.andThen_ok, Sem.run_pure]), k2, k3, .of k4, rfl⟩
        · cases he
  case mapUpdate t x k v1 | insert t x k v1 =>
    simp only [compOp] at hc
    split at hc
    · rename_i kt e hu
      split at hc
      · rename_i kT y z q hkt hx hk hv
        cases hc
        simp only [evOp] at he
        split at he
        · rename_i a b c hay hbz hcq
          cases hd : updA s.H kT a b c with
          | none => simp [hd] at he
          | some H1 =>
            simp [hd] at he; obtain ⟨rfl, rfl⟩ := he
            obtain ⟨e1, _⟩ := hρ x (by simp [Op.operands]) _ _ hx hay
            obtain ⟨e2, f2⟩ := hρ k (by simp [Op.operands]) _ _ hk hbz
            obtain ⟨e3, f3⟩ := hρ v1 (by simp [Op.operands]) _ _ hv hcq
            obtain ⟨w', r1, r2, r3, r4⟩ := updA_run (P := P) hu hkt S f2 f3 hd
            exact ⟨m, w', .inr ⟨by simp only [execOp, e1, e2, e3, Sem.run_bind, r1, Result.andThen_ok, Sem.run_pure], rfl⟩, r2, r3, .of (by simp [undefA, AV.okP, AV.okPL]), rfl⟩
        · cases he
      · cases hc
    · cases hc
  case panic x => simp only [compOp] at hc; cases hc; simp [evOp] at he
  case convert sr d x =>
    exfalso
    simp only [compOp] at hc
    (repeat' (split at hc)) <;> (try cases hc) <;> simp [IOp.cls] at hcls
  case makeMap t r =>
    exfalso
    cases r <;> simp only [compOp] at hc <;> cases hc
    simp [IOp.cls] at hcls
  all_goals
    exfalso
    simp only [compOp, opt2] at hc
    first
      | (cases hc; done)
      | ((repeat' (split at hc)) <;> (try cases hc) <;> (try (rw [Option.map_eq_some_iff] at hc; obtain ⟨_, _, rfl⟩ := hc)) <;> simp [IOp.cls] at hcls)


/-- Each operation that calls nothing. -/
theorem op_sound {locals : List Nat} {dst : Option Nat} {o : Oper} {io : IOp} (hc : compOp P locals dst o.op = some io) (hnd : plainOp io = true) {v : AV} (he : evOp dst s io = some (v, s'))
    (hρ : ∀ x ∈ o.op.operands, OpR ρ s.env m ml (good m s.H.n) LT x) (S : Sim P m ml s.loc s.H w) : StepOk P ρ m ml dst s o w v s' := by
  cases hcls : io.cls with
  | pure =>
    obtain ⟨rfl, h1, h2⟩ := run_pure (P := P) hc hcls he hρ (fun i k ⟨a, b⟩ => ⟨b, fun j hj => ⟨a, hj⟩⟩) w
    exact ⟨m, ml, w, .inl h1, S, .refl .., h2, rfl, fun _ => .inl rfl⟩
  | read =>
    obtain ⟨rfl, h1, h2⟩ := read_run (P := P) hc hcls he hρ S
    exact ⟨m, ml, w, .inl h1, S, .refl .., .of h2, rfl, fun _ => .inl rfl⟩
  | alloc =>
    obtain ⟨w', ob, hp, h⟩ := run_alloc (P := P) hc hcls he hρ w
    have S1 : Sim P m ml s.loc s.H w' := S.frame fun b hb => hp.old (S.used_lt hb)
    rcases h with ⟨l, ao, h1, rfl, h3, h4, h5, h6, h7, h8⟩ | ⟨t, cells, h1, h2, rfl, rfl, h5, h6, h7, h8⟩
    · refine ⟨upd m s.H.n l, ml, w', .inl h6, S1.add_obj h5 h4 (fun b hb e => by have := S.used_lt hb; omega) ?_, .of_push S.wf ?_ hp h1, .of (okP_mono (fun i k ⟨a, b⟩ => ?_) _ h7), rfl, fun _ => .inl rfl⟩
      iterate 2
       · cases ao with
         | row ro _ _ => cases ro <;> simp_all [AObj.owned, AObj.isRo]
         | _ => rfl
      · subst a; exact ⟨by simp, by rw [upd_same]; exact b⟩
    · refine ⟨m, upd ml t w.heap.size, w', .inl ?_, S1.add_loc h7 h5 h6 (fun x hx e => by have := S.used_lt hx; omega), .of_pushL hp, .inr ⟨_, _, rfl, trivial⟩, rfl, fun u => ?_⟩
      · rw [h8]; simp [conc]
      · by_cases hu : u = t
        · subst hu; exact .inr ⟨h1, h2⟩
        · exact .inl (upd_ne _ _ hu)
  | effect =>
    obtain ⟨m', w', h1, h2, h3, h4, h5⟩ := effect_sound (P := P) hc hnd hcls he hρ S
    exact ⟨m', ml, w', h1, h2, h3, h4, h5, fun _ => .inl rfl⟩

end
end Go.Wam
