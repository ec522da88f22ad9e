/- What S9ER09Each rests on, part 2 of 6. No condition. -/
import Derived.Test.YtgokjbjbdnbcdaaEa
import Derived.TacticsIn
import Derived.RangeFuncLeaves
import Derived.RangeFuncOwn
import Derived.Orders
import Derived.OrdersIn
import Derived.Laws.IdiomRangeMap
import Derived.RangeFuncIn
import Derived.RangeFuncRecord
set_option linter.unusedVariables false
set_option linter.unusedSimpArgs false
namespace Go.Wam
section
variable {P : Program} {ρ : Operand → Value} {s s' : St} {m m' : Nat → Loc} {ml ml' : Nat → Nat} {p : Nat → Nat → Prop} {L : Nat → Prop} {loc : List (Nat × List AV)} {H : AHeap} {w w' : World}
theorem cutA_run (S : Sim P m ml loc H w) {id off k : Nat} {xs : List AV} (h : cutA H id off k = some xs) :
    (loadCells ((m id).at off) k).run P w = .ok (concL m ml xs).toArray w ∧ AV.okPL (good m H.n) xs ∧ xs.all AV.one = true ∧ xs.length = k := by
 unfold cutA at h
 split at h
 · rename_i ro e cells hi
   split at h
   · rename_i hle
     cases h
     have ho := S.obj id _ hi
     have hok := S.ok id _ hi
     have hl : ((cells.drop off).take k).length = k := by simp; omega
     refine ⟨?_, ?_, ?_, hl⟩
     · refine loadCells_run P (by simp [concL_eq]; omega) ?_
       intro j u hj
       rw [concL_eq, List.getElem?_map] at hj
       cases hd : ((cells.drop off).take k)[j]? with
       | none => simp [hd] at hj
       | some x =>
        simp [hd] at hj; subst hj
        apply ho.cells
        rw [List.getElem?_take] at hd
        split at hd
        · rw [List.getElem?_drop] at hd; exact hd
        · cases hd
     · exact (okPL_iff _ _).2 fun v hv => (okPL_iff _ _).1 hok.1 v (List.mem_of_mem_drop (List.mem_of_mem_take hv))
     · rw [List.all_eq_true]; exact fun v hv => List.all_eq_true.1 hok.2 v (List.mem_of_mem_drop (List.mem_of_mem_take hv))
   · cases h
 · cases h
theorem firstA_run (S : Sim P m ml loc H w) {sz n : Nat} {x : AV} {xs : List AV} (h : firstA H sz x = some (n, xs)) :
    (Builtin.lenOf (conc m ml x)).run P w = .ok n w ∧ (Builtin.firstCells sz n (conc m ml x)).run P w = .ok (concL m ml xs).toArray w ∧ AV.okPL (good m H.n) xs ∧ xs.all AV.one = true ∧ xs.length = n * sz := by
 unfold firstA at h
 split at h
 · cases h; simp [conc, Builtin.lenOf, Builtin.firstCells, concL, AV.okPL]
 · cases h; simp [conc, Builtin.lenOf, Builtin.firstCells, concL, AV.okPL, loadCells, loadCellsFrom]
 · cases h; simp [conc, Builtin.lenOf, Builtin.firstCells, concL, AV.okPL, loadCells, loadCellsFrom]
 · rename_i id off len c
   split at h
   · rename_i h0; subst h0
     cases h; simp [conc, Builtin.lenOf, Builtin.firstCells, concL, AV.okPL, loadCells, loadCellsFrom]
   cases hc : cutA H id off (len * sz) with
   | none => simp [hc] at h
   | some cs =>
    simp [hc] at h; obtain ⟨rfl, rfl⟩ := h
    obtain ⟨h1, h2, h3, h4⟩ := cutA_run (P := P) S hc
    exact ⟨by simp [conc, Builtin.lenOf], by simp only [conc, Builtin.firstCells]; exact h1, h2, h3, h4⟩
 · rename_i id off len kc c
   split at h
   · rename_i h0; subst h0
     cases h; simp [conc, Builtin.lenOf, Builtin.firstCells, concL, AV.okPL, loadCells, loadCellsFrom]
   cases hc : cutA H id off (len * sz) with
   | none => simp [hc] at h
   | some cs =>
    simp [hc] at h; obtain ⟨rfl, rfl⟩ := h
    obtain ⟨h1, h2, h3, h4⟩ := cutA_run (P := P) S hc
    exact ⟨by simp [conc, Builtin.lenOf], by simp only [conc, Builtin.firstCells]; exact h1, h2, h3, h4⟩
 · rename_i l
   split at h
   · rename_i h1
     cases h
     subst h1
     refine ⟨by simp [conc, Builtin.lenOf, bsize], ?_, ?_, ?_, by simp⟩
     · simp only [conc, Builtin.firstCells, extract_mk, Sem.run_pure]
       congr 1
       simp only [List.drop_zero, Nat.sub_zero, List.take_length, concL_eq, List.map_toArray, List.map_map]
       congr 1
     · rw [okPL_iff]; intro v hv; rw [List.mem_map] at hv; obtain ⟨b, _, rfl⟩ := hv; simp [AV.okP]
     · rw [List.all_eq_true]; intro v hv; rw [List.mem_map] at hv; obtain ⟨b, _, rfl⟩ := hv; rfl
   · cases h
 · cases h
theorem next_le (need old : Nat) (h : old < need) : Builtin.nextslicecap need old ≤ 2 * need := by
 unfold Builtin.nextslicecap
 split
 · omega
 · split
   · omega
   · rename_i h1 h2
     have key : ∀ (k c : Nat), 256 ≤ c → c < need → Builtin.growBy need k c ≤ 2 * need := by
      intro k
      induction k with
      | zero => intro c _ h; simp [Builtin.growBy]; omega
      | succ k ih =>
       intro c h0 h
       simp only [Builtin.growBy]
       split
       · omega
       · by_cases h2 : c + (c + 768) / 4 < need
         · exact ih _ (by omega) h2
         · cases k with
           | zero => simp [Builtin.growBy]; omega
           | succ k => simp only [Builtin.growBy]; rw [if_pos (by omega)]; omega
     exact key _ _ (by omega) h
theorem zeroCells_size (z : Array Value) (n : Nat) : (Builtin.zeroCells z n).size = n * z.size := by simp [Builtin.zeroCells]
structure AppT (P : Program) (t e : TypeId) (sz bytes : Nat) : Prop where
 ht : P.underlying t = some (.slice e)
 hs : szT P e = some sz
 hnz : sz ≠ 0
 hb : ∃ i z, P.info? e = some i ∧ i.bytes = bytes ∧ i.zero = some z ∧ z.cells.size = sz
 hbz : bytes ≠ 0
theorem append_fits {t u e ty : TypeId} {sz bytes : Nat} (A : AppT P t e sz bytes) (hu : ∃ d, P.underlying u = some d ∧ ∀ k, d ≠ .int k) {base : Option Addr} {len cap n : Nat} {xv : Value} {xs : Array Value}
    (h1 : (Builtin.lenOf xv).run P w = .ok n w) (h2 : (Builtin.firstCells sz n xv).run P w = .ok xs w) (hle : len + n ≤ cap)
    (h3 : ∀ a, base = some a → (storeCells (a.add (len * sz)) xs.toList).run P w = .ok () w') (h4 : base = none → w' = w) :
    (Builtin.append_ #[t, u] ty #[.slice base len cap, xv]).run P w = .ok (.slice base (len + n) cap) w' := by
 obtain ⟨d, hd1, hd2⟩ := hu
 have hm : (match d with | .int _ => true | _ => false) = false := by cases d <;> first | rfl | exact absurd rfl (hd2 _)
 simp only [Builtin.append_, List.getElem?_toArray, List.getElem?_cons_zero, List.getElem?_cons_succ, Sem.run_bind, run_underlying A.ht, Result.andThen_ok, szT_run A.hs, run_underlying hd1, Sem.run_pure, hm, Bool.false_eq_true, if_false, h1, Bool.not_false, if_true]
 rw [if_pos hle]
 cases base with
 | none => have := h4 rfl; subst this; simp only [Sem.run_bind, h2, Result.andThen_ok, Sem.run_pure]
 | some a => simp only [Sem.run_bind, h2, Result.andThen_ok, h3 a rfl, Sem.run_pure]
theorem append_grows {t u e ty : TypeId} {sz bytes : Nat} (A : AppT P t e sz bytes) (hu : ∃ d, P.underlying u = some d ∧ ∀ k, d ≠ .int k) {base : Option Addr} {len cap n : Nat} {xv : Value} {xs os : Array Value}
    (h1 : (Builtin.lenOf xv).run P w = .ok n w) (h2 : ∀ d, (Builtin.firstCells sz n xv).run P { w with drawn := d } = .ok xs { w with drawn := d }) (hlt : cap < len + n) (hb : (len + n) * bytes ≤ 2 ^ 47)
    (h3 : ∀ d, (Builtin.firstCells sz len (.slice base len cap)).run P { w with drawn := d } = .ok os { w with drawn := d }) :
    ∃ newCap w', ∃ rest : Array Value, len + n ≤ newCap ∧ rest.size = (newCap - (len + n)) * sz ∧ Pushed w w' (.cells (os ++ xs ++ rest) e) ∧
     (Builtin.append_ #[t, u] ty #[.slice base len cap, xv]).run P w = .ok (.slice (some ⟨w.heap.size, 0, none⟩) (len + n) newCap) w' := by
 obtain ⟨d, hd1, hd2⟩ := hu
 have hm : (match d with | .int _ => true | _ => false) = false := by cases d <;> first | rfl | exact absurd rfl (hd2 _)
 obtain ⟨i, z, hi, hbi, hz, hzs⟩ := A.hb
 have hn : len + n ≤ 2 ^ 47 := by
  have : 1 ≤ bytes := by have := A.hbz; omega
  calc len + n = (len + n) * 1 := by omega
   _ ≤ (len + n) * bytes := Nat.mul_le_mul_left _ this
   _ ≤ 2 ^ 47 := hb
 have hnext : ¬ (Builtin.nextslicecap (len + n) cap * bytes > 2 ^ 48) := by
  have := next_le (len + n) cap hlt
  have h5 : Builtin.nextslicecap (len + n) cap * bytes ≤ 2 * (len + n) * bytes := Nat.mul_le_mul_right _ this
  have h6 : 2 * (len + n) * bytes = 2 * ((len + n) * bytes) := by rw [Nat.mul_assoc]
  omega
 let nc := (Question.appendCap (len + n) cap e).cut (w.tape w.drawn (.appendCap (len + n) cap e))
 have hnc : len + n ≤ nc := by simp [nc, Question.cut]
 refine ⟨nc, { w with drawn := w.drawn + 1, heap := w.heap.push (.cells (os ++ xs ++ Builtin.zeroCells z.cells (nc - (len + n))) e) }, Builtin.zeroCells z.cells (nc - (len + n)), hnc, ?_, ⟨rfl, rfl, rfl, rfl⟩, ?_⟩
 · rw [zeroCells_size, hzs]
 · simp only [Builtin.append_, List.getElem?_toArray, List.getElem?_cons_zero, List.getElem?_cons_succ, Sem.run_bind, run_underlying A.ht, Result.andThen_ok, szT_run A.hs, run_underlying hd1, Sem.run_pure, hm, Bool.false_eq_true, if_false, h1, Bool.not_false, if_true]
   rw [if_neg (by omega)]
   simp only [Sem.run_bind, info_run hi, Result.andThen_ok, hbi]
   have hc1 : ¬ (((len + n : Nat) : Int) > IntKind.i64.max ∧ (False ∨ bytes = 0)) := by
    rintro ⟨_, h | h⟩
    · exact h
    · exact A.hbz h
   rw [if_neg hc1]
   simp only [info_run hi, Result.andThen_ok, hbi, if_neg hnext, Sem.run_bind, run_choose, Question.forced, Bool.false_eq_true, if_false, run_askRoom, h3, h2, zeroValue, hz, Sem.run_pure, newRow_run]
   rfl
structure AppTo (P : Program) (t u e ty : TypeId) (sz bytes n : Nat) (xv : Value) (xs : Array Value) (w : World) : Prop where
 fits : ∀ {base : Option Addr} {len cap : Nat} {w' : World}, len + n ≤ cap → (∀ a, base = some a → (storeCells (a.add (len * sz)) xs.toList).run P w = .ok () w') → (base = none → w' = w) →
  (Builtin.append_ #[t, u] ty #[.slice base len cap, xv]).run P w = .ok (.slice base (len + n) cap) w'
 grows : ∀ {base : Option Addr} {len cap : Nat} {os : Array Value}, cap < len + n → (len + n) * bytes ≤ 2 ^ 47 → (∀ d, (Builtin.firstCells sz len (.slice base len cap)).run P { w with drawn := d } = .ok os { w with drawn := d }) →
  ∃ newCap w', ∃ rest : Array Value, len + n ≤ newCap ∧ rest.size = (newCap - (len + n)) * sz ∧ Pushed w w' (.cells (os ++ xs ++ rest) e) ∧
   (Builtin.append_ #[t, u] ty #[.slice base len cap, xv]).run P w = .ok (.slice (some ⟨w.heap.size, 0, none⟩) (len + n) newCap) w'
theorem AppTo.plain {t u e ty : TypeId} {sz bytes : Nat} (A : AppT P t e sz bytes) (hu : ∃ d, P.underlying u = some d ∧ ∀ k, d ≠ .int k) {n : Nat} {xv : Value} {xs : Array Value}
    (h1 : (Builtin.lenOf xv).run P w = .ok n w) (h2 : (Builtin.firstCells sz n xv).run P w = .ok xs w) (h3 : ∀ d, (Builtin.firstCells sz n xv).run P { w with drawn := d } = .ok xs { w with drawn := d }) : AppTo P t u e ty sz bytes n xv xs w :=
 ⟨fun hle a b => append_fits A hu h1 h2 hle a b, fun hlt hb h => append_grows A hu h1 h3 hlt hb h⟩
theorem AppTo.zeros {t u e ty : TypeId} {sz bytes : Nat} (A : AppT P t e sz bytes) {k q : IntKind} (hu : P.underlying u = some (.int k)) {n : Nat} (hn : n < 2 ^ 63) (hnb : n * bytes ≤ 2 ^ 48) {z : Value} (hz : ∀ w, (zeroValue e).run P w = .ok z w) (hzs : z.cells.size = sz) :
    AppTo P t u e ty sz bytes n (.int q n) (if n * sz = 0 then #[] else Builtin.zeroCells z.cells n) w := by
 obtain ⟨i, z', hi, hbi, hz', hzs'⟩ := A.hb
 have hw : IntKind.i64.wrap (n : Int) = n := by
  have h1 : ((n : Int) % (2 ^ IntKind.i64.bits : Int)) = n := by show (n : Int) % 2 ^ 64 = n; omega
  have h2 : ¬ ((n : Int) ≥ (2 ^ (IntKind.i64.bits - 1) : Int)) := by show ¬ ((n : Int) ≥ 2 ^ 63); omega
  simp only [IntKind.wrap, h1, h2, decide_false, Bool.and_false, Bool.false_eq_true, if_false]
 have hl0 : ¬ ((n : Int) < 0) := by omega
 have hb48 : ¬ ((n : Int) * (bytes : Int) > 2 ^ 48) := by
  have : ((n * bytes : Nat) : Int) ≤ 2 ^ 48 := by exact_mod_cast hnb
  rw [Int.natCast_mul] at this; omega
 have happ : ∀ w', (if n * sz = 0 then pure #[] else do pure (Builtin.zeroCells (← zeroValue e).cells n) : Sem (Array Value)).run P w' = .ok (if n * sz = 0 then #[] else Builtin.zeroCells z.cells n) w' := by
  intro w'
  split
  · simp
  · simp [hz, Result.andThen]
 refine ⟨fun {base len cap w'} hle h3 h4 => ?_, fun {base len cap os} hlt hb h3 => ?_⟩
 · simp only [Builtin.append_, List.getElem?_toArray, List.getElem?_cons_zero, List.getElem?_cons_succ, Sem.run_bind, run_underlying A.ht, Result.andThen_ok, szT_run A.hs, run_underlying hu, Sem.run_pure, if_true, asInt, asIntOf, hw, if_neg hl0, info_run hi, hbi, if_neg hb48, Int.toNat_natCast, Bool.not_true, Bool.false_eq_true, if_false]
   rw [if_pos hle]
   cases base with
   | none => have := h4 rfl; subst this; simp only [Sem.run_bind, happ, Result.andThen_ok, Sem.run_pure]
   | some a => simp only [Sem.run_bind, happ, Result.andThen_ok, h3 a rfl, Sem.run_pure]
 · have hn2 : len + n ≤ 2 ^ 47 := by
     have : 1 ≤ bytes := by have := A.hbz; omega
     calc len + n = (len + n) * 1 := by omega
      _ ≤ (len + n) * bytes := Nat.mul_le_mul_left _ this
      _ ≤ 2 ^ 47 := hb
   have hnext : ¬ (Builtin.nextslicecap (len + n) cap * bytes > 2 ^ 48) := by
    have := next_le (len + n) cap hlt
    have h5 : Builtin.nextslicecap (len + n) cap * bytes ≤ 2 * (len + n) * bytes := Nat.mul_le_mul_right _ this
    have h6 : 2 * (len + n) * bytes = 2 * ((len + n) * bytes) := by rw [Nat.mul_assoc]
    omega
   let nc := (Question.appendCap (len + n) cap e).cut (w.tape w.drawn (.appendCap (len + n) cap e))
   have hnc : len + n ≤ nc := by simp [nc, Question.cut]
   refine ⟨nc, { w with drawn := w.drawn + 1, heap := w.heap.push (.cells (os ++ (if n * sz = 0 then #[] else Builtin.zeroCells z.cells n) ++ Builtin.zeroCells z.cells (nc - (len + n))) e) }, Builtin.zeroCells z.cells (nc - (len + n)), hnc, ?_, ⟨rfl, rfl, rfl, rfl⟩, ?_⟩
   · rw [zeroCells_size, hzs]
   · simp only [Builtin.append_, List.getElem?_toArray, List.getElem?_cons_zero, List.getElem?_cons_succ, Sem.run_bind, run_underlying A.ht, Result.andThen_ok, szT_run A.hs, run_underlying hu, Sem.run_pure, if_true, asInt, asIntOf, hw, if_neg hl0, info_run hi, hbi, if_neg hb48, Int.toNat_natCast, Bool.not_true, Bool.false_eq_true, if_false]
     rw [if_neg (by omega)]
     have hc1 : ¬ (((len + n : Nat) : Int) > IntKind.i64.max ∧ (True ∨ bytes = 0)) := by
      rintro ⟨h, _⟩
      simp only [IntKind.max_i64] at h; omega
     simp only [Sem.run_bind, info_run hi, Result.andThen_ok, hbi]
     rw [if_neg hc1]
     simp only [info_run hi, Result.andThen_ok, hbi, if_neg hnext, Sem.run_bind, run_choose, Question.forced, Bool.false_eq_true, if_false, run_askRoom, h3, happ, hz, Sem.run_pure, newRow_run]
     rfl
def StepOk (P : Program) (ρ : Operand → Value) (m : Nat → Loc) (ml : Nat → Nat) (dst : Option Nat) (s : St) (o : Oper) (w : World) (v : AV) (s' : St) : Prop :=
 ∃ m' ml' w', ((execOp ρ o).run P w = .ok (.value (conc m' ml' v)) w' ∨ ((execOp ρ o).run P w = .ok .skip w' ∧ v = undefA)) ∧
  Sim P m' ml' s'.loc s'.H w' ∧ Grow m ml s.loc s.H w m' ml' s'.loc s'.H w' ∧ vOk (good m' s'.H.n) LT v ∧ s'.env = s.env ∧ ∀ t, ml' t = ml t ∨ (dst = some t ∧ freeL t s.env = true)
theorem oldA_run (S : Sim P m ml loc H w) {id off len sz : Nat} {xs : List AV} (h : oldA H id off len sz = some xs) :
    (∀ d, (loadCells ((m id).at off) (len * sz)).run P { w with drawn := d } = .ok (concL m ml xs).toArray { w with drawn := d }) ∧ AV.okPL (good m H.n) xs ∧ xs.all AV.one = true ∧ xs.length = len * sz := by
 unfold oldA at h
 split at h
 · rename_i h0; subst h0
   cases h; simp [concL, AV.okPL, loadCells, loadCellsFrom]
 · obtain ⟨h1, h2, h3, h4⟩ := cutA_run (P := P) S h
   exact ⟨fun d => (cutA_run (P := P) (S.frame (w' := { w with drawn := d }) fun _ _ => rfl) h).1, h2, h3, h4⟩
theorem firstA_drawn (S : Sim P m ml loc H w) {sz n : Nat} {x : AV} {xs : List AV} (h : firstA H sz x = some (n, xs)) (d : Nat) :
    (Builtin.firstCells sz n (conc m ml x)).run P { w with drawn := d } = .ok (concL m ml xs).toArray { w with drawn := d } :=
 (firstA_run (P := P) (S.frame (w' := { w with drawn := d }) fun _ _ => rfl) h).2.1
theorem row_grown {st : Bool} (S : Sim P m ml loc H w) {os xs : List AV} {rest : Array Value} {e : TypeId} (hp : Pushed w w' (.cells ((concL m ml os).toArray ++ (concL m ml xs).toArray ++ rest) e)) :
    RowAt st m ml w' ⟨w.heap.size, 0, os.length + xs.length + rest.size⟩ (os ++ xs) := by
 have hsz : ((concL m ml os).toArray ++ (concL m ml xs).toArray ++ rest).size = os.length + xs.length + rest.size := by simp [concL_eq]
 have := rowAt_new0 (st := st) (m := m) (ml := ml) hp (cells := os ++ xs) (fun i v hi => ?_) (by rw [hsz]; simp)
 · rw [hsz] at this; exact this
 · have hlt := (List.getElem?_eq_some_iff.1 hi).1
   rw [Array.getElem?_append_left (by simp [concL_eq]; simpa using hlt)]
   have e : (concL m ml os).toArray ++ (concL m ml xs).toArray = ((os ++ xs).map (conc m ml)).toArray := by simp [concL_eq]
   rw [e]
   simp only [List.getElem?_toArray, List.getElem?_map, hi, Option.map_some]
theorem owned_dead {id i : Nat} {o : AObj} (hw : H.wf) (hi : H.get id = some o) (h : Owned (H.set id .dead) i) : Owned H i ∧ i ≠ id := by
 obtain ⟨x, h1, h2⟩ := h
 rw [AHeap.get_set hw (AHeap.get_lt hi hw)] at h1
 split at h1
 · cases h1; simp [AObj.owned] at h2
 · exact ⟨⟨x, h1, h2⟩, by assumption⟩
theorem ro_dead {id i : Nat} {o : AObj} (hw : H.wf) (hi : H.get id = some o) (h : IsRo (H.set id .dead) i) : IsRo H i ∧ i ≠ id := by
 obtain ⟨x, h1, h2⟩ := h
 rw [AHeap.get_set hw (AHeap.get_lt hi hw)] at h1
 split at h1
 · cases h1; simp [AObj.isRo] at h2
 · exact ⟨⟨x, h1, h2⟩, by assumption⟩
theorem dead_pres {id i : Nat} {o o' : AObj} (hw : H.wf) (hi : H.get id = some o) (h1 : i < ((H.set id .dead).alloc o').low) (h2 : i < H.n) : ((H.set id .dead).alloc o').get i = H.get i := by
 have hlt := AHeap.get_lt hi hw
 rw [AHeap.get_alloc, if_neg (by simp; omega), AHeap.get_set hw hlt, if_neg]
 simp only [AHeap.set, AHeap.alloc] at h1
 rintro rfl
 split at h1 <;> omega
theorem dead_ro {id i : Nat} {o o' : AObj} (hw : H.wf) (hi : H.get id = some o) (ho' : o'.isRo = false) (h : IsRo ((H.set id .dead).alloc o') i) : IsRo H i := by
 rw [IsRo.alloc_iff (AHeap.wf_set hw)] at h
 rcases h with ⟨_, h⟩ | h
 · rw [ho'] at h; cases h
 · exact (ro_dead hw hi h).1
theorem dead_low {id : Nat} {o' : AObj} : ((H.set id .dead).alloc o').low ≤ H.low := by
 simp only [AHeap.set, AHeap.alloc]
 split <;> omega
theorem Grow.of_alias {id : Nat} {o o' : AObj} {l : Loc} (hw : H.wf) (hi : H.get id = some o) (ho : o.owned = true) (ho' : o'.isRo = false) (h : Wrote w w' (m id).block) (hl : l.block = (m id).block) :
    Grow m ml loc H w (upd m H.n l) ml loc ((H.set id .dead).alloc o') w' := by
 refine ⟨by simp, fun i hi2 => upd_ne _ _ (by omega), by rw [h.size]; exact Nat.le_refl _, h.os, h.tape, h.output, fun b hb h1 h2 => h.other b fun e => h1 id ⟨o, hi, ho⟩ e.symm, ?_, fun t c ht => .inl ⟨c, ht, rfl⟩, dead_low, fun i h1 h2 => dead_pres hw hi h1 h2, fun i h => dead_ro hw hi ho' h⟩
 intro i hi2
 rw [Owned.alloc_iff (AHeap.wf_set hw)] at hi2
 rcases hi2 with ⟨rfl, _⟩ | hi2
 · exact .inl ⟨id, ⟨o, hi, ho⟩, by simp [hl]⟩
 · have := (owned_dead hw hi hi2).1
   exact .inl ⟨i, this, by rw [upd_ne _ _ (Nat.ne_of_lt (this.lt hw))]⟩
theorem Grow.of_dead_push {id : Nat} {o o' : AObj} {ob : Obj} {l : Loc} (hw : H.wf) (hi : H.get id = some o) (ho' : o'.isRo = false) (h : Pushed w w' ob) (hl : l.block = w.heap.size) :
    Grow m ml loc H w (upd m H.n l) ml loc ((H.set id .dead).alloc o') w' := by
 refine ⟨by simp, fun i hi2 => upd_ne _ _ (by omega), by rw [h.size]; omega, h.os, h.tape, h.output, fun b hb _ _ => h.old hb, ?_, fun t c ht => .inl ⟨c, ht, rfl⟩, dead_low, fun i h1 h2 => dead_pres hw hi h1 h2, fun i h => dead_ro hw hi ho' h⟩
 intro i hi2
 rw [Owned.alloc_iff (AHeap.wf_set hw)] at hi2
 rcases hi2 with ⟨rfl, _⟩ | hi2
 · exact .inr (by simp [hl])
 · have := (owned_dead hw hi hi2).1
   exact .inl ⟨i, this, by rw [upd_ne _ _ (Nat.ne_of_lt (this.lt hw))]⟩
set_option maxHeartbeats 400000 in
theorem appendX_run {t u e ty : TypeId} {sz bytes n : Nat} {xv : Value} {xs : List AV} (A : AppT P t e sz bytes) (T : AppTo P t u e ty sz bytes n xv (concL m ml xs).toArray w) (x3 : AV.okPL (good m H.n) xs) (x4 : xs.all AV.one = true) (x5 : xs.length = n * sz) (S : Sim P m ml loc H w) {a v : AV} {H' : AHeap} (ha : vOk (good m H.n) LT a) (h : appendX H sz bytes n xs a = some (v, H')) :
    ∃ m' w', (Builtin.append_ #[t, u] ty #[conc m ml a, xv]).run P w = .ok (conc m' ml v) w' ∧ Sim P m' ml loc H' w' ∧ Grow m ml loc H w m' ml loc H' w' ∧ vOk (good m' H'.n) LT v := by
 unfold appendX at h
 have G : ∀ {base : Option Addr} {len cap : Nat} {os : List AV}, cap < len + n → (len + n) * bytes ≤ 2 ^ 47 → (∀ d, (Builtin.firstCells sz len (.slice base len cap)).run P { w with drawn := d } = .ok (concL m ml os).toArray { w with drawn := d }) →
     os.length = len * sz → AV.okPL (good m H.n) os → os.all AV.one = true →
     ∃ l w', l.block = w.heap.size ∧ (∀ st, RowAt st m ml w' l (os ++ xs)) ∧ (∃ o, Pushed w w' o) ∧ (∃ q, l.room = q * sz ∧ len + n ≤ q ∧ l.base = 0 ∧
      (Builtin.append_ #[t, u] ty #[.slice base len cap, xv]).run P w = .ok (.slice (some (l.at 0)) (len + n) q) w') := by
  intro base len cap os hlt hb h3 hos ho1 ho2
  obtain ⟨nc, w', rest, k1, k2, k3, k4⟩ := T.grows hlt hb h3
  refine ⟨⟨w.heap.size, 0, os.length + xs.length + rest.size⟩, w', rfl, fun st => row_grown S k3, ⟨_, k3⟩, nc, ?_, k1, rfl, ?_⟩
  · simp only [hos, x5, k2]
    rw [← Nat.add_mul, ← Nat.add_mul]
    congr 1; omega
  · rw [k4]; rfl
 have okx : ∀ os : List AV, AV.okPL (good m H.n) os → os.all AV.one = true → (AObj.row false sz (os ++ xs)).okP (good m H.n) := by
  intro os h1 h2
  refine ⟨(okPL_iff _ _).2 fun v hv => ?_, by simp [h2, x4]⟩
  rcases List.mem_append.1 hv with hv | hv
  · exact (okPL_iff _ _).1 h1 v hv
  · exact (okPL_iff _ _).1 x3 v hv
 split at h
 ·
  split at h
  · rename_i h0
    cases h
    subst h0
    refine ⟨m, w, ?_, S, .refl .., .of (by simp [AV.okP])⟩
    simp only [conc]
    exact T.fits (Nat.le_refl _) (fun a h => by cases h) (fun _ => rfl)
  · rename_i h0
    split at h
    · rename_i hb
      cases h
      obtain ⟨l, w', g1, g2, ⟨o, g3⟩, q, g4, g5, g6, g7⟩ := G (base := none) (len := 0) (cap := 0) (os := []) (by omega) (by simpa using hb) (fun d => by simp [Builtin.firstCells, concL]) (by simp) (by simp [AV.okPL]) rfl
      simp only [Nat.zero_add] at g5 g7
      have S1 : Sim P m ml loc H w' := S.frame fun b hb => g3.old (S.used_lt hb)
      refine ⟨upd m H.n l, w', ?_, S1.add_obj (o := .row false sz xs) (g2 _) (okx [] (by simp [AV.okPL]) rfl) (fun b hb e => by have := S.used_lt hb; omega) rfl (fun _ _ _ => g6), .of_push S.wf rfl g3 g1, .of ?_⟩
      · simp only [conc]
        rw [g7]
        simp only [upd_same, g4, Nat.sub_zero]
        rw [Nat.mul_div_cancel _ (by have := A.hnz; omega)]
      · simp only [AV.okP, good, AHeap.alloc_n, upd_same, g4, Nat.zero_add, Nat.max_self]
        exact ⟨by omega, Nat.mul_le_mul_right _ g5⟩
    · cases h
 ·
  split at h
  · rename_i h0
    cases h
    subst h0
    refine ⟨m, w, ?_, S, .refl .., ha⟩
    simp only [conc]
    have : xs = [] := List.length_eq_zero_iff.1 (by rw [x5]; simp)
    subst this
    exact T.fits (Nat.le_refl _) (fun a h => by simp [concL, storeCells]) (fun h => by cases h)
  · rename_i b0 off0 spot0 h0
    split at h
    · rename_i hb
      cases h
      obtain ⟨l, w', g1, g2, ⟨o, g3⟩, q, g4, g5, g6, g7⟩ := G (base := some ⟨b0, off0, spot0⟩) (len := 0) (cap := 0) (os := []) (by omega) (by simpa using hb) (fun d => by simp [Builtin.firstCells, concL, loadCells, loadCellsFrom]) (by simp) (by simp [AV.okPL]) rfl
      simp only [Nat.zero_add] at g5 g7
      have S1 : Sim P m ml loc H w' := S.frame fun b hb => g3.old (S.used_lt hb)
      refine ⟨upd m H.n l, w', ?_, S1.add_obj (o := .row false sz xs) (g2 _) (okx [] (by simp [AV.okPL]) rfl) (fun b hb e => by have := S.used_lt hb; omega) rfl (fun _ _ _ => g6), .of_push S.wf rfl g3 g1, .of ?_⟩
      · simp only [conc]
        rw [g7]
        simp only [upd_same, g4, Nat.sub_zero]
        rw [Nat.mul_div_cancel _ (by have := A.hnz; omega)]
      · simp only [AV.okP, good, AHeap.alloc_n, upd_same, g4, Nat.zero_add, Nat.max_self]
        exact ⟨by omega, Nat.mul_le_mul_right _ g5⟩
    · cases h
 ·
  split at h
  · rename_i h0
    cases h
    subst h0
    refine ⟨m, w, ?_, S, .refl .., ha⟩
    simp only [conc]
    have : xs = [] := List.length_eq_zero_iff.1 (by rw [x5]; simp)
    subst this
    exact T.fits (Nat.zero_le _) (fun a h => by simp [concL, storeCells]) (fun h => by cases h)
  · cases h
 ·
  rename_i id off len c
  have hg := ha.noL rfl
  simp only [AV.okP] at hg
  split at h
  · rename_i h0
    cases h
    obtain ⟨rfl, hlc⟩ := h0
    refine ⟨m, w, ?_, S, .refl .., ha⟩
    simp only [conc]
    have : xs = [] := List.length_eq_zero_iff.1 (by rw [x5]; simp)
    subst this
    exact T.fits hlc (fun a h => by simp [concL, storeCells]) (fun h => by cases h)
  · split at h
    · cases h
    · rename_i hb
      split at h
      · rename_i hfit
        split at h
        · rename_i e' cells hi
          split at h
          · rename_i hle
            cases h
            have ho := S.obj id _ hi
            have hok := S.ok id _ hi
            obtain ⟨w', r1, r2, r3⟩ := rowAt_wr (P := P) ho (off := off + len * sz) (vs := xs) (by rw [x5, Nat.add_assoc, ← Nat.add_mul]; exact hle) x4
            refine ⟨m, w', ?_, S.set_obj hi rfl r3 ⟨wr_okPL x3 hok.1, wr_one x4 hok.2⟩ rfl r2.other (fun _ h hl => row_single h hl (by rw [x5, Nat.add_assoc, ← Nat.add_mul]; exact hle)), .of_set S.wf hi rfl rfl r2, .of (by simp only [AV.okP]; exact hg)⟩
            simp only [conc]
            exact T.fits hfit (fun a h => by cases h; rw [Loc.at_add]; exact r1) (fun h => by cases h)
          · cases h
        · cases h
      · rename_i hfit
        split at h
        · rename_i os hos
          cases h
          obtain ⟨o1, o2, o3, o4⟩ := oldA_run (P := P) S hos
          obtain ⟨l, w', g1, g2, ⟨o, g3⟩, q, g4, g5, g6, g7⟩ := G (base := some ((m id).at off)) (len := len) (cap := c) (os := os) (by omega) (by omega)
           (fun d => by simp only [Builtin.firstCells]; exact o1 d) o4 o2 o3
          have S1 : Sim P m ml loc H w' := S.frame fun b hb => g3.old (S.used_lt hb)
          refine ⟨upd m H.n l, w', ?_, S1.add_obj (o := .row false sz (os ++ xs)) (g2 _) (okx os o2 o3) (fun b hb e => by have := S.used_lt hb; omega) rfl (fun _ _ _ => g6), .of_push S.wf rfl g3 g1, .of ?_⟩
          · simp only [conc]
            rw [g7]
            simp only [upd_same, g4, Nat.sub_zero]
            rw [Nat.mul_div_cancel _ (by have := A.hnz; omega)]
          · simp only [AV.okP, good, AHeap.alloc_n, upd_same, g4, Nat.zero_add, Nat.max_self]
            exact ⟨by omega, Nat.mul_le_mul_right _ g5⟩
        · cases h
 ·
  rename_i id off len kc z
  have hg := ha.noL rfl
  simp only [AV.okP] at hg
  split at h
  · cases h
  rename_i hzz
  simp only [ne_eq, Decidable.not_not] at hzz
  subst hzz
  have hz := A.hnz
  split at h
  · rename_i h0
    cases h
    subst h0
    refine ⟨m, w, ?_, S, .refl .., ha⟩
    simp only [conc]
    have : xs = [] := List.length_eq_zero_iff.1 (by rw [x5]; simp)
    subst this
    have hmx : len * z ≤ max len kc * z := Nat.mul_le_mul_right _ (Nat.le_max_left _ _)
    have hle : len ≤ ((m id).room - off) / z := (Nat.le_div_iff_mul_le (by omega)).2 (by have := hg.2; omega)
    exact T.fits hle (fun a h => by simp [concL, storeCells]) (fun h => by cases h)
  · split at h
    · cases h
    · rename_i hb
      simp only [Nat.not_lt] at hb
      split at h
      · rename_i e' cells hi
        have ho := S.obj id _ hi
        have hok := S.ok id _ hi
        split at h
        · rename_i hle
          cases h
          obtain ⟨w', r1, r2, r3⟩ := rowAt_wr (P := P) ho (off := off + len * z) (vs := xs) (by rw [x5, Nat.add_assoc, ← Nat.add_mul]; exact hle) x4
          have hroom : off + (len + n) * z ≤ (m id).room := by obtain ⟨arr, _, _, h3, _⟩ := ho; omega
          have hfit : len + n ≤ ((m id).room - off) / z := (Nat.le_div_iff_mul_le (by omega)).2 (by omega)
          refine ⟨m, w', ?_, S.set_obj hi rfl r3 ⟨wr_okPL x3 hok.1, wr_one x4 hok.2⟩ rfl r2.other (fun _ h hl => row_single h hl (by rw [x5, Nat.add_assoc, ← Nat.add_mul]; exact hle)), .of_set S.wf hi rfl rfl r2, .of ?_⟩
          · simp only [conc]
            exact T.fits hfit (fun a h => by cases h; rw [Loc.at_add]; exact r1) (fun h => by cases h)
          · simp only [AV.okP, good]; refine ⟨hg.1, ?_⟩; rw [show max (len + n) (max kc (len + n)) = max (len + n) kc by omega]; rcases Nat.le_total kc (len + n) with hk | hk
            · rw [Nat.max_eq_left hk]; exact hroom
            · rw [Nat.max_eq_right hk]; have hmx : kc * z ≤ max len kc * z := Nat.mul_le_mul_right _ (Nat.le_max_right _ _); have := hg.2; omega
        · rename_i hnle
          split at h
          · rename_i hle0
            obtain ⟨hle, htag, hbig⟩ := hle0
            cases h
            have hos : cutA H id off (len * z) = some ((cells.drop off).take (len * z)) := by simp [cutA, hi, hle]
            obtain ⟨o1, o2, o3, o4⟩ := cutA_run (P := P) S hos
            have hlt := AHeap.get_lt hi S.wf
            by_cases hfit : len + n ≤ ((m id).room - off) / z
            ·
             have hroom : (len + n) * z ≤ (m id).room - off := (Nat.le_div_iff_mul_le (by omega)).1 hfit
             obtain ⟨arr, e1, e2, e3, e4⟩ := ho
             obtain ⟨w', arr', r1, r2, r3, r4⟩ := store_run P (l := m id) (off := off + len * z) (vs := concL m ml xs) e1 (by simp only [concL_eq, List.length_map, x5]; rw [Nat.add_mul] at hroom; omega) (oneCells_conc x4)
             have S1 : Sim P m ml loc (H.set id .dead) w' := S.set_obj hi rfl trivial trivial rfl r2.other
             have hsz : arr'.size = arr.size := by
              rw [← Array.length_toList, r4, wr_length _ _ _ (by simp only [concL_eq, List.length_map, x5, Array.length_toList]; rw [Nat.add_mul] at hroom; omega), Array.length_toList]
             have r3' : Unfrozen (decide (z ≠ 1)) w' (m id).block arr' := by
              obtain ⟨ty, fr, u1, u2⟩ := r3
              refine ⟨ty, fr, u1, fun i hi => u2 i (hi.imp (fun h => h) fun ⟨h1, h2⟩ => ⟨?_, h2⟩)⟩
              simp only [decide_eq_true_eq] at h1 ⊢
              exact fun he => h1 (htag he)
             have hrow : RowAt (decide (z ≠ 1)) m ml w' ⟨(m id).block, (m id).base + off, (m id).room - off⟩ ((cells.drop off).take (len * z) ++ xs) := by
              refine ⟨arr', r3', by simp only; rw [hsz]; rw [Nat.add_mul] at hroom; omega, by simp only [List.length_append, o4, x5]; rw [Nat.add_mul] at hroom; omega, ?_⟩
              intro i v hi
              simp only
              rw [← Array.getElem?_toList, r4, wr_get _ _ _ (by simp only [concL_eq, List.length_map, x5, Array.length_toList]; rw [Nat.add_mul] at hroom; omega)]
              rw [List.getElem?_append, o4] at hi
              by_cases a1 : i < len * z
              · have a2 : (m id).base + off + i < (m id).base + (off + len * z) := by omega
                simp only [a1, a2, if_true] at hi ⊢
                rw [List.getElem?_take] at hi
                simp only [a1, if_true, List.getElem?_drop] at hi
                rw [Array.getElem?_toList, Nat.add_assoc]
                exact e4 _ _ hi
              · have a2 : ¬ (m id).base + off + i < (m id).base + (off + len * z) := by omega
                simp only [a1, if_false] at hi
                have hlt2 := (List.getElem?_eq_some_iff.1 hi).1
                have a3 : (m id).base + off + i < (m id).base + (off + len * z) + (concL m ml xs).length := by simp only [concL_eq, List.length_map]; omega
                simp only [a2, a3, if_true, if_false]
                have e : (m id).base + off + i - ((m id).base + (off + len * z)) = i - len * z := by omega
                rw [e, concL_eq, List.getElem?_map, hi]
                rfl
             have hO : Owned H id := ⟨_, hi, rfl⟩
             have hget : ∀ i, (H.set id .dead).get i = if i = id then some .dead else H.get i := fun i => AHeap.get_set S.wf hlt
             have S2 : Sim P (upd m H.n ⟨(m id).block, (m id).base + off, (m id).room - off⟩) ml loc ((H.set id .dead).alloc (.row false z ((cells.drop off).take (len * z) ++ xs))) w' := by
              refine S1.add_obj (l := ⟨(m id).block, (m id).base + off, (m id).room - off⟩) hrow (okx _ o2 o3) ?_ rfl (fun c h hcl => ?_)
              rotate_left
              · injection h with _ _ h2
                have := congrArg List.length h2
                simp only [List.length_append, o4, x5] at this
                rw [Nat.add_mul] at hbig hnle
                rcases hbig with hbig | ⟨hb1, hb2⟩
                · omega
                · subst hb2
                  have := S.base id cells hi (by omega)
                  simp only; omega
              rintro b (⟨i, hi2, rfl⟩ | ⟨t', c', ht', rfl⟩)
              · intro eb
                rcases hi2 with ⟨o, h1, h2⟩ | ⟨o, h1, h2⟩
                · rw [hget] at h1
                  split at h1
                  · cases h1; simp [AObj.owned] at h2
                  · rename_i hne; exact hne (S.inj i id ⟨o, h1, h2⟩ hO eb)
                · rw [hget] at h1
                  split at h1
                  · cases h1; simp [AObj.isRo] at h2
                  · exact S.sep id i hO ⟨o, h1, h2⟩ eb.symm
              · exact fun eb => S.locsep t' c' id ht' (.inl hO) eb.symm
             refine ⟨_, w', ?_, S2, ?_, .of ?_⟩
             · simp only [conc]
               have e0 : (upd m H.n ⟨(m id).block, (m id).base + off, (m id).room - off⟩ H.n).at 0 = (m id).at off := by simp [Loc.at]
               rw [e0, upd_same]
               simp only [Nat.sub_zero]
               exact T.fits hfit (fun a h => by cases h; rw [Loc.at_add]; exact r1) (fun h => by cases h)
             · exact .of_alias S.wf hi rfl rfl r2 rfl
             · simp only [AV.okP, good, AHeap.alloc_n, AHeap.set_n, upd_same, Nat.zero_add, Nat.max_self]
               exact ⟨by omega, hroom⟩
            ·
             obtain ⟨l, w', g1, g2, ⟨o, g3⟩, q, g4, g5, g6, g7⟩ := G (base := some ((m id).at off)) (len := len) (cap := ((m id).room - off) / z) (os := (cells.drop off).take (len * z)) (by omega) hb
              (fun d => by simp only [Builtin.firstCells]; exact (cutA_run (P := P) (S.frame (w' := { w with drawn := d }) fun _ _ => rfl) hos).1) o4 o2 o3
             have S1 : Sim P m ml loc H w' := S.frame fun b hb => g3.old (S.used_lt hb)
             have S1' : Sim P m ml loc (H.set id .dead) w' := S1.set_obj hi rfl trivial trivial rfl (fun _ _ => rfl)
             refine ⟨upd m H.n l, w', ?_, S1'.add_obj (o := .row false z ((cells.drop off).take (len * z) ++ xs)) (g2 _) (okx _ o2 o3) ?_ rfl (fun _ _ _ => g6), ?_, .of ?_⟩
             · simp only [conc]
               rw [g7]
               simp only [AHeap.set_n, upd_same, g4, Nat.sub_zero]
               rw [Nat.mul_div_cancel _ (by omega)]
             · rintro b (⟨i, hi2, rfl⟩ | ⟨t', c', ht', rfl⟩) e
               · have : UsedB m ml loc H (m i).block := .inl ⟨i, hi2.imp (fun h => (owned_dead S.wf hi h).1) fun h => (ro_dead S.wf hi h).1, rfl⟩
                 have := S.used_lt this; omega
               · have := S.used_lt (.inr ⟨t', c', ht', rfl⟩); omega
             · exact .of_dead_push S.wf hi rfl g3 g1
             · simp only [AV.okP, good, AHeap.alloc_n, AHeap.set_n, upd_same, g4, Nat.zero_add, Nat.max_self]
               exact ⟨by omega, Nat.mul_le_mul_right _ g5⟩
          · cases h
      · cases h
 · cases h
theorem appendA_run {t u e ty : TypeId} {sz bytes : Nat} (A : AppT P t e sz bytes) (hu : ∃ d, P.underlying u = some d ∧ ∀ k, d ≠ .int k) (S : Sim P m ml loc H w) {a x v : AV} {H' : AHeap} (ha : vOk (good m H.n) LT a) (h : appendA H sz bytes a x = some (v, H')) :
    ∃ m' w', (Builtin.append_ #[t, u] ty #[conc m ml a, conc m ml x]).run P w = .ok (conc m' ml v) w' ∧ Sim P m' ml loc H' w' ∧ Grow m ml loc H w m' ml loc H' w' ∧ vOk (good m' H'.n) LT v := by
 unfold appendA at h
 split at h
 · cases h
 rename_i n xs hx
 obtain ⟨x1, x2, x3, x4, x5⟩ := firstA_run (P := P) S hx
 exact appendX_run A (.plain A hu x1 x2 fun d => firstA_drawn (P := P) S hx d) x3 x4 x5 S ha h
theorem appendZ_run {t u e ty : TypeId} {sz bytes : Nat} {k : IntKind} {z : Value} {zl : List AV} (A : AppT P t e sz bytes) (hu : P.underlying u = some (.int k)) (hz : ∀ w, (zeroValue e).run P w = .ok z w) (hzl : leafs z.cells.toList = some zl) (hzs : z.cells.size = sz)
    (S : Sim P m ml loc H w) {a x v : AV} {H' : AHeap} (ha : vOk (good m H.n) LT a) (h : appendZ H sz bytes zl a x = some (v, H')) :
    ∃ m' w', (Builtin.append_ #[t, u] ty #[conc m ml a, conc m ml x]).run P w = .ok (conc m' ml v) w' ∧ Sim P m' ml loc H' w' ∧ Grow m ml loc H w m' ml loc H' w' ∧ vOk (good m' H'.n) LT v := by
 unfold appendZ at h
 split at h
 · rename_i l
   split at h
   · rename_i hl
     obtain ⟨f1, f2, f3⟩ := leafs_conc hzl m ml (good m H.n)
     have hzlen : zl.length = sz := by rw [← hzs, ← Array.length_toList, ← f1]; simp [concL_eq]
     obtain ⟨k1, k2⟩ := zerosA_ok f2 f3 l.toNat
     have hsz := A.hnz
     have hb : l.toNat = 0 ∨ l.toNat * bytes ≤ 2 ^ 47 := by
      by_cases h0 : l.toNat = 0
      · exact .inl h0
      · right
        unfold appendX at h
        split at h <;> (try simp only [h0, if_false, false_and] at h)
        · split at h
          · assumption
          · cases h
        · split at h
          · assumption
          · cases h
        · cases h
        · split at h
          · cases h
          · rename_i hb; refine Nat.le_trans ?_ (Nat.not_lt.1 hb); exact Nat.mul_le_mul_right _ (Nat.le_add_left _ _)
        · split at h
          · cases h
          · split at h
            · cases h
            · rename_i hb; refine Nat.le_trans ?_ (Nat.not_lt.1 hb); exact Nat.mul_le_mul_right _ (Nat.le_add_left _ _)
        · cases h
     have hxs : (if l.toNat * sz = 0 then #[] else Builtin.zeroCells z.cells l.toNat) = (concL m ml (zerosA zl l.toNat)).toArray := by
      split
      · rename_i h0
        have : l.toNat = 0 := by rcases Nat.mul_eq_zero.1 h0 with h | h; exact h; exact absurd h hsz
        rw [this]; simp [zerosA, concL]
      · have := zeros_conc (m := m) (ml := ml) (za := z.cells) f1.symm (by omega) l.toNat
        apply Array.ext'
        rw [← this, Builtin.zeroCells]
        simp [hzs, hzlen]
     have T := AppTo.zeros (w := w) (ty := ty) A (q := .i64) hu (n := l.toNat) (by omega) (by rcases hb with h | h; rw [h]; simp; omega) hz hzs
     rw [hxs, Int.toNat_of_nonneg hl.1] at T
     exact appendX_run A T k1 k2 (by rw [zerosA_length, hzlen]) S ha h
   · cases h
 · cases h
theorem lenX_run {x : AV} {n : Nat} (h : lenX x = some n) (w : World) : (Builtin.lenOf (conc m ml x)).run P w = .ok n w := by
 unfold lenX at h
 split at h <;> cases h <;> simp [conc, Builtin.lenOf, bsize]
theorem firstN_run (S : Sim P m ml loc H w) {sz n : Nat} {x : AV} {xs : List AV} (h : firstN H sz n x = some xs) :
    (Builtin.firstCells sz n (conc m ml x)).run P w = .ok (concL m ml xs).toArray w ∧ AV.okPL (good m H.n) xs ∧ xs.all AV.one = true ∧ xs.length = n * sz := by
 unfold firstN at h
 split at h
 · obtain ⟨h1, h2, h3, h4⟩ := cutA_run (P := P) S h
   exact ⟨by simp only [conc, Builtin.firstCells]; exact h1, h2, h3, h4⟩
 · obtain ⟨h1, h2, h3, h4⟩ := cutA_run (P := P) S h
   exact ⟨by simp only [conc, Builtin.firstCells]; exact h1, h2, h3, h4⟩
 · rename_i l
   split at h
   · rename_i h1
     cases h
     obtain ⟨rfl, hle⟩ := h1
     refine ⟨?_, ?_, ?_, by simp; omega⟩
     · simp only [conc, Builtin.firstCells, extract_mk, Sem.run_pure]
       congr 1
       simp only [List.drop_zero, Nat.sub_zero, concL_eq, List.map_toArray, List.map_map]
       congr 1
     · rw [okPL_iff]; intro v hv; rw [List.mem_map] at hv; obtain ⟨b, _, rfl⟩ := hv; simp [AV.okP]
     · rw [List.all_eq_true]; intro v hv; rw [List.mem_map] at hv; obtain ⟨b, _, rfl⟩ := hv; rfl
   · cases h
 · cases h
theorem copyTo_run {t e ty : TypeId} {ts : Array TypeId} {sz lx len id off cap : Nat} (hts : ts[0]? = some t) (ht : P.underlying t = some (.slice e)) (hs : szT P e = some sz) (S : Sim P m ml s.loc s.H w) {x v : AV} (hx : lenX x = some lx) (h : copyTo s sz (min lx len) id off x = some (v, s')) :
    ∃ w', (Builtin.copy_ ts ty #[.slice (some ((m id).at off)) len cap, conc m ml x]).run P w = .ok (conc m ml v) w' ∧ Sim P m ml s'.loc s'.H w' ∧ Grow m ml s.loc s.H w m ml s'.loc s'.H w' ∧ v.okP (good m s'.H.n) ∧ s'.env = s.env := by
 unfold copyTo at h
 have hl := lenX_run (P := P) (m := m) (ml := ml) hx w
 split at h
 · rename_i h0
   cases h
   refine ⟨w, ?_, S, .refl .., by simp [AV.okP], rfl⟩
   have hf : (Builtin.firstCells sz 0 (conc m ml x)).run P w = .ok #[] w := by
    unfold lenX at hx
    split at hx <;> first | (cases hx; done) | simp [conc, Builtin.firstCells, loadCells, loadCellsFrom]
   have h0' : Nat.min lx len = 0 := h0
   simp only [Builtin.copy_, hts, List.getElem?_toArray, List.getElem?_cons_zero, List.getElem?_cons_succ, Sem.run_bind, run_underlying ht, Result.andThen_ok, hl, szT_run hs, h0', hf]
   simp [storeCells, goInt, conc]
 · split at h
   · rename_i xs e' cells hxs hi
     split at h
     · rename_i hle
       cases h
       obtain ⟨f1, f2, f3, f4⟩ := firstN_run (P := P) S hxs
       have ho := S.obj id _ hi
       have hok := S.ok id _ hi
       obtain ⟨w', r1, r2, r3⟩ := rowAt_wr (P := P) ho (off := off) (vs := xs) (by rw [f4]; exact hle) f3
       refine ⟨w', ?_, S.set_obj hi rfl r3 ⟨wr_okPL f2 hok.1, wr_one f3 hok.2⟩ rfl r2.other, .of_set S.wf hi rfl rfl r2, by simp [AV.okP], rfl⟩
       have hmn : Nat.min lx len = min lx len := rfl
       simp only [Builtin.copy_, hts, List.getElem?_toArray, List.getElem?_cons_zero, List.getElem?_cons_succ, Sem.run_bind, run_underlying ht, Result.andThen_ok, hl, szT_run hs, hmn, f1, r1, Sem.run_pure, goInt, conc]
     · cases h
   · cases h
theorem copyA_run {t e ty : TypeId} {ts : Array TypeId} {sz : Nat} (hts : ts[0]? = some t) (ht : P.underlying t = some (.slice e)) (hs : szT P e = some sz) (S : Sim P m ml s.loc s.H w) {d x v : AV} (h : copyA s sz d x = some (v, s')) :
    ∃ w', (Builtin.copy_ ts ty #[conc m ml d, conc m ml x]).run P w = .ok (conc m ml v) w' ∧ Sim P m ml s'.loc s'.H w' ∧ Grow m ml s.loc s.H w m ml s'.loc s'.H w' ∧ v.okP (good m s'.H.n) ∧ s'.env = s.env := by
 have zero : ∀ {lx : Nat} {base : Option Addr} {cap : Nat}, lenX x = some lx → (Builtin.copy_ ts ty #[.slice base 0 cap, conc m ml x]).run P w = .ok (.int .i64 0) w := by
  intro lx base cap hx
  have hl := lenX_run (P := P) (m := m) (ml := ml) hx w
  have hf : (Builtin.firstCells sz 0 (conc m ml x)).run P w = .ok #[] w := by
   unfold lenX at hx
   split at hx <;> first | (cases hx; done) | simp [conc, Builtin.firstCells, loadCells, loadCellsFrom]
  have h0' : Nat.min lx 0 = 0 := Nat.min_zero _
  simp only [Builtin.copy_, hts, List.getElem?_toArray, List.getElem?_cons_zero, List.getElem?_cons_succ, Sem.run_bind, run_underlying ht, Result.andThen_ok, hl, szT_run hs, h0', hf]
  cases base <;> simp [storeCells, goInt]
 unfold copyA at h
 split at h
 · rename_i hx; cases h; exact ⟨w, by simp only [conc]; exact zero hx, S, .refl .., by simp [AV.okP], rfl⟩
 · rename_i hx; cases h; exact ⟨w, by simp only [conc]; exact zero hx, S, .refl .., by simp [AV.okP], rfl⟩
 · rename_i hx; cases h; exact ⟨w, by simp only [conc]; exact zero hx, S, .refl .., by simp [AV.okP], rfl⟩
 · rename_i hx; simp only [conc]; exact copyTo_run hts ht hs S hx h
 · rename_i hx; simp only [conc]; exact copyTo_run hts ht hs S hx h
 · cases h
theorem u8s_conc : ∀ {cs : List AV} {l : List UInt8}, u8s cs = some l → ∃ ns : List Int, concL m ml cs = ns.map (Value.int .u8) ∧ ∀ b : ByteArray, ns.foldl (fun r n => r.push (UInt8.ofNat n.toNat)) b = ⟨b.data ++ l.toArray⟩
 | [], l, h => by cases h; exact ⟨[], rfl, fun b => by simp⟩
 | c :: r, l, h => by
  cases c <;> try (cases h; done)
  rename_i q n
  cases q <;> try (cases h; done)
  simp only [u8s, Option.map_eq_some_iff] at h
  obtain ⟨l', h', rfl⟩ := h
  obtain ⟨ns, h1, h2⟩ := u8s_conc h'
  refine ⟨n :: ns, by simp [concL, conc, h1], fun b => ?_⟩
  rw [List.foldl_cons, h2]
  apply ByteArray.ext
  simp [ByteArray.push]
theorem bytesA_run {sr d e : TypeId} {x : AV} {l : List UInt8} (S : Sim P m ml loc H w) (hs : P.underlying sr = some (.slice e)) (he : P.underlying e = some (.int .u8)) (hd : P.underlying d = some .string) (h : bytesA H x = some l) :
    (convert sr d (conc m ml x)).run P w = .ok (.string ⟨l.toArray⟩) w := by
 have go : ∀ {a : Addr} {n c : Nat} {xs : List AV}, (loadCells a (n * 1)).run P w = .ok (concL m ml xs).toArray w → u8s xs = some l → (convert sr d (.slice (some a) n c)).run P w = .ok (.string ⟨l.toArray⟩) w := by
  intro a n c xs h1 h2
  obtain ⟨ns, h3, h4⟩ := u8s_conc (m := m) (ml := ml) h2
  rw [run_convert_bytes_string w sr d e _ _ _ hs he hd, run_bytesToString w a n c ns (by rw [← h3]; simpa using h1), h4]
  congr 2
  simp
 unfold bytesA at h
 split at h
 · cases h
   simp only [conc]
   rw [run_convert_bytes_string w sr d e _ _ _ hs he hd]
   simp [Conv.bytesToString]; rfl
 · cases h
   simp only [conc]
   exact go (xs := []) (by simp [loadCells, loadCellsFrom, concL]) rfl
 · cases h
   simp only [conc]
   exact go (xs := []) (by simp [loadCells, loadCellsFrom, concL]) rfl
 · rename_i id off len c
   obtain ⟨⟨n, xs⟩, h1, h2⟩ := Option.bind_eq_some_iff.1 h
   obtain ⟨f1, f2, _⟩ := firstA_run (P := P) S h1
   have hn : n = len := by
    simp only [conc, Builtin.lenOf] at f1
    simpa using f1.symm
   subst hn
   simp only [conc, Builtin.firstCells] at f2 ⊢
   exact go f2 h2
 · rename_i id off len kc z
   obtain ⟨⟨n, xs⟩, h1, h2⟩ := Option.bind_eq_some_iff.1 h
   obtain ⟨f1, f2, _⟩ := firstA_run (P := P) S h1
   have hn : n = len := by
    simp only [conc, Builtin.lenOf] at f1
    simpa using f1.symm
   subst hn
   simp only [conc, Builtin.firstCells] at f2 ⊢
   exact go f2 h2
 · cases h
theorem ptrEqA_run (S : Sim P m ml loc H w) {t e : TypeId} {a b : AV} {r : Bool} (ht : P.underlying t = some (.pointer e)) (hs : ∃ k, szT P e = some (k + 1)) (h : ptrEqA H a b = some r) : (Op.equal t (conc m ml a) (conc m ml b)).run P w = .ok r w := by
 obtain ⟨k, hk⟩ := hs
 have d : Op.maxDepth = 9999 + 1 := rfl
 unfold Op.equal
 rw [d]
 generalize 9999 = d
 unfold ptrEqA at h
 split at h
 · cases h; simp only [conc]; rw [eqR_ptrL w d _ ht]; rfl
 · cases h; simp only [conc]; rw [eqR_ptrL w d _ ht]; rfl
 · cases h; simp only [conc]; rw [eqR_ptrL w d _ ht]; rfl
 · cases h; simp only [conc]; rw [eqR_ptrR w d _ ht]
 · cases h; simp only [conc]; rw [eqR_ptrR w d _ ht]
 · rename_i i x j y
   split at h
   · rename_i e1 xs e2 ys hi hj
     split at h
     · rename_i hc
       cases h
       simp only [Bool.and_eq_true, decide_eq_true_eq] at hc
       have q1 : decide (e1 ≠ 1) = true := by simpa using hc.1.2
       have q2 : decide (e2 ≠ 1) = true := by simpa using hc.2
       obtain ⟨arr, ⟨ty1, fr1, a1, a2⟩, a3, a4, _⟩ := S.obj i _ hi
       obtain ⟨arr', ⟨ty2, fr2, b1, b2⟩, b3, b4, _⟩ := S.obj j _ hj
       have hin : (m i).block = (m j).block → i = j := fun e => S.inj i j ⟨_, hi, rfl⟩ ⟨_, hj, rfl⟩ e
       simp only [conc, Loc.at]
       have hsz : (sizeOf e).run P w = .ok (k + 1) w := szT_run hk w
       simp only [Op.equalIn, Sem.run_bind, run_underlying ht, Result.andThen_ok, hsz]
       rw [if_pos (by omega)]
       by_cases hb : (m i).block = (m j).block
       · have := hin hb; subst this
         have hq : ((⟨(m i).block, (m i).base + x, none⟩ : Addr) == ⟨(m i).block, (m i).base + y, none⟩) = decide (x = y) := by
          rw [Bool.eq_iff_iff, beq_iff_eq, decide_eq_true_eq]
          constructor
          · intro e; injection e with _ e _; omega
          · rintro rfl; rfl
         simp [sameAddr, hq]
       · have hne : i ≠ j := fun e => hb (by rw [e])
         have f1 : w.frozen? ⟨(m i).block, (m i).base + x, none⟩ = false := by
          simp only [World.frozen?, a1]
          have := a2 ((m i).base + x) (.inl (by omega))
          simpa using this
         have f2 : w.frozen? ⟨(m i).block, arr.size, none⟩ = false := by
          simp only [World.frozen?, a1]
          have := a2 arr.size (.inr ⟨q1, rfl⟩)
          simpa using this
         have g1 : w.frozen? ⟨(m j).block, (m j).base + y, none⟩ = false := by
          simp only [World.frozen?, b1]
          have := b2 ((m j).base + y) (.inl (by omega))
          simpa using this
         have g2 : w.frozen? ⟨(m j).block, arr'.size, none⟩ = false := by
          simp only [World.frozen?, b1]
          have := b2 arr'.size (.inr ⟨q2, rfl⟩)
          simpa using this
         have s1 : w.shape? (m i).block = some (ty1, arr.size) := by simp [World.shape?, a1]
         have s2 : w.shape? (m j).block = some (ty2, arr'.size) := by simp [World.shape?, b1]
         simp [sameAddr, hb, hne, frozen, Sem.run, f1, g1, noView, viewAt, shape, s1, s2, mayBeOne, stringish, f2, g2, Result.andThen]
     · cases h
   · cases h
 · cases h
theorem read_run {locals : List Nat} {dst : Option Nat} {o : Oper} {io : IOp} (hc : compOp P locals dst o.op = some io) (hcls : io.cls = .read) {v : AV} (he : evOp dst s io = some (v, s'))
    (hρ : ∀ x ∈ o.op.operands, OpR ρ s.env m ml p L x) (S : Sim P m ml s.loc s.H w) : s' = s ∧ (execOp ρ o).run P w = .ok (.value (conc m ml v)) w ∧ v.okP (good m s.H.n) := by
 obtain ⟨dst', op, type, pos, after, guard⟩ := o
 simp only at hc hρ
 cases op
 case load t a =>
  simp only [compOp] at hc
  split at hc
  · rename_i g sz y h1 h2 hx
    cases hc
    simp only [evOp] at he
    split at he
    · rename_i q hq
      cases hl : loadA s g sz q with
      | none => simp [hl] at he
      | some u =>
       simp [hl] at he; obtain ⟨rfl, rfl⟩ := he
       obtain ⟨e1, _⟩ := hρ a (by simp [Op.operands]) _ _ hx hq
       obtain ⟨r1, r2⟩ := loadA_run (P := P) h1 h2 S hl
       exact ⟨rfl, by simp only [execOp, e1, Sem.run_bind, r1, Result.andThen_ok, Sem.run_pure], r2⟩
    · cases he
  · cases hc
 case call c =>
  obtain ⟨callee, args, argTypes⟩ := c
  cases callee with
  | value f => simp only [compOp] at hc; obtain ⟨_, _, _, _, h3⟩ := opt2_some hc; cases h3; simp [IOp.cls] at hcls
  | invoke r n => simp [compOp] at hc
  | builtin b =>
   simp only [compOp, compBuiltin] at hc
   split at hc
   · rename_i t x ha hx1
     have ha' : argTypes = #[t] := by apply Array.ext'; simpa using ha
     have hx' : args = #[x] := by apply Array.ext'; simpa using hx1
     subst ha' hx'
     split at hc
     · cases hc; simp [IOp.cls] at hcls
     · cases hc; simp [IOp.cls] at hcls
     · cases hc; simp [IOp.cls] at hcls
     · rename_i k e y hu hx
       cases hc
       have L : ∀ (u : AV), y.ev s.env = some u → ρ x = conc m ml u := fun u h2 => (hρ x (by simp [Op.operands, Call.operands]) _ _ hx h2).1
       simp only [evOp] at he
       split at he <;> rename_i hq hv <;> first | (cases hq; done) | (cases he; done) | skip
       · cases he
         refine ⟨rfl, ?_, by simp [AV.okP]⟩
         simp [execOp, resolve, invoke, builtin, Builtin.len_, run_underlying hu, L _ hv, conc, goInt]
       · rename_i id
         split at he
         · rename_i es c hi
           cases he
           obtain ⟨ces, h1, h2⟩ := S.obj id _ hi
           have hlen : ces.size = es.length := by
            have := h2.1.length_eq
            simpa using this
           refine ⟨rfl, ?_, by simp [AV.okP]⟩
           simp [execOp, resolve, invoke, builtin, Builtin.len_, run_underlying hu, L _ hv, conc, goInt, getObj, Sem.run, h1, hlen]
         · cases he
     · cases hc
   · exfalso
     (repeat' (split at hc)) <;> (try cases hc) <;> (try (obtain ⟨_, _, _, _, h3⟩ := opt2_some hc; cases h3)) <;> simp [IOp.cls] at hcls
   · exfalso
     (repeat' (split at hc)) <;> (try cases hc) <;> simp [IOp.cls] at hcls
   · exfalso
     split at hc <;> cases hc
     simp [IOp.cls] at hcls
   · exfalso
     split at hc
     · split at hc
       · obtain ⟨_, _, _, _, h3⟩ := opt2_some hc; cases h3; simp [IOp.cls] at hcls
       · cases hc
     · cases hc
   · obtain ⟨_, _, _, _, h3⟩ := opt2_some hc; cases h3; simp [IOp.cls] at hcls
   · obtain ⟨_, _, _, _, h3⟩ := opt2_some hc; cases h3; simp [IOp.cls] at hcls
   · exfalso
     (repeat' (split at hc)) <;> cases hc
     simp [IOp.cls] at hcls
   · cases hc
 case range t x =>
  exfalso
  simp only [compOp] at hc
  split at hc
  · rw [Option.map_eq_some_iff] at hc; obtain ⟨_, _, rfl⟩ := hc; simp [IOp.cls] at hcls
  · rw [Option.map_eq_some_iff] at hc; obtain ⟨_, _, rfl⟩ := hc; simp [IOp.cls] at hcls
  · cases hc
 case next x b =>
  exfalso
  cases b <;> simp only [compOp] at hc
  · rw [Option.map_eq_some_iff] at hc; obtain ⟨_, _, rfl⟩ := hc; simp [IOp.cls] at hcls
  · rw [Option.map_eq_some_iff] at hc; obtain ⟨_, _, rfl⟩ := hc; simp [IOp.cls] at hcls
 case entry x =>
  simp only [compOp] at hc
  cases hx : opd x with
  | none => simp [hx] at hc
  | some y =>
   simp [hx] at hc; subst hc
   simp only [evOp] at he
   split at he
   · rename_i u hu
     cases hl : entryMA s.H u with
     | none => simp [hl] at he
     | some r =>
      simp [hl] at he; obtain ⟨rfl, rfl⟩ := he
      obtain ⟨e1, _⟩ := hρ x (by simp [Op.operands]) _ _ hx hu
      obtain ⟨r1, r2⟩ := entryMA_run (P := P) S hl
      exact ⟨rfl, by simp only [execOp, e1, Sem.run_bind, r1, Result.andThen_ok, Sem.run_pure], r2⟩
   · cases he
 case binOp op t x y yt =>
  rcases comp_bin hc with ⟨e, a, b, rfl, _⟩ | ⟨neg, a, rfl, _⟩ | ⟨neg, a, b, rfl, h1, h2, e, ht, hs, hop⟩
  · exfalso; simp [IOp.cls] at hcls
  · exfalso; simp [IOp.cls] at hcls
  · simp only [evOp] at he
    split at he
    · rename_i u v' hu hv
      cases hl : ptrEqA s.H u v' with
      | none => simp [hl] at he
      | some r =>
       simp [hl] at he; obtain ⟨rfl, rfl⟩ := he
       obtain ⟨e1, _⟩ := hρ x (by simp [Op.operands]) _ _ h1 hu
       obtain ⟨f1, _⟩ := hρ y (by simp [Op.operands]) _ _ h2 hv
       have key := ptrEqA_run (P := P) S ht hs hl
       refine ⟨rfl, ?_, by simp [AV.okP]⟩
       have pa : ∀ z r', ptrEqA s.H u z = some r' → ∃ q, conc m ml u = .pointer q := by
        intro z r' hz
        unfold ptrEqA at hz
        split at hz <;> first | (cases hz; done) | (simp [conc])
       have pb : ∃ q, conc m ml v' = .pointer q := by
        unfold ptrEqA at hl
        split at hl <;> first | (cases hl; done) | (simp [conc])
       obtain ⟨qa, ha⟩ := pa _ _ hl
       obtain ⟨qb, hb⟩ := pb
       rw [ha, hb] at key
       simp only [execOp, e1, f1, ha, hb]
       rcases hop with ⟨rfl, rfl⟩ | ⟨rfl, rfl⟩
       · rw [binOp_eql_of _ _ _ (by simp) (by simp) (by simp) (by simp)]
         simp only [eqGuard_at_pointer, pure_bind, Sem.run_bind, key, Result.andThen_ok, Sem.run_pure, conc]
         simp
       · rw [binOp_neq_of _ _ _ (by simp) (by simp) (by simp) (by simp)]
         simp only [eqGuard_at_pointer, pure_bind, Sem.run_bind, key, Result.andThen_ok, Sem.run_pure, conc]
         simp
    · cases he
 case mapEntry t x k =>
  exfalso
  simp only [compOp] at hc
  (repeat' (split at hc)) <;> cases hc
  simp [IOp.cls] at hcls
 case entryStore t x k v =>
  exfalso
  simp only [compOp] at hc
  (repeat' (split at hc)) <;> cases hc
  simp [IOp.cls] at hcls
 case defer c =>
  exfalso
  obtain ⟨callee, args, argTypes⟩ := c
  cases callee <;> simp only [compOp] at hc <;> first | (cases hc; done) | (obtain ⟨_, _, _, _, h3⟩ := opt2_some hc; cases h3; simp [IOp.cls] at hcls)
 case lookup t x k ok =>
  simp only [compOp] at hc
  split at hc
  · rename_i kt e hu
    split at hc
    · rename_i kT z a b hkt hz hx hk
      cases hc
      simp only [evOp] at he
      split at he
      · rename_i u v1 hau hbv
        cases hl : lookupA s.H kT ok z u v1 with
        | none => simp [hl] at he
        | some r =>
         simp [hl] at he; obtain ⟨rfl, rfl⟩ := he
         obtain ⟨e1, _⟩ := hρ x (by simp [Op.operands]) _ _ hx hau
         obtain ⟨e2, _⟩ := hρ k (by simp [Op.operands]) _ _ hk hbv
         obtain ⟨r1, r2⟩ := lookupA_run (P := P) hu hkt hz S hl
         exact ⟨rfl, by simp only [execOp, e1, e2, Sem.run_bind, r1, Result.andThen_ok, Sem.run_pure], r2⟩
      · cases he
    · cases hc
  · cases hc
 case mapUpdate t x k v1 | insert t x k v1 =>
  exfalso
  simp only [compOp] at hc
  (repeat' (split at hc)) <;> cases hc
  simp [IOp.cls] at hcls
 case convert sr d x =>
  simp only [compOp] at hc
  split at hc
  · cases hc; simp [IOp.cls] at hcls
  · cases hc; simp [IOp.cls] at hcls
  · exfalso
    (repeat' (split at hc)) <;> cases hc <;> simp [IOp.cls] at hcls
  · rename_i e1 y h1 h2 hx
    split at hc
    · rename_i hu8
      cases hc
      simp only [evOp] at he
      split at he <;> rename_i hq hv <;> first | (cases hq; done) | (cases he; done) | skip
      rename_i u
      cases hb : bytesA s.H u with
      | none => simp [hb] at he
      | some l =>
       simp [hb] at he; obtain ⟨rfl, rfl⟩ := he
       obtain ⟨f1, _⟩ := hρ x (by simp [Op.operands]) _ _ hx hv
       have := bytesA_run (P := P) S h1 hu8 h2 hb
       exact ⟨rfl, by simp only [execOp, f1, Sem.run_bind, this, Result.andThen_ok, Sem.run_pure, conc], by simp [AV.okP]⟩
    · cases hc
  · rename_i e1 y h1 h2 hx
    split at hc
    · rename_i k hk
      cases hc
      simp only [evOp] at he
      split at he <;> rename_i hq hv <;> first | (cases hq; done) | (cases he; done) | skip
      rename_i id off
      split at he
      · rename_i e' cells hi
        split at he
        · rename_i hlt
          cases he
          obtain ⟨f1, _⟩ := hρ x (by simp [Op.operands]) _ _ hx hv
          obtain ⟨arr, ⟨ty1, fr1, a1, a2⟩, a3, a4, _⟩ := S.obj id _ hi
          have s1 : w.shape? (m id).block = some (ty1, arr.size) := by simp [World.shape?, a1]
          have hnot : ¬ (arr.size ≤ (m id).base + off) := by omega
          have hsz : (sizeOf e1).run P w = .ok (k + 1) w := szT_run hk w
          refine ⟨rfl, ?_, ?_⟩
          · simp only [execOp, f1, conc, Loc.at]
            simp [convert, run_underlying h1, run_underlying h2, Conv.unsafePointer, Conv.seenAt, viewAt, shape, Sem.run, s1, cellsIn, hsz, hnot, Result.andThen]
          · simp only [AV.okP, good]
            exact ⟨AHeap.get_lt hi S.wf, Nat.zero_le _⟩
        · cases he
      · cases he
    · cases hc
  · cases hc
 case makeMap t r =>
  exfalso
  cases r <;> simp only [compOp] at hc <;> cases hc
  simp [IOp.cls] at hcls
 all_goals
  exfalso
  simp only [compOp, opt2] at hc
  first
   | (cases hc; done)
   | ((repeat' (split at hc)) <;> (try cases hc) <;> (try (rw [Option.map_eq_some_iff] at hc; obtain ⟨_, _, rfl⟩ := hc)) <;> simp [IOp.cls] at hcls)
theorem clear_run {t e ty : TypeId} {sz : Nat} {z : List AV} (ht : P.underlying t = some (.slice e)) (hs : szT P e = some sz) (hz : zeroT P e = some z) (hzl : z.length = sz) (hnz : sz ≠ 0) (S : Sim P m ml s.loc s.H w)
    {id off len : Nat} {v : AV} (h : clearA s sz z id off len = some (v, s')) (cap : Nat) :
    ∃ w', (Builtin.clear_ #[t] ty #[.slice (some ((m id).at off)) len cap]).run P w = .ok (.tuple #[]) w' ∧ v = undefA ∧ Sim P m ml s'.loc s'.H w' ∧ Grow m ml s.loc s.H w m ml s'.loc s'.H w' ∧ s'.env = s.env := by
 unfold clearA at h
 split at h
 · rename_i h0
   cases h
   subst h0
   refine ⟨w, ?_, rfl, S, .refl .., rfl⟩
   simp [Builtin.clear_, run_underlying ht]
 · rename_i h0
   split at h
   · rename_i e' cells hi
     split at h
     · rename_i hc
       cases h
       simp only [Bool.and_eq_true, decide_eq_true_eq] at hc
       obtain ⟨⟨zv, hz1, hz2⟩, hz3, hz4⟩ := zeroT_run hz m ml (good m s.H.n)
       obtain ⟨k1, k2⟩ := zerosA_ok hz3 hz4 len
       have ho := S.obj id _ hi
       have hok := S.ok id _ hi
       obtain ⟨w', r1, r2, r3⟩ := rowAt_wr (P := P) ho (off := off) (vs := zerosA z len) (by rw [zerosA_length, hzl]; exact hc.1) k2
       refine ⟨w', ?_, rfl, S.set_obj hi rfl r3 ⟨wr_okPL k1 hok.1, wr_one k2 hok.2⟩ rfl r2.other (fun _ h hl => row_single h hl (by rw [zerosA_length, hzl]; exact hc.1)), .of_set S.wf hi rfl rfl r2, rfl⟩
       have hzc : (Builtin.zeroCells zv.cells len).toList = concL m ml (zerosA z len) := by
        have hs2 : zv.cells.size = z.length := by rw [← Array.length_toList, hz2]; simp [concL_eq]
        have := zeros_conc (m := m) (ml := ml) hz2 (by omega) len
        rw [← this, Builtin.zeroCells, hs2]
       obtain ⟨n, rfl⟩ : ∃ n, len = n + 1 := ⟨len - 1, by omega⟩
       simp only [Builtin.clear_, List.getElem?_toArray, List.getElem?_cons_zero, Sem.run_bind, run_underlying ht, Result.andThen_ok, hz1, hzc, r1, Sem.run_pure]
     · cases h
   · cases h
theorem effect_sound {locals : List Nat} {dst : Option Nat} {o : Oper} {io : IOp} (hc : compOp P locals dst o.op = some io) (hnd : plainOp io = true) (hcls : io.cls = .effect) {v : AV} (he : evOp dst s io = some (v, s'))
    (hρ : ∀ x ∈ o.op.operands, OpR ρ s.env m ml (good m s.H.n) LT x) (S : Sim P m ml s.loc s.H w) :
    ∃ m' w', ((execOp ρ o).run P w = .ok (.value (conc m' ml v)) w' ∨ ((execOp ρ o).run P w = .ok .skip w' ∧ v = undefA)) ∧
     Sim P m' ml s'.loc s'.H w' ∧ Grow m ml s.loc s.H w m' ml s'.loc s'.H w' ∧ vOk (good m' s'.H.n) LT v ∧ s'.env = s.env := by
 obtain ⟨dst', op, type, pos, after, guard⟩ := o
 simp only at hc hρ
 cases op
 case store t a x =>
  simp only [compOp] at hc
  split at hc
  · rename_i sz y z h1 hy hz
    cases hc
    simp only [evOp] at he
    split at he
    · rename_i q u hq hu
      cases hs : storeA s sz u q with
      | none => simp [hs] at he
      | some s1 =>
       simp [hs] at he; obtain ⟨rfl, rfl⟩ := he
       obtain ⟨e1, _⟩ := hρ a (by simp [Op.operands]) _ _ hy hq
       obtain ⟨f1, f2⟩ := hρ x (by simp [Op.operands]) _ _ hz hu
       obtain ⟨w', r1, r2, r3, r4, r5⟩ := storeA_run (P := P) h1 S f2 hs
       exact ⟨m, w', .inr ⟨by simp only [execOp, e1, f1, Sem.run_bind, r1, Result.andThen_ok, Sem.run_pure], rfl⟩, r2, r3, .of (by simp [undefA, AV.okP, AV.okPL]), r4⟩
    · cases he
  · cases hc
 case call c =>
  obtain ⟨callee, args, argTypes⟩ := c
  cases callee with
  | value f => simp only [compOp] at hc; obtain ⟨_, _, _, _, h3⟩ := opt2_some hc; cases h3; simp [evOp] at he
  | invoke r n => simp [compOp] at hc
  | builtin b =>
   simp only [compOp, compBuiltin] at hc
   split at hc
   · exfalso
     (repeat' (split at hc)) <;> (try cases hc) <;> simp [IOp.cls] at hcls
   · rename_i t u x y ha hx1
     have ha' : argTypes = #[t, u] := by apply Array.ext'; simpa using ha
     have hx' : args = #[x, y] := by apply Array.ext'; simpa using hx1
     subst ha' hx'
     split at hc
     · rename_i e ht
       split at hc
       · rename_i sz bytes z hsz hb hz
         split at hc
         · cases hc
         · rename_i hcond
           obtain ⟨hs1, hnz⟩ := pszT_szT hsz
           simp only [Bool.or_eq_true, not_or, bne_iff_ne, ne_eq, Decidable.not_not, Option.isNone_iff_eq_none, decide_eq_true_eq] at hcond
           obtain ⟨⟨c2, c3⟩, c4⟩ := hcond
           have hinf : ∃ i, P.info? e = some i ∧ i.bytes = bytes ∧ i.zero = some z := by
            cases hi : P.info? e with
            | none => simp [hi] at hb
            | some i => simp [hi] at hb hz; exact ⟨i, rfl, hb, hz⟩
           obtain ⟨i, hi1, hi2, hi3⟩ := hinf
           have A : AppT P t e sz bytes := ⟨ht, hs1, hnz, ⟨i, z, hi1, hi2, hi3, c4⟩, c3⟩
           split at hc
           · rename_i hint
             split at hc
             · rename_i zl hzl
               obtain ⟨a, b, hxa, hyb, h3⟩ := opt2_some hc
               cases h3
               have hk : ∃ k, P.underlying u = some (.int k) := by
                unfold isInt at hint
                split at hint
                · rename_i k hk; exact ⟨k, hk⟩
                · cases hint
               obtain ⟨k, hk⟩ := hk
               simp only [evOp] at he
               split at he
               · rename_i q r hq hr
                 cases hap : appendZ s.H sz bytes zl q r with
                 | none => simp [hap] at he
                 | some vr =>
                  obtain ⟨v1, H1⟩ := vr
                  simp [hap] at he; obtain ⟨rfl, rfl⟩ := he
                  obtain ⟨e1, e2⟩ := hρ x (by simp [Op.operands, Call.operands]) _ _ hxa hq
                  obtain ⟨f1, _⟩ := hρ y (by simp [Op.operands, Call.operands]) _ _ hyb hr
                  obtain ⟨m', w', r1, r2, r3, r4⟩ := appendZ_run (ty := type) A hk (z := z) (fun w => by simp [zeroValue, info_run hi1, hi3]) hzl c4 S e2 hap
                  refine ⟨m', w', .inl ?_, r2, r3, r4, rfl⟩
                  simp only [execOp, resolve, List.map_toArray, List.map_cons, List.map_nil, e1, f1, pure_bind, Sem.run_bind, invoke, builtin, r1, Result.andThen_ok, Sem.run_pure]
               · cases he
             · cases hc
           · rename_i hint
             obtain ⟨a, b, hxa, hyb, h3⟩ := opt2_some hc
             cases h3
             have hu : ∃ d, P.underlying u = some d ∧ ∀ k, d ≠ .int k := by
              cases hd : P.underlying u with
              | none => exact absurd hd c2
              | some d => exact ⟨d, rfl, fun k hk => by subst hk; simp [isInt, hd] at hint⟩
             simp only [evOp] at he
             split at he
             · rename_i q r hq hr
               cases hap : appendA s.H sz bytes q r with
               | none => simp [hap] at he
               | some vr =>
                obtain ⟨v1, H1⟩ := vr
                simp [hap] at he; obtain ⟨rfl, rfl⟩ := he
                obtain ⟨e1, e2⟩ := hρ x (by simp [Op.operands, Call.operands]) _ _ hxa hq
                obtain ⟨f1, _⟩ := hρ y (by simp [Op.operands, Call.operands]) _ _ hyb hr
                obtain ⟨m', w', r1, r2, r3, r4⟩ := appendA_run (ty := type) A hu S e2 hap
                refine ⟨m', w', .inl ?_, r2, r3, r4, rfl⟩
                simp only [execOp, resolve, List.map_toArray, List.map_cons, List.map_nil, e1, f1, pure_bind, Sem.run_bind, invoke, builtin, r1, Result.andThen_ok, Sem.run_pure]
             · cases he
       · cases hc
     · cases hc
   · rename_i t x ha hx1
     have ha' : argTypes = #[t] := by apply Array.ext'; simpa using ha
     have hx' : args = #[x] := by apply Array.ext'; simpa using hx1
     subst ha' hx'
     split at hc
     · rename_i e ht
       split at hc
       · rename_i sz z y hsz hz hx
         split at hc
         · rename_i hzl
           cases hc
           obtain ⟨hs1, hnz⟩ := pszT_szT hsz
           simp only [evOp] at he
           split at he
           · rename_i hv
             cases he
             obtain ⟨e1, _⟩ := hρ x (by simp [Op.operands, Call.operands]) _ _ hx hv
             refine ⟨m, w, .inl ?_, S, .refl .., .of (by simp [undefA, AV.okP, AV.okPL]), rfl⟩
             simp [execOp, resolve, invoke, builtin, Builtin.clear_, e1, conc, run_underlying ht, undefA, concL]
           · rename_i hv
             cases he
             obtain ⟨e1, _⟩ := hρ x (by simp [Op.operands, Call.operands]) _ _ hx hv
             refine ⟨m, w, .inl ?_, S, .refl .., .of (by simp [undefA, AV.okP, AV.okPL]), rfl⟩
             simp [execOp, resolve, invoke, builtin, Builtin.clear_, e1, conc, run_underlying ht, undefA, concL]
           · rename_i hv
             cases he
             obtain ⟨e1, _⟩ := hρ x (by simp [Op.operands, Call.operands]) _ _ hx hv
             refine ⟨m, w, .inl ?_, S, .refl .., .of (by simp [undefA, AV.okP, AV.okPL]), rfl⟩
             simp [execOp, resolve, invoke, builtin, Builtin.clear_, e1, conc, run_underlying ht, undefA, concL]
           · rename_i id off len c hv
             obtain ⟨e1, _⟩ := hρ x (by simp [Op.operands, Call.operands]) _ _ hx hv
             obtain ⟨w', r1, rfl, r3, r4, r5⟩ := clear_run (P := P) (ty := type) ht hs1 hz hzl hnz S he c
             refine ⟨m, w', .inl ?_, r3, r4, .of (by simp [undefA, AV.okP, AV.okPL]), r5⟩
             simp only [execOp, resolve, List.map_toArray, List.map_cons, List.map_nil, e1, conc, pure_bind, Sem.run_bind, invoke, builtin, r1, Result.andThen_ok, Sem.run_pure, undefA, concL]
           · rename_i id off len kc c hv
             obtain ⟨e1, _⟩ := hρ x (by simp [Op.operands, Call.operands]) _ _ hx hv
             obtain ⟨w', r1, rfl, r3, r4, r5⟩ := clear_run (P := P) (ty := type) ht hs1 hz hzl hnz S he (((m id).room - off) / c)
             refine ⟨m, w', .inl ?_, r3, r4, .of (by simp [undefA, AV.okP, AV.okPL]), r5⟩
             simp only [execOp, resolve, List.map_toArray, List.map_cons, List.map_nil, e1, conc, pure_bind, Sem.run_bind, invoke, builtin, r1, Result.andThen_ok, Sem.run_pure, undefA, concL]
           · cases he
         · cases hc
       · cases hc
     · cases hc
   · exfalso
     split at hc <;> cases hc
     simp [IOp.cls] at hcls
   · rename_i t ts d x ha hx1
     have hx' : args = #[d, x] := by apply Array.ext'; simpa using hx1
     subst hx'
     have hts : argTypes[0]? = some t := by rw [← Array.getElem?_toList, ha]; rfl
     split at hc
     · rename_i e ht
       split at hc
       · rename_i sz hsz
         obtain ⟨a, b, hxa, hyb, h3⟩ := opt2_some hc
         cases h3
         obtain ⟨hs1, hnz⟩ := pszT_szT hsz
         simp only [evOp] at he
         split at he
         · rename_i q r hq hr
           obtain ⟨e1, _⟩ := hρ d (by simp [Op.operands, Call.operands]) _ _ hxa hq
           obtain ⟨f1, _⟩ := hρ x (by simp [Op.operands, Call.operands]) _ _ hyb hr
           obtain ⟨w', r1, r2, r3, r4, r5⟩ := copyA_run (P := P) (ty := type) hts ht hs1 S he
           refine ⟨m, w', .inl ?_, r2, r3, .of r4, r5⟩
           simp only [execOp, resolve, List.map_toArray, List.map_cons, List.map_nil, e1, f1, pure_bind, Sem.run_bind, invoke, builtin, r1, Result.andThen_ok, Sem.run_pure]
         · cases he
       · cases hc
     · cases hc
   · obtain ⟨_, _, _, _, h3⟩ := opt2_some hc; cases h3; simp [IOp.cls] at hcls
   · obtain ⟨_, _, _, _, h3⟩ := opt2_some hc; cases h3; simp [IOp.cls] at hcls
   · rename_i t ts x k ha hx1
     have hx' : args = #[x, k] := by apply Array.ext'; simpa using hx1
     subst hx'
     have hts : argTypes[0]? = some t := by rw [← Array.getElem?_toList, ha]; rfl
     split at hc
     · rename_i kt e hu
       split at hc
       · rename_i kT y z hkt hx hk
         cases hc
         simp only [evOp] at he
         split at he
         · rename_i a b hay hbz
           cases hd : delA s.H kT a b with
           | none => simp [hd] at he
           | some H1 =>
            simp [hd] at he; obtain ⟨rfl, rfl⟩ := he
            obtain ⟨e1, _⟩ := hρ x (by simp [Op.operands, Call.operands]) _ _ hx hay
            obtain ⟨e2, _⟩ := hρ k (by simp [Op.operands, Call.operands]) _ _ hk hbz
            obtain ⟨w', r1, r2, r3, r4⟩ := delA_run (P := P) (ty := type) hts hu hkt S hd
            refine ⟨m, w', .inl ?_, r2, r3, .of (by simp [undefA, AV.okP, AV.okPL]), rfl⟩
            simp only [execOp, resolve, List.map_toArray, List.map_cons, List.map_nil, e1, e2, conc, pure_bind, Sem.run_bind, invoke, builtin, r1, Result.andThen_ok, Sem.run_pure, undefA, concL]
         · cases he
       · cases hc
     · cases hc
   · cases hc
 case range t x =>
  simp only [compOp] at hc
  split at hc
  · exfalso
    rw [Option.map_eq_some_iff] at hc; obtain ⟨_, _, rfl⟩ := hc; simp [IOp.cls] at hcls
  · rename_i kt e hu
    cases hx : opd x with
    | none => simp [hx] at hc
    | some y =>
     simp [hx] at hc; subst hc
     simp only [evOp] at he
     split at he
     · rename_i u hv
       cases hn : rangeMA s.H u with
       | none => simp [hn] at he
       | some q =>
        obtain ⟨r1, H1⟩ := q
        simp [hn] at he; obtain ⟨rfl, rfl⟩ := he
        obtain ⟨e1, _⟩ := hρ x (by simp [Op.operands]) _ _ hx hv
        obtain ⟨m', w', k1, k2, k3, k4, _⟩ := rangeMA_run (P := P) hu S hn
        exact ⟨m', w', .inl (by simp only [execOp, e1, Sem.run_bind, k1, Result.andThen_ok, Sem.run_pure]), k2, k3, .of k4, rfl⟩
     · cases he
  · cases hc
 case mapEntry t x k =>
  simp only [compOp] at hc
  split at hc
  · rename_i kt e hu
    split at hc
    · rename_i kT z y q hkt hz hx hk
      cases hc
      simp only [evOp] at he
      split at he
      · rename_i a b hay hbz
        cases hd : mapEntryA s.H kT z a b with
        | none => simp [hd] at he
        | some q =>
         obtain ⟨r1, H1⟩ := q
         simp [hd] at he; obtain ⟨rfl, rfl⟩ := he
         obtain ⟨e1, _⟩ := hρ x (by simp [Op.operands]) _ _ hx hay
         obtain ⟨e2, f2⟩ := hρ k (by simp [Op.operands]) _ _ hk hbz
         obtain ⟨w', k1, k2, k3, k4, _⟩ := mapEntryA_run (P := P) hu hkt hz S f2 hd
         exact ⟨m, w', .inl (by simp only [execOp, e1, e2, Sem.run_bind, k1, Result.andThen_ok, Sem.run_pure]), k2, k3, .of k4, rfl⟩
      · cases he
    · cases hc
  · cases hc
 case entryStore t x b v1 =>
  simp only [compOp] at hc
  split at hc
  · rename_i y z q hx hb hv
    cases hc
    simp only [evOp] at he
    split at he
    · rename_i a bb c hay hbz hcq
      cases hd : entryStoreA s.H a bb c with
      | none => simp [hd] at he
      | some H1 =>
       simp [hd] at he; obtain ⟨rfl, rfl⟩ := he
       obtain ⟨e1, _⟩ := hρ x (by simp [Op.operands]) _ _ hx hay
       obtain ⟨e2, _⟩ := hρ b (by simp [Op.operands]) _ _ hb hbz
       obtain ⟨e3, f3⟩ := hρ v1 (by simp [Op.operands]) _ _ hv hcq
       obtain ⟨w', r1, r2, r3, r4⟩ := entryStoreA_run (P := P) (t := t) S f3 hd
       exact ⟨m, w', .inr ⟨by simp only [execOp, e1, e2, e3, Sem.run_bind, r1, Result.andThen_ok, Sem.run_pure], rfl⟩, r2, r3, .of (by simp [undefA, AV.okP, AV.okPL]), rfl⟩
    · cases he
  · cases hc
 case entry x =>
  exfalso
  simp only [compOp] at hc
  rw [Option.map_eq_some_iff] at hc; obtain ⟨_, _, rfl⟩ := hc; simp [IOp.cls] at hcls
 case defer c =>
  exfalso
  obtain ⟨callee, args, argTypes⟩ := c
  cases callee <;> simp only [compOp] at hc <;> first | (cases hc; done) | (obtain ⟨_, _, _, _, h3⟩ := opt2_some hc; cases h3; simp [plainOp] at hnd)
 case binOp op t x y yt =>
  exfalso
  rcases comp_bin hc with ⟨e, a, b, rfl, _⟩ | ⟨neg, a, rfl, _⟩ | ⟨neg, a, b, rfl, _⟩ <;> simp [IOp.cls] at hcls
 case next x b =>
  cases b
  · simp only [compOp] at hc
    rw [Option.map_eq_some_iff] at hc; obtain ⟨_, _, rfl⟩ := hc; simp [evOp] at he
  · simp only [compOp] at hc
    cases hx : opd x with
    | none => simp [hx] at hc
    | some y =>
     simp [hx] at hc; subst hc
     simp only [evOp] at he
     split at he
     · rename_i u hu
       cases hn : nextA s.H u with
       | none => simp [hn] at he
       | some q =>
        obtain ⟨r1, H1⟩ := q
        simp [hn] at he; obtain ⟨rfl, rfl⟩ := he
        obtain ⟨e1, _⟩ := hρ x (by simp [Op.operands]) _ _ hx hu
        obtain ⟨w', k1, k2, k3, k4⟩ := nextA_run (P := P) (ty := type) S hn
        exact ⟨m, w', .inl (by simp only [execOp, e1, Sem.run_bind, k1, Result.andThen_ok, Sem.run_pure]), k2, k3, .of k4, rfl⟩
     · cases he
 case mapUpdate t x k v1 | insert t x k v1 =>
  simp only [compOp] at hc
  split at hc
  · rename_i kt e hu
    split at hc
    · rename_i kT y z q hkt hx hk hv
      cases hc
      simp only [evOp] at he
      split at he
      · rename_i a b c hay hbz hcq
        cases hd : updA s.H kT a b c with
        | none => simp [hd] at he
        | some H1 =>
         simp [hd] at he; obtain ⟨rfl, rfl⟩ := he
         obtain ⟨e1, _⟩ := hρ x (by simp [Op.operands]) _ _ hx hay
         obtain ⟨e2, f2⟩ := hρ k (by simp [Op.operands]) _ _ hk hbz
         obtain ⟨e3, f3⟩ := hρ v1 (by simp [Op.operands]) _ _ hv hcq
         obtain ⟨w', r1, r2, r3, r4⟩ := updA_run (P := P) hu hkt S f2 f3 hd
         exact ⟨m, w', .inr ⟨by simp only [execOp, e1, e2, e3, Sem.run_bind, r1, Result.andThen_ok, Sem.run_pure], rfl⟩, r2, r3, .of (by simp [undefA, AV.okP, AV.okPL]), rfl⟩
      · cases he
    · cases hc
  · cases hc
 case panic x => simp only [compOp] at hc; cases hc; simp [evOp] at he
 case convert sr d x =>
  exfalso
  simp only [compOp] at hc
  (repeat' (split at hc)) <;> (try cases hc) <;> simp [IOp.cls] at hcls
 case makeMap t r =>
  exfalso
  cases r <;> simp only [compOp] at hc <;> cases hc
  simp [IOp.cls] at hcls
 all_goals
  exfalso
  simp only [compOp, opt2] at hc
  first
   | (cases hc; done)
   | ((repeat' (split at hc)) <;> (try cases hc) <;> (try (rw [Option.map_eq_some_iff] at hc; obtain ⟨_, _, rfl⟩ := hc)) <;> simp [IOp.cls] at hcls)
theorem op_sound {locals : List Nat} {dst : Option Nat} {o : Oper} {io : IOp} (hc : compOp P locals dst o.op = some io) (hnd : plainOp io = true) {v : AV} (he : evOp dst s io = some (v, s'))
    (hρ : ∀ x ∈ o.op.operands, OpR ρ s.env m ml (good m s.H.n) LT x) (S : Sim P m ml s.loc s.H w) : StepOk P ρ m ml dst s o w v s' := by
 cases hcls : io.cls with
 | pure =>
  obtain ⟨rfl, h1, h2⟩ := run_pure (P := P) hc hcls he hρ (fun i k ⟨a, b⟩ => ⟨b, fun j hj => ⟨a, hj⟩⟩) w
  exact ⟨m, ml, w, .inl h1, S, .refl .., h2, rfl, fun _ => .inl rfl⟩
 | read =>
  obtain ⟨rfl, h1, h2⟩ := read_run (P := P) hc hcls he hρ S
  exact ⟨m, ml, w, .inl h1, S, .refl .., .of h2, rfl, fun _ => .inl rfl⟩
 | alloc =>
  obtain ⟨w', ob, hp, h⟩ := run_alloc (P := P) hc hcls he hρ w
  have S1 : Sim P m ml s.loc s.H w' := S.frame fun b hb => hp.old (S.used_lt hb)
  rcases h with ⟨l, ao, hl, rfl, h3, h4, h5, h6, h7, h8⟩ | ⟨t, cells, h1, h2, rfl, rfl, h5, h6, h7, h8⟩
  · have h1 : l.block = w.heap.size := by rw [hl]
    have h0 : l.base = 0 := by rw [hl]
    clear hl
    refine ⟨upd m s.H.n l, ml, w', .inl h6, S1.add_obj h5 h4 (fun b hb e => by have := S.used_lt hb; omega) ?_ (fun _ _ _ => h0), .of_push S.wf ?_ hp h1, .of (okP_mono (fun i k ⟨a, b⟩ => ?_) _ h7), rfl, fun _ => .inl rfl⟩
    iterate 2
     · cases ao with
       | row ro _ _ => cases ro <;> simp_all [AObj.owned, AObj.isRo]
       | _ => rfl
    · subst a; exact ⟨by simp, by rw [upd_same]; exact b⟩
  · refine ⟨m, upd ml t w.heap.size, w', .inl ?_, S1.add_loc h7 h5 h6 (fun x hx e => by have := S.used_lt hx; omega), .of_pushL hp, .inr ⟨_, _, rfl, trivial⟩, rfl, fun u => ?_⟩
    · rw [h8]; simp [conc]
    · by_cases hu : u = t
      · subst hu; exact .inr ⟨h1, h2⟩
      · exact .inl (upd_ne _ _ hu)
 | effect =>
  obtain ⟨m', w', h1, h2, h3, h4, h5⟩ := effect_sound (P := P) hc hnd hcls he hρ S
  exact ⟨m', ml, w', h1, h2, h3, h4, h5, fun _ => .inl rfl⟩
end
end Go.Wam
set_option linter.unusedVariables false
set_option linter.unusedSimpArgs false
namespace Go.Wam
def HLe (H H' : AHeap) : Prop := H.n ≤ H'.n ∧ H'.dfs = H.dfs
theorem HLe.refl (H : AHeap) : HLe H H := ⟨Nat.le_refl _, rfl⟩
theorem appendX_le {H H' : AHeap} {sz b n : Nat} {xs : List AV} {a v : AV} (h : appendX H sz b n xs a = some (v, H')) : HLe H H' := by
 unfold appendX at h
 (repeat' (split at h)) <;> (try cases h) <;> simp [HLe]
theorem appendA_le {H H' : AHeap} {sz b : Nat} {a x v : AV} (h : appendA H sz b a x = some (v, H')) : HLe H H' := by
 unfold appendA at h
 split at h
 · cases h
 · exact appendX_le h
theorem appendZ_le {H H' : AHeap} {sz b : Nat} {z : List AV} {a x v : AV} (h : appendZ H sz b z a x = some (v, H')) : HLe H H' := by
 unfold appendZ at h
 split at h
 · split at h
   · exact appendX_le h
   · cases h
 · cases h
theorem nextA_le {H H' : AHeap} {u r : AV} (h : nextA H u = some (r, H')) : HLe H H' := by
 unfold nextA at h
 (repeat' (split at h)) <;> (try cases h) <;> simp [HLe]
theorem rangeMA_le {H H' : AHeap} {u r : AV} (h : rangeMA H u = some (r, H')) : HLe H H' := by
 unfold rangeMA at h
 (repeat' (split at h)) <;> (try cases h) <;> simp [HLe]
theorem updA_le {H H' : AHeap} {t : KeyT} {a b c : AV} (h : updA H t a b c = some H') : HLe H H' := by
 unfold updA at h
 (repeat' (split at h)) <;> (try cases h) <;> simp [HLe]
theorem delA_le {H H' : AHeap} {t : KeyT} {a b : AV} (h : delA H t a b = some H') : HLe H H' := by
 unfold delA at h
 (repeat' (split at h)) <;> (try cases h) <;> simp [HLe]
theorem mapEntryA_le {H H' : AHeap} {t : KeyT} {z a b r : AV} (h : mapEntryA H t z a b = some (r, H')) : HLe H H' := by
 unfold mapEntryA at h
 (repeat' (split at h)) <;> (try cases h) <;> simp [HLe]
theorem entryStoreA_le {H H' : AHeap} {a b c : AV} (h : entryStoreA H a b c = some H') : HLe H H' := by
 unfold entryStoreA at h
 (repeat' (split at h)) <;> (try cases h)
 rw [Option.map_eq_some_iff] at h
 obtain ⟨_, _, rfl⟩ := h
 simp [HLe]
theorem storeA_le {s s' : St} {sz : Nat} {v p : AV} (h : storeA s sz v p = some s') : s'.env = s.env ∧ HLe s.H s'.H := by
 unfold storeA at h
 (repeat' (split at h)) <;> (try cases h) <;> simp [HLe]
theorem clearA_le {s s' : St} {sz : Nat} {z : List AV} {id off len : Nat} {v : AV} (h : clearA s sz z id off len = some (v, s')) : s'.env = s.env ∧ HLe s.H s'.H := by
 unfold clearA at h
 (repeat' (split at h)) <;> (try cases h) <;> simp [HLe]
theorem copyA_le {s s' : St} {sz : Nat} {d x v : AV} (h : copyA s sz d x = some (v, s')) : s'.env = s.env ∧ HLe s.H s'.H := by
 have to : ∀ {n id off : Nat}, copyTo s sz n id off x = some (v, s') → s'.env = s.env ∧ HLe s.H s'.H := by
  intro n id off h
  unfold copyTo at h
  (repeat' (split at h)) <;> (try cases h) <;> simp [HLe]
 unfold copyA at h
 split at h <;> first | exact to h | (cases h; done) | (cases h; exact ⟨rfl, .refl _⟩)
theorem evOp_shape' {dst : Option Nat} {s s' : St} {io : IOp} {v : AV} (h : evOp dst s io = some (v, s')) : s'.env = s.env ∧ (io.cls = .pure → s' = s) ∧ (io.cls = .read → s' = s) ∧ s.H.n ≤ s'.H.n ∧ (plainOp io = true → s'.H.dfs = s.H.dfs) := by
 have one : ∀ {α : Type} {o : Option α} {f : α → AV}, (o.map fun u => (f u, s)) = some (v, s') → s' = s := by
  intro α o f h
  cases o with
  | none => cases h
  | some u => simp at h; exact h.2.symm
 have same : s' = s → s'.env = s.env ∧ (io.cls = .pure → s' = s) ∧ (io.cls = .read → s' = s) ∧ s.H.n ≤ s'.H.n ∧ (plainOp io = true → s'.H.dfs = s.H.dfs) := fun e => by subst e; exact ⟨rfl, fun _ => rfl, fun _ => rfl, Nat.le_refl _, fun _ => rfl⟩
 have heap : ∀ {H' : AHeap}, HLe s.H H' → s' = { s with H := H' } → io.cls ≠ .pure → io.cls ≠ .read → s'.env = s.env ∧ (io.cls = .pure → s' = s) ∧ (io.cls = .read → s' = s) ∧ s.H.n ≤ s'.H.n ∧ (plainOp io = true → s'.H.dfs = s.H.dfs) := by
  intro H' hl e h1 h2
  subst e
  exact ⟨rfl, fun h => absurd h h1, fun h => absurd h h2, hl.1, fun _ => hl.2⟩
 have st : (s'.env = s.env ∧ HLe s.H s'.H) → io.cls ≠ .pure → io.cls ≠ .read → s'.env = s.env ∧ (io.cls = .pure → s' = s) ∧ (io.cls = .read → s' = s) ∧ s.H.n ≤ s'.H.n ∧ (plainOp io = true → s'.H.dfs = s.H.dfs) :=
  fun ⟨a, b⟩ h1 h2 => ⟨a, fun h => absurd h h1, fun h => absurd h h2, b.1, fun _ => b.2⟩
 cases io
 case alloc l sz z =>
  cases l
  · simp only [evOp, Option.some.injEq, Prod.mk.injEq] at h; obtain ⟨_, rfl⟩ := h; exact heap (by simp [HLe]) rfl (by simp [IOp.cls]) (by simp [IOp.cls])
  · simp only [evOp] at h
    split at h
    · split at h <;> cases h; exact st ⟨rfl, .refl _⟩ (by simp [IOp.cls]) (by simp [IOp.cls])
    · cases h
 case box l sz x =>
  cases l
  · simp only [evOp] at h
    split at h
    · split at h <;> cases h; exact heap (by simp [HLe]) rfl (by simp [IOp.cls]) (by simp [IOp.cls])
    · cases h
  · simp only [evOp] at h
    split at h
    · split at h <;> cases h; exact st ⟨rfl, .refl _⟩ (by simp [IOp.cls]) (by simp [IOp.cls])
    · cases h
 case buildSlice sz len z ps =>
  simp only [evOp] at h
  cases hf : fillA s.env ps z with
  | none => simp [hf] at h
  | some r => simp [hf] at h; obtain ⟨_, rfl⟩ := h; exact heap (by simp [HLe]) rfl (by simp [IOp.cls]) (by simp [IOp.cls])
 case mkMap => simp only [evOp, Option.some.injEq, Prod.mk.injEq] at h; obtain ⟨_, rfl⟩ := h; exact heap (by simp [HLe]) rfl (by simp [IOp.cls]) (by simp [IOp.cls])
 case mkSlice sz b z l c =>
  simp only [evOp] at h
  split at h
  · split at h <;> cases h; exact heap (by simp [HLe]) rfl (by simp [IOp.cls]) (by simp [IOp.cls])
  · cases h
 case conv c x =>
  simp only [evOp] at h
  split at h
  · cases h; exact same rfl
  · cases h; exact same rfl
  · cases h; exact heap (by simp [HLe]) rfl (by simp [IOp.cls]) (by simp [IOp.cls])
  · exact same (one h)
  · (repeat' (split at h)) <;> first | (cases h; done) | (cases h; exact same rfl)
  · cases h
 case store sz a x =>
  simp only [evOp] at h
  split at h
  · rename_i q u _ _
    cases hs : storeA s sz u q with
    | none => simp [hs] at h
    | some s1 => simp [hs] at h; obtain ⟨_, rfl⟩ := h; exact st (storeA_le hs) (by simp [IOp.cls]) (by simp [IOp.cls])
  · cases h
 case append sz b a x =>
  simp only [evOp] at h
  split at h
  · rename_i q u _ _
    cases hs : appendA s.H sz b q u with
    | none => simp [hs] at h
    | some r => obtain ⟨v1, H1⟩ := r; simp [hs] at h; obtain ⟨_, rfl⟩ := h; exact heap (appendA_le hs) rfl (by simp [IOp.cls]) (by simp [IOp.cls])
  · cases h
 case appendZ sz b z a x =>
  simp only [evOp] at h
  split at h
  · rename_i q u _ _
    cases hs : appendZ s.H sz b z q u with
    | none => simp [hs] at h
    | some r => obtain ⟨v1, H1⟩ := r; simp [hs] at h; obtain ⟨_, rfl⟩ := h; exact heap (appendZ_le hs) rfl (by simp [IOp.cls]) (by simp [IOp.cls])
  · cases h
 case clear sz z x =>
  simp only [evOp] at h
  split at h
  · cases h; exact st ⟨rfl, .refl _⟩ (by simp [IOp.cls]) (by simp [IOp.cls])
  · cases h; exact st ⟨rfl, .refl _⟩ (by simp [IOp.cls]) (by simp [IOp.cls])
  · cases h; exact st ⟨rfl, .refl _⟩ (by simp [IOp.cls]) (by simp [IOp.cls])
  · exact st (clearA_le h) (by simp [IOp.cls]) (by simp [IOp.cls])
  · exact st (clearA_le h) (by simp [IOp.cls]) (by simp [IOp.cls])
  · cases h
 case copy sz d x =>
  simp only [evOp] at h
  split at h
  · exact st (copyA_le h) (by simp [IOp.cls]) (by simp [IOp.cls])
  · cases h
 case rangeS x =>
  simp only [evOp] at h
  split at h
  · cases h; exact heap (by simp [HLe]) rfl (by simp [IOp.cls]) (by simp [IOp.cls])
  · cases h
 case nextS x =>
  simp only [evOp] at h
  split at h
  · rename_i u _
    cases hs : nextA s.H u with
    | none => simp [hs] at h
    | some r => obtain ⟨r1, H1⟩ := r; simp [hs] at h; obtain ⟨_, rfl⟩ := h; exact heap (nextA_le hs) rfl (by simp [IOp.cls]) (by simp [IOp.cls])
  · cases h
 case rangeM x =>
  simp only [evOp] at h
  split at h
  · rename_i u _
    cases hs : rangeMA s.H u with
    | none => simp [hs] at h
    | some r => obtain ⟨r1, H1⟩ := r; simp [hs] at h; obtain ⟨_, rfl⟩ := h; exact heap (rangeMA_le hs) rfl (by simp [IOp.cls]) (by simp [IOp.cls])
  · cases h
 case mapUpdate t x k v1 =>
  simp only [evOp] at h
  split at h
  · rename_i a b c _ _ _
    cases hs : updA s.H t a b c with
    | none => simp [hs] at h
    | some H1 => simp [hs] at h; obtain ⟨_, rfl⟩ := h; exact heap (updA_le hs) rfl (by simp [IOp.cls]) (by simp [IOp.cls])
  · cases h
 case mapEntry t z x k =>
  simp only [evOp] at h
  split at h
  · rename_i a b _ _
    cases hs : mapEntryA s.H t z a b with
    | none => simp [hs] at h
    | some r => obtain ⟨r1, H1⟩ := r; simp [hs] at h; obtain ⟨_, rfl⟩ := h; exact heap (mapEntryA_le hs) rfl (by simp [IOp.cls]) (by simp [IOp.cls])
  · cases h
 case entryStore x b v1 =>
  simp only [evOp] at h
  split at h
  · rename_i a b c _ _ _
    cases hs : entryStoreA s.H a b c with
    | none => simp [hs] at h
    | some H1 => simp [hs] at h; obtain ⟨_, rfl⟩ := h; exact heap (entryStoreA_le hs) rfl (by simp [IOp.cls]) (by simp [IOp.cls])
  · cases h
 case delete t x k =>
  simp only [evOp] at h
  split at h
  · rename_i a b _ _
    cases hs : delA s.H t a b with
    | none => simp [hs] at h
    | some H1 => simp [hs] at h; obtain ⟨_, rfl⟩ := h; exact heap (delA_le hs) rfl (by simp [IOp.cls]) (by simp [IOp.cls])
  · cases h
 case defer f as =>
  simp only [evOp] at h
  (repeat' (split at h)) <;> first | (cases h; done) | (cases h; exact ⟨rfl, by simp [IOp.cls], by simp [IOp.cls], Nat.le_refl _, by simp [plainOp]⟩)
 case call f as => simp [evOp] at h
 case bad => simp [evOp] at h
 case nextM x => simp [evOp] at h
 case indexAddr arr sz x i =>
  apply same
  cases arr <;> simp only [evOp] at h <;> (repeat' (split at h)) <;> first | (cases h; done) | (cases h; rfl)
 case index arr x i =>
  apply same
  cases arr <;> simp only [evOp] at h <;> (repeat' (split at h)) <;> first | exact one h | (cases h; done) | (cases h; rfl)
 all_goals
  apply same
  simp only [evOp] at h
  (repeat' (split at h)) <;> first | exact one h | (cases h; done) | (cases h; rfl)
theorem evOp_shape {dst : Option Nat} {s s' : St} {io : IOp} {v : AV} (h : evOp dst s io = some (v, s')) : s'.env = s.env ∧ (io.cls = .pure → s' = s) ∧ (io.cls = .read → s' = s) ∧ s.H.n ≤ s'.H.n :=
 have h := evOp_shape' h; ⟨h.1, h.2.1, h.2.2.1, h.2.2.2.1⟩
theorem evOp_dfs {dst : Option Nat} {s s' : St} {io : IOp} {v : AV} (h : evOp dst s io = some (v, s')) (hp : plainOp io = true) : s'.H.dfs = s.H.dfs := (evOp_shape' h).2.2.2.2 hp
end Go.Wam
set_option linter.unusedVariables false
set_option linter.unusedSimpArgs false
namespace Go.Wam
def ml0 : Nat → Nat := fun _ => 0
def FF (r : Option Nat) : Fence := { Fence.wide with round := r }
@[simp] theorem FF_round (r : Option Nat) : (FF r).round = r := rfl
theorem FF_depth (r : Option Nat) : (FF r).depth = none := rfl
theorem FF_room (r : Option Nat) (k : Nat) : (FF r).room k := fun d hd => by rw [FF_depth] at hd; cases hd
theorem FF_enter (r : Option Nat) (n : Nat) : (FF r).depth.isSome = true → 1 ≤ n := fun h => by rw [FF_depth] at h; cases h
theorem callsIn_FF {P : Program} {r : Option Nat} {n : Nat} {f : FuncId} {args : Array Value} {w : World} {R : Ending → World → Prop} (h : Calls P f args w R) : CallsIn (FF r) n P f args w R :=
 ⟨trivial, fun cs _ => (callsIn_wide (n := n).2 h).2 cs (room_wide _)⟩
theorem calls_FF {P : Program} {r : Option Nat} {n : Nat} {f : FuncId} {args : Array Value} {w : World} {R : Ending → World → Prop} (h : CallsIn (FF r) n P f args w R) : Calls P f args w R :=
 callsIn_wide (n := n).1 ⟨trivial, fun cs _ => h.2 cs (FF_room _ _)⟩
theorem roundIn_FF {P : Program} {r r' : Option Nat} {n n' : Nat} {l : Nat} {f : FuncId} {tmps : Array Value} {x y : Code} {w : World} {R : Ending → World → Prop} (h : RoundIn (FF r) n P l f tmps x y w R) : RoundIn (FF r') n' P l f tmps x y w R :=
 ⟨trivial, fun c cs _ => h.2 c cs (FF_room _ _)⟩
theorem callsDIn_FF {P : Program} {r r' : Option Nat} {n n' : Nat} {f : FuncId} {args : Array Value} {u : FrameMode} {w : World} {R : Ending → FrameMode → World → Prop} (h : CallsDIn (FF r) n P f args u w R) : CallsDIn (FF r') n' P f args u w R :=
 ⟨trivial, fun c cs hu _ => h.2 c cs hu (FF_room _ _)⟩
def FOk (P : Program) (f : FuncId) : Prop := ∃ fn c, P.funcs[f]? = some fn ∧ fn.body = some c ∧ (fn.name == "runtime.NumGoroutine") = false
def Left (P : Program) (m : Nat → Loc) (H : AHeap) (w : World) (v : AV) (H' : AHeap) (u : Value) (w' : World) : Prop :=
 ∃ m', u = conc m' ml0 v ∧ Sim P m' ml0 [] H' w' ∧ Grow m ml0 [] H w m' ml0 [] H' w' ∧ v.okP (good m' H'.n)
def ATrip (P : Program) (f : FuncId) (args : List AV) (H : AHeap) (v : AV) (H' : AHeap) : Prop :=
 FOk P f ∧ H.n ≤ H'.n ∧ ∀ m w, Sim P m ml0 [] H w → (∀ v ∈ args, v.okP (good m H.n)) →
  Calls P f (concL m ml0 args).toArray w fun e w' => ∃ u, e = .returned u ∧ Left P m H w v H' u w'
def ETrip (P : Program) (f : FuncId) (args : List AV) (H : AHeap) (v : AV) (H' : AHeap) : Prop :=
 H.n ≤ H'.n ∧ ∀ m w, Sim P m ml0 [] H w → (∀ v ∈ args, v.okP (good m H.n)) →
  ∃ u w', (callFunc f (concL m ml0 args).toArray).run P w = .ok (.value u) w' ∧ Left P m H w v H' u w'
def YTrip (P : Program) (args : List AV) (H : AHeap) (v : AV) (H' : AHeap) : Prop :=
 H.n ≤ H'.n ∧ ∃ id vs, args = .ptr id 0 :: vs ∧ ∀ m w, Sim P m ml0 [] H w → (∀ v ∈ args, v.okP (good m H.n)) →
  ∃ fn tmps x y, (Instr.yield (m id).block (concL m ml0 vs).toArray).run P w = .ok (.round (m id).block fn tmps x y) w ∧
   RoundIn (FF none) 0 P (m id).block fn tmps x y w fun e w' => ∃ u, e = .returned u ∧ Left P m H w v H' u w'
def DTrip (P : Program) (f : FuncId) (args : List AV) (H : AHeap) (v : AV) (H' : AHeap) : Prop :=
 FOk P f ∧ H.n ≤ H'.n ∧ ∀ m w, Sim P m ml0 [] H w → (∀ v ∈ args, v.okP (good m H.n)) →
  CallsDIn (FF none) 0 P f (concL m ml0 args).toArray .returning w fun e u' w' => u' = .returning ∧ ∃ u, e = .returned u ∧ Left P m H w v H' u w'
def CallOk (P : Program) (C : CallF) : Prop := ∀ g args H v H', C g args H = some (v, H') →
 H'.dfs = H.dfs ∧ (g = yieldF → YTrip P args H v H') ∧ (g < yieldF → ATrip P g args H v H' ∨ (ETrip P g args H v H' ∧ ∀ id r, args ≠ .yield id :: r)) ∧ (∀ f, g = deferF + f → DTrip P f args H v H')
def concD (m : Nat → Loc) : Dfr → Deferred
 | .mark id => { target := .collected (m id).block, args := #[] }
 | .call g args captured => { target := .fn (.func g) (concL m ml0 captured).toArray, args := (concL m ml0 args).toArray }
def Dfr.okP (p : Nat → Nat → Prop) : Dfr → Prop
 | .mark id => p id 0
 | .call _ args captured => AV.okPL p args ∧ AV.okPL p captured
theorem concD_congr {p : Nat → Nat → Prop} {m m' : Nat → Loc} (h : ∀ i k, p i k → m' i = m i) {d : Dfr} (hd : d.okP p) : concD m' d = concD m d := by
 cases d with
 | mark id => simp only [concD, h id 0 hd]
 | call g a b => simp only [concD, concL_congr ml0 ml0 h a hd.1, concL_congr ml0 ml0 h b hd.2]
theorem Dfr.okP_mono {p q : Nat → Nat → Prop} (h : ∀ i k, p i k → q i k) {d : Dfr} (hd : d.okP p) : d.okP q := by
 cases d with
 | mark id => exact h id 0 hd
 | call g a b => exact ⟨okPL_mono h a hd.1, okPL_mono h b hd.2⟩
section
variable {P : Program} {C : CallF} {m m' : Nat → Loc} {ml ml' : Nat → Nat} {loc : List (Nat × List AV)} {H H' : AHeap} {w w' : World}
theorem conc_ml {n : Nat} {v : AV} (h : v.okP (good m n)) (ml1 ml2 : Nat → Nat) : conc m ml1 v = conc m ml2 v := conc_congr ml2 ml1 (fun _ _ _ => rfl) v h
theorem concL_ml {n : Nat} {vs : List AV} (h : AV.okPL (good m n) vs) (ml1 ml2 : Nat → Nat) : concL m ml1 vs = concL m ml2 vs := concL_congr ml2 ml1 (fun _ _ _ => rfl) vs h
theorem Sim.drop (S : Sim P m ml loc H w) (ml1 : Nat → Nat) : Sim P m ml1 [] H w where
 wf := S.wf
 obj := fun id o h => (S.obj id o h).rename (fun _ _ _ => rfl) (S.ok id o h)
 ok := S.ok
 inj := S.inj
 sep := S.sep
 locs := fun t c h => by simp [look] at h
 locok := fun t c h => by simp [look] at h
 locinj := fun t u c d h => by simp [look] at h
 locsep := fun t c i h => by simp [look] at h
 base := S.base
theorem Sim.back (S : Sim P m ml loc H w) (S' : Sim P m' ml0 [] H' w') (G : Grow m ml0 [] H w m' ml0 [] H' w') : Sim P m' ml loc H' w' ∧ Grow m ml loc H w m' ml loc H' w' := by
 have hm : ∀ i k, good m H.n i k → m' i = m i := fun i k hi => G.agree i hi.1
 have hold : ∀ t c, look t loc = some c → w'.heap[ml t]? = w.heap[ml t]? := fun t c ht =>
  G.keep _ (S.used_lt (.inr ⟨t, c, ht, rfl⟩)) (fun id hid => S.locsep t c id ht (.inl hid)) (fun u d hu => by simp [look] at hu)
 refine ⟨⟨S'.wf, fun id o h => (S'.obj id o h).rename (fun _ _ _ => rfl) (S'.ok id o h), S'.ok, S'.inj, S'.sep, ?_, ?_, S.locinj, ?_, S'.base⟩, ?_⟩
 · intro t c ht
   exact ((S.locs t c ht).congr (hold t c ht)).rename hm (S.locok t c ht).1
 · intro t c ht
   exact ⟨okPL_mono (fun i k ⟨a, b⟩ => ⟨Nat.lt_of_lt_of_le a G.n_le, by rw [G.agree i a]; exact b⟩) _ (S.locok t c ht).1, (S.locok t c ht).2⟩
 · intro t c i ht hi
   rcases hi with hi | hi
   · rcases G.own i hi with ⟨j, hj, he⟩ | he
     · rw [← he]; exact S.locsep t c j ht (.inl hj)
     · have := S.used_lt (.inr ⟨t, c, ht, rfl⟩); omega
   · have h0 := G.ro i hi
     rw [G.agree i (h0.lt S.wf)]
     exact S.locsep t c i ht (.inr h0)
 · exact ⟨G.n_le, G.agree, G.size, G.os, G.tape, G.output, fun b hb h1 h2 => G.keep b hb h1 (fun u d hu => by simp [look] at hu), G.own, fun t c ht => .inl ⟨c, ht, rfl⟩, G.low, G.pres, G.ro⟩
structure Rel P (m : Nat → Loc) (ml : Nat → Nat) (nt : Nat) (s : St) (a : Act) (w : World) : Prop where
 sim : Sim P m ml s.loc s.H w
 env : ∀ t v, look t s.env = some v → a.tmps.getD t undef = conc m ml v ∧ vOk (good m s.H.n) LT v
 size : a.tmps.size = nt
 defers : a.defers = s.H.dfs.map (concD m)
 dok : ∀ d ∈ s.H.dfs, d.okP (good m s.H.n)
theorem Rel.opR {nt : Nat} {s : St} {a : Act} (R : Rel P m ml nt s a w) (x : Operand) : OpR a.eval s.env m ml (good m s.H.n) LT x :=
 .of_act a x fun t v _ hv => R.env t v hv
theorem getD_put {a : Act} {d t : Nat} {v : Value} (hd : d < a.tmps.size) : (a.put (some d) v).tmps.getD t undef = if t = d then v else a.tmps.getD t undef := by
 simp only [Act.put, Array.getD_eq_getD_getElem?, Array.getElem?_setIfInBounds]
 by_cases h : d = t
 · subst h; simp [hd]
 · have : ¬ t = d := fun x => h x.symm
   simp [h, this]
theorem conc_lptr_ml {n : Nat} {v : AV} (h : vOk (good m n) LT v) (hm : ∀ i k, good m n i k → m' i = m i) (hl : ∀ t off, v = .lptr t off → ml' t = ml t) : conc m' ml' v = conc m ml v := by
 rcases h with h | ⟨t, off, rfl, _⟩
 · exact conc_congr ml ml' hm v h
 · simp [conc, hl t off rfl]
theorem freeL_spec {t : Nat} {env : List (Nat × AV)} (h : freeL t env = true) {k u off : Nat} (hk : look k env = some (.lptr u off)) : u ≠ t ∨ k = t := by
 induction env with
 | nil => simp [look] at hk
 | cons e env ih =>
  obtain ⟨k', v'⟩ := e
  simp only [freeL, List.all_cons, Bool.and_eq_true] at h
  simp only [look] at hk
  split at hk
  · rename_i e; subst e; cases hk
    have := h.1
    simp only [Bool.or_eq_true, Bool.not_eq_true', beq_eq_false_iff_ne, ne_eq, beq_iff_eq] at this
    exact this
  · exact ih (by simpa [freeL] using h.2) hk
theorem Rel.put {nt : Nat} {s s' : St} {a : Act} (R : Rel P m ml nt s a w) {dst : Option Nat} {v : AV} (hd : ∀ d, dst = some d → d < nt) (S' : Sim P m' ml' s'.loc s'.H w') (G : Grow m ml s.loc s.H w m' ml' s'.loc s'.H w')
    (hv : vOk (good m' s'.H.n) LT v) (he : s'.env = s.env) (hdf : s'.H.dfs = s.H.dfs) (hl : ∀ t, ml' t = ml t ∨ (dst = some t ∧ freeL t s.env = true)) {u : Value} (hu : u = conc m' ml' v) : Rel P m' ml' nt (s'.put dst v) (a.put dst u) w' := by
 have hm : ∀ i k, good m s.H.n i k → m' i = m i := fun i k hi => G.agree i hi.1
 have hg : ∀ i k, good m s.H.n i k → good m' s'.H.n i k := fun i k ⟨a, b⟩ => ⟨Nat.lt_of_lt_of_le a G.n_le, by rw [G.agree i a]; exact b⟩
 have old : ∀ t x, look t s.env = some x → dst ≠ some t → a.tmps.getD t undef = conc m' ml' x ∧ vOk (good m' s'.H.n) LT x := by
  intro t x hx hne
  obtain ⟨e1, e2⟩ := R.env t x hx
  refine ⟨?_, e2.mono hg fun _ h => h⟩
  rw [e1]
  refine (conc_lptr_ml e2 hm fun t' off hx' => ?_).symm
  subst hx'
  rcases hl t' with h | ⟨h1, h2⟩
  · exact h
  · rcases freeL_spec h2 hx with h3 | h3
    · exact absurd rfl h3
    · subst h3; exact absurd h1 hne
 have df : a.defers = s'.H.dfs.map (concD m') := by
  rw [hdf, R.defers]
  exact List.map_congr_left fun d hd => (concD_congr hm (R.dok d hd)).symm
 have dk : ∀ d ∈ s'.H.dfs, d.okP (good m' s'.H.n) := fun d hd => by rw [hdf] at hd; exact Dfr.okP_mono hg (R.dok d hd)
 cases dst with
 | none =>
  refine ⟨by simpa [St.put] using S', fun t x hx => ?_, by simpa [Act.put] using R.size, by simpa [Act.put, St.put] using df, by simpa [St.put] using dk⟩
  simp only [St.put, he] at hx
  simpa [Act.put, St.put] using old t x hx (by simp)
 | some d =>
  refine ⟨by simpa [St.put] using S', fun t x hx => ?_, by simpa [Act.put] using R.size, by simpa [Act.put, St.put] using df, by simpa [St.put] using dk⟩
  rw [getD_put (by rw [R.size]; exact hd d rfl)]
  simp only [St.put, look, he] at hx
  simp only [St.put]
  split at hx
  · rename_i e; subst e; cases hx; rw [if_pos rfl]; exact ⟨hu, hv⟩
  · rename_i e; rw [if_neg (fun x => e x.symm)]; exact old t x hx (fun h => e (by cases h; rfl))
theorem compOper_spec {nt : Nat} {locals : List Nat} {ops : Array Oper} {o : Oper} {io : IOper} (h : compOper P nt locals ops o = some io) :
    (∀ d, o.dst = some d → d < nt) ∧ (compOp P locals o.dst o.op).getD .bad = io.op ∧ compGuard ops o.guard = some io.guard ∧ io.dst = o.dst := by
 unfold compOper at h
 split at h
 · rename_i hd
   rw [Option.map_eq_some_iff] at h
   obtain ⟨g, h2, rfl⟩ := h
   refine ⟨fun d e => ?_, rfl, h2, rfl⟩
   simp only [e, dstOk, decide_eq_true_eq] at hd
   exact hd
 · cases h
theorem comp_of {locals : List Nat} {dst : Option Nat} {op : Op} {io : IOp} (h : (compOp P locals dst op).getD .bad = io) (hne : io ≠ .bad) : compOp P locals dst op = some io := by
 cases hc : compOp P locals dst op with
 | none => rw [hc] at h; exact absurd h.symm hne
 | some x => rw [hc] at h; simp at h; rw [h]
theorem comp_defer {locals : List Nat} {dst : Option Nat} {op : Op} {io : IOp} (h : compOp P locals dst op = some io) (hp : plainOp io = true) : ∀ c, op ≠ .defer c := by
 rintro ⟨callee, args, ats⟩ rfl
 cases callee <;> simp only [compOp] at h <;> first | (cases h; done) | (obtain ⟨_, _, _, _, h3⟩ := opt2_some h; cases h3; simp [plainOp] at hp)
theorem wanted_spec {nt : Nat} {ops : Array Oper} {s : St} {a : Act} {o : Oper} {g : Option (Nat × Bool)} {b : Bool} (R : ∀ t v, look t s.env = some v → a.tmps.getD t undef = conc m ml v) (hsz : ∀ (j d : Nat), (ops[j]?).bind (fun (x : Oper) => x.dst) = some d → d < a.tmps.size)
    (h : compGuard ops o.guard = some g) (hw : wantedA s g = some b) : Region.wanted o (yielded ops a.tmps) = b := by
 unfold Region.wanted
 cases hg : o.guard with
 | none =>
  rw [hg] at h; simp [compGuard] at h; subst h
  simp [wantedA] at hw; subst hw; rfl
 | some jw =>
  obtain ⟨j, want⟩ := jw
  rw [hg] at h
  simp only [compGuard] at h
  cases hd : (ops[j]?).bind (·.dst) with
  | none => simp [hd] at h
  | some d =>
   simp [hd] at h; subst h
   have hlt := hsz j d hd
   simp only [wantedA] at hw
   have hy : yielded ops a.tmps j = match a.tmps.getD d undef with | .bool b => some b | _ => none := by
    simp only [yielded, hd, Option.bind_some]
    have : a.tmps[d]? = some (a.tmps.getD d undef) := by
     rw [Array.getD_eq_getD_getElem?, Array.getElem?_eq_getElem hlt]; rfl
    rw [this]
    generalize a.tmps.getD d undef = u
    cases u <;> rfl
   simp only [hy]
   split at hw
   · rename_i b' hb
     cases hw
     rw [R d _ hb]
     simp [conc]
   · rename_i v hne hb
     cases hw
     rw [R d _ hb]
     cases v <;> simp_all [conc]
   · cases hw
theorem FOk.call {f : FuncId} (h : FOk P f) (args : Array Value) (w : World) : (callFunc f args).run P w = .ok (.enter f args) w := by
 obtain ⟨fn, c, h1, h2, h3⟩ := h
 have h4 : ¬ fn.name = "runtime.NumGoroutine" := by simpa using h3
 simp [callFunc, h1, h2, h4]
theorem comp_call {o : Op} {f : Opd} {args : List Opd} {locals : List Nat} {dst : Option Nat} (hc : compOp P locals dst o = some (.call f args)) :
    ∃ fo as ats, o = .call { callee := .value fo, args := as, argTypes := ats } ∧ opd fo = some f ∧ opds as.toList = some args := by
 cases o
 case call c =>
  obtain ⟨callee, as, ats⟩ := c
  cases callee with
  | value fo => simp only [compOp] at hc; obtain ⟨_, _, h1, h2, h3⟩ := opt2_some hc; cases h3; exact ⟨fo, as, ats, rfl, h1, h2⟩
  | invoke r n => simp [compOp] at hc
  | builtin b =>
   exfalso
   simp only [compOp, compBuiltin, opt2] at hc
   (repeat' (split at hc)) <;> cases hc
 case binOp op t x y yt => exfalso; rcases comp_bin hc with ⟨e, a, b, h, _⟩ | ⟨neg, a, h, _⟩ | ⟨neg, a, b, h, _⟩ <;> cases h
 case next x b => exfalso; cases b <;> simp [compOp] at hc
 case defer c =>
  exfalso
  obtain ⟨callee, as, ats⟩ := c
  cases callee <;> simp only [compOp] at hc <;> first | (cases hc; done) | (obtain ⟨_, _, _, _, h3⟩ := opt2_some hc; cases h3)
 case makeMap t r => exfalso; cases r <;> simp [compOp] at hc
 all_goals
  exfalso
  simp only [compOp, opt2] at hc
  first
   | (cases hc; done)
   | ((repeat' (split at hc)) <;> (try cases hc) <;> (try (rw [Option.map_eq_some_iff] at hc; obtain ⟨_, _, hc⟩ := hc; cases hc)))
theorem call_upon (hC : CallOk P C) {s : St} {o : Oper} {f : Opd} {args : List Opd} {locals : List Nat} {dst : Option Nat} {ρ : Operand → Value} (hc : compOp P locals dst o.op = some (.call f args))
    (hρ : ∀ x ∈ o.op.operands, OpR ρ s.env m ml (good m s.H.n) LT x) (S : Sim P m ml s.loc s.H w) {g : AV} {vs : List AV} {v : AV}
    (hf : f.ev s.env = some g) (hvs : evs s.env args = some vs) (h : callR C g vs s.H = some (v, H')) (r : Option Nat) (n : Nat) {a : Act} {next : Act → World → Prop} {Q : Exit → Act → World → Prop}
    (hK : ∀ m' w', Sim P m' ml s.loc H' w' → Grow m ml s.loc s.H w m' ml s.loc H' w' → v.okP (good m' H'.n) → H'.dfs = s.H.dfs → next (a.put o.dst (conc m' ml v)) w') :
    o.uponIn (FF r) n P a next Q ((execOp ρ o).run P w) := by
 obtain ⟨dst', op, type, pos, after, guard⟩ := o
 simp only at hc hρ hK
 obtain ⟨fo, as, ats, rfl, h1, h2⟩ := comp_call hc
 obtain ⟨e1, e2⟩ := hρ fo (by simp [Op.operands, Call.operands]) _ _ h1 hf
 obtain ⟨f1, f2⟩ := opds_conc (m := m) (ml := ml) (p := good m s.H.n) (L := LT) h2 hvs (fun x hx => hρ x (by simp [Op.operands, Call.operands] at *; exact .inr hx))
 have ea : as.map ρ = (concL m ml vs).toArray := by apply Array.ext'; simp [f1]
 have back : ∀ {u : Value} {w' : World}, H'.dfs = s.H.dfs → Left P m s.H w v H' u w' → next (a.put dst' u) w' := by
  rintro u w' hd ⟨m', rfl, S', G', ok'⟩
  obtain ⟨b1, b2⟩ := S.back S' G'
  rw [conc_ml ok' ml0 ml]
  exact hK m' w' b1 b2 ok' hd
 unfold callR at h
 split at h
 · rename_i g first captured
   split at h
   · rename_i hl
     obtain ⟨hg, hl⟩ := hl
     have hok := e2.noL rfl
     simp only [AV.okP] at hok
     have hvok : AV.okPL (good m s.H.n) vs := (okPL_iff _ _).2 fun x hx => (f2 x hx).noL (List.all_eq_true.1 hl x hx)
     obtain ⟨hdf, _, hT, _⟩ := hC _ _ _ _ _ h
     have hall : ∀ x ∈ first ++ (vs ++ captured), x.okP (good m s.H.n) := by
      intro x hx
      rcases List.mem_append.1 hx with hx | hx
      · exact (okPL_iff _ _).1 hok.1 x hx
      · rcases List.mem_append.1 hx with hx | hx
        · exact (okPL_iff _ _).1 hvok x hx
        · exact (okPL_iff _ _).1 hok.2 x hx
     have e3 : (concL m ml first).toArray ++ (concL m ml vs).toArray ++ (concL m ml captured).toArray = (concL m ml0 (first ++ (vs ++ captured))).toArray := by
      rw [concL_ml ((okPL_iff _ _).2 hall) ml0 ml]
      simp [concL_eq]
     have er : (execOp ρ ⟨dst', .call { callee := .value fo, args := as, argTypes := ats }, type, pos, after, guard⟩).run P w = (callFunc g (concL m ml0 (first ++ (vs ++ captured))).toArray).run P w := by
      simp only [execOp, resolve, e1, ea, conc, Deferred.ofValue, pure_bind, invoke]
      rw [e3]
     rw [er]
     rcases hT hg with ⟨hF, _, hT⟩ | ⟨⟨_, hE⟩, _⟩
     · rw [hF.call]
       simp only [Oper.uponIn_enter]
       refine ⟨FF_enter r n, callsIn_FF ((hT m w (S.drop ml0) hall).mono ?_)⟩
       rintro e w' ⟨u, rfl, hL⟩
       exact back hdf hL
     · obtain ⟨u, w', hr, hL⟩ := hE m w (S.drop ml0) hall
       rw [hr]
       simp only [Oper.uponIn_value]
       exact back hdf hL
   · cases h
 · rename_i id
   split at h
   · rename_i hl
     have hok := e2.noL rfl
     simp only [AV.okP] at hok
     have hvok : AV.okPL (good m s.H.n) vs := (okPL_iff _ _).2 fun x hx => (f2 x hx).noL (List.all_eq_true.1 hl x hx)
     obtain ⟨hdf, hY, _, _⟩ := hC _ _ _ _ _ h
     obtain ⟨_, id', vs', he, hY⟩ := hY rfl
     simp only [List.cons.injEq, AV.ptr.injEq, and_true] at he
     obtain ⟨rfl, rfl⟩ := he
     have hall : ∀ x ∈ AV.ptr id 0 :: vs, x.okP (good m s.H.n) := by
      intro x hx
      rcases List.mem_cons.1 hx with rfl | hx
      · simpa [AV.okP] using hok
      · exact (okPL_iff _ _).1 hvok x hx
     obtain ⟨fn, tmps, x, y, hr, hR⟩ := hY m w (S.drop ml0) hall
     have e3 : #[] ++ (concL m ml vs).toArray = (concL m ml0 vs).toArray := by
      rw [concL_ml hvok ml0 ml]; simp
     have er : (execOp ρ ⟨dst', .call { callee := .value fo, args := as, argTypes := ats }, type, pos, after, guard⟩).run P w = (Instr.yield (m id).block (concL m ml0 vs).toArray).run P w := by
      simp only [execOp, resolve, e1, ea, conc, Deferred.ofValue, pure_bind, invoke]
      rw [e3]
     rw [er, hr]
     simp only [Oper.uponIn_round]
     refine ⟨FF_enter r n, (roundIn_FF hR).mono ?_⟩
     rintro e w' ⟨u, rfl, hL⟩
     exact back hdf hL
   · cases h
 · cases h
theorem step_sound (hC : CallOk P C) (r : Option Nat) (n : Nat) {nt : Nat} {locals : List Nat} {ops : Array Oper} {o : Oper} {io : IOper} (hc : compOper P nt locals ops o = some io) (hp : r = none ∨ plainOp io.op = true) {s s' : St} {a : Act} (R : Rel P m ml nt s a w)
    (hsz : ∀ (j d : Nat), (ops[j]?).bind (fun (x : Oper) => x.dst) = some d → d < nt) (h : stepOp C io s = some s') {Q : Exit → Act → World → Prop} {K : Act → World → Prop}
    (hK : ∀ m' ml' w' a', Rel P m' ml' nt s' a' w' → Grow m ml s.loc s.H w m' ml' s'.loc s'.H w' → K a' w') :
    if Region.wanted o (yielded ops a.tmps) then o.wpIn (FF r) n P a w K Q else (∀ f, o.about P w a.eval = some f → (FF r).fn f) ∧ K (a.put o.dst undef) w := by
 obtain ⟨hd, h1, h2, h3⟩ := compOper_spec hc
 obtain ⟨idst, iop, ig⟩ := io
 simp only at h1 h2 h3 hp
 subst h3
 have hwt : ∀ b, wantedA s ig = some b → Region.wanted o (yielded ops a.tmps) = b := fun b hb =>
  wanted_spec (nt := nt) (m := m) (ml := ml) (fun t v hv => (R.env t v hv).1) (fun j d hj => by rw [R.size]; exact hsz j d hj) h2 hb
 unfold stepOp at h
 split at h
 · cases h
 · rename_i hw
   cases h
   rw [hwt _ hw]
   simp only [Bool.false_eq_true, if_false]
   refine ⟨fun _ _ => trivial, hK m ml w _ ?_ ?_⟩
   · exact R.put hd R.sim (.refl ..) (.of (by simp [undefA, AV.okP, AV.okPL])) rfl rfl (fun _ => .inl rfl) (by simp [undef, undefA, conc, concL])
   · cases o.dst <;> exact .refl ..
 · rename_i hw
   rw [hwt _ hw]
   simp only [if_true]
   refine ⟨fun _ _ => trivial, ?_⟩
   rw [FF_round]
   split at h
   · rename_i f args hop
     simp only at hop
     split at h
     · rename_i g vs hf hvs
       cases hcall : callR C g vs s.H with
       | none => simp [hcall] at h
       | some q =>
        obtain ⟨v, H'⟩ := q
        simp [hcall] at h
        subst h
        have hco : compOp P locals o.dst o.op = some (.call f args) := comp_of (by rw [h1]; exact hop) (by simp)
        rw [Oper.semAt_eq _ _ _ (comp_defer hco rfl)]
        refine call_upon (ρ := a.eval) hC hco (fun x _ => R.opR x) R.sim hf hvs hcall r n fun m' w' S' G' ok' hdf => hK m' ml w' _ ?_ ?_
        · exact R.put hd (s' := { s with H := H' }) S' G' (.of ok') rfl hdf (fun _ => .inl rfl) rfl
        · cases o.dst <;> exact G'
     · cases h
   · rename_i hne
     cases he : evOp o.dst s iop with
     | none => simp [he] at h
     | some q =>
      obtain ⟨v, s1⟩ := q
      simp [he] at h
      subst h
      have hco : compOp P locals o.dst o.op = some iop := comp_of h1 (by rintro rfl; simp [evOp] at he)
      by_cases hpl : plainOp iop = true
      · rw [Oper.semAt_eq _ _ _ (comp_defer hco hpl)]
        obtain ⟨m', ml', w', hrun, S', G', ok', henv, hml⟩ := op_sound (ρ := a.eval) hco hpl he (fun x _ => R.opR x) R.sim
        have hdf := evOp_dfs he hpl
        have hG : Grow m ml s.loc s.H w m' ml' (s1.put o.dst v).loc (s1.put o.dst v).H w' := by cases o.dst <;> exact G'
        rcases hrun with hrun | ⟨hrun, rfl⟩
        · simp only [hrun, Oper.uponIn_value]
          exact hK m' ml' w' _ (R.put hd S' G' ok' henv hdf hml rfl) hG
        · simp only [hrun, Oper.uponIn_skip]
          exact hK m' ml' w' _ (R.put hd S' G' ok' henv hdf hml (by simp [undef, undefA, conc, concL])) hG
      · rcases hp with rfl | hp
        ·
         rw [Oper.semAt_none]
         cases iop <;> simp [plainOp] at hpl
         rename_i f args
         obtain ⟨dst', op, type, pos, after, guard⟩ := o
         simp only at hco hd he hK ⊢
         have key : ∃ fo as ats, op = .defer { callee := .value fo, args := as, argTypes := ats } ∧ opd fo = some f ∧ opds as.toList = some args := by
          cases op
          case defer c =>
           obtain ⟨callee, as, ats⟩ := c
           cases callee <;> simp only [compOp] at hco <;> first | (cases hco; done) | (obtain ⟨_, _, k1, k2, h3⟩ := opt2_some hco; cases h3; exact ⟨_, _, _, rfl, k1, k2⟩)
          case binOp op t x y yt => exfalso; rcases comp_bin hco with ⟨e, a, b, h, _⟩ | ⟨neg, a, h, _⟩ | ⟨neg, a, b, h, _⟩ <;> cases h
          case call c =>
           exfalso
           obtain ⟨callee, as, ats⟩ := c
           cases callee with
           | value fo => simp only [compOp] at hco; obtain ⟨_, _, k1, k2, h3⟩ := opt2_some hco; cases h3
           | invoke r n => simp [compOp] at hco
           | builtin b =>
            simp only [compOp, compBuiltin, opt2] at hco
            (repeat' (split at hco)) <;> cases hco
          case next x b => exfalso; cases b <;> simp [compOp] at hco
          case makeMap t r => exfalso; cases r <;> simp [compOp] at hco
          all_goals
           exfalso
           simp only [compOp, opt2] at hco
           first
            | (cases hco; done)
            | ((repeat' (split at hco)) <;> (try cases hco) <;> (try (rw [Option.map_eq_some_iff] at hco; obtain ⟨_, _, hco⟩ := hco; cases hco)))
         obtain ⟨fo, as, ats, rfl, k1, k2⟩ := key
         simp only [evOp] at he
         split at he
         · rename_i g first captured vs hf hvs
           split at he
           · rename_i hl
             cases he
             obtain ⟨e1, e2⟩ := R.opR fo _ _ k1 hf
             obtain ⟨f1, f2⟩ := opds_conc (m := m) (ml := ml) (p := good m s.H.n) (L := LT) k2 hvs (fun x hx => R.opR x)
             have hok := e2.noL rfl
             simp only [AV.okP] at hok
             have hvok : AV.okPL (good m s.H.n) vs := (okPL_iff _ _).2 fun x hx => (f2 x hx).noL (List.all_eq_true.1 hl x hx)
             have hfv : AV.okPL (good m s.H.n) (first ++ vs) := (okPL_iff _ _).2 fun x hx => by
              rcases List.mem_append.1 hx with hx | hx
              · exact (okPL_iff _ _).1 hok.1 x hx
              · exact (okPL_iff _ _).1 hvok x hx
             have ea : as.map a.eval = (concL m ml vs).toArray := by apply Array.ext'; simp [f1]
             have hrun : (execOp a.eval ⟨dst', .defer { callee := .value fo, args := as, argTypes := ats }, type, pos, after, guard⟩).run P w = .ok (.defer (concD m (.call g (first ++ vs) captured))) w := by
              simp only [execOp, resolve, e1, ea, conc, Deferred.ofValue, pure_bind, Sem.run_pure, concD]
              rw [concL_ml hfv ml0 ml, concL_ml hok.2 ml0 ml]
              simp [concL_eq]
             rw [hrun]
             simp only [Oper.uponIn_defer]
             have R1 : Rel P m ml nt { s with H := { s.H with dfs := .call g (first ++ vs) captured :: s.H.dfs } } { a with defers := concD m (.call g (first ++ vs) captured) :: a.defers } w := by
              refine ⟨⟨R.sim.wf, R.sim.obj, R.sim.ok, R.sim.inj, R.sim.sep, R.sim.locs, R.sim.locok, R.sim.locinj, R.sim.locsep, R.sim.base⟩, R.env, R.size, by simp [R.defers], ?_⟩
              intro d hd'
              rcases List.mem_cons.1 hd' with rfl | hd'
              · exact ⟨hfv, hok.2⟩
              · exact R.dok d hd'
             have G1 : Grow m ml s.loc s.H w m ml s.loc { s.H with dfs := .call g (first ++ vs) captured :: s.H.dfs } w :=
              ⟨Nat.le_refl _, fun _ _ => rfl, Nat.le_refl _, rfl, rfl, rfl, fun _ _ _ _ => rfl, fun id h => .inl ⟨id, h, rfl⟩, fun t c h => .inl ⟨c, h, rfl⟩, Nat.le_refl _, fun _ _ _ => rfl, fun _ h => h⟩
             refine hK m ml w _ (R1.put hd R1.sim (.refl ..) (.of (by simp [undefA, AV.okP, AV.okPL])) rfl rfl (fun _ => .inl rfl) (by simp [undef, undefA, conc, concL])) ?_
             cases dst' <;> exact G1
           · cases he
         · cases he
        · exact absurd hp hpl
theorem steps_sound (hC : CallOk P C) (r : Option Nat) (n : Nat) {nt : Nat} {locals : List Nat} {ops : Array Oper} (hsz : ∀ (j d : Nat), (ops[j]?).bind (fun (x : Oper) => x.dst) = some d → d < nt) : ∀ (os : List Oper) (ios : List IOper), compOpers P nt locals ops os = some ios → (r = none ∨ (ios.all fun o => plainOp o.op) = true) →
    ∀ (m : Nat → Loc) (ml : Nat → Nat) (w : World) (s s' : St) (a : Act), Rel P m ml nt s a w → stepOps C ios s = some s' → ∀ (Q : Exit → Act → World → Prop),
    (∀ m' ml' w' a', Rel P m' ml' nt s' a' w' → Grow m ml s.loc s.H w m' ml' s'.loc s'.H w' → Q .normal a' w') → wpListIn (FF r) n P ops Q os a w := by
 intro os
 induction os with
 | nil =>
  intro ios hc hp m ml w s s' a R h Q hQ
  simp [compOpers] at hc; subst hc
  simp [stepOps] at h; subst h
  exact hQ m ml w a R (.refl ..)
 | cons o os ih =>
  intro ios hc hp m ml w s s' a R h Q hQ
  simp only [compOpers] at hc
  split at hc
  · rename_i i is h1 h2
    cases hc
    simp only [stepOps] at h
    have hp1 : r = none ∨ plainOp i.op = true := hp.imp id fun h => by simp only [List.all_cons, Bool.and_eq_true] at h; exact h.1
    have hp2 : r = none ∨ (is.all fun o => plainOp o.op) = true := hp.imp id fun h => by simp only [List.all_cons, Bool.and_eq_true] at h; exact h.2
    cases hs : stepOp C i s with
    | none => simp [hs] at h
    | some s1 =>
     simp [hs] at h
     refine wpListIn_step fun K hK => step_sound hC r n h1 hp1 R hsz hs fun m' ml' w' a' R' G' => hK a' w' ?_
     exact ih is h2 hp2 m' ml' w' s1 s' a' R' h Q fun m2 ml2 w2 a2 R2 G2 => hQ m2 ml2 w2 a2 R2 (G'.trans G2)
  · cases hc
end
end Go.Wam
set_option linter.unusedVariables false
set_option linter.unusedSimpArgs false
namespace Go.Wam
def Closed (ops : Array Oper) (S : Nat → Prop) : Prop := ∀ (i : Nat) (o : Oper), ops[i]? = some o → S i → ∀ e ∈ o.after, Region.binds .any e = true → S e.on
theorem masksGo_spec {ops : Array Oper} {S : Nat → Prop} (hS : Closed ops S) : ∀ (r : List Oper) (acc : List Nat) (n : Nat), acc.length = n → (∀ k, r[k]? = ops[n + k]?) → (∀ i j, S i → (acc.reverse.getD i 0).testBit j = true → S j) →
    ∀ i j, S i → ((masksGo r acc n).reverse.getD i 0).testBit j = true → S j := by
 intro r
 induction r with
 | nil => intro acc n _ _ h; exact h
 | cons o r ih =>
  intro acc n hl hr h
  simp only [masksGo, strictN_eq]
  refine ih _ (n + 1) (by simp [hl]) (fun k => ?_) ?_
  · have := hr (k + 1)
    simp only [List.getElem?_cons_succ] at this
    rw [this]
    congr 1; omega
  · intro i j hi hj
    have ho : ops[n]? = some o := by have := hr 0; simpa using this.symm
    rw [List.reverse_cons] at hj
    by_cases hlt : i < n
    · rw [show ∀ m : Nat, (acc.reverse ++ [m]).getD i 0 = acc.reverse.getD i 0 by intro m; simp [List.getD_eq_getElem?_getD, List.getElem?_append_left, hl, hlt]] at hj
      exact h i j hi hj
    · by_cases he : i = n
      · subst he
        rw [show ∀ m : Nat, (acc.reverse ++ [m]).getD i 0 = m by intro m; simp [List.getD_eq_getElem?_getD, ← hl]] at hj
        have key : ∀ (es : List Edge) (m : Nat), (∀ e ∈ es, e ∈ o.after) → (∀ x, m.testBit x = true → S x) → ∀ x, (es.foldl (fun m e => if Region.binds .any e && decide (e.on < i) then (m ||| (1 <<< e.on)) ||| acc.getD (i - 1 - e.on) 0 else if Region.binds .any e then m ||| (1 <<< e.on) else m) m).testBit x = true → S x := by
         intro es
         induction es with
         | nil => intro m _ hm; exact hm
         | cons e es ihe =>
          intro m hes hm
          simp only [List.foldl_cons]
          refine ihe _ (fun e' he' => hes e' (by simp [he'])) ?_
          intro x hx
          have one : ∀ x, (1 <<< e.on : Nat).testBit x = true → x = e.on := fun x hx => by
           rw [Nat.testBit_shiftLeft] at hx
           simp only [Bool.and_eq_true, decide_eq_true_eq] at hx
           have := Nat.testBit_one_eq_true_iff_self_eq_zero.1 hx.2
           omega
          by_cases hb : Region.binds .any e = true
          · have hon := hS _ o ho hi e (hes e (by simp)) hb
            by_cases hlt2 : e.on < i
            · simp only [hb, hlt2, decide_true, Bool.and_self, if_true, Nat.testBit_or, Bool.or_eq_true] at hx
              rcases hx with (hx | hx) | hx
              · exact hm x hx
              · rw [one x hx]; exact hon
              · refine h _ _ hon ?_
                rw [List.getD_eq_getElem?_getD, List.getElem?_reverse (by omega), hl]
                rw [List.getD_eq_getElem?_getD] at hx
                exact hx
            · simp only [hb, hlt2, decide_false, Bool.and_false, Bool.false_eq_true, if_false, if_true, Nat.testBit_or, Bool.or_eq_true] at hx
              rcases hx with hx | hx
              · exact hm x hx
              · rw [one x hx]; exact hon
          · simp only [hb, Bool.false_and, Bool.false_eq_true, if_false] at hx
            exact hm x hx
        exact key _ 0 (fun e he => by simpa using he) (by simp) j hj
      · rw [show ∀ m : Nat, (acc.reverse ++ [m]).getD i 0 = 0 by intro m; rw [List.getD_eq_getElem?_getD, List.getElem?_eq_none (by simp [hl]; omega)]; rfl] at hj
        simp at hj
theorem preds_closed {ops : Array Oper} {S : Nat → Prop} (hS : Closed ops S) {i j : Nat} (hi : S i) (hj : j ∈ (preds ops).getD i []) : S j := by
 refine masksGo_spec hS ops.toList [] 0 rfl (fun k => by simp) (fun i j _ h => ?_) i j hi ?_
 · simp at h
 · unfold preds at hj
   rw [List.getD_eq_getElem?_getD, List.getElem?_map] at hj
   rw [List.getD_eq_getElem?_getD]
   cases hm : (masksGo ops.toList [] 0).reverse[i]? with
   | none => rw [hm] at hj; simp at hj
   | some m =>
    rw [hm] at hj
    simp only [Option.map_some, Option.getD_some, List.mem_filter] at hj
    exact hj.2
mutual
theorem AV.beq_eq : ∀ (a b : AV), AV.beq a b = true → a = b
 | .bool a, b, h => by cases b <;> simp_all [AV.beq]
 | .int k a, b, h => by cases b <;> simp_all [AV.beq]
 | .str s, b, h => by cases b <;> simp_all [AV.beq]
 | .nilp, b, h => by cases b <;> simp_all [AV.beq]
 | .ptr _ _, b, h => by cases b <;> simp_all [AV.beq]
 | .lptr _ _, b, h => by cases b <;> simp_all [AV.beq]
 | .nils, b, h => by cases b <;> simp_all [AV.beq]
 | .slice .., b, h => by cases b <;> simp_all [AV.beq]
 | .oslice .., b, h => by cases b <;> simp_all [AV.beq]
 | .eslice .., b, h => by cases b <;> simp_all [AV.beq]
 | .xslice .., b, h => by cases b <;> simp_all [AV.beq]
 | .nilm, b, h => by cases b <;> simp_all [AV.beq]
 | .map _, b, h => by cases b <;> simp_all [AV.beq]
 | .yield _, b, h => by cases b <;> simp_all [AV.beq]
 | .func f x y, b, h => by
  cases b <;> simp only [AV.beq, Bool.false_eq_true, Bool.and_eq_true, decide_eq_true_eq] at h
  rw [h.1.1, AV.beqL_eq _ _ h.1.2, AV.beqL_eq _ _ h.2]
 | .nilFunc, b, h => by cases b <;> simp_all [AV.beq]
 | .iface t v, b, h => by
  cases b <;> simp only [AV.beq, Bool.false_eq_true, Bool.and_eq_true, decide_eq_true_eq] at h
  rw [h.1, AV.beq_eq _ _ h.2]
 | .nilIface, b, h => by cases b <;> simp_all [AV.beq]
 | .agg x, b, h => by
  cases b <;> simp only [AV.beq, Bool.false_eq_true] at h
  rw [AV.beqL_eq _ _ h]
 | .tuple x, b, h => by
  cases b <;> simp only [AV.beq, Bool.false_eq_true] at h
  rw [AV.beqL_eq _ _ h]
theorem AV.beqL_eq : ∀ (a b : List AV), AV.beqL a b = true → a = b
 | [], b, h => by cases b <;> simp_all [AV.beqL]
 | x :: a, b, h => by
  cases b with
  | nil => simp [AV.beqL] at h
  | cons y b =>
   simp only [AV.beqL, Bool.and_eq_true] at h
   rw [AV.beq_eq _ _ h.1, AV.beqL_eq _ _ h.2]
end
end Go.Wam
set_option linter.unusedVariables false
set_option linter.unusedSimpArgs false
namespace Go.Wam
def envPut (dst : Option Nat) (v : AV) (env : List (Nat × AV)) : List (Nat × AV) := match dst with | some d => (d, v) :: env | none => env
theorem stepOp_cases {C : CallF} {io : IOper} {s s' : St} (h : stepOp C io s = some s') : ∃ v, s'.env = envPut io.dst v s.env ∧
    ((wantedA s io.guard = some false ∧ v = undefA ∧ s'.loc = s.loc ∧ s'.H = s.H) ∨
     (wantedA s io.guard = some true ∧ ((∃ f args g vs, io.op = .call f args ∧ f.ev s.env = some g ∧ evs s.env args = some vs ∧
          callR C g vs s.H = some (v, s'.H) ∧ s'.loc = s.loc) ∨
        ((∀ f args, io.op ≠ .call f args) ∧ evOp io.dst s io.op = some (v, { env := s.env, loc := s'.loc, H := s'.H }))))) := by
 obtain ⟨dst, op, g⟩ := io
 unfold stepOp at h
 simp only at h ⊢
 split at h
 · cases h
 · rename_i hw
   cases h
   refine ⟨undefA, ?_, .inl ⟨hw, rfl, ?_, ?_⟩⟩ <;> cases dst <;> rfl
 · rename_i hw
   split at h
   · rename_i f args
     split at h
     · rename_i k vs h1 h2
       cases hc : callR C k vs s.H with
       | none => simp [hc] at h
       | some r =>
        obtain ⟨v, H'⟩ := r
        simp [hc] at h
        subst h
        refine ⟨v, by cases dst <;> rfl, .inr ⟨hw, .inl ⟨f, args, k, vs, rfl, h1, h2, ?_, by cases dst <;> rfl⟩⟩⟩
        rw [hc]; cases dst <;> rfl
     · cases h
   · rename_i hne
     cases he : evOp dst s op with
     | none => simp [he] at h
     | some r =>
      obtain ⟨v, s1⟩ := r
      simp [he] at h
      subst h
      obtain ⟨e1, _⟩ := evOp_shape he
      refine ⟨v, by cases dst <;> simp [St.put, envPut, e1], .inr ⟨hw, .inr ⟨fun f args e => hne f args e, ?_⟩⟩⟩
      rw [← e1]; cases dst <;> rfl
def isLoc : IOp → Bool
 | .alloc true _ _ => true
 | .box true _ _ => true
 | _ => false
structure Reg (P : Program) (C : CallF) (nt : Nat) (locals : List Nat) (ops : Array Oper) (n : Nat) (o : Nat → Oper) (io : Nat → IOper) (idx : Nat → Nat) (stt : Nat → St) : Prop where
 hplain : ∀ q, q < n → plainOp (io q).op = true
 hops : ∀ q, q < n → ops[idx q]? = some (o q)
 hcomp : ∀ q, q < n → compOper P nt locals ops (o q) = some (io q)
 hstep : ∀ q, q < n → stepOp C (io q) (stt q) = some (stt (q + 1))
 hsurj : ∀ i, i < ops.size → ∃ q, q < n ∧ idx q = i
 hinj : ∀ p q, p < q → q < n → idx p ≠ idx q
 heff : ∀ p q, p < q → q < n → (io q).op.cls = .effect → allocs (io p).op.cls = true → idx p ∈ (preds ops).getD (idx q) []
 hclash : ∀ p q, p < q → q < n → clash ops (o p) (o q) = true → idx p ∈ (preds ops).getD (idx q) []
 halloc : ∀ p q, p < q → q < n → (io p).op.cls = .alloc → (io q).op.cls = .alloc → (o p).dst ≠ (o q).dst
 hdown : ∀ i o', ops[i]? = some o' → ∀ e ∈ o'.after, Region.binds .any e = true → e.on < i
 hfresh : ∀ q, q < n → ∀ t, (o q).dst = some t → isLoc (io q).op = true → look t (stt 0).loc = none ∧ ∀ k off, look k (stt 0).env ≠ some (.lptr t off)
 hread : ∀ q, q < n → (io q).op.cls = .read → wantedA (stt q) (io q).guard = some true → ∀ d v, (o q).dst = some d → look d (stt (q + 1)).env = some v → v.okB (stt q).H.n = true
 hcheck : ∀ q r, q < n → r ≤ n → (io q).op.cls = .read → (r = 0 ∨ (io (r - 1)).op.cls = .effect) → (∀ e, e < n → (io e).op.cls = .effect → if e < r then idx q ∉ (preds ops).getD (idx e) [] else idx e ∉ (preds ops).getD (idx q) []) →
  wantedA (stt q) (io q).guard = some true → ∃ v s1, evOp (o q).dst { stt q with loc := (stt r).loc, H := (stt r).H } (io q).op = some (v, s1) ∧ ∀ d, (o q).dst = some d → look d (stt (q + 1)).env = some v
theorem Grow.add_obj {m0 m : Nat → Loc} {ml1 ml : Nat → Nat} {loc0 loc : List (Nat × List AV)} {H0 H : AHeap} {w0 w : World} (G : Grow m0 ml1 loc0 H0 w0 m ml loc H w) {ao : AObj} (hw : H.wf) (hro : ao.isRo = false) (hb : w0.heap.size ≤ (m H.n).block) :
    Grow m0 ml1 loc0 H0 w0 m ml loc (H.alloc ao) w := by
 refine ⟨Nat.le_succ_of_le G.n_le, G.agree, G.size, G.os, G.tape, G.output, G.keep, fun id h => ?_, G.locs, G.low, fun id h1 h2 => ?_, fun id h => ?_⟩
 · rw [Owned.alloc_iff hw] at h
   rcases h with ⟨rfl, _⟩ | h
   · exact .inr hb
   · exact G.own id h
 · rw [AHeap.get_alloc, if_neg (by have := G.n_le; omega)]
   exact G.pres id h1 h2
 · rw [IsRo.alloc_iff hw] at h
   rcases h with ⟨_, h⟩ | h
   · rw [hro] at h; cases h
   · exact G.ro id h
theorem Grow.add_loc {m0 m : Nat → Loc} {ml1 ml : Nat → Nat} {loc0 loc : List (Nat × List AV)} {H0 H : AHeap} {w0 w : World} (G : Grow m0 ml1 loc0 H0 w0 m ml loc H w) {t : Nat} {cells : List AV} (hb : w0.heap.size ≤ ml t) :
    Grow m0 ml1 loc0 H0 w0 m ml ((t, cells) :: loc) H w := by
 refine ⟨G.n_le, G.agree, G.size, G.os, G.tape, G.output, G.keep, G.own, fun u c h => ?_, G.low, G.pres, G.ro⟩
 simp only [look] at h
 split at h
 · rename_i e; subst e; exact .inr hb
 · exact G.locs u c h
theorem upd_self {α : Type} (f : Nat → α) (i : Nat) : upd f i (f i) = f := by
 funext j; unfold upd; split
 · rename_i h; rw [h]
 · rfl
section
variable {P : Program} {C : CallF} {nt : Nat} {locals : List Nat} {ops : Array Oper} {n : Nat} {o : Nat → Oper} {io : Nat → IOper} {idx : Nat → Nat} {stt : Nat → St}
def Wtd (io : Nat → IOper) (stt : Nat → St) (p : Nat) : Prop := wantedA (stt p) (io p).guard = some true
def asgd (n : Nat) (stt : Nat → St) (T : Nat → Prop) (id : Nat) : Prop := id < (stt 0).H.n ∨ ∃ p, p < n ∧ T p ∧ (stt p).H.n ≤ id ∧ id < (stt (p + 1)).H.n
def goodT (n : Nat) (stt : Nat → St) (T : Nat → Prop) (m : Nat → Loc) : Nat → Nat → Prop := fun id k => asgd n stt T id ∧ k ≤ (m id).room
def availL (n : Nat) (o : Nat → Oper) (io : Nat → IOper) (T : Nat → Prop) (t : Nat) : Prop := ∀ p, p < n → (o p).dst = some t → isLoc (io p).op = true → T p
def CurV (n : Nat) (o : Nat → Oper) (stt : Nat → St) (T : Nat → Prop) (t : Nat) (v : AV) (b : Nat) : Prop :=
 (∃ p, p < n ∧ T p ∧ (o p).dst = some t ∧ (∀ p', p < p' → p' < n → T p' → (o p').dst ≠ some t) ∧ look t (stt (p + 1)).env = some v ∧ b = (stt (p + 1)).H.n) ∨
 ((∀ p, p < n → T p → (o p).dst ≠ some t) ∧ look t (stt 0).env = some v ∧ b = (stt 0).H.n)
def pbk (o : Nat → Oper) (io : Nat → IOper) (stt : Nat → St) (m : Nat → Loc) (ml : Nat → Nat) (p : Nat) : Nat :=
 if isLoc (io p).op then ml ((o p).dst.getD 0) else (m (stt p).H.n).block
def Pend (P : Program) (n : Nat) (o : Nat → Oper) (io : Nat → IOper) (stt : Nat → St) (T : Nat → Prop) (m : Nat → Loc) (ml : Nat → Nat) (w : World) (p : Nat) : Prop :=
 (isLoc (io p).op = false ∧ ∃ ao, (stt (p + 1)).H = (stt p).H.alloc ao ∧ (stt (p + 1)).loc = (stt p).loc ∧ ao.owned = true ∧ ((m (stt p).H.n).base = 0 ∧ ObjAt P m ml w (m (stt p).H.n) ao) ∧ ao.okP (fun id k => id < (stt p).H.n ∧ goodT n stt T m id k)) ∨
 (isLoc (io p).op = true ∧ ∃ t cells, (o p).dst = some t ∧ (stt (p + 1)).loc = (t, cells) :: (stt p).loc ∧ (stt (p + 1)).H = (stt p).H ∧ LocAt m ml w (ml t) cells ∧ AV.okPL (fun id k => id < (stt p).H.n ∧ goodT n stt T m id k) cells ∧ cells.all AV.one = true)
structure Inv (P : Program) (n : Nat) (nt : Nat) (o : Nat → Oper) (io : Nat → IOper) (stt : Nat → St) (m0 : Nat → Loc) (ml1 : Nat → Nat) (w0 : World) (T : Nat → Prop) (m : Nat → Loc) (ml : Nat → Nat) (r : Nat) (a : Act) (w : World) : Prop where
 rn : r ≤ n
 rb : r = 0 ∨ (0 < r ∧ (io (r - 1)).op.cls = .effect)
 eff : ∀ p, p < n → (io p).op.cls = .effect → (T p ↔ p < r)
 all : ∀ p, p < r → (io p).op.cls = .alloc → T p
 sim : Sim P m ml (stt r).loc (stt r).H w
 pend : ∀ p, r ≤ p → p < n → T p → (io p).op.cls = .alloc → Wtd io stt p → Pend P n o io stt T m ml w p ∧ w0.heap.size ≤ pbk o io stt m ml p ∧ pbk o io stt m ml p < w.heap.size ∧ ¬ UsedB m ml (stt r).loc (stt r).H (pbk o io stt m ml p)
 pdist : ∀ p q, r ≤ p → p < q → q < n → T p → T q → (io p).op.cls = .alloc → (io q).op.cls = .alloc → Wtd io stt p → Wtd io stt q → pbk o io stt m ml p ≠ pbk o io stt m ml q
 env : ∀ t v b, CurV n o stt T t v b → a.tmps.getD t undef = conc m ml v ∧ vOk (fun id k => id < b ∧ goodT n stt T m id k) (availL n o io T) v
 size : a.tmps.size = nt
 defers : a.defers = (stt 0).H.dfs.map (concD m0)
 grow : Grow m0 ml1 (stt 0).loc (stt 0).H w0 m ml (stt r).loc (stt r).H w
variable {m0 : Nat → Loc} {ml1 : Nat → Nat} {w0 : World} {T : Nat → Prop} {m : Nat → Loc} {ml : Nat → Nat} {r : Nat} {a : Act} {w : World}
theorem Reg.mem (G : Reg P C nt locals ops n o io idx stt) {q : Nat} (hq : q < n) : ((io q).op.cls ≠ .alloc ∨ ¬ Wtd io stt q) → (io q).op.cls ≠ .effect ∨ ¬ Wtd io stt q → (stt (q + 1)).loc = (stt q).loc ∧ (stt (q + 1)).H = (stt q).H := by
 intro h1 h2
 obtain ⟨v, _, h⟩ := stepOp_cases (G.hstep q hq)
 rcases h with ⟨_, _, a, b⟩ | ⟨hw, h⟩
 · exact ⟨a, b⟩
 · have e1 := h1.resolve_right (fun x => x hw)
   have e2 := h2.resolve_right (fun x => x hw)
   rcases h with ⟨f, args, _, _, hop, _⟩ | ⟨_, he⟩
   · rw [hop] at e2; exact absurd rfl e2
   · obtain ⟨_, s1, s2, _⟩ := evOp_shape he
     have : ({ env := (stt q).env, loc := (stt (q + 1)).loc, H := (stt (q + 1)).H } : St) = stt q := by
      cases hc : (io q).op.cls with
      | pure => exact s1 hc
      | read => exact s2 hc
      | alloc => exact absurd hc e1
      | effect => exact absurd hc e2
     have h3 := congrArg St.loc this
     have h4 := congrArg St.H this
     exact ⟨h3, h4⟩
theorem callR_same (hC : CallOk P C) {g : AV} {vs : List AV} {H H' : AHeap} {v : AV} (h : callR C g vs H = some (v, H')) : HLe H H' := by
 unfold callR at h
 split at h
 · split at h
   · rename_i hl
     obtain ⟨hd, _, hT, _⟩ := hC _ _ _ _ _ h
     rcases hT hl.1 with ⟨_, hn, _⟩ | ⟨⟨hn, _⟩, _⟩ <;> exact ⟨hn, hd⟩
   · cases h
 · split at h
   · obtain ⟨hd, hY, _⟩ := hC _ _ _ _ _ h
     exact ⟨(hY rfl).1, hd⟩
   · cases h
 · cases h
theorem callR_le (hC : CallOk P C) {g : AV} {vs : List AV} {H H' : AHeap} {v : AV} (h : callR C g vs H = some (v, H')) : H.n ≤ H'.n := (callR_same hC h).1
theorem Reg.mono1 (hC : CallOk P C) (G : Reg P C nt locals ops n o io idx stt) {q : Nat} (hq : q < n) : (stt q).H.n ≤ (stt (q + 1)).H.n := by
 obtain ⟨v, _, h⟩ := stepOp_cases (G.hstep q hq)
 rcases h with ⟨_, _, _, b⟩ | ⟨hw, h⟩
 · rw [b]; exact Nat.le_refl _
 · rcases h with ⟨f, args, _, _, hop, _, _, hc, _⟩ | ⟨_, he⟩
   · exact callR_le hC hc
   · exact (evOp_shape he).2.2.2
theorem Reg.mono (hC : CallOk P C) (G : Reg P C nt locals ops n o io idx stt) {p q : Nat} (h : p ≤ q) (hq : q ≤ n) : (stt p).H.n ≤ (stt q).H.n := by
 induction h with
 | refl => exact Nat.le_refl _
 | step h ih => exact Nat.le_trans (ih (by omega)) (G.mono1 hC (by omega))
theorem Reg.dfs1 (hC : CallOk P C) (G : Reg P C nt locals ops n o io idx stt) {q : Nat} (hq : q < n) : (stt (q + 1)).H.dfs = (stt q).H.dfs := by
 obtain ⟨v, _, h⟩ := stepOp_cases (G.hstep q hq)
 rcases h with ⟨_, _, _, b⟩ | ⟨hw, h⟩
 · rw [b]
 · rcases h with ⟨f, args, _, _, hop, _, _, hc, _⟩ | ⟨_, he⟩
   · exact (callR_same hC hc).2
   · exact (evOp_shape' he).2.2.2.2 (G.hplain q hq)
theorem Reg.dfs (hC : CallOk P C) (G : Reg P C nt locals ops n o io idx stt) : ∀ q, q ≤ n → (stt q).H.dfs = (stt 0).H.dfs := by
 intro q
 induction q with
 | zero => intro _; rfl
 | succ q ih => intro hq; rw [G.dfs1 hC (by omega), ih (by omega)]
theorem aowned_ro {ao : AObj} (h : ao.owned = true) : ao.isRo = false := by
 cases ao with
 | row ro _ _ => cases ro <;> simp_all [AObj.owned, AObj.isRo]
 | _ => rfl
theorem Inv.advance (G : Reg P C nt locals ops n o io idx stt) (I : Inv P n nt o io stt m0 ml1 w0 T m ml r a w) : ∀ j, r ≤ j → j ≤ n → (∀ p, r ≤ p → p < j → (io p).op.cls ≠ .effect) → (∀ p, r ≤ p → p < j → (io p).op.cls = .alloc → T p) →
    Sim P m ml (stt j).loc (stt j).H w ∧ Grow m0 ml1 (stt 0).loc (stt 0).H w0 m ml (stt j).loc (stt j).H w ∧
    (∀ b, UsedB m ml (stt j).loc (stt j).H b → UsedB m ml (stt r).loc (stt r).H b ∨ ∃ p, r ≤ p ∧ p < j ∧ (io p).op.cls = .alloc ∧ Wtd io stt p ∧ pbk o io stt m ml p = b) := by
 intro j hj
 induction hj with
 | refl => intro _ _ _; exact ⟨I.sim, I.grow, fun b h => .inl h⟩
 | @step j hrj ih =>
  intro hjn he ha
  obtain ⟨S, Gr, U⟩ := ih (by omega) (fun p h1 h2 => he p h1 (by omega)) (fun p h1 h2 => ha p h1 (by omega))
  by_cases hal : (io j).op.cls = .alloc ∧ Wtd io stt j
  · obtain ⟨hcl, hw⟩ := hal
    obtain ⟨hp, hb1, hb2, hb3⟩ := I.pend j hrj (by omega) (ha j hrj (by omega) hcl) hcl hw
    have hnew : ∀ b, UsedB m ml (stt j).loc (stt j).H b → b ≠ pbk o io stt m ml j := by
     intro b hb e
     subst e
     rcases U _ hb with h | ⟨p, h1, h2, h3, h4, h5⟩
     · exact hb3 h
     · exact I.pdist p j h1 h2 (by omega) (ha p h1 (by omega) h3) (ha j hrj (by omega) hcl) h3 hcl h4 hw h5
    rcases hp with ⟨hl, ao, e1, e2, e3, ⟨e0, e4⟩, e5⟩ | ⟨hl, t, cells, e1, e2, e3, e4, e5, e6⟩
    · have hpb : pbk o io stt m ml j = (m (stt j).H.n).block := by simp [pbk, hl]
      rw [e1, e2]
      have S2 := S.add_obj e4 (AObj.okP_mono (fun i k hi => ⟨hi.1, hi.2.2⟩) e5) (fun b hb => by rw [← hpb]; exact hnew b hb) (aowned_ro e3) (fun _ _ _ => e0)
      rw [upd_self] at S2
      refine ⟨S2, Gr.add_obj S.wf (aowned_ro e3) (by rw [← hpb]; exact hb1), ?_⟩
      intro b hb
      have : UsedB m ml (stt j).loc (stt j).H b ∨ b = pbk o io stt m ml j := by
       rcases hb with ⟨id, ho, rfl⟩ | ⟨t, c, ht, rfl⟩
       · rw [Owned.alloc_iff S.wf, IsRo.alloc_iff S.wf] at ho
         rcases ho with (⟨rfl, _⟩ | h) | (⟨rfl, _⟩ | h)
         · exact .inr hpb.symm
         · exact .inl (.inl ⟨id, .inl h, rfl⟩)
         · exact .inr hpb.symm
         · exact .inl (.inl ⟨id, .inr h, rfl⟩)
       · exact .inl (.inr ⟨t, c, ht, rfl⟩)
      rcases this with h | rfl
      · rcases U b h with h | ⟨p, h1, h2, h3⟩
        · exact .inl h
        · exact .inr ⟨p, h1, by omega, h3⟩
      · exact .inr ⟨j, hrj, by omega, hcl, hw, rfl⟩
    · have hpb : pbk o io stt m ml j = ml t := by simp [pbk, hl, e1]
      rw [e2, e3]
      have S2 := S.add_loc (t := t) (b := ml t) e4 (okPL_mono (fun i k hi => ⟨hi.1, hi.2.2⟩) _ e5) e6 (fun b hb => by rw [← hpb]; exact hnew b hb)
      rw [upd_self] at S2
      refine ⟨S2, Gr.add_loc (by rw [← hpb]; exact hb1), ?_⟩
      intro b hb
      have : UsedB m ml (stt j).loc (stt j).H b ∨ b = pbk o io stt m ml j := by
       rcases hb with ⟨id, ho, rfl⟩ | ⟨u, c, hu, rfl⟩
       · exact .inl (.inl ⟨id, ho, rfl⟩)
       · simp only [look] at hu
         split at hu
         · rename_i e; subst e; exact .inr hpb.symm
         · exact .inl (.inr ⟨u, c, hu, rfl⟩)
      rcases this with h | rfl
      · rcases U b h with h | ⟨p, h1, h2, h3⟩
        · exact .inl h
        · exact .inr ⟨p, h1, by omega, h3⟩
      · exact .inr ⟨j, hrj, by omega, hcl, hw, rfl⟩
  · have hne := he j hrj (by omega)
    have hal' : (io j).op.cls ≠ .alloc ∨ ¬ Wtd io stt j := by
     by_cases h : (io j).op.cls = .alloc
     · exact .inr fun hw => hal ⟨h, hw⟩
     · exact .inl h
    obtain ⟨e1, e2⟩ := G.mem (by omega) hal' (.inl hne)
    rw [e1, e2]
    refine ⟨S, Gr, fun b hb => ?_⟩
    rcases U b hb with h | ⟨p, h1, h2, h3⟩
    · exact .inl h
    · exact .inr ⟨p, h1, by omega, h3⟩
theorem Reg.last (G : Reg P C nt locals ops n o io idx stt) {t : Nat} {v : AV} : ∀ q, q ≤ n → look t (stt q).env = some v →
    (∃ p, p < q ∧ (o p).dst = some t ∧ (∀ p', p < p' → p' < q → (o p').dst ≠ some t) ∧ look t (stt (p + 1)).env = some v) ∨ ((∀ p, p < q → (o p).dst ≠ some t) ∧ look t (stt 0).env = some v) := by
 intro q
 induction q with
 | zero => intro _ h; exact .inr ⟨fun p hp => by omega, h⟩
 | succ q ih =>
  intro hq h
  have hd : (io q).dst = (o q).dst := (compOper_spec (G.hcomp q (by omega))).2.2.2
  by_cases hw : (o q).dst = some t
  · exact .inl ⟨q, by omega, hw, fun p' h1 h2 => by omega, h⟩
  · obtain ⟨v', he, _⟩ := stepOp_cases (G.hstep q (by omega))
    have h' : look t (stt q).env = some v := by
     rw [he] at h
     unfold envPut at h
     rw [hd] at h
     cases hdq : (o q).dst with
     | none => rw [hdq] at h; exact h
     | some d =>
      rw [hdq] at h hw
      simp only [look] at h
      rw [if_neg (fun e => hw (by rw [e]))] at h
      exact h
    rcases ih (by omega) h' with ⟨p, h1, h2, h3, h4⟩ | ⟨h1, h2⟩
    · refine .inl ⟨p, by omega, h2, fun p' h5 h6 => ?_, h4⟩
      by_cases e : p' = q
      · subst e; exact hw
      · exact h3 p' h5 (by omega)
    · refine .inr ⟨fun p hp => ?_, h2⟩
      by_cases e : p = q
      · subst e; exact hw
      · exact h1 p (by omega)
theorem Reg.cur (hC : CallOk P C) (G : Reg P C nt locals ops n o io idx stt) (hT : ∀ p q, p < n → q < n → idx p ∈ (preds ops).getD (idx q) [] → T q → T p) {q : Nat} (hq : q < n) (hnq : ¬ T q) (hpre : ∀ p, p < n → idx p ∈ (preds ops).getD (idx q) [] → T p)
    {t : Nat} {v : AV} (hu : t ∈ (o q).looksAt ops) (h : look t (stt q).env = some v) : ∃ b, CurV n o stt T t v b ∧ b ≤ (stt q).H.n := by
 have hlater : ∀ p', q < p' → p' < n → T p' → (o p').dst ≠ some t := by
  intro p' h1 h2 h3 hd
  have : clash ops (o q) (o p') = true := by
   simp only [clash, usesOf, hd, Bool.or_eq_true]
   exact .inr (by simpa using hu)
  exact hnq (hT q p' hq h2 (G.hclash q p' h1 h2 this) h3)
 rcases G.last q (by omega) h with ⟨p, h1, h2, h3, h4⟩ | ⟨h1, h2⟩
 · have hp : T p := by
     refine hpre p (by omega) (G.hclash p q h1 hq ?_)
     simp only [clash, usesOf, h2, Bool.or_eq_true]
     exact .inl (.inl (by simpa using hu))
   refine ⟨(stt (p + 1)).H.n, .inl ⟨p, by omega, hp, h2, fun p' h5 h6 h7 => ?_, h4, rfl⟩, G.mono hC (by omega) (by omega)⟩
   by_cases e : p' < q
   · exact h3 p' h5 e
   · by_cases e2 : p' = q
     · subst e2; exact absurd h7 hnq
     · exact hlater p' (by omega) h6 h7
 · refine ⟨(stt 0).H.n, .inr ⟨fun p h5 h6 => ?_, h2, rfl⟩, G.mono hC (Nat.zero_le _) (by omega)⟩
   by_cases e : p < q
   · exact h1 p e
   · by_cases e2 : p = q
     · subst e2; exact absurd h6 hnq
     · exact hlater p (by omega) h5 h6
theorem asgd_mono {T T' : Nat → Prop} (h : ∀ p, T p → T' p) {id : Nat} (ha : asgd n stt T id) : asgd n stt T' id :=
 ha.imp (fun h => h) fun ⟨p, h1, h2, h3⟩ => ⟨p, h1, h p h2, h3⟩
theorem availL_mono {T T' : Nat → Prop} (h : ∀ p, T p → T' p) {t : Nat} (ha : availL n o io T t) : availL n o io T' t := fun p h1 h2 h3 => h p (ha p h1 h2 h3)
theorem Reg.cur_step (G : Reg P C nt locals ops n o io idx stt) (hT : ∀ p q, p < n → q < n → idx p ∈ (preds ops).getD (idx q) [] → T q → T p) {q : Nat} (hq : q < n) (hnq : ¬ T q) {t : Nat} {v : AV} {b : Nat}
    (h : CurV n o stt (fun p => T p ∨ p = q) t v b) : ((o q).dst = some t ∧ look t (stt (q + 1)).env = some v ∧ b = (stt (q + 1)).H.n) ∨ ((o q).dst ≠ some t ∧ CurV n o stt T t v b) := by
 rcases h with ⟨p, h1, h2, h3, h4, h5, h6⟩ | ⟨h1, h2, h3⟩
 · by_cases hd : (o q).dst = some t
   · have : p = q := by
       rcases h2 with h2 | h2
       · by_cases e : p < q
         · exact absurd hd (h4 q e hq (.inr rfl))
         · by_cases e2 : p = q
           · exact e2
           · have : clash ops (o q) (o p) = true := by
               simp only [clash, hd, h3, Bool.or_eq_true]
               exact .inl (.inr (by simp))
             exact absurd (hT q p hq h1 (G.hclash q p (by omega) h1 this) h2) hnq
       · exact h2
     subst this
     exact .inl ⟨hd, h5, h6⟩
   · have hp : T p := by
       rcases h2 with h2 | h2
       · exact h2
       · subst h2; exact absurd h3 hd
     exact .inr ⟨hd, .inl ⟨p, h1, hp, h3, fun p' a b c => h4 p' a b (.inl c), h5, h6⟩⟩
 · exact .inr ⟨h1 q hq (.inr rfl), .inr ⟨fun p a b => h1 p a (.inl b), h2, h3⟩⟩
theorem Inv.env_step (G : Reg P C nt locals ops n o io idx stt) (hT : ∀ p q, p < n → q < n → idx p ∈ (preds ops).getD (idx q) [] → T q → T p) (I : Inv P n nt o io stt m0 ml1 w0 T m ml r a w) {q : Nat} (hq : q < n) (hnq : ¬ T q)
    {m' : Nat → Loc} {ml' : Nat → Nat} (hm : ∀ id, asgd n stt T id → m' id = m id) (hml : ∀ t, availL n o io T t → ml' t = ml t) {u : Value}
    (hv : ∀ d v, (o q).dst = some d → look d (stt (q + 1)).env = some v → u = conc m' ml' v ∧ vOk (fun id k => id < (stt (q + 1)).H.n ∧ goodT n stt (fun p => T p ∨ p = q) m' id k) (availL n o io (fun p => T p ∨ p = q)) v) :
    ∀ t v b, CurV n o stt (fun p => T p ∨ p = q) t v b → (a.put (o q).dst u).tmps.getD t undef = conc m' ml' v ∧ vOk (fun id k => id < b ∧ goodT n stt (fun p => T p ∨ p = q) m' id k) (availL n o io (fun p => T p ∨ p = q)) v := by
 intro t v b h
 have hd : ∀ d, (o q).dst = some d → d < nt := (compOper_spec (G.hcomp q hq)).1
 rcases G.cur_step hT hq hnq h with ⟨h1, h2, rfl⟩ | ⟨h1, h2⟩
 · obtain ⟨e1, e2⟩ := hv t v h1 h2
   refine ⟨?_, e2⟩
   rw [h1, getD_put (by rw [I.size]; exact hd t h1), if_pos rfl, e1]
 · obtain ⟨e1, e2⟩ := I.env t v b h2
   refine ⟨?_, e2.mono (fun id k hi => ⟨hi.1, asgd_mono (fun _ => .inl) hi.2.1, by rw [hm id hi.2.1]; exact hi.2.2⟩) (fun t => availL_mono fun _ => .inl)⟩
   have hget : (a.put (o q).dst u).tmps.getD t undef = a.tmps.getD t undef := by
    cases hdq : (o q).dst with
    | none => rfl
    | some d =>
     rw [getD_put (by rw [I.size]; exact hd d hdq), if_neg]
     rintro rfl
     exact h1 hdq
   rw [hget, e1]
   rcases e2 with e2 | ⟨t', off, rfl, hl⟩
   · exact (conc_congr ml ml' (fun id k hi => hm id hi.2.1) v e2).symm
   · simp [conc, hml t' hl]
theorem Inv.asgd_lt (G : Reg P C nt locals ops n o io idx stt) (I : Inv P n nt o io stt m0 ml1 w0 T m ml r a w) {id : Nat} : ∀ j, j ≤ r → id < (stt j).H.n → asgd n stt T id := by
 intro j
 induction j with
 | zero => intro _ h; exact .inl h
 | succ j ih =>
  intro hj h
  by_cases hlt : id < (stt j).H.n
  · exact ih (by omega) hlt
  · by_cases hc : (io j).op.cls = .alloc
    · exact .inr ⟨j, by have := I.rn; omega, I.all j (by omega) hc, by omega, h⟩
    · by_cases he : (io j).op.cls = .effect
      · exact .inr ⟨j, by have := I.rn; omega, (I.eff j (by have := I.rn; omega) he).2 (by omega), by omega, h⟩
      · obtain ⟨_, e⟩ := G.mem (q := j) (by have := I.rn; omega) (.inl hc) (.inl he)
        rw [e] at h; exact absurd h hlt
theorem evOp_loc {dst : Option Nat} {s s' : St} {io : IOp} {v : AV} (h : evOp dst s io = some (v, s')) (hc : io.cls = .alloc) : (isLoc io = true → s'.H = s.H) ∧ (isLoc io = false → s'.loc = s.loc) := by
 cases io <;> try (simp [IOp.cls] at hc; done)
 case len k x => cases k <;> simp [IOp.cls] at hc
 case alloc l sz z =>
  cases l
  · simp only [evOp, Option.some.injEq, Prod.mk.injEq] at h; obtain ⟨_, rfl⟩ := h; exact ⟨by simp [isLoc], fun _ => rfl⟩
  · simp only [evOp] at h
    split at h
    · split at h <;> cases h; exact ⟨fun _ => rfl, by simp [isLoc]⟩
    · cases h
 case box l sz x =>
  cases l
  · simp only [evOp] at h
    split at h
    · split at h <;> cases h; exact ⟨by simp [isLoc], fun _ => rfl⟩
    · cases h
  · simp only [evOp] at h
    split at h
    · split at h <;> cases h; exact ⟨fun _ => rfl, by simp [isLoc]⟩
    · cases h
 case buildSlice sz len z ps =>
  simp only [evOp] at h
  cases hf : fillA s.env ps z with
  | none => simp [hf] at h
  | some r => simp [hf] at h; obtain ⟨_, rfl⟩ := h; exact ⟨by simp [isLoc], fun _ => rfl⟩
 case mkMap => simp only [evOp, Option.some.injEq, Prod.mk.injEq] at h; obtain ⟨_, rfl⟩ := h; exact ⟨by simp [isLoc], fun _ => rfl⟩
 case rangeS x =>
  simp only [evOp] at h
  split at h
  · cases h; exact ⟨by simp [isLoc], fun _ => rfl⟩
  · cases h
 case mkSlice sz b z l c =>
  simp only [evOp] at h
  split at h
  · split at h <;> cases h; exact ⟨by simp [isLoc], fun _ => rfl⟩
  · cases h
 case conv c x =>
  simp only [evOp] at h
  split at h
  · cases h; exact ⟨by simp [isLoc], fun _ => rfl⟩
  · cases h; exact ⟨by simp [isLoc], fun _ => rfl⟩
  · cases h; exact ⟨by simp [isLoc], fun _ => rfl⟩
  · rename_i u _
    cases hb : bytesA s.H u with
    | none => simp [hb] at h
    | some l => simp [hb] at h; obtain ⟨_, rfl⟩ := h; exact ⟨by simp [isLoc], fun _ => rfl⟩
  · (repeat' (split at h)) <;> first | (cases h; done) | (cases h; exact ⟨by simp [isLoc], fun _ => rfl⟩)
  · cases h
theorem evOp_locs {dst : Option Nat} {s s' : St} {io : IOp} {v : AV} (h : evOp dst s io = some (v, s')) (hc : io.cls = .effect) {t : Nat} (ht : look t s.loc = none) : look t s'.loc = none := by
 cases io <;> try (simp [IOp.cls] at hc; done)
 case conv c x =>
  cases c <;> simp [IOp.cls] at hc
 case len k x => cases k <;> simp [IOp.cls] at hc
 case store sz a x =>
  simp only [evOp] at h
  split at h
  · rename_i q u _ _
    cases hs : storeA s sz u q with
    | none => simp [hs] at h
    | some s1 =>
     simp [hs] at h; obtain ⟨_, rfl⟩ := h
     unfold storeA at hs
     split at hs
     · split at hs
       · split at hs <;> cases hs; exact ht
       · cases hs
     · split at hs
       · rename_i t' off _ cells hl
         split at hs <;> cases hs
         simp only [look]
         rw [if_neg]
         · exact ht
         · rintro rfl; rw [hl] at ht; cases ht
       · cases hs
     · cases hs
  · cases h
 case append sz b a x =>
  simp only [evOp] at h
  split at h
  · rename_i q u _ _
    cases hs : appendA s.H sz b q u with
    | none => simp [hs] at h
    | some r => obtain ⟨v1, H1⟩ := r; simp [hs] at h; obtain ⟨_, rfl⟩ := h; exact ht
  · cases h
 case clear sz z x =>
  simp only [evOp] at h
  have cl : ∀ {id off len : Nat}, clearA s sz z id off len = some (v, s') → s'.loc = s.loc := by
   intro id off len hc
   unfold clearA at hc
   (repeat' (split at hc)) <;> (try cases hc) <;> rfl
  split at h
  · cases h; exact ht
  · cases h; exact ht
  · cases h; exact ht
  · rw [cl h]; exact ht
  · rw [cl h]; exact ht
  · cases h
 case nextS x =>
  simp only [evOp] at h
  split at h
  · rename_i u _
    cases hs : nextA s.H u with
    | none => simp [hs] at h
    | some r => obtain ⟨r1, H1⟩ := r; simp [hs] at h; obtain ⟨_, rfl⟩ := h; exact ht
  · cases h
 case mapUpdate t1 x k v1 =>
  simp only [evOp] at h
  split at h
  · rename_i a b c _ _ _
    cases hs : updA s.H t1 a b c with
    | none => simp [hs] at h
    | some H1 => simp [hs] at h; obtain ⟨_, rfl⟩ := h; exact ht
  · cases h
 case delete t1 x k =>
  simp only [evOp] at h
  split at h
  · rename_i a b _ _
    cases hs : delA s.H t1 a b with
    | none => simp [hs] at h
    | some H1 => simp [hs] at h; obtain ⟨_, rfl⟩ := h; exact ht
  · cases h
 case appendZ sz b z a x =>
  simp only [evOp] at h
  split at h
  · rename_i q u _ _
    cases hs : appendZ s.H sz b z q u with
    | none => simp [hs] at h
    | some r => obtain ⟨v1, H1⟩ := r; simp [hs] at h; obtain ⟨_, rfl⟩ := h; exact ht
  · cases h
 case rangeM x =>
  simp only [evOp] at h
  split at h
  · rename_i u _
    cases hs : rangeMA s.H u with
    | none => simp [hs] at h
    | some r => obtain ⟨r1, H1⟩ := r; simp [hs] at h; obtain ⟨_, rfl⟩ := h; exact ht
  · cases h
 case mapEntry t1 z x k =>
  simp only [evOp] at h
  split at h
  · rename_i a b _ _
    cases hs : mapEntryA s.H t1 z a b with
    | none => simp [hs] at h
    | some r => obtain ⟨r1, H1⟩ := r; simp [hs] at h; obtain ⟨_, rfl⟩ := h; exact ht
  · cases h
 case entryStore x b v1 =>
  simp only [evOp] at h
  split at h
  · rename_i a b c _ _ _
    cases hs : entryStoreA s.H a b c with
    | none => simp [hs] at h
    | some H1 => simp [hs] at h; obtain ⟨_, rfl⟩ := h; exact ht
  · cases h
 case copy sz d x =>
  simp only [evOp] at h
  have cl : ∀ {a b : AV}, copyA s sz a b = some (v, s') → s'.loc = s.loc := by
   intro a b hc
   have to : ∀ {n id off : Nat}, copyTo s sz n id off b = some (v, s') → s'.loc = s.loc := by
    intro n id off hc
    unfold copyTo at hc
    (repeat' (split at hc)) <;> (try cases hc) <;> rfl
   unfold copyA at hc
   split at hc <;> first | exact to hc | (cases hc; done) | (cases hc; rfl)
  split at h
  · rw [cl h]; exact ht
  · cases h
 case defer f as =>
  simp only [evOp] at h
  (repeat' (split at h)) <;> first | (cases h; done) | (cases h; exact ht)
 case nextM x => simp [evOp] at h
 case call f as => simp [evOp] at h
 case bad => simp [evOp] at h
theorem Reg.loc_none (G : Reg P C nt locals ops n o io idx stt) {q : Nat} (hq : q < n) {t : Nat} (hd : (o q).dst = some t) (hl : isLoc (io q).op = true) : ∀ j, j ≤ q → look t (stt j).loc = none := by
 intro j
 induction j with
 | zero => intro _; exact (G.hfresh q hq t hd hl).1
 | succ j ih =>
  intro hj
  have h0 := ih (by omega)
  obtain ⟨v, _, h⟩ := stepOp_cases (G.hstep j (by omega))
  rcases h with ⟨_, _, e, _⟩ | ⟨hw, h⟩
  · rw [e]; exact h0
  · rcases h with ⟨f, args, _, _, hop, _, _, _, e⟩ | ⟨_, he⟩
    · rw [e]; exact h0
    · cases hc : (io j).op.cls with
      | pure => have := congrArg St.loc ((evOp_shape he).2.1 hc); simp only at this; rw [this]; exact h0
      | read => have := congrArg St.loc ((evOp_shape he).2.2.1 hc); simp only at this; rw [this]; exact h0
      | effect => exact evOp_locs he hc h0
      | alloc =>
       by_cases hlj : isLoc (io j).op = true
       · have hdj : (io j).dst = (o j).dst := (compOper_spec (G.hcomp j (by omega))).2.2.2
         have hne : (o j).dst ≠ (o q).dst := by
          refine G.halloc j q (by omega) hq hc ?_
          cases hop : (io q).op <;> simp [isLoc, hop] at hl <;> simp [IOp.cls]
         have key : ∃ u cells, (o j).dst = some u ∧ (stt (j + 1)).loc = (u, cells) :: (stt j).loc := by
          rw [hdj] at he
          cases hop : (io j).op with
          | alloc l sz z =>
           rw [hop] at he hlj
           cases l
           · simp [isLoc] at hlj
           · simp only [evOp] at he
             split at he
             · rename_i u hu; split at he
               · simp only [Option.some.injEq, Prod.mk.injEq, St.mk.injEq] at he; exact ⟨u, z, hu, he.2.2.1.symm⟩
               · cases he
             · cases he
          | box l sz x =>
           rw [hop] at he hlj
           cases l
           · simp [isLoc] at hlj
           · simp only [evOp] at he
             split at he
             · rename_i u x' hu _; split at he
               · simp only [Option.some.injEq, Prod.mk.injEq, St.mk.injEq] at he; exact ⟨u, _, hu, he.2.2.1.symm⟩
               · cases he
             · cases he
          | _ => rw [hop] at hlj; simp [isLoc] at hlj
         obtain ⟨u, cells, hu, e⟩ := key
         rw [e]
         simp only [look]
         rw [if_neg]
         · exact h0
         · rintro rfl; exact hne (hu.trans hd.symm)
       · have := (evOp_loc he hc).2 (by simpa using hlj)
         simp only at this; rw [this]; exact h0
theorem Grow.rename {m m' m'' : Nat → Loc} {ml ml' : Nat → Nat} {loc loc' : List (Nat × List AV)} {H H' : AHeap} {w w' : World} (G : Grow m ml loc H w m' ml' loc' H' w') (hw : H'.wf) (h : ∀ id, id < H'.n → m'' id = m' id) :
    Grow m ml loc H w m'' ml' loc' H' w' :=
 ⟨G.n_le, fun id hi => (h id (Nat.lt_of_lt_of_le hi G.n_le)).trans (G.agree id hi), G.size, G.os, G.tape, G.output, G.keep, fun id hi => by rw [h id (hi.lt hw)]; exact G.own id hi, G.locs, G.low, G.pres, G.ro⟩
theorem wanted_spec2 {ops : Array Oper} {s : St} {a : Act} {o : Oper} {g : Option (Nat × Bool)} {b : Bool} (R : ∀ d v, d ∈ o.looksAt ops → look d s.env = some v → a.tmps.getD d undef = conc m ml v)
    (hsz : ∀ (j d : Nat), (ops[j]?).bind (fun (x : Oper) => x.dst) = some d → d < a.tmps.size)
    (h : compGuard ops o.guard = some g) (hw : wantedA s g = some b) : Region.wanted o (yielded ops a.tmps) = b := by
 unfold Region.wanted
 cases hg : o.guard with
 | none =>
  rw [hg] at h; simp [compGuard] at h; subst h
  simp [wantedA] at hw; subst hw; rfl
 | some jw =>
  obtain ⟨j, want⟩ := jw
  rw [hg] at h
  simp only [compGuard] at h
  cases hd : (ops[j]?).bind (·.dst) with
  | none => simp [hd] at h
  | some d =>
   simp [hd] at h; subst h
   have hlt := hsz j d hd
   have hmem : d ∈ o.looksAt ops := by simp [Oper.looksAt, hg, hd]
   simp only [wantedA] at hw
   have hy : yielded ops a.tmps j = match a.tmps.getD d undef with | .bool b => some b | _ => none := by
    simp only [yielded, hd, Option.bind_some]
    have : a.tmps[d]? = some (a.tmps.getD d undef) := by
     rw [Array.getD_eq_getD_getElem?, Array.getElem?_eq_getElem hlt]; rfl
    rw [this]
    generalize a.tmps.getD d undef = u
    cases u <;> rfl
   simp only [hy]
   split at hw
   · rename_i b' hb
     cases hw
     rw [R d _ hmem hb]
     simp [conc]
   · rename_i v hne hb
     cases hw
     rw [R d _ hmem hb]
     cases v <;> simp_all [conc]
   · cases hw
theorem Pend.keep {T' : Nat → Prop} (hT' : ∀ p, T p → T' p) {p : Nat} (h : Pend P n o io stt T m ml w p) {m' : Nat → Loc} {ml' : Nat → Nat} {w' : World} (hm : ∀ id, asgd n stt T id → m' id = m id) (hmp : isLoc (io p).op = false → m' (stt p).H.n = m (stt p).H.n)
    (hml : isLoc (io p).op = true → ∀ t, (o p).dst = some t → ml' t = ml t) (hw : w'.heap[pbk o io stt m ml p]? = w.heap[pbk o io stt m ml p]?) :
    Pend P n o io stt T' m' ml' w' p ∧ pbk o io stt m' ml' p = pbk o io stt m ml p := by
 have hg : ∀ id k, (id < (stt p).H.n ∧ goodT n stt T m id k) → (id < (stt p).H.n ∧ goodT n stt T' m' id k) := fun id k hi => ⟨hi.1, asgd_mono hT' hi.2.1, by rw [hm id hi.2.1]; exact hi.2.2⟩
 rcases h with ⟨hl, ao, e1, e2, e3, ⟨e0, e4⟩, e5⟩ | ⟨hl, t, cells, e1, e2, e3, e4, e5, e6⟩
 · have hpb : pbk o io stt m ml p = (m (stt p).H.n).block := by simp [pbk, hl]
   rw [hpb] at hw
   refine ⟨.inl ⟨hl, ao, e1, e2, e3, ⟨by rw [hmp hl]; exact e0, ?_⟩, AObj.okP_mono hg e5⟩, by simp [pbk, hl, hmp hl]⟩
   rw [hmp hl]
   exact (e4.congr hw).rename (fun i k hi => hm i hi.2.1) e5
 · have hpb : pbk o io stt m ml p = ml t := by simp [pbk, hl, e1]
   rw [hpb] at hw
   refine ⟨.inr ⟨hl, t, cells, e1, e2, e3, ?_, okPL_mono hg _ e5, e6⟩, by simp [pbk, hl, e1, hml hl t e1]⟩
   rw [hml hl t e1]
   exact (e4.congr hw).rename (fun i k hi => hm i hi.2.1) e5
theorem Inv.same (G : Reg P C nt locals ops n o io idx stt) (I : Inv P n nt o io stt m0 ml1 w0 T m ml r a w) {q : Nat} (hq : q < n) (hnq : ¬ T q) (he : (io q).op.cls ≠ .effect) (ha : (io q).op.cls = .alloc → ¬ Wtd io stt q) {u : Value}
    (henv : ∀ t v b, CurV n o stt (fun p => T p ∨ p = q) t v b → (a.put (o q).dst u).tmps.getD t undef = conc m ml v ∧ vOk (fun id k => id < b ∧ goodT n stt (fun p => T p ∨ p = q) m id k) (availL n o io (fun p => T p ∨ p = q)) v) :
    Inv P n nt o io stt m0 ml1 w0 (fun p => T p ∨ p = q) m ml r (a.put (o q).dst u) w := by
 refine ⟨I.rn, I.rb, fun p hp hc => ?_, fun p hp hc => .inl (I.all p hp hc), I.sim, fun p h1 h2 h3 h4 h5 => ?_, fun p p' h1 h2 h3 h4 h5 h6 h7 h8 h9 => ?_, henv, by cases (o q).dst <;> simp [Act.put, I.size], by cases (o q).dst <;> simp [Act.put, I.defers], I.grow⟩
 · rw [← I.eff p hp hc]
   constructor
   · rintro (h | rfl)
     · exact h
     · exact absurd hc he
   · exact .inl
 · rcases h3 with h3 | rfl
   · obtain ⟨k1, k2, k3, k4⟩ := I.pend p h1 h2 h3 h4 h5
     obtain ⟨j1, j2⟩ := k1.keep (T' := fun p => T p ∨ p = q) (fun _ => .inl) (m' := m) (ml' := ml) (w' := w) (fun _ _ => rfl) (fun _ => rfl) (fun _ _ _ => rfl) rfl
     exact ⟨j1, k2, k3, k4⟩
   · exact absurd h5 (ha h4)
 · rcases h4 with h4 | rfl
   · rcases h5 with h5 | rfl
     · exact I.pdist p p' h1 h2 h3 h4 h5 h6 h7 h8 h9
     · exact absurd h9 (ha h7)
   · exact absurd h8 (ha h6)
theorem Inv.effect (hC : CallOk P C) (G : Reg P C nt locals ops n o io idx stt) (hT : ∀ p q, p < n → q < n → idx p ∈ (preds ops).getD (idx q) [] → T q → T p) (I : Inv P n nt o io stt m0 ml1 w0 T m ml r a w) {q : Nat} (hq : q < n) (hnq : ¬ T q)
    (hpre : ∀ p, p < n → idx p ∈ (preds ops).getD (idx q) [] → T p) (he : (io q).op.cls = .effect) {m' : Nat → Loc} {w' : World} {u : Value}
    (S' : Sim P m' ml (stt (q + 1)).loc (stt (q + 1)).H w') (G' : Grow m ml (stt q).loc (stt q).H w m' ml (stt (q + 1)).loc (stt (q + 1)).H w')
    (hv : ∀ d v, (o q).dst = some d → look d (stt (q + 1)).env = some v → u = conc m' ml v ∧ vOk (good m' (stt (q + 1)).H.n) (availL n o io (fun p => T p ∨ p = q)) v) :
    ∃ m'', Inv P n nt o io stt m0 ml1 w0 (fun p => T p ∨ p = q) m'' ml (q + 1) (a.put (o q).dst u) w' := by
 have hrq : r ≤ q := by
  by_cases h : q < r
  · exact absurd ((I.eff q hq he).2 h) hnq
  · omega
 have hne : ∀ p, r ≤ p → p < q → (io p).op.cls ≠ .effect := by
  intro p h1 h2 h3
  have := hpre p (by omega) (G.heff p q h2 hq he (by simp [allocs, h3]))
  have := (I.eff p (by omega) h3).1 this
  omega
 have hal : ∀ p, r ≤ p → p < q → (io p).op.cls = .alloc → T p := fun p h1 h2 h3 => hpre p (by omega) (G.heff p q h2 hq he (by simp [allocs, h3]))
 obtain ⟨S, Gr, U⟩ := I.advance G q hrq (by omega) hne hal
 have hm0 : ∃ m'' : Nat → Loc, (∀ id, id < (stt (q + 1)).H.n → m'' id = m' id) ∧ ∀ id, ¬ id < (stt (q + 1)).H.n → m'' id = m id :=
  ⟨fun id => if id < (stt (q + 1)).H.n then m' id else m id, fun id h => by simp [h], fun id h => by simp [h]⟩
 obtain ⟨m'', hm1, hm2⟩ := hm0
 refine ⟨m'', ?_⟩
 have hmas : ∀ id, asgd n stt T id → m'' id = m id := by
  intro id h
  by_cases hlt : id < (stt (q + 1)).H.n
  · rw [hm1 id hlt]
    refine G'.agree id ?_
    rcases h with h | ⟨p, h1, h2, h3, h4⟩
    · exact Nat.lt_of_lt_of_le h (G.mono hC (Nat.zero_le _) (by omega))
    · by_cases e : p < q
      · exact Nat.lt_of_lt_of_le h4 (G.mono hC e (by omega))
      · by_cases e2 : p = q
        · subst e2; exact absurd h2 hnq
        · have := G.mono hC (show q + 1 ≤ p by omega) (by omega); omega
  · exact hm2 id hlt
 have S2 : Sim P m'' ml (stt (q + 1)).loc (stt (q + 1)).H w' := S'.rename hm1 (fun _ _ _ => rfl)
 have G2 := G'.rename S'.wf hm1
 have hpk : ∀ p, q < p → p < n → T p → (io p).op.cls = .alloc → Wtd io stt p →
     w'.heap[pbk o io stt m ml p]? = w.heap[pbk o io stt m ml p]? ∧ (isLoc (io p).op = false → m'' (stt p).H.n = m (stt p).H.n) ∧
     ∀ b, UsedB m ml (stt q).loc (stt q).H b → b ≠ pbk o io stt m ml p := by
  intro p h1 h2 h3 h4 h5
  obtain ⟨k1, k2, k3, k4⟩ := I.pend p (by omega) h2 h3 h4 h5
  have hnu : ∀ b, UsedB m ml (stt q).loc (stt q).H b → b ≠ pbk o io stt m ml p := by
   rintro b hb rfl
   rcases U _ hb with h | ⟨p', j1, j2, j3, j4, j5⟩
   · exact k4 h
   · exact I.pdist p' p j1 (by omega) h2 (hal p' j1 j2 j3) h3 j3 h4 j4 h5 j5
  refine ⟨?_, fun _ => ?_, hnu⟩
  · exact G'.keep _ k3 (fun id hid => hnu _ (.inl ⟨id, .inl hid, rfl⟩)) (fun t c ht => hnu _ (.inr ⟨t, c, ht, rfl⟩))
  · have := G.mono hC (show q + 1 ≤ p by omega) (by omega)
    exact hm2 _ (by omega)
 refine ⟨by omega, .inr ⟨by omega, by simpa using he⟩, fun p hp hc => ?_, fun p hp hc => ?_, S2, fun p h1 h2 h3 h4 h5 => ?_, fun p p' h1 h2 h3 h4 h5 h6 h7 h8 h9 => ?_, ?_, by cases (o q).dst <;> simp [Act.put, I.size], by cases (o q).dst <;> simp [Act.put, I.defers], Gr.trans G2⟩
 · constructor
   · rintro (h | rfl)
     · have := (I.eff p hp hc).1 h; omega
     · omega
   · intro h
     by_cases e : p = q
     · exact .inr e
     · exact .inl (hpre p hp (G.heff p q (by omega) hq he (by simp [allocs, hc])))
 · by_cases e : p = q
   · exact .inr e
   · exact .inl (hpre p (by omega) (G.heff p q (by omega) hq he (by simp [allocs, hc])))
 · rcases h3 with h3 | rfl
   · obtain ⟨k1, k2, k3, k4⟩ := I.pend p (by omega) h2 h3 h4 h5
     obtain ⟨g1, g2, g3⟩ := hpk p (by omega) h2 h3 h4 h5
     obtain ⟨j1, j2⟩ := k1.keep (T' := fun p => T p ∨ p = q) (fun _ => .inl) (m' := m'') (ml' := ml) (w' := w') hmas g2 (fun _ _ _ => rfl) g1
     refine ⟨j1, by rw [j2]; exact k2, by rw [j2]; exact Nat.lt_of_lt_of_le k3 G'.size, ?_⟩
     rw [j2]
     rintro (⟨id, ho, hb⟩ | ⟨t, c, ht, hb⟩)
     · rcases ho with ho | ho
       · rcases G2.own id ho with ⟨i, hi, hbi⟩ | hbi
         · exact g3 _ (.inl ⟨i, .inl hi, rfl⟩) (hbi.trans hb)
         · omega
       · have h0 := G2.ro id ho
         have := G2.agree id (h0.lt S.wf)
         rw [this] at hb
         exact g3 _ (.inl ⟨id, .inr h0, rfl⟩) hb
     · rcases G2.locs t c ht with ⟨d, hd, hbi⟩ | hbi
       · exact g3 _ (.inr ⟨t, d, hd, rfl⟩) hb
       · omega
   · omega
 · rcases h4 with h4 | rfl
   · rcases h5 with h5 | rfl
     · obtain ⟨_, g2, _⟩ := hpk p (by omega) (by omega) h4 h6 h8
       obtain ⟨_, g2', _⟩ := hpk p' (by omega) h3 h5 h7 h9
       have e1 : pbk o io stt m'' ml p = pbk o io stt m ml p := by
        unfold pbk; split
        · rfl
        · rename_i hl; rw [g2 (by simpa using hl)]
       have e2 : pbk o io stt m'' ml p' = pbk o io stt m ml p' := by
        unfold pbk; split
        · rfl
        · rename_i hl; rw [g2' (by simpa using hl)]
       rw [e1, e2]
       exact I.pdist p p' (by omega) h2 h3 h4 h5 h6 h7 h8 h9
     · rw [he] at h7; cases h7
   · rw [he] at h6; cases h6
 · refine I.env_step G hT hq hnq hmas (fun _ _ => rfl) fun d v hd hv' => ?_
   obtain ⟨e1, e2⟩ := hv d v hd hv'
   have hcv : conc m'' ml v = conc m' ml v := by
    rcases e2 with e2 | ⟨t, off, rfl, _⟩
    · exact conc_congr ml ml (fun i k hi => hm1 i hi.1) v e2
    · simp [conc]
   refine ⟨by rw [hcv]; exact e1, e2.mono (fun id k hi => ⟨hi.1, ?_, by rw [hm1 id hi.1]; exact hi.2⟩) fun _ h => h⟩
   by_cases hlt : id < (stt q).H.n
   ·
    by_cases h0 : id < (stt r).H.n
    · exact asgd_mono (fun _ => .inl) (I.asgd_lt G r (Nat.le_refl _) h0)
    ·
     have : ∀ j, r ≤ j → j ≤ q → id < (stt j).H.n → asgd n stt (fun p => T p ∨ p = q) id := by
      intro j hj
      induction hj with
      | refl => intro _ h; exact absurd h h0
      | @step j hrj ih =>
       intro hjq h
       by_cases h5 : id < (stt j).H.n
       · exact ih (by omega) h5
       · by_cases hc : (io j).op.cls = .alloc
         · exact .inr ⟨j, by omega, .inl (hal j hrj (by omega) hc), by omega, h⟩
         · obtain ⟨_, e⟩ := G.mem (q := j) (by omega) (.inl hc) (.inl (hne j hrj (by omega)))
           rw [e] at h; exact absurd h h5
     exact this q hrq (Nat.le_refl _) hlt
   · exact .inr ⟨q, hq, .inr rfl, by omega, hi.1⟩
end
end Go.Wam
set_option linter.unusedVariables false
set_option linter.unusedSimpArgs false
namespace Go.Wam
theorem undefOk : ∀ p : Nat → Nat → Prop, undefA.okP p := fun p => by simp [undefA, AV.okP, AV.okPL]
theorem appendX_noL {H H' : AHeap} {sz b n : Nat} {xs : List AV} {s v : AV} (hs : appendX H sz b n xs s = some (v, H')) : v.noL = true ∨ ∀ p : Nat → Nat → Prop, v.okP p := by
 unfold appendX at hs
 (repeat' (split at hs)) <;> (try cases hs) <;> exact .inl rfl
theorem evOp_effect_noL {dst : Option Nat} {s s' : St} {io : IOp} {v : AV} (h : evOp dst s io = some (v, s')) (hc : io.cls = .effect) : (∀ t off, v ≠ .lptr t off) := by
 have of : (v.noL = true ∨ ∀ p : Nat → Nat → Prop, v.okP p) → ∀ t off, v ≠ .lptr t off := by
  rintro (h | h) t off rfl
  · simp [AV.noL] at h
  · simpa [AV.okP] using h fun _ _ => True
 cases io <;> try (simp [IOp.cls] at hc; done)
 case conv c x =>
  cases c <;> simp [IOp.cls] at hc
 case len k x => cases k <;> simp [IOp.cls] at hc
 case store sz a x =>
  simp only [evOp] at h
  split at h
  · rename_i q u _ _
    cases hs : storeA s sz u q with
    | none => simp [hs] at h
    | some s1 => simp [hs] at h; obtain ⟨rfl, rfl⟩ := h; exact of (.inr undefOk)
  · cases h
 case append sz b a x =>
  simp only [evOp] at h
  split at h
  · rename_i q u _ _
    cases hs : appendA s.H sz b q u with
    | none => simp [hs] at h
    | some r =>
     obtain ⟨v1, H1⟩ := r; simp [hs] at h; obtain ⟨rfl, rfl⟩ := h
     unfold appendA at hs
     split at hs
     · cases hs
     · exact of (appendX_noL hs)
  · cases h
 case appendZ sz b z a x =>
  simp only [evOp] at h
  split at h
  · rename_i q u _ _
    cases hs : appendZ s.H sz b z q u with
    | none => simp [hs] at h
    | some r =>
     obtain ⟨v1, H1⟩ := r; simp [hs] at h; obtain ⟨rfl, rfl⟩ := h
     unfold appendZ at hs
     split at hs
     · split at hs
       · exact of (appendX_noL hs)
       · cases hs
     · cases hs
  · cases h
 case rangeM x =>
  simp only [evOp] at h
  split at h
  · rename_i u _
    cases hs : rangeMA s.H u with
    | none => simp [hs] at h
    | some r =>
     obtain ⟨r1, H1⟩ := r; simp [hs] at h; obtain ⟨rfl, rfl⟩ := h
     unfold rangeMA at hs
     (repeat' (split at hs)) <;> (try cases hs) <;> exact of (.inl rfl)
  · cases h
 case mapEntry t1 z x k =>
  simp only [evOp] at h
  split at h
  · rename_i a b _ _
    cases hs : mapEntryA s.H t1 z a b with
    | none => simp [hs] at h
    | some r =>
     obtain ⟨r1, H1⟩ := r; simp [hs] at h; obtain ⟨rfl, rfl⟩ := h
     unfold mapEntryA at hs
     (repeat' (split at hs)) <;> (try cases hs) <;> (intro t off h; cases h)
  · cases h
 case entryStore x b v1 =>
  simp only [evOp] at h
  split at h
  · rename_i a b c _ _ _
    cases hs : entryStoreA s.H a b c with
    | none => simp [hs] at h
    | some H1 => simp [hs] at h; obtain ⟨rfl, rfl⟩ := h; exact of (.inr undefOk)
  · cases h
 case copy sz d x =>
  simp only [evOp] at h
  split at h
  · rename_i a b _ _
    have to : ∀ {n id off : Nat}, copyTo s sz n id off b = some (v, s') → ∀ t off, v ≠ .lptr t off := by
     intro n id off hc
     unfold copyTo at hc
     (repeat' (split at hc)) <;> (try cases hc) <;> exact of (.inl rfl)
    unfold copyA at h
    split at h <;> first | exact to h | (cases h; done) | (cases h; exact of (.inl rfl))
  · cases h
 case defer f as =>
  simp only [evOp] at h
  (repeat' (split at h)) <;> first | (cases h; done) | (cases h; exact of (.inr undefOk))
 case nextM x => simp [evOp] at h
 case clear sz z x =>
  simp only [evOp] at h
  have cl : ∀ {id off len : Nat}, clearA s sz z id off len = some (v, s') → ∀ t off, v ≠ .lptr t off := by
   intro id off len hc
   unfold clearA at hc
   (repeat' (split at hc)) <;> (try cases hc) <;> exact of (.inr undefOk)
  split at h
  · cases h; exact of (.inr undefOk)
  · cases h; exact of (.inr undefOk)
  · cases h; exact of (.inr undefOk)
  · exact cl h
  · exact cl h
  · cases h
 case nextS x =>
  simp only [evOp] at h
  split at h
  · rename_i u _
    cases hs : nextA s.H u with
    | none => simp [hs] at h
    | some r =>
     obtain ⟨r1, H1⟩ := r
     simp [hs] at h; obtain ⟨rfl, rfl⟩ := h
     unfold nextA at hs
     (repeat' (split at hs)) <;> (try cases hs) <;> exact of (.inr fun p => by simp [AV.okP, AV.okPL])
  · cases h
 case mapUpdate t x k v1 =>
  simp only [evOp] at h
  split at h
  · rename_i a b c _ _ _
    cases hs : updA s.H t a b c with
    | none => simp [hs] at h
    | some H1 => simp [hs] at h; obtain ⟨rfl, rfl⟩ := h; exact of (.inr undefOk)
  · cases h
 case delete t x k =>
  simp only [evOp] at h
  split at h
  · rename_i a b _ _
    cases hs : delA s.H t a b with
    | none => simp [hs] at h
    | some H1 => simp [hs] at h; obtain ⟨rfl, rfl⟩ := h; exact of (.inr undefOk)
  · cases h
 case call f as => simp [evOp] at h
 case bad => simp [evOp] at h
theorem cls_alloc_of_isLoc {io : IOp} (h : isLoc io = true) : io.cls = .alloc := by
 cases io <;> simp [isLoc] at h <;> simp [IOp.cls]
section
variable {P : Program} {C : CallF} {nt : Nat} {locals : List Nat} {ops : Array Oper} {n : Nat} {o : Nat → Oper} {io : Nat → IOper} {idx : Nat → Nat} {stt : Nat → St}
variable {m0 : Nat → Loc} {ml1 : Nat → Nat} {w0 : World} {T : Nat → Prop} {m : Nat → Loc} {ml : Nat → Nat} {r : Nat} {a : Act} {w : World}
theorem Inv.look (hC : CallOk P C) (G : Reg P C nt locals ops n o io idx stt) (hT : ∀ p q, p < n → q < n → idx p ∈ (preds ops).getD (idx q) [] → T q → T p) (I : Inv P n nt o io stt m0 ml1 w0 T m ml r a w) {q : Nat} (hq : q < n) (hnq : ¬ T q)
    (hpre : ∀ p, p < n → idx p ∈ (preds ops).getD (idx q) [] → T p) {t : Nat} {v : AV} (hu : t ∈ (o q).looksAt ops) (h : look t (stt q).env = some v) :
    a.tmps.getD t undef = conc m ml v ∧ vOk (fun id k => id < (stt q).H.n ∧ goodT n stt T m id k) (availL n o io T) v := by
 obtain ⟨b, h1, h2⟩ := G.cur hC hT hq hnq hpre hu h
 obtain ⟨e1, e2⟩ := I.env t v b h1
 exact ⟨e1, e2.mono (fun i k hi => ⟨by omega, hi.2⟩) fun _ h => h⟩
theorem Inv.opR (hC : CallOk P C) (G : Reg P C nt locals ops n o io idx stt) (hT : ∀ p q, p < n → q < n → idx p ∈ (preds ops).getD (idx q) [] → T q → T p) (I : Inv P n nt o io stt m0 ml1 w0 T m ml r a w) {q : Nat} (hq : q < n) (hnq : ¬ T q)
    (hpre : ∀ p, p < n → idx p ∈ (preds ops).getD (idx q) [] → T p) : ∀ x ∈ (o q).op.operands, OpR a.eval (stt q).env m ml (fun id k => id < (stt q).H.n ∧ goodT n stt T m id k) (availL n o io T) x := by
 intro x hx
 refine .of_act a x fun t v e hv => I.look hC G hT hq hnq hpre ?_ hv
 subst e
 exact List.mem_append_left _ (List.mem_filterMap.2 ⟨.tmp t, by simpa using hx, rfl⟩)
theorem Grow.of_pushed {loc : List (Nat × List AV)} {H : AHeap} {w w' : World} {ob : Obj} (h : Pushed w w' ob) : Grow m ml loc H w m ml loc H w' :=
 ⟨Nat.le_refl _, fun _ _ => rfl, by rw [h.size]; omega, h.os, h.tape, h.output, fun b hb _ _ => h.old hb, fun id h => .inl ⟨id, h, rfl⟩, fun t c h => .inl ⟨c, h, rfl⟩, Nat.le_refl _, fun _ _ _ => rfl, fun _ h => h⟩
theorem Inv.alloc (hC : CallOk P C) (G : Reg P C nt locals ops n o io idx stt) (hT : ∀ p q, p < n → q < n → idx p ∈ (preds ops).getD (idx q) [] → T q → T p) (I : Inv P n nt o io stt m0 ml1 w0 T m ml r a w) {q : Nat} (hq : q < n) (hnq : ¬ T q)
    (hpre : ∀ p, p < n → idx p ∈ (preds ops).getD (idx q) [] → T p) (hal : (io q).op.cls = .alloc) (hw : Wtd io stt q) {v : AV} (he : evOp (o q).dst (stt q) (io q).op = some (v, { env := (stt q).env, loc := (stt (q + 1)).loc, H := (stt (q + 1)).H }))
    (henv : (stt (q + 1)).env = envPut (o q).dst v (stt q).env) :
    ∃ m' ml' u w', (execOp a.eval (o q)).run P w = .ok (.value u) w' ∧ Inv P n nt o io stt m0 ml1 w0 (fun p => T p ∨ p = q) m' ml' r (a.put (o q).dst u) w' := by
 obtain ⟨hd, h1, h2, h3⟩ := compOper_spec (G.hcomp q hq)
 have hrq : r ≤ q := by
  by_cases h : q < r
  · exact absurd (I.all q h hal) hnq
  · omega
 have hnr : (stt r).H.n ≤ (stt q).H.n := G.mono hC hrq (by omega)
 have hlk : ∀ d u, (o q).dst = some d → Go.Wam.look d (stt (q + 1)).env = some u → u = v := by
  intro d u hd hu
  rw [henv, hd] at hu
  simp only [envPut, Go.Wam.look, if_true, Option.some.injEq] at hu
  exact hu.symm
 obtain ⟨w', ob, hp, hcase⟩ := run_alloc (comp_of h1 (by rintro e; rw [e] at he; simp [evOp] at he)) hal he (I.opR hC G hT hq hnq hpre) w
 have hsz := hp.size
 have hold : ∀ b, UsedB m ml (stt r).loc (stt r).H b → w'.heap[b]? = w.heap[b]? := fun b hb => hp.old (I.sim.used_lt hb)
 have S0 : Sim P m ml (stt r).loc (stt r).H w' := I.sim.frame hold
 have hE : ∀ p, p < n → (io p).op.cls = .effect → ((T p ∨ p = q) ↔ p < r) := by
  intro p hp hc
  rw [← I.eff p hp hc]
  constructor
  · rintro (h | rfl)
    · exact h
    · rw [hal] at hc; cases hc
  · exact .inl
 rcases hcase with ⟨l, ao, kl, k2, k3, k4, k5, k6, k7, k8⟩ | ⟨t, cells, k1, k2, k3, k4, k5, k6, k7, k8⟩
 · have k1 : l.block = w.heap.size := by rw [kl]
   have k0 : l.base = 0 := by rw [kl]
   clear kl
   simp only [St.mk.injEq, true_and] at k2
   obtain ⟨k2, k2'⟩ := k2
   have hnl : isLoc (io q).op = false := by
    cases hx : isLoc (io q).op
    · rfl
    · have := (evOp_loc he hal).1 hx
      simp only at this
      rw [k2'] at this
      have := congrArg AHeap.n this
      simp at this
   have hn1 : (stt (q + 1)).H.n = (stt q).H.n + 1 := by rw [k2']; rfl
   have has : ∀ id, asgd n stt T id → id ≠ (stt q).H.n := by
    rintro id (h | ⟨p, j1, j2, j3, j4⟩)
    · have := G.mono hC (Nat.zero_le q) (by omega); omega
    · by_cases e : p < q
      · have := G.mono hC (show p + 1 ≤ q by omega) (by omega); omega
      · by_cases e2 : p = q
        · subst e2; exact absurd j2 hnq
        · have := G.mono hC (show q + 1 ≤ p by omega) (by omega); omega
   have hm : ∀ id, asgd n stt T id → upd m (stt q).H.n l id = m id := fun id h => upd_ne _ _ (has id h)
   have hmr : ∀ id, id < (stt r).H.n → upd m (stt q).H.n l id = m id := fun id h => upd_ne _ _ (by omega)
   have hus : ∀ b, UsedB (upd m (stt q).H.n l) ml (stt r).loc (stt r).H b → UsedB m ml (stt r).loc (stt r).H b := by
    rintro b (⟨id, ho, hb⟩ | h)
    · refine .inl ⟨id, ho, ?_⟩
      rw [← hmr id (by rcases ho with ho | ho <;> exact ho.lt I.sim.wf)]; exact hb
    · exact .inr h
   have hkp : ∀ p, r ≤ p → p < n → T p → (io p).op.cls = .alloc → Wtd io stt p →
       Pend P n o io stt (fun p => T p ∨ p = q) (upd m (stt q).H.n l) ml w' p ∧ pbk o io stt (upd m (stt q).H.n l) ml p = pbk o io stt m ml p := by
    intro p j1 j2 j3 j4 j5
    obtain ⟨g1, g2, g3, g4⟩ := I.pend p j1 j2 j3 j4 j5
    refine g1.keep (T' := fun p => T p ∨ p = q) (fun _ => .inl) hm (fun hlp => ?_) (fun _ _ _ => rfl) (hp.old g3)
    refine upd_ne _ _ ?_
    rcases g1 with ⟨_, ao', e1, _⟩ | ⟨h, _⟩
    · have e1' : (stt (p + 1)).H.n = (stt p).H.n + 1 := by rw [e1]; rfl
      by_cases e : p < q
      · have := G.mono hC (show p + 1 ≤ q by omega) (by omega); omega
      · by_cases e2 : p = q
        · subst e2; exact absurd j3 hnq
        · have := G.mono hC (show q + 1 ≤ p by omega) (by omega); omega
    · rw [hlp] at h; cases h
   have hbq : pbk o io stt (upd m (stt q).H.n l) ml q = w.heap.size := by simp [pbk, hnl, k1]
   refine ⟨upd m (stt q).H.n l, ml, _, w', k6, ⟨I.rn, I.rb, hE, fun p a b => .inl (I.all p a b), S0.rename hmr (fun _ _ _ => rfl), fun p j1 j2 j3 j4 j5 => ?_, fun p p' j1 j2 j3 j4 j5 j6 j7 j8 j9 => ?_, ?_, by cases (o q).dst <;> simp [Act.put, I.size], by cases (o q).dst <;> simp [Act.put, I.defers], (I.grow.trans (.of_pushed hp)).rename I.sim.wf hmr⟩⟩
   · rcases j3 with j3 | rfl
     · obtain ⟨g1, g2, g3, g4⟩ := I.pend p j1 j2 j3 j4 j5
       obtain ⟨e1, e2⟩ := hkp p j1 j2 j3 j4 j5
       refine ⟨e1, by rw [e2]; exact g2, by rw [e2]; omega, ?_⟩
       rw [e2]; exact fun h => g4 (hus _ h)
     · refine ⟨.inl ⟨hnl, ao, k2', k2, k3, ⟨by rw [upd_same]; exact k0, ?_⟩, ?_⟩, by rw [hbq]; exact I.grow.size, by rw [hbq]; omega, ?_⟩
       · rw [upd_same]
         exact k5.rename (fun i k hi => upd_ne _ _ (by omega)) k4
       · exact AObj.okP_mono (fun i k hi => ⟨hi.1, asgd_mono (fun _ => .inl) hi.2.1, by rw [hm i hi.2.1]; exact hi.2.2⟩) k4
       · rw [hbq]; intro h; have := I.sim.used_lt (hus _ h); omega
   · rcases j4 with j4 | rfl
     · rcases j5 with j5 | rfl
       · rw [(hkp p j1 (by omega) j4 j6 j8).2, (hkp p' (by omega) j3 j5 j7 j9).2]
         exact I.pdist p p' j1 j2 j3 j4 j5 j6 j7 j8 j9
       · rw [(hkp p j1 (by omega) j4 j6 j8).2, hbq]
         have := (I.pend p j1 (by omega) j4 j6 j8).2.2.1; omega
     · rcases j5 with j5 | rfl
       · rw [(hkp p' (by omega) j3 j5 j7 j9).2, hbq]
         have := (I.pend p' (by omega) j3 j5 j7 j9).2.2.1; omega
       · omega
   · refine I.env_step G hT hq hnq hm (fun _ _ => rfl) fun d u hd' hu => ?_
     obtain rfl := hlk d u hd' hu
     refine ⟨rfl, .of (okP_mono (fun i k hi => ?_) _ k7)⟩
     obtain ⟨rfl, hk⟩ := hi
     exact ⟨by omega, .inr ⟨q, hq, .inr rfl, Nat.le_refl _, by omega⟩, by rw [upd_same]; exact hk⟩
 · subst k4
   simp only [St.mk.injEq, true_and] at k3
   obtain ⟨k3, k3'⟩ := k3
   have hil : isLoc (io q).op = true := by
    cases hx : isLoc (io q).op
    · have := (evOp_loc he hal).2 hx
      simp only at this
      rw [k3] at this
      have := congrArg List.length this
      simp at this
    · rfl
   have hnone : Go.Wam.look t (stt r).loc = none := G.loc_none hq k1 hil r hrq
   have hml : ∀ u, u ≠ t → upd ml t w.heap.size u = ml u := fun u h => upd_ne _ _ h
   have hmr : ∀ u c, Go.Wam.look u (stt r).loc = some c → upd ml t w.heap.size u = ml u := by
    intro u c h
    refine hml u ?_
    rintro rfl
    rw [hnone] at h; cases h
   have hus : ∀ b, UsedB m (upd ml t w.heap.size) (stt r).loc (stt r).H b → UsedB m ml (stt r).loc (stt r).H b := by
    rintro b (h | ⟨u, c, hu, hb⟩)
    · exact .inl h
    · exact .inr ⟨u, c, hu, by rw [← hmr u c hu]; exact hb⟩
   have hkp : ∀ p, r ≤ p → p < n → T p → (io p).op.cls = .alloc → Wtd io stt p →
       Pend P n o io stt (fun p => T p ∨ p = q) m (upd ml t w.heap.size) w' p ∧ pbk o io stt m (upd ml t w.heap.size) p = pbk o io stt m ml p := by
    intro p j1 j2 j3 j4 j5
    obtain ⟨g1, g2, g3, g4⟩ := I.pend p j1 j2 j3 j4 j5
    refine g1.keep (T' := fun p => T p ∨ p = q) (fun _ => .inl) (fun _ _ => rfl) (fun _ => rfl) (fun hlp u hu => hml u ?_) (hp.old g3)
    rintro rfl
    by_cases e : p < q
    · exact G.halloc p q e hq j4 hal (hu.trans k1.symm)
    · by_cases e2 : p = q
      · subst e2; exact absurd j3 hnq
      · exact G.halloc q p (by omega) j2 hal j4 (k1.trans hu.symm)
   have hbq : pbk o io stt m (upd ml t w.heap.size) q = w.heap.size := by simp [pbk, hil, k1]
   refine ⟨m, upd ml t w.heap.size, _, w', k8, ⟨I.rn, I.rb, hE, fun p a b => .inl (I.all p a b), S0.rename (fun _ _ => rfl) hmr, fun p j1 j2 j3 j4 j5 => ?_, fun p p' j1 j2 j3 j4 j5 j6 j7 j8 j9 => ?_, ?_, by cases (o q).dst <;> simp [Act.put, I.size], by cases (o q).dst <;> simp [Act.put, I.defers], ?_⟩⟩
   · rcases j3 with j3 | rfl
     · obtain ⟨g1, g2, g3, g4⟩ := I.pend p j1 j2 j3 j4 j5
       obtain ⟨e1, e2⟩ := hkp p j1 j2 j3 j4 j5
       refine ⟨e1, by rw [e2]; exact g2, by rw [e2]; omega, ?_⟩
       rw [e2]; exact fun h => g4 (hus _ h)
     · refine ⟨.inr ⟨hil, t, cells, k1, k3, k3', ?_, ?_, k6⟩, by rw [hbq]; exact I.grow.size, by rw [hbq]; omega, ?_⟩
       · rw [upd_same]
         exact k7.rename (fun i k hi => rfl) k5
       · exact okPL_mono (fun i k hi => ⟨hi.1, asgd_mono (fun _ => .inl) hi.2.1, hi.2.2⟩) _ k5
       · rw [hbq]; intro h; have := I.sim.used_lt (hus _ h); omega
   · rcases j4 with j4 | rfl
     · rcases j5 with j5 | rfl
       · rw [(hkp p j1 (by omega) j4 j6 j8).2, (hkp p' (by omega) j3 j5 j7 j9).2]
         exact I.pdist p p' j1 j2 j3 j4 j5 j6 j7 j8 j9
       · rw [(hkp p j1 (by omega) j4 j6 j8).2, hbq]
         have := (I.pend p j1 (by omega) j4 j6 j8).2.2.1; omega
     · rcases j5 with j5 | rfl
       · rw [(hkp p' (by omega) j3 j5 j7 j9).2, hbq]
         have := (I.pend p' (by omega) j3 j5 j7 j9).2.2.1; omega
       · omega
   · refine I.env_step G hT hq hnq (fun _ _ => rfl) (fun u hu => hml u ?_) fun d u hd' hu => ?_
     · rintro rfl; exact hnq (hu q hq k1 hil)
     obtain rfl := hlk d u hd' hu
     refine ⟨by simp [conc], .inr ⟨t, 0, rfl, fun p hp1 hp2 hp3 => ?_⟩⟩
     have hpa := cls_alloc_of_isLoc hp3
     by_cases e : p < q
     · exact absurd (hp2.trans k1.symm) (G.halloc p q e hq hpa hal)
     · by_cases e2 : p = q
       · exact .inr e2
       · exact absurd (k1.trans hp2.symm) (G.halloc q p (by omega) hp1 hal hpa)
   · have g1 := I.grow.trans (Grow.of_pushed (ml := ml) (m := m) (loc := (stt r).loc) (H := (stt r).H) hp)
     exact ⟨g1.n_le, g1.agree, g1.size, g1.os, g1.tape, g1.output, g1.keep, g1.own, fun u c hu => by rw [hmr u c hu]; exact g1.locs u c hu, g1.low, g1.pres, g1.ro⟩
theorem Inv.step (hC : CallOk P C) (G : Reg P C nt locals ops n o io idx stt) (hsz : ∀ (j d : Nat), (ops[j]?).bind (fun (x : Oper) => x.dst) = some d → d < nt) (hT : ∀ p q, p < n → q < n → idx p ∈ (preds ops).getD (idx q) [] → T q → T p)
    (I : Inv P n nt o io stt m0 ml1 w0 T m ml r a w) {q : Nat} (hq : q < n) (hnq : ¬ T q) (hpre : ∀ p, p < n → idx p ∈ (preds ops).getD (idx q) [] → T p) {Q : Exit → Act → World → Prop} {K : Act → World → Prop}
    (hK : ∀ m' ml' r' a' w', Inv P n nt o io stt m0 ml1 w0 (fun p => T p ∨ p = q) m' ml' r' a' w' → K a' w') (rd : Option Nat) (fu : Nat) : wpOpIn (FF rd) fu P ops Q (idx q) K a w := by
 obtain ⟨hd, h1, h2, h3⟩ := compOper_spec (G.hcomp q hq)
 simp only [wpOpIn, G.hops q hq]
 have hwt : ∀ b, wantedA (stt q) (io q).guard = some b → Region.wanted (o q) (yielded ops a.tmps) = b := fun b hb =>
  wanted_spec2 (m := m) (ml := ml) (fun d v hu hv => (I.look hC G hT hq hnq hpre hu hv).1) (fun j d hj => by rw [I.size]; exact hsz j d hj) h2 hb
 obtain ⟨v, hv, hcase⟩ := stepOp_cases (G.hstep q hq)
 rw [h3] at hv
 have hlk : ∀ d u, (o q).dst = some d → Go.Wam.look d (stt (q + 1)).env = some u → u = v := by
  intro d u hd hu
  rw [hv, hd] at hu
  simp only [envPut, Go.Wam.look, if_true, Option.some.injEq] at hu
  exact hu.symm
 have hpu : ∀ (v : AV), undefA.okP (fun id k => id < (stt (q + 1)).H.n ∧ goodT n stt (fun p => T p ∨ p = q) m id k) := fun _ => by simp [undefA, AV.okP, AV.okPL]
 rcases hcase with ⟨hw, rfl, e1, e2⟩ | ⟨hw, hcase⟩
 ·
  rw [hwt _ hw]
  simp only [Bool.false_eq_true, if_false]
  refine ⟨fun _ _ => trivial, ?_⟩
  have henv := I.env_step (u := undef) G hT hq hnq (m' := m) (ml' := ml) (fun _ _ => rfl) (fun _ _ => rfl) fun d u hd' hu => by
   obtain rfl := hlk d u hd' hu
   exact ⟨by simp [undef, undefA, conc, concL], .of (hpu undefA)⟩
  by_cases hc : (io q).op.cls = .effect
  · have hrq : r ≤ q := by
      by_cases h : q < r
      · exact absurd ((I.eff q hq hc).2 h) hnq
      · omega
    have hne : ∀ p, r ≤ p → p < q → (io p).op.cls ≠ .effect := by
     intro p h1 h2 h3
     have := hpre p (by omega) (G.heff p q h2 hq hc (by simp [allocs, h3]))
     have := (I.eff p (by omega) h3).1 this
     omega
    have hal : ∀ p, r ≤ p → p < q → (io p).op.cls = .alloc → T p := fun p h1 h2 h3 => hpre p (by omega) (G.heff p q h2 hq hc (by simp [allocs, h3]))
    obtain ⟨S, _, _⟩ := I.advance G q hrq (by omega) hne hal
    obtain ⟨m'', I'⟩ := I.effect (u := undef) hC G hT hq hnq hpre hc (m' := m) (w' := w) (by rw [e1, e2]; exact S) (by rw [e1, e2]; exact .refl ..) fun d u hd' hu => by
     obtain rfl := hlk d u hd' hu
     exact ⟨by simp [undef, undefA, conc, concL], .of (by simp [undefA, AV.okP, AV.okPL])⟩
    exact hK _ _ _ _ _ I'
  · exact hK _ _ _ _ _ (I.same G hq hnq hc (fun _ h => by unfold Wtd at h; rw [hw] at h; cases h) henv)
 · rw [hwt _ hw]
   simp only [if_true]
   have hpl := G.hplain q hq
   refine ⟨fun _ _ => trivial, ?_⟩
   rw [FF_round]
   have hop := I.opR hC G hT hq hnq hpre
   have toEff : (io q).op.cls = .effect → Sim P m ml (stt q).loc (stt q).H w ∧ ∀ x ∈ (o q).op.operands, OpR a.eval (stt q).env m ml (good m (stt q).H.n) LT x := by
    intro hc
    have hrq : r ≤ q := by
     by_cases h : q < r
     · exact absurd ((I.eff q hq hc).2 h) hnq
     · omega
    have hne : ∀ p, r ≤ p → p < q → (io p).op.cls ≠ .effect := by
     intro p h1 h2 h3
     have := hpre p (by omega) (G.heff p q h2 hq hc (by simp [allocs, h3]))
     have := (I.eff p (by omega) h3).1 this
     omega
    have hal : ∀ p, r ≤ p → p < q → (io p).op.cls = .alloc → T p := fun p h1 h2 h3 => hpre p (by omega) (G.heff p q h2 hq hc (by simp [allocs, h3]))
    obtain ⟨S, _, _⟩ := I.advance G q hrq (by omega) hne hal
    refine ⟨S, fun x hx y u hy hu => ?_⟩
    obtain ⟨k1, k2⟩ := hop x hx y u hy hu
    exact ⟨k1, k2.mono (fun i k hi => ⟨hi.1, hi.2.2⟩) fun _ _ => trivial⟩
   rcases hcase with ⟨f, args, g, vs, hio, hf, hvs, hcall, hloc⟩ | ⟨hnc, he⟩
   ·
    have hc : (io q).op.cls = .effect := by rw [hio]; rfl
    obtain ⟨S, hop'⟩ := toEff hc
    have hco : compOp P locals (o q).dst (o q).op = some (.call f args) := comp_of (by rw [h1]; exact hio) (by simp)
    rw [Oper.semAt_eq _ _ _ (comp_defer hco rfl)]
    refine call_upon (ρ := a.eval) hC hco hop' S hf hvs hcall rd fu fun m' w' S' G' ok' _ => ?_
    obtain ⟨m'', I'⟩ := I.effect (u := conc m' ml v) hC G hT hq hnq hpre hc (m' := m') (w' := w') (by rw [hloc]; exact S') (by rw [hloc]; exact G') fun d u hd' hu => by
     obtain rfl := hlk d u hd' hu
     exact ⟨rfl, .of ok'⟩
    exact hK _ _ _ _ _ I'
   · rw [h3] at he
     have h1' := h1
     replace h1 : compOp P locals (o q).dst (o q).op = some (io q).op := comp_of h1 (by rintro e; rw [e] at he; simp [evOp] at he)
     rw [Oper.semAt_eq _ _ _ (comp_defer h1 hpl)]
     cases hc : (io q).op.cls with
     | effect =>
      obtain ⟨S, hop'⟩ := toEff hc
      obtain ⟨m', w', hrun, S', G', ok', _⟩ := effect_sound (ρ := a.eval) h1 hpl hc he hop' S
      have hvp : v.okP (good m' (stt (q + 1)).H.n) := by
       rcases ok' with h | ⟨t, off, rfl, _⟩
       · exact h
       · exact absurd rfl (evOp_effect_noL he hc t off)
      rcases hrun with hrun | ⟨hrun, rfl⟩
      · simp only [hrun, Oper.uponIn_value]
        obtain ⟨m'', I'⟩ := I.effect (u := conc m' ml v) hC G hT hq hnq hpre hc (m' := m') (w' := w') S' G' fun d u hd' hu => by
         obtain rfl := hlk d u hd' hu
         exact ⟨rfl, .of hvp⟩
        exact hK _ _ _ _ _ I'
      · simp only [hrun, Oper.uponIn_skip]
        obtain ⟨m'', I'⟩ := I.effect (u := undef) hC G hT hq hnq hpre hc (m' := m') (w' := w') S' G' fun d u hd' hu => by
         obtain rfl := hlk d u hd' hu
         exact ⟨by simp [undef, undefA, conc, concL], .of hvp⟩
        exact hK _ _ _ _ _ I'
     | alloc =>
      obtain ⟨m', ml', u, w', hrun, I'⟩ := I.alloc hC G hT hq hnq hpre hc hw he hv
      simp only [hrun, Oper.uponIn_value]
      exact hK _ _ _ _ _ I'
     | pure =>
      obtain ⟨hs, hrun, hok⟩ := run_pure h1 hc he hop (fun i k hi => ⟨hi.2.2, fun j hj => ⟨hi.1, hi.2.1, hj⟩⟩) w
      simp only [hrun, Oper.uponIn_value]
      have hH : (stt (q + 1)).H = (stt q).H := by have := congrArg St.H hs; exact this
      refine hK _ _ _ _ _ (I.same G hq hnq (by simp [hc]) (fun h => by rw [hc] at h; cases h) ?_)
      refine I.env_step G hT hq hnq (m' := m) (ml' := ml) (fun _ _ => rfl) (fun _ _ => rfl) fun d u hd' hu => ?_
      obtain rfl := hlk d u hd' hu
      exact ⟨rfl, hok.mono (fun i k hi => ⟨by rw [hH]; exact hi.1, asgd_mono (fun _ => .inl) hi.2.1, hi.2.2⟩) fun _ => availL_mono fun _ => .inl⟩
     | read =>
      have hs : (stt (q + 1)).H = (stt q).H := by
       have := (evOp_shape he).2.2.1 hc
       have := congrArg St.H this
       exact this
      obtain ⟨v', s1, hev, hd'⟩ := G.hcheck q r hq I.rn hc (I.rb.imp id (·.2)) (fun e he hce => by
       split
       · rename_i hlt; intro hm; exact hnq (hT q e hq he hm ((I.eff e he hce).2 hlt))
       · rename_i hge; intro hm; exact hge ((I.eff e he hce).1 (hpre e he hm))) hw
      obtain ⟨_, hrun, hok⟩ := read_run (ρ := a.eval) (s := { stt q with loc := (stt r).loc, H := (stt r).H }) h1 hc hev hop I.sim
      simp only [hrun, Oper.uponIn_value]
      refine hK _ _ _ _ _ (I.same G hq hnq (by simp [hc]) (fun h => by rw [hc] at h; cases h) ?_)
      refine I.env_step G hT hq hnq (m' := m) (ml' := ml) (fun _ _ => rfl) (fun _ _ => rfl) fun d u hdd hu => ?_
      have e1 : u = v' := Option.some.inj (hu.symm.trans (hd' d hdd))
      subst e1
      refine ⟨rfl, .of (okB_okP (fun i k hi hlt => ?_) _ (G.hread q hq hc hw d u hdd hu) hok)⟩
      exact ⟨by rw [hs]; exact hlt, asgd_mono (fun _ => .inl) (I.asgd_lt G r (Nat.le_refl _) hi.1), hi.2⟩
end
theorem compAt_spec {P : Program} {nt : Nat} {locals : List Nat} {ops : Array Oper} : ∀ {ord : List Nat} {ios : List IOper}, compAt P nt locals ops ord = some ios →
    ios.length = ord.length ∧ ∀ (p i : Nat), ord[p]? = some i → ∃ o io, ops[i]? = some o ∧ ios[p]? = some io ∧ compOper P nt locals ops o = some io := by
 intro ord
 induction ord with
 | nil => intro ios h; simp [compAt] at h; subst h; simp
 | cons i ord ih =>
  intro ios h
  simp only [compAt] at h
  split at h
  · rename_i o os h1 h2
    cases h
    obtain ⟨k1, k2⟩ := ih h2
    refine ⟨by simp [k1], fun p j hp => ?_⟩
    cases p with
    | zero =>
     simp at hp; subst hp
     cases ho : ops[i]? with
     | none => simp [ho] at h1
     | some x => simp [ho] at h1; exact ⟨x, o, rfl, by simp, h1⟩
    | succ p =>
     simp at hp
     obtain ⟨x, y, a, b, c⟩ := k2 p j hp
     exact ⟨x, y, a, by simpa using b, c⟩
  · cases h
theorem trace_spec {C : CallF} : ∀ {ios : List IOper} {s : St} {tr : List St}, trace C ios s = some tr →
    tr.length = ios.length + 1 ∧ tr[0]? = some s ∧ ∀ p io, ios[p]? = some io → ∃ a b, tr[p]? = some a ∧ tr[p + 1]? = some b ∧ stepOp C io a = some b := by
 intro ios
 induction ios with
 | nil => intro s tr h; simp [trace] at h; subst h; simp
 | cons io ios ih =>
  intro s tr h
  simp only [trace] at h
  split at h
  · rename_i s' hs
    cases ht : trace C ios s' with
    | none => simp [ht] at h
    | some t =>
     simp [ht] at h; subst h
     obtain ⟨k1, k2, k3⟩ := ih ht
     refine ⟨by simp [k1], by simp, fun p y hp => ?_⟩
     cases p with
     | zero => simp at hp; subst hp; exact ⟨s, s', by simp, by simpa using k2, hs⟩
     | succ p =>
      simp at hp
      obtain ⟨a, b, h1, h2, h3⟩ := k3 p y hp
      exact ⟨a, b, by simpa using h1, by simpa using h2, h3⟩
  · cases h
theorem mem_of_step {C : CallF} {io : IOper} {s s' : St} (h : stepOp C io s = some s') (h1 : io.op.cls ≠ .alloc) (h2 : io.op.cls ≠ .effect) : s'.loc = s.loc ∧ s'.H = s.H := by
 obtain ⟨v, _, h⟩ := stepOp_cases h
 rcases h with ⟨_, _, a, b⟩ | ⟨hw, h⟩
 · exact ⟨a, b⟩
 · rcases h with ⟨f, args, _, _, hop, _⟩ | ⟨_, he⟩
   · rw [hop] at h2; exact absurd rfl h2
   · obtain ⟨_, s1, s2, _⟩ := evOp_shape he
     have : ({ env := s.env, loc := s'.loc, H := s'.H } : St) = s := by
      cases hc : io.op.cls with
      | pure => exact s1 hc
      | read => exact s2 hc
      | alloc => exact absurd hc h1
      | effect => exact absurd hc h2
     have h3 := congrArg St.loc this
     have h4 := congrArg St.H this
     exact ⟨h3, h4⟩
theorem readsOk_spec : ∀ {ios : List IOper} {tr : List St}, readsOk ios tr = true → ∀ p io s s', ios[p]? = some io → tr[p]? = some s → tr[p + 1]? = some s' → isRead io.op = true →
    ∀ d v, io.dst = some d → look d s'.env = some v → v.okB s.H.n = true := by
 intro ios
 induction ios with
 | nil => intro tr _ p io s s' h; simp at h
 | cons x ios ih =>
  intro tr h p io s s' hp hs hs' hr d v hd hv
  cases tr with
  | nil => simp at hs
  | cons t tr =>
   cases tr with
   | nil => simp at hs'
   | cons t' tr =>
    simp only [readsOk, Bool.and_eq_true] at h
    cases p with
    | zero =>
     simp at hp hs hs'; subst hp; subst hs; subst hs'
     have := h.1
     rw [hr, hd] at this
     simpa [hv] using this
    | succ p =>
     exact ih h.2 p io s s' (by simpa using hp) (by simpa using hs) (by simpa using hs') hr d v hd hv
theorem isRead_of_cls {io : IOp} (h : io.cls = .read) : isRead io = true := by
 cases io <;> try (simp [IOp.cls] at h; done)
 case load => rfl
 case lookup => rfl
 case entryM => rfl
 case ptrEq => rfl
 case len k x => cases k <;> simp [IOp.cls] at h; rfl
 case conv c x => cases c <;> simp [IOp.cls] at h <;> rfl
theorem freshD_spec {ios : List IOper} {s : St} (h : freshD ios s = true) {io : IOper} (hi : io ∈ ios) {t : Nat} (hd : io.dst = some t) (hl : isLoc io.op = true) : look t s.loc = none ∧ ∀ k off, look k s.env ≠ some (.lptr t off) := by
 have := List.all_eq_true.1 h io hi
 have key : ((look t s.loc).isNone && s.env.all fun (_, v) => match v with | .lptr u _ => !(u == t) | _ => true) = true := by
  obtain ⟨dst, op, g⟩ := io
  simp only at hd hl this
  subst hd
  cases op <;> try (simp [isLoc] at hl; done)
  case alloc l sz z => cases l; · simp [isLoc] at hl
                       · exact this
  case box l sz z => cases l; · simp [isLoc] at hl
                     · exact this
 simp only [Bool.and_eq_true, Option.isNone_iff_eq_none] at key
 refine ⟨key.1, fun k off hk => ?_⟩
 have hm : ∀ (env : List (Nat × AV)), look k env = some (.lptr t off) → ∃ k', (k', AV.lptr t off) ∈ env := by
  intro env
  induction env with
  | nil => intro h; simp [look] at h
  | cons e env ih =>
   obtain ⟨k', v'⟩ := e
   intro h
   simp only [look] at h
   split at h
   · cases h; exact ⟨k', by simp⟩
   · obtain ⟨k2, h2⟩ := ih h; exact ⟨k2, by simp [h2]⟩
 obtain ⟨k', hk'⟩ := hm _ hk
 have := List.all_eq_true.1 key.2 _ hk'
 simp at this
theorem reg_of {P : Program} {C : CallF} {nt : Nat} {locals : List Nat} {ops : Array Oper} {ord : List Nat} {ios : List IOper} {s : St} {tr : List St} (h1 : compAt P nt locals ops ord = some ios) (h2 : drawOk ops ord ios = true) (hpl : ios.all (fun o => plainOp o.op) = true) (h3 : trace C ios s = some tr)
    (h4 : drawCond ios (checksOf (preds ops) ord (ios.map (·.op.cls))) s tr = true) :
    ord.length = ops.size ∧ Reg P C nt locals ops ops.size (fun p => ops.getD (ord.getD p 0) default) (fun p => ios.getD p ⟨none, .bad, none⟩) (fun p => ord.getD p 0) (fun p => tr.getD p s) ∧ (∀ i, i < ops.size → i ∉ (preds ops).getD i []) := by
 obtain ⟨l1, l2⟩ := compAt_spec h1
 obtain ⟨t1, t2, t3⟩ := trace_spec h3
 simp only [drawOk, Bool.and_eq_true] at h2
 obtain ⟨⟨⟨⟨⟨⟨⟨⟨c1, c2⟩, c3⟩, c4⟩, c5⟩, c6⟩, c7⟩, c8⟩, c9⟩ := h2
 have hn : ord.length = ops.size := by simpa using c1
 simp only [drawCond, Bool.and_eq_true] at h4
 obtain ⟨d1, d2, d3⟩ := h4
 have rng : ∀ {n : Nat} {f : Nat → Bool}, (List.range n).all f = true → ∀ q, q < n → f q = true := fun h q hq => List.all_eq_true.1 h q (List.mem_range.2 hq)
 have hord : ∀ q, q < ops.size → ord[q]? = some (ord.getD q 0) := by
  intro q hq
  rw [List.getD_eq_getElem?_getD, List.getElem?_eq_getElem (by omega)]; rfl
 have hcl : ∀ q, q < ops.size → (ios.map (·.op.cls)).getD q .pure = (ios.getD q ⟨none, .bad, none⟩).op.cls := by
  intro q hq
  rw [List.getD_eq_getElem?_getD, List.getD_eq_getElem?_getD, List.getElem?_map, List.getElem?_eq_getElem (by omega)]; rfl
 have hio : ∀ q, q < ops.size → ios[q]? = some (ios.getD q ⟨none, .bad, none⟩) := by
  intro q hq
  rw [List.getD_eq_getElem?_getD, List.getElem?_eq_getElem (by omega)]; rfl
 have htr : ∀ q, q ≤ ops.size → tr[q]? = some (tr.getD q s) := by
  intro q hq
  rw [List.getD_eq_getElem?_getD, List.getElem?_eq_getElem (by omega)]; rfl
 have hst : ∀ q, q < ops.size → stepOp C (ios.getD q ⟨none, .bad, none⟩) (tr.getD q s) = some (tr.getD (q + 1) s) := by
  intro q hq
  obtain ⟨a, b, e1, e2, e3⟩ := t3 q _ (hio q hq)
  rw [htr q (by omega)] at e1; rw [htr (q + 1) (by omega)] at e2
  cases e1; cases e2; exact e3
 have hlt : ∀ q, q < ops.size → ord.getD q 0 < ops.size := by
  intro q hq
  have := List.all_eq_true.1 c3 _ (List.mem_of_getElem? (hord q hq))
  simpa using this
 have hopq : ∀ q, q < ops.size → ops[ord.getD q 0]? = some (ops.getD (ord.getD q 0) default) := by
  intro q hq
  rw [Array.getD_eq_getD_getElem?, Array.getElem?_eq_getElem (hlt q hq)]; rfl
 have hcq : ∀ q, q < ops.size → compOper P nt locals ops (ops.getD (ord.getD q 0) default) = some (ios.getD q ⟨none, .bad, none⟩) := by
  intro q hq
  obtain ⟨x, y, a, b, c⟩ := l2 q _ (hord q hq)
  rw [hopq q hq] at a; rw [hio q hq] at b
  cases a; cases b; exact c
 refine ⟨hn, ⟨fun q hq => List.all_eq_true.1 hpl _ (List.mem_of_getElem? (hio q hq)), hopq, hcq, hst, ?_, ?_, ?_, ?_, ?_, ?_, ?_, ?_, ?_⟩, fun i hi => ?_⟩
 · intro i hi
   have := rng c2 i hi
   simp only [List.contains_eq_mem, decide_eq_true_eq] at this
   obtain ⟨q, hq, he⟩ := List.getElem_of_mem this
   exact ⟨q, by omega, by simp [List.getD_eq_getElem?_getD, hq, he]⟩
 · intro p q hpq hq
   have := rng (rng c4 q hq) p hpq
   simpa using this
 · intro p q hpq hq he ha
   have := rng (rng c5 q hq) p hpq
   rw [hcl q hq, hcl p (by omega), he, ha] at this
   simpa using this
 · intro p q hpq hq he
   have := rng (rng c6 q hq) p hpq
   rw [he] at this
   simpa using this
 · intro p q hpq hq he ha
   have := rng (rng c7 q hq) p hpq
   rw [hcl q hq, hcl p (by omega), he, ha] at this
   simpa using this
 · intro i o' ho e hem hb
   have hi : i < ops.size := by
    by_cases hi : i < ops.size
    · exact hi
    · rw [Array.getElem?_eq_none (by omega)] at ho; cases ho
   have := rng c8 i hi
   have ho2 : ops.getD i default = o' := by rw [Array.getD_eq_getD_getElem?, ho]; rfl
   rw [ho2] at this
   have := List.all_eq_true.1 this e (by simpa using hem)
   rw [hb] at this
   simpa using this
 · intro q hq t hd hl
   have h0 : tr.getD 0 s = s := by rw [List.getD_eq_getElem?_getD, t2]; rfl
   simp only [h0]
   refine freshD_spec d1 (List.mem_of_getElem? (hio q hq)) ?_ hl
   rw [(compOper_spec (hcq q hq)).2.2.2]; exact hd
 · intro q hq hc hw d v hd hv
   exact readsOk_spec d2 q _ _ _ (hio q hq) (htr q (by omega)) (htr (q + 1) (by omega)) (isRead_of_cls hc) d v (by rw [(compOper_spec (hcq q hq)).2.2.2]; exact hd) hv
 · intro q r hq hr hc hrb hne hw
   have hneed : needAt (preds ops) ord (ios.map (·.op.cls)) q r = true := by
    simp only [needAt, Bool.and_eq_true]
    refine ⟨?_, List.all_eq_true.2 fun e he => ?_⟩
    · rcases hrb with rfl | h
      · rfl
      · by_cases h0 : r = 0
        · subst h0; rfl
        · rw [hcl (r - 1) (by omega), h]; simp
    · have he' : e < ops.size := by rw [← hn]; exact List.mem_range.1 he
      rw [hcl e he']
      by_cases hce : (ios.getD e ⟨none, .bad, none⟩).op.cls = .effect
      · have := hne e he' hce
        rw [hce]
        split
        · rename_i h; rw [if_pos h] at this; simpa using this
        · rename_i h; rw [if_neg h] at this; simpa using this
      · rw [Bool.or_eq_true]; left; simpa using hce
   by_cases hqt : (decide (r ≤ q) && quietIn (ios.map (·.op.cls)) r q) = true
   · simp only [Bool.and_eq_true, decide_eq_true_eq] at hqt
     obtain ⟨hrq, hquiet⟩ := hqt
     have hmem : ∀ j, r ≤ j → j ≤ q → (tr.getD j s).loc = (tr.getD r s).loc ∧ (tr.getD j s).H = (tr.getD r s).H := by
      intro j hj
      induction hj with
      | refl => intro _; exact ⟨rfl, rfl⟩
      | @step j hj ih =>
       intro hjq
       obtain ⟨i1, i2⟩ := ih (by omega)
       have hj' : r ≤ j := hj
       have hqj := rng hquiet j (by omega)
       rw [hcl j (by omega)] at hqj
       simp only [allocs, Bool.or_eq_true, decide_eq_true_eq, Bool.not_eq_true', Bool.or_eq_false_iff, beq_eq_false_iff_ne, ne_eq] at hqj
       have hqj := hqj.resolve_left (by omega)
       obtain ⟨m1, m2⟩ := mem_of_step (hst j (by omega)) hqj.1 hqj.2
       exact ⟨m1.trans i1, m2.trans i2⟩
     obtain ⟨m1, m2⟩ := hmem q hrq (Nat.le_refl _)
     obtain ⟨v, hv, hcase⟩ := stepOp_cases (hst q hq)
     rw [(compOper_spec (hcq q hq)).2.2.2] at hv
     rcases hcase with ⟨hw', _⟩ | ⟨_, hcase⟩
     · rw [hw] at hw'; cases hw'
     · rcases hcase with ⟨f, args, _, _, hop, _⟩ | ⟨_, he⟩
       · rw [hop] at hc; cases hc
       · rw [(compOper_spec (hcq q hq)).2.2.2] at he
         refine ⟨v, { env := (tr.getD q s).env, loc := (tr.getD (q + 1) s).loc, H := (tr.getD (q + 1) s).H }, ?_, fun d hd => ?_⟩
         · simp only [← m1, ← m2]; exact he
         · rw [hv, hd]; simp [envPut, look]
   · have hin : (q, r) ∈ checksOf (preds ops) ord (ios.map (·.op.cls)) := by
       simp only [checksOf, List.mem_flatMap, List.mem_range]
       refine ⟨q, by omega, ?_⟩
       rw [hcl q hq, hc]
       simp only [beq_self_eq_true, if_true, List.mem_filterMap, List.mem_range]
       refine ⟨r, by omega, ?_⟩
       rw [hneed]
       simp only [Bool.true_and]
       rw [if_pos (by rw [Bool.not_eq_true']; simpa only [Bool.not_eq_true] using hqt)]
     have := List.all_eq_true.1 d3 _ hin
     simp only [checkAt] at this
     rw [hio q hq, htr q (by omega), htr r hr, htr (q + 1) (by omega)] at this
     simp only [hw] at this
     rw [(compOper_spec (hcq q hq)).2.2.2] at this
     split at this
     · rename_i v1 s1 v2 he hl
       have e := AV.beq_eq _ _ this
       subst e
       refine ⟨v1, s1, he, fun d hd => ?_⟩
       rw [hd] at hl
       exact hl
     · cases this
 · have := rng c9 i hi
   simpa using this
theorem regionD_sound {P : Program} {C : CallF} {m : Nat → Loc} {ml : Nat → Nat} {w : World} {a : Act} (hm : P.follows .mixedOrders = true) (hC : CallOk P C) {nt : Nat} {locals : List Nat} {ops : Array Oper} {ios : List IOper} {checks : List (Nat × Nat)}
    (hc : compD P nt locals ops = some (.regionD ios checks)) {s s' : St} (R : Rel P m ml nt s a w) (h : runD C ios checks s = some s') {id : Nat} {Q : Exit → Act → World → Prop}
    (hQ : ∀ m' ml' w' a', Rel P m' ml' nt s' a' w' → Grow m ml s.loc s.H w m' ml' s'.loc s'.H w' → Q .normal a' w') (rd : Option Nat) (fu : Nat) : (Code.region id ops true).wpIn (FF rd) fu P Q a w := by
 unfold compD at hc
 simp only at hc
 split at hc
 · cases hc
 split at hc
 · rename_i ios' h1
   split at hc
   · rename_i h2
     cases hc
     unfold runD at h
     split at h
     · rename_i tr h3
       split at h
       · rename_i h4
         rw [Bool.and_eq_true] at h2
         obtain ⟨h2, hpl⟩ := h2
         obtain ⟨hn, G, hself⟩ := reg_of h1 h2 hpl h3 h4
         obtain ⟨t1, t2, t3⟩ := trace_spec h3
         obtain ⟨l1, _⟩ := compAt_spec h1
         have e0 : tr.getD 0 s = s := by rw [List.getD_eq_getElem?_getD, t2]; rfl
         have en : tr.getD ops.size s = s' := by
          rw [List.getLast?_eq_getElem?] at h
          have : tr.length - 1 = ops.size := by omega
          rw [this] at h
          rw [List.getD_eq_getElem?_getD, h]; rfl
         generalize ho : (fun p => ops.getD ((canonD P locals ops).getD p 0) default) = o at G
         generalize hio : (fun p => ios.getD p ⟨none, .bad, none⟩) = io at G
         generalize hidx : (fun p => (canonD P locals ops).getD p 0) = idx at G
         have es0 : (fun p => tr.getD p s) 0 = s := e0
         have esn : (fun p => tr.getD p s) ops.size = s' := en
         generalize hstt : (fun p => tr.getD p s) = stt at G es0 esn
         clear hstt ho hio hidx e0 en
         have hsz : ∀ (j d : Nat), (ops[j]?).bind (fun (x : Oper) => x.dst) = some d → d < nt := by
          intro j d hj
          cases hoj : ops[j]? with
          | none => simp [hoj] at hj
          | some x =>
           simp [hoj] at hj
           have hjs : j < ops.size := by
            by_cases hx : j < ops.size
            · exact hx
            · rw [Array.getElem?_eq_none (by omega)] at hoj; cases hoj
           obtain ⟨q, hq, rfl⟩ := G.hsurj j hjs
           have := G.hops q hq
           rw [hoj] at this
           cases this
           exact (compOper_spec (G.hcomp q hq)).1 d hj
         refine wpIn_region_any hm ?_
         have I0 : Inv P ops.size nt o io stt m ml w (fun _ => False) m ml 0 a { w with drawn := w.drawn + 1 } := by
          refine ⟨Nat.zero_le _, .inl rfl, fun p _ _ => by simp, fun p hp => by omega, by rw [es0]; exact R.sim.frame fun _ _ => rfl, fun p _ _ h => h.elim, fun p q _ _ _ h => h.elim, ?_, R.size, by rw [es0]; exact R.defers, ?_⟩
          · rintro t v b (⟨p, _, h, _⟩ | ⟨_, hl, rfl⟩)
            · exact h.elim
            · rw [es0] at hl
              obtain ⟨k1, k2⟩ := R.env t v hl
              refine ⟨k1, ?_⟩
              rcases k2 with k2 | ⟨t', off, rfl, _⟩
              · exact .inl (okP_mono (fun i k hi => by rw [es0]; exact ⟨hi.1, .inl (by rw [es0]; exact hi.1), hi.2⟩) _ k2)
              · refine .inr ⟨t', off, rfl, fun p hp hd hl' => ?_⟩
                have := (G.hfresh p hp t' hd hl').2 t off
                rw [es0] at this
                exact this hl
          · rw [es0]
            exact ⟨Nat.le_refl _, fun _ _ => rfl, Nat.le_refl _, rfl, rfl, rfl, fun _ _ _ _ => rfl, fun id h => .inl ⟨id, h, rfl⟩, fun t c h => .inl ⟨c, h, rfl⟩, Nat.le_refl _, fun _ _ _ => rfl, fun _ h => h⟩
         have run : ∀ (fuel : Nat) (listed : Array Bool) (U : List Nat) (m' : Nat → Loc) (ml' : Nat → Nat) (r : Nat) (a' : Act) (w' : World),
             Inv P ops.size nt o io stt m ml w (fun p => p < ops.size ∧ listed.getD (idx p) false = true) m' ml' r a' w' → listed.size = ops.size → (∀ i o', ops[i]? = some o' → listed.getD i false = true → ∀ e ∈ o'.after, Region.binds .any e = true → listed.getD e.on false = true) →
             U.length ≤ fuel → (∀ i, i < ops.size → listed.getD i false = false → i ∈ U) → wpAnyIn (FF rd) fu P .any ops Q fuel listed a' w' := by
          intro fuel
          have final : ∀ (listed : Array Bool) (m' : Nat → Loc) (ml' : Nat → Nat) (r : Nat) (a' : Act) (w' : World),
              Inv P ops.size nt o io stt m ml w (fun p => p < ops.size ∧ listed.getD (idx p) false = true) m' ml' r a' w' → (∀ i, i < ops.size → listed.getD i false = true) → Q .normal a' w' := by
           intro listed m' ml' r a' w' I hall
           have hTall : ∀ p, p < ops.size → (p < ops.size ∧ listed.getD (idx p) false = true) := by
            intro p hp
            refine ⟨hp, hall _ ?_⟩
            have := G.hops p hp
            by_cases hlt : idx p < ops.size
            · exact hlt
            · rw [Array.getElem?_eq_none (by omega)] at this; cases this
           obtain ⟨S, Gr, _⟩ := I.advance G ops.size I.rn (Nat.le_refl _) (fun p h1 h2 h3 => by
            have := (I.eff p h2 h3).1 (hTall p h2); omega) (fun p h1 h2 _ => hTall p h2)
           rw [esn] at S Gr
           rw [es0] at Gr
           have hdf : s'.H.dfs = s.H.dfs := by have := G.dfs hC ops.size (Nat.le_refl _); rwa [esn, es0] at this
           have hag : ∀ i k, good m s.H.n i k → m' i = m i := fun i k hi => Gr.agree i hi.1
           refine hQ m' ml' w' a' ⟨S, fun t v hv => ?_, I.size, ?_, fun d hd => ?_⟩ Gr
           rotate_left
           · rw [I.defers, es0, hdf]
             exact List.map_congr_left fun d hd => (concD_congr hag (R.dok d hd)).symm
           · rw [hdf] at hd
             exact Dfr.okP_mono (fun i k hi => ⟨Nat.lt_of_lt_of_le hi.1 Gr.n_le, by rw [hag i k hi]; exact hi.2⟩) (R.dok d hd)
           rw [← esn] at hv
           have hcur : ∃ b, CurV ops.size o stt (fun p => p < ops.size ∧ listed.getD (idx p) false = true) t v b ∧ b ≤ (stt ops.size).H.n := by
            rcases G.last ops.size (Nat.le_refl _) hv with ⟨p, k1, k2, k3, k4⟩ | ⟨k1, k2⟩
            · exact ⟨_, .inl ⟨p, k1, hTall p k1, k2, fun p' a b _ => k3 p' a b, k4, rfl⟩, G.mono hC (by omega) (Nat.le_refl _)⟩
            · exact ⟨_, .inr ⟨fun p a _ => k1 p a, k2, rfl⟩, G.mono hC (Nat.zero_le _) (Nat.le_refl _)⟩
           obtain ⟨b, hb1, hb2⟩ := hcur
           obtain ⟨k1, k2⟩ := I.env t v b hb1
           rw [esn] at hb2
           exact ⟨k1, k2.mono (fun i k hi => ⟨by omega, hi.2.2⟩) fun _ _ => trivial⟩
          induction fuel with
          | zero =>
           intro listed U m' ml' r a' w' I hls hcl hU hun
           have hall : ∀ i, i < ops.size → listed.getD i false = true := by
            intro i hi
            cases hx : listed.getD i false
            · have := hun i hi hx
              have hU' : U = [] := List.eq_nil_of_length_eq_zero (by omega)
              rw [hU'] at this; cases this
            · rfl
           refine ⟨?_, final listed m' ml' r a' w' I hall⟩
           simp only [Region.ready, List.filter_eq_nil_iff, List.mem_range]
           intro i hi
           have h5 := hall i hi
           have : listed.getD i true = true := by
            rw [Array.getD_eq_getD_getElem?] at h5 ⊢
            rw [Array.getElem?_eq_getElem (by omega)] at h5 ⊢; exact h5
           simp [this]
          | succ fuel ih =>
           intro listed U m' ml' r a' w' I hls hcl hU hun
           have hlist : ∀ i, i < ops.size → listed.getD i true = listed.getD i false := by
            intro i hi
            rw [Array.getD_eq_getD_getElem?, Array.getD_eq_getD_getElem?, Array.getElem?_eq_getElem (by omega)]; rfl
           refine ⟨fun hnil => final listed m' ml' r a' w' I ?_, fun i hi => ?_⟩
           ·
            intro i
            induction i using Nat.strongRecOn with
            | ind i ihi =>
             intro hi
             cases hx : listed.getD i false
             · exfalso
               have hmem : i ∈ Region.ready .any ops listed := by
                simp only [Region.ready, List.mem_filter, List.mem_range, Bool.and_eq_true, Bool.not_eq_true']
                refine ⟨hi, by rw [hlist i hi]; exact hx, ?_⟩
                have hoi : ops[i]? = some ops[i] := Array.getElem?_eq_getElem hi
                rw [hoi]
                simp only [Option.map_some, Option.getD_some]
                rw [← Array.all_toList]
                refine List.all_eq_true.2 fun e he => ?_
                cases hb : Region.binds .any e
                · rfl
                · have hdn := G.hdown i _ hoi e (by simpa using he) hb
                  simp only [Bool.not_true, Bool.false_or]
                  exact ihi e.on hdn (by omega)
               rw [hnil] at hmem; cases hmem
             · rfl
           · simp only [Region.ready, List.mem_filter, List.mem_range, Bool.and_eq_true, Bool.not_eq_true'] at hi
             obtain ⟨hi, hnl, haft⟩ := hi
             rw [hlist i hi] at hnl
             have hoi : ops[i]? = some ops[i] := Array.getElem?_eq_getElem hi
             rw [hoi] at haft
             simp only [Option.map_some, Option.getD_some] at haft
             have haft' : ∀ e ∈ ops[i].after, Region.binds .any e = true → listed.getD e.on false = true := by
              intro e he hb
              rw [← Array.all_toList] at haft
              have := List.all_eq_true.1 haft e (by simpa using he)
              rw [hb] at this
              simpa using this
             obtain ⟨q, hq, rfl⟩ := G.hsurj i hi
             have hset : ∀ j, (listed.setIfInBounds (idx q) true).getD j false = if j = idx q then true else listed.getD j false := by
              intro j
              rw [Array.getD_eq_getD_getElem?, Array.getD_eq_getD_getElem?, Array.getElem?_setIfInBounds]
              by_cases h : idx q = j
              · subst h; simp [hls, hi]
              · have : ¬ j = idx q := fun x => h x.symm
                simp [h, this]
             have hTT : (fun p => (p < ops.size ∧ listed.getD (idx p) false = true) ∨ p = q) = fun p => p < ops.size ∧ (listed.setIfInBounds (idx q) true).getD (idx p) false = true := by
              funext p
              apply propext
              rw [hset]
              constructor
              · rintro (⟨h5, h6⟩ | rfl)
                · refine ⟨h5, ?_⟩; split <;> simp [h6]
                · exact ⟨hq, by simp⟩
              · rintro ⟨h5, h6⟩
                split at h6
                · rename_i he
                  right
                  by_cases e1 : p < q
                  · exact absurd he (G.hinj p q e1 hq)
                  · by_cases e2 : p = q
                    · exact e2
                    · exact absurd he.symm (G.hinj q p (by omega) h5)
                · exact .inl ⟨h5, h6⟩
             have hpreS : ∀ j, j ∈ (preds ops).getD (idx q) [] → listed.getD j false = true := by
              intro j hj
              have hcs : Closed ops (fun j => listed.getD j false = true ∨ j = idx q) := by
               intro i o' ho' hS e he hb
               rcases hS with hS | rfl
               · exact .inl (hcl i o' ho' hS e he hb)
               · rw [hoi] at ho'; cases ho'; exact .inl (haft' e he hb)
              rcases preds_closed hcs (.inr rfl) hj with h | h
              · exact h
              · rw [h] at hj; exact absurd hj (hself _ hi)
             refine I.step hC G hsz (fun p p' hp hp' hm hT => ⟨hp, preds_closed (S := fun j => listed.getD j false = true) (fun i o' ho' hS e he hb => hcl i o' ho' hS e he hb) hT.2 hm⟩) hq (fun h => by rw [hnl] at h; exact absurd h.2 (by simp)) (fun p hp hm => ⟨hp, hpreS _ hm⟩) (fun m2 ml2 r2 a2 w2 I2 => ?_) rd fu
             · rw [hTT] at I2
               refine ih _ (U.erase (idx q)) m2 ml2 r2 a2 w2 I2 (by simpa using hls) ?_ ?_ ?_
               · intro i o' ho' hS e he hb
                 rw [hset] at hS ⊢
                 split
                 · rfl
                 · split at hS
                   · rename_i hx; subst hx; rw [hoi] at ho'; cases ho'; exact haft' e he hb
                   · exact hcl i o' ho' hS e he hb
               · rw [List.length_erase_of_mem (hun _ hi hnl)]; omega
               · intro j hj hjl
                 rw [hset] at hjl
                 split at hjl
                 · cases hjl
                 · rename_i hx; exact (List.mem_erase_of_ne hx).2 (hun j hj hjl)
         have hrep : ∀ i, (Array.replicate ops.size false).getD i false = false := by
          intro i
          rw [Array.getD_eq_getD_getElem?, Array.getElem?_replicate]
          split <;> rfl
         refine run ops.size _ (List.range ops.size) m ml 0 a _ ?_ (by simp) (fun i o' _ hl => by rw [hrep] at hl; cases hl) (by simp) (fun i hi _ => List.mem_range.2 hi)
         have : (fun p => p < ops.size ∧ (Array.replicate ops.size false).getD (idx p) false = true) = fun _ => False := by
          funext p; simp [hrep]
         rw [this]; exact I0
       · cases h
     · cases h
   · cases hc
 · cases hc
end Go.Wam
set_option linter.unusedVariables false
set_option linter.unusedSimpArgs false
namespace Go.Wam
section
variable {P : Program} {m : Nat → Loc} {ml : Nat → Nat} {loc : List (Nat × List AV)} {H : AHeap} {w w' : World}
theorem run_next_left (w : World) (ty : TypeId) (r bm since : Nat) (seen : Array Nat) (es : Array MapEntry) (hr : w.heap[r]? = some (.mapIter (some bm) since seen since)) (hb : w.heap[bm]? = some (.map es since)) (hold : ∀ x ∈ es.toList, x.born < since) :
    ((es.filter fun e => !seen.contains e.born).size = 0 ∧ (Instr.next (.pointer (some ⟨r, 0, none⟩)) false ty).run P w = .ok (.tuple #[.bool false]) w) ∨
    ∃ e ∈ (es.filter fun e => !seen.contains e.born).toList, ∃ d : Nat, (Instr.next (.pointer (some ⟨r, 0, none⟩)) false ty).run P w = .ok (.tuple #[.bool true, e.key, e.val]) { w with drawn := d, heap := w.heap.setIfInBounds r (.mapIter (some bm) since (seen.push e.born) since) } := by
 simp only [Instr.next, getObj, Sem.run_bind, Sem.run, hr, hb, Result.andThen, next_test_false seen es since since hold (Nat.le_refl _), Bool.false_eq_true, if_false]
 have hmem : ∀ x ∈ (Array.filter (fun e => !seen.contains e.born) es).toList, x.born < since := fun x hx => hold x (by simp at hx ⊢; exact hx.1)
 generalize Array.filter (fun e => !seen.contains e.born) es = L at hmem ⊢
 have e1 : L.filter (fun x => decide (x.born < since)) = L := Array.filter_eq_self.2 (fun x hx => by simpa using hmem x (by simpa using hx))
 have e2 : L.filter (fun x => decide (x.born ≥ since)) = #[] := by
  rw [Array.filter_eq_empty_iff]
  intro x hx
  have := hmem x (by simpa using hx)
  simp
  omega
 simp only [e1, e2, Array.append_empty]
 by_cases h0 : L.size = 0
 · left
   have : L = #[] := Array.eq_empty_of_size_eq_zero h0
   subst this
   refine ⟨rfl, ?_⟩
   simp [choose, Sem.run, Question.forced]
 · right
   have hne : L.isEmpty = false := by simp [Array.isEmpty, h0]
   simp only [hne, Bool.false_eq_true, if_false, Array.empty_append, Array.size_map]
   have hch : ∃ (j d : Nat), j < L.size ∧ (choose (Question.mapNext L.size)).run P w = .ok j { w with drawn := d } := by
    by_cases hf : L.size ≤ 1
    · exact ⟨0, w.drawn, by omega, by simp [choose, Sem.run, Question.forced, hf]⟩
    · exact ⟨_, w.drawn + 1, Nat.mod_lt _ (by omega), by
        simp only [choose, Sem.run, Question.forced, decide_eq_true_eq, hf, if_false, Question.cut]
        rfl⟩
   obtain ⟨j, d, hj, hrun⟩ := hch
   refine ⟨L[j], by simp, d, ?_⟩
   simp only [hrun, Array.getElem?_map, Array.getElem?_eq_getElem hj, Option.map_some, Sem.run_bind, setObj, Sem.run, hr, Result.andThen]
   rfl
def wNext (m : Nat → Loc) (w : World) (r id since b : Nat) (seen : List Nat) (d : Nat) : World :=
 { w with drawn := d, heap := w.heap.setIfInBounds (m r).block (.mapIter (some (m id).block) since (seen.reverse.toArray.push b) since) }
theorem nextM_sim {r id since : Nat} {seen : List Nat} {es : List ME} (S : Sim P m ml loc H w) (hr : H.get r = some (.miter (some id) since seen since)) (hid : H.get id = some (.map es since)) {e : ME} (he : e ∈ es) (d : Nat) :
    Sim P m ml loc (H.set r (.miter (some id) since (e.2.2 :: seen) since)) (wNext m w r id since e.2.2 seen d) ∧ Grow m ml loc H w m ml loc (H.set r (.miter (some id) since (e.2.2 :: seen) since)) (wNext m w r id since e.2.2 seen d) ∧
    (AV.tuple [.bool true, e.1, e.2.1]).okP (good m H.n) := by
 obtain ⟨b1, b2⟩ := S.obj r _ hr
 have hok := S.ok id _ hid e he
 refine ⟨?_, ?_, by simp [AV.okP, AV.okPL, hok]⟩
 · refine S.set_obj hr rfl ⟨?_, b2⟩ (show AObj.okP (good m H.n) (.miter (some id) since (e.2.2 :: seen) since) from (by have := S.ok r _ hr; exact this)) rfl fun b hb => ?_
   · have := (Go.MapKept.heap_set (o' := .mapIter (some (m id).block) since (seen.reverse.toArray.push e.2.2) since) b1).1
     unfold wNext
     simpa using this
   · exact Array.getElem?_setIfInBounds_ne (fun e => hb e.symm)
 · refine .of_set S.wf hr rfl rfl ⟨fun b hb => ?_, by simp [wNext], rfl, rfl, rfl⟩
   exact Array.getElem?_setIfInBounds_ne (fun e => hb e.symm)
theorem nextM_run {r id since : Nat} {seen : List Nat} {es : List ME} {ty : TypeId} (S : Sim P m ml loc H w) (hr : H.get r = some (.miter (some id) since seen since)) (hid : H.get id = some (.map es since)) :
    ((es.filter fun e => !seen.contains e.2.2) = [] ∧ (Instr.next (conc m ml (.ptr r 0)) false ty).run P w = .ok (conc m ml (.tuple [.bool false])) w) ∨
    ∃ e ∈ (es.filter fun e => !seen.contains e.2.2), ∃ d, (Instr.next (conc m ml (.ptr r 0)) false ty).run P w = .ok (conc m ml (.tuple [.bool true, e.1, e.2.1])) (wNext m w r id since e.2.2 seen d) := by
 obtain ⟨b1, b2⟩ := S.obj r _ hr
 obtain ⟨ces, c1, M⟩ := S.obj id _ hid
 obtain ⟨M1, M2, M3, M4⟩ := M
 have hl : conc m ml (.ptr r 0) = .pointer (some ⟨(m r).block, 0, none⟩) := by simp [conc, Loc.at, b2]
 rw [hl]
 have tr : ∀ ce ∈ ces.toList, ∃ e ∈ es, ce.key = conc m ml e.1 ∧ ce.val = conc m ml e.2.1 ∧ ce.born = e.2.2 := by
  intro ce hce
  have := (M1.mem_iff (a := (ce.key, ce.val, ce.born))).1 (List.mem_map.2 ⟨ce, hce, rfl⟩)
  obtain ⟨e, he, h⟩ := List.mem_map.1 this
  simp only [Prod.mk.injEq] at h
  exact ⟨e, he, h.1.symm, h.2.1.symm, h.2.2.symm⟩
 have hold : ∀ x ∈ ces.toList, x.born < since := fun x hx => by
  obtain ⟨e, he, _, _, h⟩ := tr x hx
  rw [h]; exact M2 e he
 rcases run_next_left (P := P) w ty _ _ since seen.reverse.toArray ces (by simpa using b1) c1 hold with ⟨h0, hrun⟩ | ⟨ce, hce, d, hrun⟩
 · left
   refine ⟨?_, by simpa [conc, concL] using hrun⟩
   rw [List.filter_eq_nil_iff]
   intro e he hse
   have := (M1.mem_iff (a := (conc m ml e.1, conc m ml e.2.1, e.2.2))).2 (List.mem_map.2 ⟨e, he, rfl⟩)
   obtain ⟨ce, hce, h⟩ := List.mem_map.1 this
   simp only [Prod.mk.injEq] at h
   have hm : ce ∈ ces.filter fun e => !seen.reverse.toArray.contains e.born := by
    rw [Array.mem_filter]
    refine ⟨by simpa using hce, ?_⟩
    rw [h.2.2]
    simpa using hse
   have := Array.size_pos_of_mem hm
   omega
 · right
   rw [Array.mem_toList_iff, Array.mem_filter] at hce
   obtain ⟨hce, hns⟩ := hce
   obtain ⟨e, he, k1, k2, k3⟩ := tr ce (by simpa using hce)
   refine ⟨e, List.mem_filter.2 ⟨he, by rw [k3] at hns; simpa using hns⟩, d, ?_⟩
   rw [hrun, k1, k2, k3]
   simp [conc, concL, wNext]
end
end Go.Wam
set_option linter.unusedVariables false
set_option linter.unusedSimpArgs false
namespace Go.Wam
theorem plainC_erase : ∀ ic : IC, plainC (erase ic) = plainC ic
 | .keep _ _ c => by simp only [erase, plainC]; exact plainC_erase c
 | .seq a b => by simp only [erase, plainC, plainC_erase a, plainC_erase b]
 | .cond _ a b => by simp only [erase, plainC, plainC_erase a, plainC_erase b]
 | .block _ b => by simp only [erase, plainC, plainC_erase b]
 | .loop b => by simp only [erase, plainC, plainC_erase b]
 | .rangeF .. => rfl
 | .mapR _ _ _ _ _ _ b => by simp [erase, plainC, plainC_erase b, plainOp]
 | .skip | .region _ | .regionD .. | .exit _ | .ret | .stuck => rfl
theorem look_envNoL {t : Nat} {v : AV} {env : List (Nat × AV)} (h : look t (envNoL env) = some v) : look t env = some v ∧ v.noL = true := by
 have key : ∀ (p : Nat → Bool) (l : List (Nat × AV)), look t (l.filter fun e => p e.1) = some v → look t l = some v ∧ p t = true := by
  intro p l
  induction l with
  | nil => intro h; simp [look] at h
  | cons e l ih =>
   obtain ⟨k, u⟩ := e
   intro h
   simp only [List.filter_cons] at h
   by_cases hk : k = t
   · subst hk
     cases hp : p k with
     | true => rw [hp] at h; simp [look] at h ⊢; exact h
     | false =>
      rw [hp] at h
      simp at h
      have := (ih h).2
      rw [hp] at this; cases this
   · have hl : look t ((k, u) :: l) = look t l := by simp [look, hk]
     rw [hl]
     split at h
     · rw [show look t ((k, u) :: l.filter fun e => p e.1) = look t (l.filter fun e => p e.1) by simp [look, hk]] at h
       exact ih h
     · exact ih h
 obtain ⟨h1, h2⟩ := key (fun k => match look k env with | some v => v.noL | none => false) env h
 rw [h1] at h2
 exact ⟨h1, h2⟩
def toExit : AExit → Exit
 | .normal => .normal
 | .exit id => .exit id
 | .ret => .ret
section
variable {P : Program} {C : CallF} {m m' : Nat → Loc} {ml ml' : Nat → Nat} {nt : Nat} {locals : List Nat} {w w' : World} {s s' : St} {a : Act}
theorem Sim.dfs {loc : List (Nat × List AV)} {H : AHeap} (S : Sim P m ml loc H w) (d : List Dfr) : Sim P m ml loc { H with dfs := d } w :=
 ⟨S.wf, S.obj, S.ok, S.inj, S.sep, S.locs, S.locok, S.locinj, S.locsep, S.base⟩
theorem Grow.dfs {loc loc' : List (Nat × List AV)} {H H' : AHeap} (G : Grow m ml loc H w m' ml' loc' H' w') (d : List Dfr) : Grow m ml loc H w m' ml' loc' { H' with dfs := d } w' :=
 ⟨G.n_le, G.agree, G.size, G.os, G.tape, G.output, G.keep, G.own, G.locs, G.low, G.pres, G.ro⟩
theorem Grow.dfs0 {loc loc' : List (Nat × List AV)} {H H' : AHeap} {d : List Dfr} (G : Grow m ml loc { H with dfs := d } w m' ml' loc' H' w') : Grow m ml loc H w m' ml' loc' H' w' :=
 ⟨G.n_le, G.agree, G.size, G.os, G.tape, G.output, G.keep, G.own, G.locs, G.low, G.pres, G.ro⟩
theorem wrote_put {w : World} {b : Nat} {o' : Obj} : Wrote w (w.putObj b o') b :=
 ⟨fun x hx => World.putObj_heap_other hx, by simp [World.putObj], rfl, rfl, rfl⟩
theorem look_prune {α : Type} {t : Nat} {v : α} : ∀ {ks : List Nat} {l : List (Nat × α)}, look t (prune ks l) = some v → look t l = some v := by
 intro ks
 induction ks with
 | nil => intro l h; simp [prune, look] at h
 | cons k ks ih =>
  intro l h
  simp only [prune, List.filterMap_cons] at h
  cases hk : look k l with
  | none => rw [hk] at h; exact ih h
  | some u =>
   rw [hk] at h
   simp only [Option.map_some, look] at h
   split at h
   · rename_i e; subst e; rw [hk]; exact h
   · exact ih h
theorem Sim.prune {loc : List (Nat × List AV)} {H : AHeap} (S : Sim P m ml loc H w) (ks : List Nat) : Sim P m ml (Go.Wam.prune ks loc) H w where
 wf := S.wf
 obj := S.obj
 ok := S.ok
 inj := S.inj
 sep := S.sep
 locs := fun t c h => S.locs t c (look_prune h)
 locok := fun t c h => S.locok t c (look_prune h)
 locinj := fun t u c d h k => S.locinj t u c d (look_prune h) (look_prune k)
 locsep := fun t c i h => S.locsep t c i (look_prune h)
 base := S.base
def LoopAt (F : Fence) (n : Nat) (P : Program) (cb : Code) (Q : Exit → Act → World → Prop) (a : Act) (w : World) : Prop :=
 ∀ (b : Frame) (k : List Item) (cs : List Frame), b.roundOf = F.round → F.fn b.fn → F.room (cs.length + 1 + n) →
  ∃ e a' w', Q e a' w' ∧ ArrivesIn (Machine.fenced P F) P (lone (b.atR a (.code cb :: .inLoop cb :: k)) cs w) b k cs e a' w'
theorem wpIn_of_loopAt {F : Fence} {n : Nat} {cb : Code} {Q : Exit → Act → World → Prop} (h : LoopAt F n P cb Q a w) : (Code.loop cb).wpIn F n P Q a w := by
 intro b k cs hro hb hr
 obtain ⟨e, a', w', hq, harr⟩ := h b k cs hro hb hr
 exact ⟨e, a', w', hq, .of_steps (.one (fenced_calm hb hr rfl) stepR_loop) harr⟩
theorem loopAt_round {F : Fence} {n : Nat} {cb : Code} {Q : Exit → Act → World → Prop} (h : cb.wpIn F n P (fun e a' w' => match e with | .normal => LoopAt F n P cb Q a' w' | e => Q e a' w') a w) : LoopAt F n P cb Q a w := by
 intro b k cs hro hb hr
 obtain ⟨e, a₁, w₁, hq, harr⟩ := h b (.inLoop cb :: k) cs hro hb hr
 cases e with
 | normal =>
  obtain ⟨e₂, a₂, w₂, hq₂, harr₂⟩ := hq b k cs hro hb hr
  exact ⟨e₂, a₂, w₂, hq₂, .of_steps (StepsIn.trans harr (.one (fenced_calm hb hr rfl) stepR_inLoop)) harr₂⟩
 | exit id => exact ⟨_, a₁, w₁, hq, .pass (x := .inLoop cb) rfl (fun _ _ => .inl (by simp)) harr⟩
 | goto l => exact ⟨_, a₁, w₁, hq, .pass (x := .inLoop cb) rfl (fun _ _ => .inl (by simp)) harr⟩
 | ret => exact ⟨_, a₁, w₁, hq, .pass (x := .inLoop cb) rfl (fun _ _ => .inl (by simp)) harr⟩
 | panic ch => exact ⟨_, a₁, w₁, hq, .pass (x := .inLoop cb) rfl (fun _ _ => .inl (by simp)) harr⟩
 | outgrown => exact ⟨_, a₁, w₁, hq, .pass (x := .inLoop cb) rfl (fun _ _ => .inl (by simp)) harr⟩
theorem codeX_wp {F : Fence} {fu : Nat} (x : AExit) {Q : Exit → Act → World → Prop} (h : Q (toExit x) a w) : (codeX x).wpIn F fu P Q a w := by
 cases x with
 | normal => exact wpIn_skip h
 | exit id => exact wpIn_exit h
 | ret => exact wpIn_ret h
theorem rangeF_sound (hC : CallOk P C) {n fu : Nat} {g : Operand} {ps : Array Tmp} {ca cb : Code} {f : Opd} {ia ib : IC} (hf : opd g = some f) (hlt : ∀ p ∈ ps.toList, p < nt) (ha : compC P nt locals ca = some (erase ia)) (hb : compC P nt locals cb = some (erase ib))
    (hpa : plainC ia = true) (hpb : plainC ib = true) {x : AExit} (R : Rel P m ml nt s a w) (h : evC C n (.rangeF f ps.toList ia ib) s = some (x, s')) {Q : Exit → Act → World → Prop}
    (hQ : ∀ m' ml' w' a', Rel P m' ml' nt s' a' w' → Grow m ml s.loc s.H w m' ml' s'.loc s'.H w' → Q (toExit x) a' w') : (Code.rangeFunc g ps ca cb).wpIn (FF none) fu P Q a w := by
 simp only [evC] at h
 split at h
 · rename_i gf captured hev
   split at h
   · cases h
   rename_i hg
   obtain ⟨e1, e2⟩ := R.opR g _ _ hf hev
   have hok := e2.noL rfl
   simp only [AV.okP] at hok
   cases hcall : C gf (.yield (s.H.n + 1) :: captured) ((s.H.alloc .dfd).alloc (.loop .ready none (envNoL s.env) ps.toList ia ib)) with
   | none => simp [hcall] at h
   | some q =>
    obtain ⟨v, H'⟩ := q
    simp only [hcall, Option.bind_some] at h
    obtain ⟨hdf, _, hT, _⟩ := hC _ _ _ _ _ hcall
    obtain ⟨hF, _, hT⟩ : ATrip P gf _ _ v H' := (hT (Nat.not_le.1 hg)).resolve_right fun hx => absurd rfl (hx.2 _ _)
    have hst : ∃ st pend env ps' ia' ib', H'.get (s.H.n + 1) = some (.loop st pend env ps' ia' ib') ∧ st ≠ .busy ∧ x = pend.getD .normal ∧ s' = { s with H := { H'.set (s.H.n + 1) .dead with dfs := .mark s.H.n :: H'.dfs } } := by
     split at h
     · cases h
     · rename_i st pend env ps' ia' ib' hne hgt
       simp only [Option.some.injEq, Prod.mk.injEq] at h
       refine ⟨st, pend, env, ps', ia', ib', hgt, ?_, h.1.symm, h.2.symm⟩
       rintro rfl
       exact hne rfl
     · cases h
    obtain ⟨st, pend, env', ps', ia', ib', hgt, hnb, rfl, rfl⟩ := hst
    refine wpIn_rangeFunc fun fn _ => ?_
    rw [FF_round]
    have hp1 := pushed_mk w (.deferred (some []))
    have hp2 := pushed_mk (w.alloc (.deferred (some []))) (.loop { state := .ready, pending := none, fn, tmps := a.tmps, params := ps, assign := ca, body := cb, defers := w.heap.size })
    have hsz1 : (w.alloc (.deferred (some []))).heap.size = w.heap.size + 1 := World.size_alloc ..
    have S1 := R.sim.frame (w' := w.alloc (.deferred (some []))) fun b hb => hp1.old (R.sim.used_lt hb)
    have S1' := S1.add_obj (o := .dfd) (l := ⟨w.heap.size, 0, 0⟩) hp1.new trivial (fun b hb e => by have := R.sim.used_lt hb; simp only at e; omega) rfl
    have G1 : Grow m ml s.loc s.H w _ ml s.loc (s.H.alloc .dfd) (w.alloc (.deferred (some []))) := .of_push (o' := .dfd) (l := ⟨w.heap.size, 0, 0⟩) R.sim.wf rfl hp1 rfl
    have S2 := S1'.frame (w' := (w.alloc (.deferred (some []))).alloc (.loop { state := .ready, pending := none, fn, tmps := a.tmps, params := ps, assign := ca, body := cb, defers := w.heap.size })) fun b hb => hp2.old (S1'.used_lt hb)
    have hm1 : ∀ i k, good m s.H.n i k → upd m s.H.n ⟨w.heap.size, 0, 0⟩ i = m i := fun i k hi => upd_ne _ _ (by have := hi.1; omega)
    have hg1 : ∀ i k, good m s.H.n i k → good (upd m s.H.n ⟨w.heap.size, 0, 0⟩) (s.H.alloc .dfd).n i k := fun i k hi => ⟨by have := hi.1; simp; omega, by rw [hm1 i k hi]; exact hi.2⟩
    have henv : ∀ t v, look t (envNoL s.env) = some v → a.tmps.getD t undef = conc m ml v ∧ v.okP (good m s.H.n) := fun t v ht => by
     obtain ⟨h1, h2⟩ := look_envNoL ht
     obtain ⟨k1, k2⟩ := R.env t v h1
     exact ⟨k1, k2.noL h2⟩
    have S2' := S2.add_obj (o := .loop .ready none (envNoL s.env) ps.toList ia ib) (l := ⟨w.heap.size + 1, 0, 0⟩)
     ⟨_, by have := hp2.new; rw [hsz1] at this; exact this, rfl, rfl, fun t v ht => by rw [(henv t v ht).1]; exact (conc_congr ml ml hm1 v (henv t v ht).2).symm,
      ⟨rfl, fun p hp => by rw [R.size]; exact hlt p hp, ⟨locals, by rw [R.size]; exact ha, by rw [R.size]; exact hb⟩, hpa, hpb⟩⟩
     (fun t v ht => okP_mono hg1 v (henv t v ht).2) (fun b hb e => by have := S1'.used_lt hb; rw [hsz1] at this; simp only at e; omega) rfl
    have G2 : Grow m ml s.loc s.H w _ ml s.loc _ ((w.alloc (.deferred (some []))).alloc (.loop { state := .ready, pending := none, fn, tmps := a.tmps, params := ps, assign := ca, body := cb, defers := w.heap.size })) := G1.trans (.of_push (o' := .loop .ready none (envNoL s.env) ps.toList ia ib) (l := ⟨w.heap.size + 1, 0, 0⟩) S1'.wf rfl hp2 hsz1.symm)
    have hn1 : (s.H.alloc .dfd).n = s.H.n + 1 := rfl
    rw [hn1] at S2' G2
    generalize hW2 : (w.alloc (.deferred (some []))).alloc (.loop { state := .ready, pending := none, fn, tmps := a.tmps, params := ps, assign := ca, body := cb, defers := w.heap.size }) = W2 at S2 S2' G2 hp2
    have hmn : upd (upd m s.H.n ⟨w.heap.size, 0, 0⟩) (s.H.n + 1) ⟨w.heap.size + 1, 0, 0⟩ s.H.n = ⟨w.heap.size, 0, 0⟩ := by rw [upd_ne _ _ (by omega), upd_same]
    have hmn1 : upd (upd m s.H.n ⟨w.heap.size, 0, 0⟩) (s.H.n + 1) ⟨w.heap.size + 1, 0, 0⟩ (s.H.n + 1) = ⟨w.heap.size + 1, 0, 0⟩ := upd_same ..
    generalize hM2 : upd (upd m s.H.n ⟨w.heap.size, 0, 0⟩) (s.H.n + 1) ⟨w.heap.size + 1, 0, 0⟩ = m2 at S2' G2 hmn hmn1
    generalize hH2 : (s.H.alloc .dfd).alloc (.loop .ready none (envNoL s.env) ps.toList ia ib) = H2 at S2' G2 hcall hT hdf
    have hH2n : H2.n = s.H.n + 2 := by rw [← hH2]; rfl
    have hH2d : H2.dfs = s.H.dfs := by rw [← hH2]; rfl
    have hcap : AV.okPL (good m2 H2.n) captured := okPL_mono (fun i k hi => ⟨by have := hi.1; omega, by rw [G2.agree i hi.1]; exact hi.2⟩) _ hok.2
    have hargs : ∀ v ∈ AV.yield (s.H.n + 1) :: captured, v.okP (good m2 H2.n) := by
     intro v hv
     rcases List.mem_cons.1 hv with rfl | hv
     · exact ⟨by omega, Nat.zero_le _⟩
     · exact (okPL_iff _ _).1 hcap v hv
    have hcl : concL m ml captured = concL m2 ml0 captured := by
     rw [concL_ml hcap ml0 ml]
     exact (concL_congr ml ml (fun i k hi => G2.agree i hi.1) captured hok.2).symm
    refine ⟨w.heap.size + 1, [{ target := .collected w.heap.size, args := #[] }], W2, { target := .fn (.func gf) (concL m ml captured).toArray, args := #[.func (.yield (w.heap.size + 1)) #[] #[]] }, W2, gf,
     (concL m2 ml0 (.yield (s.H.n + 1) :: captured)).toArray, W2, ?_, ?_, fun _ _ => trivial, ?_, FF_enter none fu, ?_⟩
    · rw [← hW2]; exact run_enterLoop_outer _ _ _ _ _
    · simp only [resolve, e1, conc, Deferred.ofValue]
      simp [go_sem, concL, Act.eval]
    · have e3 : #[Value.func (.yield (w.heap.size + 1)) #[] #[]] ++ (concL m ml captured).toArray = (concL m2 ml0 (.yield (s.H.n + 1) :: captured)).toArray := by
        rw [hcl]; simp [concL, conc, hmn1]
      simp only [invoke]
      rw [e3]
      exact hF.call _ _
    · refine callsIn_FF ((hT m2 W2 (S2'.drop ml0) hargs).mono ?_)
      rintro e w3 ⟨u, rfl, m3, _, S3, G3, _⟩
      obtain ⟨rec, r1, r2, r3, r4, r5⟩ := S3.obj _ _ hgt
      have hm3 : m3 (s.H.n + 1) = ⟨w.heap.size + 1, 0, 0⟩ := by rw [G3.agree _ (by omega), hmn1]
      have hm3' : m3 s.H.n = ⟨w.heap.size, 0, 0⟩ := by rw [G3.agree _ (by omega), hmn]
      rw [hm3] at r1
      obtain ⟨S4, G4⟩ := S2'.back S3 G3
      have G5 := G2.trans G4
      have S6 : Sim P m3 ml s.loc (H'.set (s.H.n + 1) .dead) (w3.putObj (w.heap.size + 1) (.loop { rec with state := .exhausted })) := S4.set_obj hgt rfl trivial trivial rfl (by rw [hm3]; exact wrote_put.other)
      have G6 := G5.trans (Grow.of_set (o' := .dead) S4.wf hgt rfl rfl (by rw [hm3]; exact wrote_put (o' := .loop { rec with state := .exhausted })))
      refine ⟨rec.pending, _, run_endLoop r1 (by rw [r2]; exact hnb), ?_⟩
      have hag : ∀ i k, good m s.H.n i k → m3 i = m i := fun i k hi => G6.agree i hi.1
      have hn3 : s.H.n + 2 ≤ H'.n := by have := G3.n_le; omega
      have hgo : ∀ i k, good m s.H.n i k → good m3 H'.n i k := fun i k hi => ⟨by have := hi.1; omega, by rw [hag i k hi]; exact hi.2⟩
      have R6 : Rel P m3 ml nt { s with H := { H'.set (s.H.n + 1) .dead with dfs := .mark s.H.n :: H'.dfs } } { a with defers := [{ target := .collected w.heap.size, args := #[] }] ++ a.defers } (w3.putObj (w.heap.size + 1) (.loop { rec with state := .exhausted })) := by
       refine ⟨S6.dfs _, fun t v ht => ?_, R.size, ?_, ?_⟩
       · obtain ⟨k1, k2⟩ := R.env t v ht
         exact ⟨by rw [k1]; exact (conc_lptr_ml k2 hag (fun _ _ _ => rfl)).symm, k2.mono hgo fun _ h => h⟩
       · simp only [List.singleton_append, List.map_cons, concD, hm3', hdf, hH2d, R.defers]
         congr 1
         exact List.map_congr_left fun d hd => (concD_congr hag (R.dok d hd)).symm
       · intro d hd
         simp only [List.mem_cons] at hd
         rcases hd with rfl | hd
         · exact ⟨by simp; omega, Nat.zero_le _⟩
         · rw [hdf, hH2d] at hd
           exact Dfr.okP_mono hgo (R.dok d hd)
      have hq := hQ _ _ _ _ R6 (G6.dfs _)
      rw [r3] at hq ⊢
      cases pend with
      | none => exact hq
      | some c => exact codeX_wp c hq
 · cases h
theorem compC_noD {id : Nat} {ops : Array Oper} {d : Bool} {x : IC} (h : compC P nt locals (.region id ops d) = some x) : (∃ ios, x = .region ios ∧ d = false ∧ compOpers P nt locals ops ops.toList = some ios) ∨ ∃ ios cs, x = .regionD ios cs := by
 cases d
 · simp only [compC, Option.map_eq_some_iff] at h
   obtain ⟨ios, h1, h2⟩ := h
   exact .inl ⟨ios, h2.symm, rfl, h1⟩
 · simp only [compC] at h
   right
   unfold compD at h
   simp only at h
   split at h
   · cases h
   split at h
   · split at h
     · cases h; exact ⟨_, _, rfl⟩
     · cases h
   · cases h
theorem compC_block {code : Code} {b : Nat} {y : IC} (h : compC P nt locals code = some (.block b y)) : ∃ cb, code = .block b cb ∧ compC P nt locals cb = some y := by
 cases code
 case block id cb =>
  simp only [compC, Option.map_eq_some_iff] at h
  obtain ⟨z, h1, h2⟩ := h
  cases h2; exact ⟨cb, rfl, h1⟩
 case region id ops d => rcases compC_noD h with ⟨_, h, _⟩ | ⟨_, _, h⟩ <;> cases h
 all_goals (simp only [compC, opt2] at h; first | (cases h; done) | ((repeat' (split at h)) <;> first | (cases h; done) | (simp at h; done)) | (simp at h; done))
theorem compC_loop {code : Code} {y : IC} (h : compC P nt locals code = some (.loop y)) : ∃ cb, code = .loop cb ∧ compC P nt locals cb = some y := by
 cases code
 case loop cb =>
  simp only [compC, Option.map_eq_some_iff] at h
  obtain ⟨z, h1, h2⟩ := h
  cases h2; exact ⟨cb, rfl, h1⟩
 case region id ops d => rcases compC_noD h with ⟨_, h, _⟩ | ⟨_, _, h⟩ <;> cases h
 all_goals (simp only [compC, opt2] at h; first | (cases h; done) | ((repeat' (split at h)) <;> first | (cases h; done) | (simp at h; done)) | (simp at h; done))
theorem compC_seq {code : Code} {x y : IC} (h : compC P nt locals code = some (.seq x y)) : ∃ ca cb, code = .seq ca cb ∧ compC P nt locals ca = some x ∧ compC P nt locals cb = some y := by
 cases code
 case seq ca cb =>
  simp only [compC] at h
  obtain ⟨_, _, h1, h2, h3⟩ := opt2_some h
  cases h3; exact ⟨ca, cb, rfl, h1, h2⟩
 case region id ops d => rcases compC_noD h with ⟨_, h, _⟩ | ⟨_, _, h⟩ <;> cases h
 all_goals (simp only [compC, opt2] at h; first | (cases h; done) | ((repeat' (split at h)) <;> first | (cases h; done) | (simp at h; done)) | (simp at h; done))
theorem compC_cond {code : Code} {c : Opd} {x y : IC} (h : compC P nt locals code = some (.cond c x y)) : ∃ cc ca cb, code = .cond cc ca cb ∧ opd cc = some c ∧ compC P nt locals ca = some x ∧ compC P nt locals cb = some y := by
 cases code
 case cond cc ca cb =>
  simp only [compC] at h
  split at h
  · rename_i c' hc
    obtain ⟨_, _, h1, h2, h3⟩ := opt2_some h
    cases h3; exact ⟨cc, ca, cb, rfl, hc, h1, h2⟩
  · cases h
 case region id ops d => rcases compC_noD h with ⟨_, h, _⟩ | ⟨_, _, h⟩ <;> cases h
 all_goals (simp only [compC, opt2] at h; first | (cases h; done) | ((repeat' (split at h)) <;> first | (cases h; done) | (simp at h; done)) | (simp at h; done))
theorem compC_skip {code : Code} (h : compC P nt locals code = some .skip) : code = .skip := by
 cases code
 case skip => rfl
 case region id ops d => rcases compC_noD h with ⟨_, h, _⟩ | ⟨_, _, h⟩ <;> cases h
 all_goals (simp only [compC, opt2] at h; first | (cases h; done) | ((repeat' (split at h)) <;> first | (cases h; done) | (simp at h; done)) | (simp at h; done))
theorem compC_exit {code : Code} {id : Nat} (h : compC P nt locals code = some (.exit id)) : code = .exit id := by
 cases code
 case exit id' => simp only [compC] at h; cases h; rfl
 case region id ops d => rcases compC_noD h with ⟨_, h, _⟩ | ⟨_, _, h⟩ <;> cases h
 all_goals (simp only [compC, opt2] at h; first | (cases h; done) | ((repeat' (split at h)) <;> first | (cases h; done) | (simp at h; done)) | (simp at h; done))
theorem compC_region {code : Code} {ios : List IOper} (h : compC P nt locals code = some (.region ios)) : ∃ id ops, code = .region id ops false ∧ compOpers P nt locals ops ops.toList = some ios := by
 cases code
 case region id ops d =>
  rcases compC_noD h with ⟨_, h1, h2, h3⟩ | ⟨_, _, h⟩
  · cases h1; subst h2; exact ⟨id, ops, rfl, h3⟩
  · cases h
 all_goals (simp only [compC, opt2] at h; first | (cases h; done) | ((repeat' (split at h)) <;> first | (cases h; done) | (simp at h; done)) | (simp at h; done))
theorem comp_nextM {o : Op} {it : Opd} {dst : Option Nat} (hc : compOp P locals dst o = some (.nextM it)) : ∃ x, o = .next x false ∧ opd x = some it := by
 cases o
 case next x b =>
  cases b
  · simp only [compOp, Option.map_eq_some_iff] at hc
    obtain ⟨y, h1, h2⟩ := hc
    cases h2; exact ⟨x, rfl, h1⟩
  · simp [compOp] at hc
 case binOp op t x y yt => exfalso; rcases comp_bin hc with ⟨e, a, b, h, _⟩ | ⟨neg, a, h, _⟩ | ⟨neg, a, b, h, _⟩ <;> cases h
 case call c =>
  exfalso
  obtain ⟨callee, as, ats⟩ := c
  cases callee with
  | value fo => simp only [compOp] at hc; obtain ⟨_, _, k1, k2, h3⟩ := opt2_some hc; cases h3
  | invoke r n => simp [compOp] at hc
  | builtin b =>
   simp only [compOp, compBuiltin, opt2] at hc
   (repeat' (split at hc)) <;> cases hc
 case defer c =>
  exfalso
  obtain ⟨callee, as, ats⟩ := c
  cases callee <;> simp only [compOp] at hc <;> first | (cases hc; done) | (obtain ⟨_, _, _, _, h3⟩ := opt2_some hc; cases h3)
 case makeMap t r => exfalso; cases r <;> simp [compOp] at hc
 all_goals
  exfalso
  simp only [compOp, opt2] at hc
  first
   | (cases hc; done)
   | ((repeat' (split at hc)) <;> (try cases hc) <;> (try (rw [Option.map_eq_some_iff] at hc; obtain ⟨_, _, hc⟩ := hc; cases hc)))
theorem compGuard_none {ops : Array Oper} {g : Option (Nat × Bool)} (h : compGuard ops g = some none) : g = none := by
 cases g with
 | none => rfl
 | some jw =>
  obtain ⟨j, want⟩ := jw
  simp only [compGuard] at h
  split at h <;> cases h
theorem mapStep_sound (hC : CallOk P C) {rd : Option Nat} {fu : Nat} {d0 d1 : Nat} {it : Opd} {ops : Array Oper} (hc : compOpers P nt locals ops ops.toList = some [⟨some d0, .nextM it, none⟩, ⟨some d1, .extract (.tmp d0) 0, none⟩])
    (R : Rel P m ml nt s a w) {u : AV} (hit : it.ev s.env = some u) {Q : Exit → Act → World → Prop}
    (hstep : ∀ ty, ∃ (b : Bool) (vs : List AV) (H' : AHeap) (w1 : World), (Instr.next (conc m ml u) false ty).run P w = .ok (conc m ml (.tuple (.bool b :: vs))) w1 ∧ Sim P m ml s.loc H' w1 ∧ Grow m ml s.loc s.H w m ml s.loc H' w1 ∧ (AV.tuple (.bool b :: vs)).okP (good m H'.n) ∧ H'.dfs = s.H.dfs ∧
     ∀ m' ml' w' a', Rel P m' ml' nt { s with H := H', env := (d1, .bool b) :: (d0, .tuple (.bool b :: vs)) :: s.env } a' w' → Grow m ml s.loc s.H w m' ml' s.loc H' w' → Q .normal a' w') {id : Nat} : (Code.region id ops false).wpIn (FF rd) fu P Q a w := by
 refine wpIn_region_list ?_
 have hsz : ∀ (j d : Nat), (ops[j]?).bind (fun (x : Oper) => x.dst) = some d → d < nt := by
  intro j d hj
  cases hoj : ops[j]? with
  | none => simp [hoj] at hj
  | some o =>
   simp [hoj] at hj
   have : ∀ {os : List Oper} {ios : List IOper}, compOpers P nt locals ops os = some ios → ∀ o ∈ os, ∀ d, o.dst = some d → d < nt := by
    intro os
    induction os with
    | nil => intro ios h o ho; simp at ho
    | cons x os ih =>
     intro ios h o ho d hd
     simp only [compOpers] at h
     split at h
     · rename_i i is h1 h2
       rcases List.mem_cons.1 ho with rfl | ho
       · exact (compOper_spec h1).1 d hd
       · exact ih h2 o ho d hd
     · cases h
   exact this hc o (by simpa using Array.mem_of_getElem? hoj) d hj
 generalize hol : ops.toList = os at hc
 match os, hc with
 | [], hc => simp [compOpers] at hc
 | [o], hc =>
  simp only [compOpers] at hc
  split at hc
  · rename_i h1 h2; cases h2; cases hc
  · cases hc
 | o1 :: o2 :: o3 :: rest, hc =>
  simp only [compOpers] at hc
  split at hc
  · rename_i h1 h2
    split at h2
    · rename_i h3 h4
      split at h4
      · cases h4; cases h2; cases hc
      · cases h4
    · cases h2
  · cases hc
 | [o1, o2], hc =>
  simp only [compOpers] at hc
  split at hc
  · rename_i i1 is h1 h2
    split at h2
    · rename_i i2 is2 h3 h4
      cases h4; cases h2; cases hc
      obtain ⟨k1, k2, k3, k4⟩ := compOper_spec h1
      have k2 := comp_of k2 (by simp)
      simp only at k2 k3 k4
      obtain ⟨x, hop, hx⟩ := comp_nextM k2
      obtain ⟨b, vs, H', w1, hrun, S1, G1, hok, hdf, hQ⟩ := hstep o1.type
      refine wpListIn_plain (compGuard_none k3) fun K hK => ?_
      refine ⟨fun _ _ => trivial, ?_⟩
      rw [FF_round, Oper.semAt_eq _ _ _ (by rw [hop]; intro c h; cases h)]
      have e1 := (R.opR x _ _ hx hit).1
      have hexec : (execOp a.eval o1).run P w = .ok (.value (conc m ml (.tuple (.bool b :: vs)))) w1 := by
       obtain ⟨dst', op, type, pos, after, guard⟩ := o1
       simp only at hop hrun; subst hop
       simp only [execOp, e1, Sem.run_bind, hrun, Result.andThen_ok, Sem.run_pure]
      rw [hexec]
      simp only [Oper.uponIn_value]
      refine hK _ _ ?_
      rw [← k4]
      have R1 := R.put (s' := { s with H := H' }) (dst := some d0) (v := .tuple (.bool b :: vs)) (fun d hd => k1 d (by rw [← k4]; exact hd)) S1 G1 (.of hok) rfl hdf (fun _ => .inl rfl) rfl
      refine wpListIn_step fun K hK => ?_
      refine step_sound (C := C) hC rd fu h3 (.inr rfl) R1 hsz (s' := { s with H := H', env := (d1, .bool b) :: (d0, .tuple (.bool b :: vs)) :: s.env }) ?_ fun m' ml' w' a' R' G' => hK a' w' ?_
      · simp [stepOp, wantedA, evOp, Opd.ev, St.put, look]
      · exact hQ m' ml' w' a' R' (G1.trans G')
    · cases h2
  · cases hc
theorem cleanA_ok {r : Nat} {ks ls : List Nat} {x y : AExit} {s0 : St} {m0 : Nat → Loc} {ml1 : Nat → Nat} {w0 : World} (h : cleanA ks ls r x s = some (y, s')) (R : Rel P m ml nt s a w) (G : Grow m0 ml1 s0.loc s0.H w0 m ml s.loc s.H w) :
    y = x ∧ Rel P m ml nt s' a w ∧ Grow m0 ml1 s0.loc s0.H w0 m ml s'.loc s'.H w := by
 unfold cleanA at h
 split at h
 · rename_i hr
   cases h
   have S1 : Sim P m ml s.loc (s.H.set r .dead) w := R.sim.set_obj hr rfl trivial trivial rfl (fun _ _ => rfl)
   have G1 := G.trans (.of_set (o' := .dead) R.sim.wf hr rfl rfl (.refl w _))
   refine ⟨rfl, ⟨S1.prune ls, fun t v h => R.env t v (look_prune h), R.size, R.defers, R.dok⟩, ?_⟩
   exact ⟨G1.n_le, G1.agree, G1.size, G1.os, G1.tape, G1.output, G1.keep, G1.own, fun t c h => G1.locs t c (look_prune h), G1.low, G1.pres, G1.ro⟩
 · cases h
theorem beqME_eq : ∀ {a b : List ME}, beqME a b = true → a = b
 | [], [], _ => rfl
 | [], _ :: _, h | _ :: _, [], h => by simp [beqME] at h
 | (a, v, i) :: x, (b, u, j) :: y, h => by
  simp only [beqME, Bool.and_eq_true, decide_eq_true_eq] at h
  rw [AV.beq_eq _ _ h.1.1.1, AV.beq_eq _ _ h.1.1.2, h.1.2, beqME_eq h.2]
theorem AObj.beq_eq {a b : AObj} (h : AObj.beq a b = true) : a = b := by
 cases a <;> cases b <;> simp only [AObj.beq, Bool.false_eq_true, Bool.and_eq_true, decide_eq_true_eq] at h <;> try rfl
 · rw [h.1.1, h.1.2, AV.beqL_eq _ _ h.2]
 · rw [beqME_eq h.1, h.2]
 · rw [h.1, h.2]
 · rw [h.1.1.1, h.1.1.2, h.1.2, h.2]
theorem same_ok {s0 s1 s2 : St} {m0 : Nat → Loc} {ml1 : Nat → Nat} {w0 : World} (henv : s1.env = s2.env) (hloc : s1.loc = s2.loc) (hn : s1.H.n = s2.H.n) (hlow : s1.H.low = s2.H.low) (hd : s1.H.dfs = s2.H.dfs) (hget : ∀ i, s1.H.get i = s2.H.get i)
    (R : Rel P m ml nt s2 a w) (G : Grow m0 ml1 s0.loc s0.H w0 m ml s2.loc s2.H w) : Rel P m ml nt s1 a w ∧ Grow m0 ml1 s0.loc s0.H w0 m ml s1.loc s1.H w := by
 have own : ∀ i, Owned s1.H i → Owned s2.H i := fun i ⟨o, h1, h2⟩ => ⟨o, by rw [← hget]; exact h1, h2⟩
 have ro : ∀ i, IsRo s1.H i → IsRo s2.H i := fun i ⟨o, h1, h2⟩ => ⟨o, by rw [← hget]; exact h1, h2⟩
 have S := R.sim
 refine ⟨⟨⟨fun i => by rw [hget, hn]; exact S.wf i, fun i o h => S.obj i o (by rw [← hget]; exact h), fun i o h => by rw [hn]; exact S.ok i o (by rw [← hget]; exact h), fun i j h1 h2 => S.inj i j (own i h1) (own j h2), fun i j h1 h2 => S.sep i j (own i h1) (ro j h2),
  fun t c h => S.locs t c (by rw [← hloc]; exact h), fun t c h => by rw [hn]; exact S.locok t c (by rw [← hloc]; exact h), fun t u c d h1 h2 => S.locinj t u c d (by rw [← hloc]; exact h1) (by rw [← hloc]; exact h2), fun t c i h1 h2 => S.locsep t c i (by rw [← hloc]; exact h1) (h2.imp (own i) (ro i)), fun i c h => S.base i c (by rw [← hget]; exact h)⟩,
  fun t v h => by rw [hn]; exact R.env t v (by rw [← henv]; exact h), R.size, by rw [hd]; exact R.defers, fun d h => by rw [hn]; exact R.dok d (by rw [← hd]; exact h)⟩, ?_⟩
 exact ⟨by rw [hn]; exact G.n_le, G.agree, G.size, G.os, G.tape, G.output, G.keep, fun i h => G.own i (own i h), fun t c h => G.locs t c (by rw [← hloc]; exact h), by rw [hlow]; exact G.low, fun i h1 h2 => by rw [hget]; exact G.pres i (by rw [← hlow]; exact h1) h2, fun i h => G.ro i (ro i h)⟩
theorem loopAt_some {rd : Option Nat} {fu : Nat} {cb : Code} {Q : Exit → Act → World → Prop} (h : LoopAt (FF rd) fu P cb Q a w) : ∃ e a' w', Q e a' w' :=
 let ⟨e, a', w', q, _⟩ := h { (default : Frame) with roundOf := rd } [] [] rfl trivial (FF_room _ _)
 ⟨e, a', w', q⟩
theorem wpIn_some {rd : Option Nat} {fu : Nat} {cb : Code} {Q : Exit → Act → World → Prop} (h : cb.wpIn (FF rd) fu P Q a w) : ∃ e a' w', Q e a' w' :=
 let ⟨e, a', w', q, _⟩ := h { (default : Frame) with roundOf := rd } [] [] rfl trivial (FF_room _ _)
 ⟨e, a', w', q⟩
theorem compOpers_dst' {ops : Array Oper} : ∀ {os : List Oper} {ios : List IOper}, compOpers P nt locals ops os = some ios → ∀ io ∈ ios, ∀ d, io.dst = some d → d < nt := by
 intro os
 induction os with
 | nil => intro ios h io hi; simp [compOpers] at h; subst h; cases hi
 | cons x os ih =>
  intro ios h io hi d hd
  simp only [compOpers] at h
  split at h
  · rename_i i is h1 h2
    cases h
    rcases List.mem_cons.1 hi with rfl | hi
    · have := compOper_spec h1; exact this.1 d (by rw [← this.2.2.2]; exact hd)
    · exact ih h2 io hi d hd
  · cases h
theorem inBlock_some {b : Nat} {Q : Act → World → Prop} {e : Exit} (h : Exit.inBlock b (fun _ => Q) e a w) : Q a w := by
 cases e <;> simp only [Exit.inBlock] at h <;> first | exact h | (split at h <;> exact h)
theorem mapLoop_sound (hC : CallOk P C) {rd : Option Nat} {fu d0 d1 b : Nat} {ks ls : List Nat} {it : Opd} {ops : Array Oper} {id : Nat} {cc : Operand} {cb : Code} {f : St → Option (AExit × St)}
    (hc : compOpers P nt locals ops ops.toList = some [⟨some d0, .nextM it, none⟩, ⟨some d1, .extract (.tmp d0) 0, none⟩]) (hcc : opd cc = some (.tmp d1))
    (hf : ∀ (m : Nat → Loc) (ml : Nat → Nat) (w : World) (s s' : St) (a : Act) (x : AExit), Rel P m ml nt s a w → f s = some (x, s') → ∀ (Q : Exit → Act → World → Prop), (∀ m' ml' w' a', Rel P m' ml' nt s' a' w' → Grow m ml s.loc s.H w m' ml' s'.loc s'.H w' → Q (toExit x) a' w') → cb.wpIn (FF rd) fu P Q a w) :
    ∀ (k : Nat) (m : Nat → Loc) (ml : Nat → Nat) (w : World) (s : St) (a : Act) (x : AExit) (s' : St), Rel P m ml nt s a w → mapLoop d0 d1 it b ks ls f k s = some (x, s') → ∀ (Q : Exit → Act → World → Prop),
     (∀ m' ml' w' a', Rel P m' ml' nt s' a' w' → Grow m ml s.loc s.H w m' ml' s'.loc s'.H w' → Q (toExit x) a' w') →
     LoopAt (FF rd) fu P (.seq (.region id ops false) (.seq (.cond cc .skip (.exit b)) cb)) (Exit.inBlock b Q) a w := by
 intro k
 induction k with
 | zero => intro m ml w s a x s' R h; simp [mapLoop] at h
 | succ k ih =>
  intro m ml w s a x s' R h Q hQ
  simp only [mapLoop] at h
  split at h
  · rename_i r hit
    have over : ∀ {s1 : St}, s1 = { s with env := (d1, .bool false) :: (d0, .tuple [.bool false]) :: s.env } → cleanA ks ls r .normal s1 = some (x, s') →
        (∀ ty, (Instr.next (conc m ml (.ptr r 0)) false ty).run P w = .ok (conc m ml (.tuple [.bool false])) w) → LoopAt (FF rd) fu P (.seq (.region id ops false) (.seq (.cond cc .skip (.exit b)) cb)) (Exit.inBlock b Q) a w := by
     rintro s1 rfl hcl hrun
     refine loopAt_round (wpIn_seq_k fun K hK => mapStep_sound hC hc R hit fun ty => ⟨false, [], s.H, w, hrun ty, R.sim, .refl .., by simp [AV.okP, AV.okPL], rfl, fun m' ml' w' a' R' G' => hK a' w' ?_⟩)
     refine wpIn_seq_k fun K2 hK2 => wpIn_cond_false ?_ (wpIn_exit ?_)
     · have := (R'.opR cc (.tmp d1) (.bool false) hcc (by simp [Opd.ev, look])).1
       simpa [conc] using this
     · simp only [Exit.then, Exit.inBlock, if_true]
       obtain ⟨rfl, k1, k2⟩ := cleanA_ok (s0 := s) (m0 := m) (ml1 := ml) (w0 := w) hcl R' G'
       exact hQ _ _ _ _ k1 k2
    split at h
    · rename_i hr
      refine over rfl h fun ty => ?_
      obtain ⟨b1, b2⟩ := R.sim.obj r _ hr
      simp only [Option.map_none] at b1
      simp [Instr.next, conc, concL, Loc.at, b2, getObj, Sem.run, b1, Result.andThen]
    · rename_i id' since seen last hr
      split at h
      · rename_i es c hid
        split at h
        · rename_i hcs
          obtain ⟨rfl, rfl⟩ := hcs
          split at h
          · rename_i hnil
            refine over rfl h fun ty => ?_
            rcases nextM_run (ty := ty) R.sim hr hid with ⟨_, h1⟩ | ⟨e, he, _⟩
            · exact h1
            · rw [hnil] at he; cases he
          · rename_i e0 rest hne
            obtain ⟨one, hone⟩ : ∃ one : ME → Option (AExit × St), one = fun (e : ME) => (match f { s with H := s.H.set r (.miter (some id') last (e.2.2 :: seen) last), env := (d1, .bool true) :: (d0, .tuple [.bool true, e.1, e.2.1]) :: s.env } with
             | some (.normal, s') => mapLoop d0 d1 it b ks ls f k s'
             | some (x, s') => cleanA ks ls r (if x = .exit b then .normal else x) s'
             | none => none : Option (AExit × St)) := ⟨_, rfl⟩
            replace h : (match one e0 with
             | some q => if rest.all (fun e' => match one e' with | some q' => sameB q q' | none => false) then some q else none
             | none => none) = some (x, s') := by rw [hone]; exact h
            have hone' : ∀ e, one e = (match f { s with H := s.H.set r (.miter (some id') last (e.2.2 :: seen) last), env := (d1, .bool true) :: (d0, .tuple [.bool true, e.1, e.2.1]) :: s.env } with
             | some (.normal, s') => mapLoop d0 d1 it b ks ls f k s'
             | some (x, s') => cleanA ks ls r (if x = .exit b then .normal else x) s'
             | none => none : Option (AExit × St)) := fun e => by rw [hone]
            clear hone
            have key : ∀ (e : ME) (xe : AExit) (se : St), one e = some (xe, se) → ∀ (m1 : Nat → Loc) (ml1 : Nat → Nat) (w1 : World) (a1 : Act),
                Rel P m1 ml1 nt { s with H := s.H.set r (.miter (some id') last (e.2.2 :: seen) last), env := (d1, .bool true) :: (d0, .tuple [.bool true, e.1, e.2.1]) :: s.env } a1 w1 → ∀ (Q : Exit → Act → World → Prop),
                (∀ m' ml' w' a', Rel P m' ml' nt se a' w' → Grow m1 ml1 s.loc (s.H.set r (.miter (some id') last (e.2.2 :: seen) last)) w1 m' ml' se.loc se.H w' → Q (toExit xe) a' w') →
                cb.wpIn (FF rd) fu P (fun e a' w' => match e with | .normal => LoopAt (FF rd) fu P (.seq (.region id ops false) (.seq (.cond cc .skip (.exit b)) cb)) (Exit.inBlock b Q) a' w' | e => Exit.inBlock b Q e a' w') a1 w1 := by
             intro e xe se h1 m1 ml1 w1 a1 R1 Q hQ
             rw [hone'] at h1
             split at h1
             · rename_i s2 hfe
               exact hf m1 ml1 w1 _ s2 a1 .normal R1 hfe _ fun m2 ml2 w2 a2 R2 G2 => ih m2 ml2 w2 s2 a2 xe se R2 h1 Q fun m3 ml3 w3 a3 R3 G3 => hQ m3 ml3 w3 a3 R3 (G2.trans G3)
             · rename_i y s2 hny hfe
               refine hf m1 ml1 w1 _ s2 a1 y R1 hfe _ fun m2 ml2 w2 a2 R2 G2 => ?_
               obtain ⟨rfl, k1, k2⟩ := cleanA_ok (s0 := { s with H := s.H.set r (.miter (some id') last (e.2.2 :: seen) last) }) (m0 := m1) (ml1 := ml1) (w0 := w1) h1 R2 G2
               have := hQ _ _ _ _ k1 k2
               cases y with
               | normal => exact (hny rfl).elim
               | exit j =>
                simp only [toExit, Exit.inBlock]
                by_cases hj : j = b
                · subst hj; simp only [if_true] at this ⊢; exact this
                · rw [if_neg hj]; rw [if_neg (by simp [hj])] at this; exact this
               | ret => simpa [toExit, Exit.inBlock] using this
             · cases h1
            split at h
            · rename_i q hq
              split at h
              · rename_i hall
                cases h
                have hmem : ∀ e ∈ es.filter fun e => !seen.contains e.2.2, e ∈ es := fun e he => (List.mem_filter.1 he).1
                have hd0 : d0 < nt := compOpers_dst' hc ⟨some d0, .nextM it, none⟩ (by simp) d0 rfl
                have hd1 : d1 < nt := compOpers_dst' hc ⟨some d1, .extract (.tmp d0) 0, none⟩ (by simp) d1 rfl
                have hyp : ∃ m' ml' w' a', Rel P m' ml' nt s' a' w' ∧ Grow m ml s.loc s.H w m' ml' s'.loc s'.H w' ∧ s'.H.low ≤ r := by
                 obtain ⟨S1, G1, ok1⟩ := nextM_sim R.sim hr hid (hmem e0 (by rw [hne]; simp)) w.drawn
                 have R1 := R.put (s' := { s with H := s.H.set r (.miter (some id') last (e0.2.2 :: seen) last) }) (dst := some d0) (v := .tuple [.bool true, e0.1, e0.2.1]) (fun d hd => by cases hd; exact hd0) S1 G1 (.of (by simpa using ok1)) rfl rfl (fun _ => .inl rfl) rfl
                 have R2 := R1.put (s' := { s with H := s.H.set r (.miter (some id') last (e0.2.2 :: seen) last), env := (d0, .tuple [.bool true, e0.1, e0.2.1]) :: s.env }) (dst := some d1) (v := .bool true) (fun d hd => by cases hd; exact hd1) R1.sim (.refl ..) (.of (by simp [AV.okP])) rfl rfl (fun _ => .inl rfl) rfl
                 have hlow : (s.H.set r (.miter (some id') last (e0.2.2 :: seen) last)).low ≤ r := by
                  simp only [AHeap.set]; split <;> omega
                 have := key e0 x s' hq m ml _ _ R2 (fun _ a' w' => ∃ m' ml', Rel P m' ml' nt s' a' w' ∧ Grow m ml s.loc s.H w m' ml' s'.loc s'.H w' ∧ s'.H.low ≤ r) fun m' ml' w' a' R' G' => ⟨m', ml', R', G1.trans G', Nat.le_trans G'.low hlow⟩
                 obtain ⟨e, a', w', hx⟩ := wpIn_some this
                 have fin : ∀ {e a' w'}, Exit.inBlock b (fun _ a' w' => ∃ m' ml', Rel P m' ml' nt s' a' w' ∧ Grow m ml s.loc s.H w m' ml' s'.loc s'.H w' ∧ s'.H.low ≤ r) e a' w' → ∃ m' ml' w' a', Rel P m' ml' nt s' a' w' ∧ Grow m ml s.loc s.H w m' ml' s'.loc s'.H w' ∧ s'.H.low ≤ r := fun h => by
                  obtain ⟨m', ml', h⟩ := inBlock_some h; exact ⟨m', ml', _, _, h⟩
                 cases e with
                 | normal => obtain ⟨e2, a2, w2, h2⟩ := loopAt_some hx; exact fin h2
                 | exit j => exact fin hx
                 | ret => exact fin hx
                 | goto j => exact fin hx
                 | panic j => exact fin hx
                 | outgrown => exact fin hx
                obtain ⟨mh, mlh, wh, ah, Rh, Gh, hlow⟩ := hyp
                refine loopAt_round (wpIn_seq_k fun K hK => mapStep_sound hC hc R hit fun ty => ?_)
                rcases nextM_run (ty := ty) R.sim hr hid with ⟨hnil, _⟩ | ⟨e, he, d, hrun⟩
                · rw [hne] at hnil; cases hnil
                obtain ⟨S1, G1, ok1⟩ := nextM_sim R.sim hr hid (hmem e he) d
                refine ⟨true, [e.1, e.2.1], _, _, hrun, S1, G1, by simpa using ok1, rfl, fun m' ml' w' a' R' G' => hK a' w' ?_⟩
                refine wpIn_seq_k fun K2 hK2 => wpIn_cond_true ?_ (wpIn_skip (hK2 a' w' ?_))
                · have := (R'.opR cc (.tmp d1) (.bool true) hcc (by simp [Opd.ev, look])).1
                  simpa [conc] using this
                have hres : ∃ xe se, one e = some (xe, se) ∧ ((xe = x ∧ se = s') ∨ sameB (x, s') (xe, se) = true) := by
                 rw [hne] at he
                 rcases List.mem_cons.1 he with rfl | he
                 · exact ⟨x, s', hq, .inl ⟨rfl, rfl⟩⟩
                 · have := List.all_eq_true.1 hall e he
                   split at this
                   · rename_i q' hq'
                     exact ⟨q'.1, q'.2, hq', .inr this⟩
                   · cases this
                obtain ⟨xe, se, h1, h2⟩ := hres
                refine key e xe se h1 m' ml' w' a' R' Q fun m2 ml2 w2 a2 R2 G2 => ?_
                rcases h2 with ⟨rfl, rfl⟩ | h2
                · exact hQ _ _ _ _ R2 (G'.trans G2)
                · have h2 := sameB_iff.1 h2
                  obtain ⟨b1, b2, b3, b4, b5, b6, b8⟩ := h2
                  simp only at b1 b2 b3 b4 b5 b6 b8
                  have Gt := G'.trans G2
                  have hrn := AHeap.get_lt hr R.sim.wf
                  have hget : ∀ i, s'.H.get i = se.H.get i := by
                   intro i
                   by_cases i1 : i < s'.H.low
                   · rw [Gh.pres i i1 (by omega), Gt.pres i (by omega) (by omega)]
                   · by_cases i2 : i < s'.H.n
                     · exact b8 i (by omega) i2
                     · have n1 : s'.H.get i = none := by
                         cases hx : s'.H.get i with
                         | none => rfl
                         | some o => exact absurd (AHeap.get_lt hx Rh.sim.wf) i2
                       have n2 : se.H.get i = none := by
                        cases hx : se.H.get i with
                        | none => rfl
                        | some o => exact absurd (AHeap.get_lt hx R2.sim.wf) (by omega)
                       rw [n1, n2]
                  obtain ⟨k1, k2⟩ := same_ok (s0 := s) (s1 := s') (s2 := se) (m0 := m) (ml1 := ml) (w0 := w) b2 b3 b4 b5 b6 hget R2 Gt
                  rw [← b1]; exact hQ _ _ _ _ k1 k2
              · cases h
            · cases h
        · cases h
      · cases h
    · cases h
  · cases h
end
end Go.Wam
set_option linter.unusedVariables false
set_option linter.unusedSimpArgs false
namespace Go.Wam
theorem compD_form {P : Program} {nt : Nat} {locals : List Nat} {ops : Array Oper} {x : IC} (h : compD P nt locals ops = some x) : ∃ ios cs, x = .regionD ios cs := by
 unfold compD at h
 simp only at h
 split at h
 · cases h
 split at h
 · split at h
   · cases h; exact ⟨_, _, rfl⟩
   · cases h
 · cases h
section
variable {P : Program} {C : CallF} {m m' : Nat → Loc} {ml ml' : Nat → Nat} {nt : Nat} {locals : List Nat} {w w' : World} {s s' : St} {a : Act}
theorem Grow.prune {loc loc' : List (Nat × List AV)} {H H' : AHeap} {ks : List Nat} (G : Grow m ml (Go.Wam.prune ks loc) H w m' ml' loc' H' w') : Grow m ml loc H w m' ml' loc' H' w' :=
 ⟨G.n_le, G.agree, G.size, G.os, G.tape, G.output, fun b hb h1 h2 => G.keep b hb h1 fun t c h => h2 t c (look_prune h), G.own,
  fun t c h => (G.locs t c h).imp (fun ⟨d, h1, h2⟩ => ⟨d, look_prune h1, h2⟩) id, G.low, G.pres, G.ro⟩
theorem Rel.keep (R : Rel P m ml nt s a w) (ks ls : List Nat) : Rel P m ml nt { s with env := Go.Wam.prune ks s.env, loc := Go.Wam.prune ls s.loc } a w :=
 ⟨R.sim.prune ls, fun t v h => R.env t v (look_prune h), R.size, R.defers, R.dok⟩
theorem compOpers_dst {ops : Array Oper} : ∀ {os : List Oper} {ios : List IOper}, compOpers P nt locals ops os = some ios → ∀ o ∈ os, ∀ d, o.dst = some d → d < nt := by
 intro os
 induction os with
 | nil => intro ios h o ho; simp at ho
 | cons x os ih =>
  intro ios h o ho d hd
  simp only [compOpers] at h
  split at h
  · rename_i i is h1 h2
    rcases List.mem_cons.1 ho with rfl | ho
    · exact (compOper_spec h1).1 d hd
    · exact ih h2 o ho d hd
  · cases h
theorem code_sound (hm : P.follows .mixedOrders = true) (hC : CallOk P C) (n : Nat) (rd : Option Nat) (fu : Nat) : ∀ (ic : IC) (code : Code), compC P nt locals code = some (erase ic) → (rd = none ∨ plainC ic = true) → ∀ (m : Nat → Loc) (ml : Nat → Nat) (w : World) (s s' : St) (a : Act) (x : AExit),
    Rel P m ml nt s a w → evC C n ic s = some (x, s') → ∀ (Q : Exit → Act → World → Prop), (∀ m' ml' w' a', Rel P m' ml' nt s' a' w' → Grow m ml s.loc s.H w m' ml' s'.loc s'.H w' → Q (toExit x) a' w') → code.wpIn (FF rd) fu P Q a w := by
 intro ic
 induction ic with
 | skip =>
  intro code hc hpl m ml w s s' a x R h Q hQ
  simp only [evC, Option.some.injEq, Prod.mk.injEq] at h
  obtain ⟨rfl, rfl⟩ := h
  simp only [erase] at hc
  cases code <;> (try simp only [compC, opt2] at hc)
  case skip => exact wpIn_skip (hQ m ml w a R (.refl ..))
  case region id ops d => cases d <;> simp only [compC] at hc <;> first | (obtain ⟨_, _, e⟩ := compD_form hc; cases e; done) | (simp at hc; done)
  all_goals (first | (cases hc; done) | ((repeat' (split at hc)) <;> cases hc) | (simp at hc))
 | region ios =>
  intro code hc hpl m ml w s s' a x R h Q hQ
  simp only [evC] at h
  cases hs : stepOps C ios s with
  | none => simp [hs] at h
  | some s1 =>
   simp [hs] at h
   obtain ⟨rfl, rfl⟩ := h
   simp only [erase] at hc
   cases code <;> (try simp only [compC, opt2] at hc)
   case region id ops d =>
    cases d
    · simp only [compC] at hc
      cases ho : compOpers P nt locals ops ops.toList with
      | none => simp [ho] at hc
      | some is =>
       simp [ho] at hc; subst hc
       refine wpIn_region_list (steps_sound hC rd fu (fun j d hj => ?_) ops.toList is ho (by simpa only [plainC] using hpl) m ml w s s1 a R hs Q hQ)
       cases hoj : ops[j]? with
       | none => simp [hoj] at hj
       | some o => simp [hoj] at hj; exact compOpers_dst ho o (by simpa using Array.mem_of_getElem? hoj) d hj
    · simp only [compC] at hc
      obtain ⟨_, _, e⟩ := compD_form hc; cases e
   all_goals (first | (cases hc; done) | ((repeat' (split at hc)) <;> cases hc) | (simp at hc))
 | regionD ios checks =>
  intro code hc hpl m ml w s s' a x R h Q hQ
  simp only [evC] at h
  cases hs : runD C ios checks s with
  | none => simp [hs] at h
  | some s1 =>
   simp [hs] at h
   obtain ⟨rfl, rfl⟩ := h
   simp only [erase] at hc
   cases code <;> (try simp only [compC, opt2] at hc)
   case region id ops d =>
    cases d
    · simp only [compC] at hc
      cases ho : compOpers P nt locals ops ops.toList <;> simp [ho] at hc
    · exact regionD_sound hm hC hc R hs hQ rd fu
   all_goals (first | (cases hc; done) | ((repeat' (split at hc)) <;> cases hc) | (simp at hc))
 | seq ia ib iha ihb =>
  intro code hc hpl m ml w s s' a x R h Q hQ
  simp only [erase] at hc
  cases code <;> (try simp only [compC] at hc)
  case seq ca cb =>
   obtain ⟨y, z, h1, h2, h3⟩ := opt2_some hc
   cases h3
   have hpa : rd = none ∨ plainC ia = true := hpl.imp id fun h => by simp only [plainC, Bool.and_eq_true] at h; exact h.1
   have hpb : rd = none ∨ plainC ib = true := hpl.imp id fun h => by simp only [plainC, Bool.and_eq_true] at h; exact h.2
   simp only [evC] at h
   split at h
   · rename_i s1 he
     refine wpIn_seq_k fun K hK => iha ca h1 hpa m ml w s s1 a .normal R he _ fun m1 ml1 w1 a1 R1 G1 => ?_
     simp only [toExit, Exit.then]
     exact hK a1 w1 (ihb cb h2 hpb m1 ml1 w1 s1 s' a1 x R1 h Q fun m2 ml2 w2 a2 R2 G2 => hQ m2 ml2 w2 a2 R2 (G1.trans G2))
   · rename_i hne
     cases x with
     | normal => exact absurd h (hne s')
     | exit id =>
      exact wpIn_seq_k fun K hK => iha ca h1 hpa m ml w s s' a _ R h _ fun m1 ml1 w1 a1 R1 G1 => hQ m1 ml1 w1 a1 R1 G1
     | ret =>
      exact wpIn_seq_k fun K hK => iha ca h1 hpa m ml w s s' a _ R h _ fun m1 ml1 w1 a1 R1 G1 => hQ m1 ml1 w1 a1 R1 G1
  case region id ops d => cases d <;> simp only [compC] at hc <;> first | (obtain ⟨_, _, e⟩ := compD_form hc; cases e; done) | (simp at hc; done)
  all_goals (first | (cases hc; done) | (simp only [opt2] at hc; (repeat' (split at hc)) <;> cases hc) | (simp at hc))
 | cond c ia ib iha ihb =>
  intro code hc hpl m ml w s s' a x R h Q hQ
  simp only [erase] at hc
  cases code <;> (try simp only [compC] at hc)
  case cond cc ca cb =>
   split at hc
   · rename_i c' hcc
     obtain ⟨y, z, h1, h2, h3⟩ := opt2_some hc
     cases h3
     have hpa : rd = none ∨ plainC ia = true := hpl.imp id fun h => by simp only [plainC, Bool.and_eq_true] at h; exact h.1
     have hpb : rd = none ∨ plainC ib = true := hpl.imp id fun h => by simp only [plainC, Bool.and_eq_true] at h; exact h.2
     simp only [evC] at h
     split at h
     · rename_i hv
       refine wpIn_cond_true ?_ (iha ca h1 hpa m ml w s s' a x R h Q hQ)
       have := (R.opR cc _ _ hcc hv).1
       simpa [conc] using this
     · rename_i hv
       refine wpIn_cond_false ?_ (ihb cb h2 hpb m ml w s s' a x R h Q hQ)
       have := (R.opR cc _ _ hcc hv).1
       simpa [conc] using this
     · cases h
   · cases hc
  case region id ops d => cases d <;> simp only [compC] at hc <;> first | (obtain ⟨_, _, e⟩ := compD_form hc; cases e; done) | (simp at hc; done)
  all_goals (first | (cases hc; done) | (simp only [opt2] at hc; (repeat' (split at hc)) <;> cases hc) | (simp at hc))
 | block id ib ih =>
  intro code hc hpl m ml w s s' a x R h Q hQ
  simp only [erase] at hc
  cases code <;> (try simp only [compC] at hc)
  case block id' cb =>
   cases hb : compC P nt locals cb with
   | none => simp [hb] at hc
   | some y =>
    simp [hb] at hc
    obtain ⟨rfl, rfl⟩ := hc
    simp only [evC] at h
    refine wpIn_block ?_
    split at h
    · rename_i j s1 he
      refine ih cb hb (by simpa only [plainC] using hpl) m ml w s s1 a _ R he _ fun m1 ml1 w1 a1 R1 G1 => ?_
      simp only [toExit, Exit.inBlock]
      split at h
      · rename_i hj; cases h; rw [if_pos hj]; exact hQ m1 ml1 w1 a1 R1 G1
      · rename_i hj; cases h; rw [if_neg hj]; exact hQ m1 ml1 w1 a1 R1 G1
    · rename_i hne
      refine ih cb hb (by simpa only [plainC] using hpl) m ml w s s' a _ R h _ fun m1 ml1 w1 a1 R1 G1 => ?_
      cases x with
      | normal => exact hQ m1 ml1 w1 a1 R1 G1
      | exit j => exact absurd h (hne j s')
      | ret => exact hQ m1 ml1 w1 a1 R1 G1
  case region id ops d => cases d <;> simp only [compC] at hc <;> first | (obtain ⟨_, _, e⟩ := compD_form hc; cases e; done) | (simp at hc; done)
  all_goals (first | (cases hc; done) | (simp only [opt2] at hc; (repeat' (split at hc)) <;> cases hc) | (simp at hc))
 | loop ib ih =>
  intro code hc hpl m ml w s s' a x R h Q hQ
  simp only [erase] at hc
  cases code <;> (try simp only [compC] at hc)
  case loop cb =>
   cases hb : compC P nt locals cb with
   | none => simp [hb] at hc
   | some y =>
    simp [hb] at hc
    subst hc
    simp only [evC] at h
    have key : ∀ (k : Nat) (m : Nat → Loc) (ml : Nat → Nat) (w : World) (s : St) (a : Act), Rel P m ml nt s a w → iter (evC C n ib) k s = some (x, s') →
        (∀ m' ml' w' a', Rel P m' ml' nt s' a' w' → Grow m ml s.loc s.H w m' ml' s'.loc s'.H w' → Q (toExit x) a' w') →
        LoopAt (FF rd) fu P cb Q a w := by
     intro k
     induction k with
     | zero => intro m ml w s a R h; simp [iter] at h
     | succ k ihk =>
      intro m ml w s a R h hQ
      simp only [iter] at h
      split at h
      · rename_i s1 he
        exact loopAt_round (ih cb hb (by simpa only [plainC] using hpl) m ml w s s1 a .normal R he _ fun m1 ml1 w1 a1 R1 G1 => ihk m1 ml1 w1 s1 a1 R1 h fun m2 ml2 w2 a2 R2 G2 => hQ m2 ml2 w2 a2 R2 (G1.trans G2))
      · rename_i hne
        have hx : x ≠ .normal := by
         rintro rfl
         exact hne _ h
        refine loopAt_round (ih cb hb (by simpa only [plainC] using hpl) m ml w s s' a x R h _ fun m1 ml1 w1 a1 R1 G1 => ?_)
        have := hQ m1 ml1 w1 a1 R1 G1
        cases x with
        | normal => exact absurd rfl hx
        | exit id => exact this
        | ret => exact this
    exact wpIn_of_loopAt (key n m ml w s a R h hQ)
  case region id ops d => cases d <;> simp only [compC] at hc <;> first | (obtain ⟨_, _, e⟩ := compD_form hc; cases e; done) | (simp at hc; done)
  all_goals (first | (cases hc; done) | (simp only [opt2] at hc; (repeat' (split at hc)) <;> cases hc) | (simp at hc))
 | exit id =>
  intro code hc hpl m ml w s s' a x R h Q hQ
  simp only [evC, Option.some.injEq, Prod.mk.injEq] at h
  obtain ⟨rfl, rfl⟩ := h
  simp only [erase] at hc
  cases code <;> (try simp only [compC, opt2] at hc)
  case exit id' => cases hc; exact wpIn_exit (hQ m ml w a R (.refl ..))
  case region id ops d => cases d <;> simp only [compC] at hc <;> first | (obtain ⟨_, _, e⟩ := compD_form hc; cases e; done) | (simp at hc; done)
  all_goals (first | (cases hc; done) | ((repeat' (split at hc)) <;> cases hc) | (simp at hc))
 | ret =>
  intro code hc hpl m ml w s s' a x R h Q hQ
  simp only [evC, Option.some.injEq, Prod.mk.injEq] at h
  obtain ⟨rfl, rfl⟩ := h
  simp only [erase] at hc
  cases code <;> (try simp only [compC, opt2] at hc)
  case ret => exact wpIn_ret (hQ m ml w a R (.refl ..))
  case region id ops d => cases d <;> simp only [compC] at hc <;> first | (obtain ⟨_, _, e⟩ := compD_form hc; cases e; done) | (simp at hc; done)
  all_goals (first | (cases hc; done) | ((repeat' (split at hc)) <;> cases hc) | (simp at hc))
 | rangeF f ps ia ib iha ihb =>
  intro code hc hpl m ml w s s' a x R h Q hQ
  have hrd : rd = none := hpl.resolve_right (by simp [plainC])
  subst hrd
  simp only [erase] at hc
  cases code <;> (try simp only [compC] at hc)
  case rangeFunc g ps' ca cb =>
   split at hc
   · rename_i f' hf
     split at hc
     · rename_i hps
       obtain ⟨y, z, h1, h2, h3⟩ := opt2_some hc
       split at h3
       · rename_i hp
         simp only [Option.some.injEq, IC.rangeF.injEq] at h3
         obtain ⟨rfl, rfl, rfl, rfl⟩ := h3
         rw [Bool.and_eq_true, plainC_erase, plainC_erase] at hp
         exact rangeF_sound hC hf (fun p hp => by
          rw [← Array.all_toList] at hps
          exact of_decide_eq_true (List.all_eq_true.1 hps p hp)) h1 h2 hp.1 hp.2 R h hQ
       · cases h3
     · cases hc
   · cases hc
  case region id ops d => cases d <;> simp only [compC] at hc <;> first | (obtain ⟨_, _, e⟩ := compD_form hc; cases e; done) | (simp at hc; done)
  all_goals (first | (cases hc; done) | (simp only [opt2] at hc; (repeat' (split at hc)) <;> cases hc) | (simp at hc))
 | mapR d0 d1 it b ks ls body ih =>
  intro code hc hpl m ml w s s' a x R h Q hQ
  simp only [erase] at hc
  obtain ⟨c1, rfl, hc1⟩ := compC_block hc
  obtain ⟨c2, rfl, hc2⟩ := compC_loop hc1
  obtain ⟨c3, c4, rfl, hc3, hc4⟩ := compC_seq hc2
  obtain ⟨id, ops, rfl, hc3'⟩ := compC_region hc3
  obtain ⟨c5, cb, rfl, hc5, hcb⟩ := compC_seq hc4
  obtain ⟨cc, c6, c7, rfl, hcc, hc6, hc7⟩ := compC_cond hc5
  cases compC_skip hc6
  cases compC_exit hc7
  simp only [evC] at h
  refine wpIn_block (wpIn_of_loopAt (mapLoop_sound hC hc3' hcc (f := evC C n body) (fun m ml w s s' a x R h Q hQ => ih cb hcb (by simpa only [plainC] using hpl) m ml w s s' a x R h Q hQ) n m ml w s a x s' R h Q hQ))
 | stuck =>
  intro code hc hpl m ml w s s' a x R h Q hQ
  simp [evC] at h
 | keep ks ls c ih =>
  intro code hc hpl m ml w s s' a x R h Q hQ
  simp only [evC] at h
  exact ih code hc (by simpa only [plainC] using hpl) m ml w _ s' a x (R.keep ks ls) h Q fun m' ml' w' a' R' G' => hQ m' ml' w' a' R' G'.prune
end
end Go.Wam
