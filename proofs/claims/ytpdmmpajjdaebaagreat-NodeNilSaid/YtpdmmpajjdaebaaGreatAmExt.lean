/- The abstract machine: functions that the model does at once: whole numbers read, written and raised at once. No condition. -/
import Derived.Test.YtpdmmpajjdaebaaGreatAmNil
set_option linter.unusedVariables false
set_option linter.unusedSimpArgs false
namespace Go.Wam
section
variable {P : Program} {f : FuncId} {fn : Func} {m : Nat → Loc} {H : AHeap} {w w' : World}

theorem callFunc_ext {e : Array Value → Sem Value} (hf : P.funcs[f]? = some fn) (hn : (fn.name == "runtime.NumGoroutine") = false) (hb : fn.body.isNone = true) (hx : Extern.findNext fn = none) (he : Extern.find fn = some e)
    {args : Array Value} {v : Value} (h : (e args).run P w = .ok v w') : (callFunc f args).run P w = .ok (.value v) w' := by
  simp only [callFunc, Sem.run_bind, run_program, Result.andThen_ok, hf, hn, hb, if_true, Bool.false_eq_true, if_false, run_mark, hx, he, h, pure, Sem.run]

theorem store_atomic (S : Sim P m ml0 [] H w) {id off e : Nat} {cells : List AV} {v : AV} (hi : H.get id = some (.row false e cells)) (ho : off < cells.length) (h1 : v.one = true) (hv : v.okP (good m H.n)) :
    ∃ w', (store ((m id).at off) (conc m ml0 v) .atomic).run P w = .ok () w' ∧ Sim P m ml0 [] (H.set id (.row false e (wr off [v] cells))) w' ∧ Grow m ml0 [] H w m ml0 [] (H.set id (.row false e (wr off [v] cells))) w' := by
  have hobj := S.obj id _ hi
  have hok := S.ok id _ hi
  have hone : ([v] : List AV).all AV.one = true := by simp [h1]
  obtain ⟨w', r1, r2, r3⟩ := rowAt_wr (P := P) hobj (off := off) (vs := [v]) (by simp; omega) hone
  have hoc : (conc m ml0 v).oneCell' = true := oneCells_conc (m := m) (ml := ml0) hone _ (by simp [concL])
  obtain ⟨arr, u1, u2, u3, u4⟩ := hobj
  have hc : w.cell? ((m id).at off) = some (conc m ml0 cells[off]) := by
    rw [Loc.at, u1.cell]; exact u4 off _ (List.getElem?_eq_getElem ho)
  refine ⟨w', ?_, S.set_obj hi rfl r3 ⟨wr_okPL (show AV.okPL (good m H.n) [v] from ⟨hv, trivial⟩) hok.1, wr_one hone hok.2⟩ rfl r2.other, .of_set S.wf hi rfl rfl r2⟩
  rw [← r1]
  simp only [concL, storeCells, Sem.run_bind, Loc.at_add, Nat.add_zero]
  rw [run_store P w _ _ _ hoc, run_store P w _ _ _ hoc]
  simp only [hc]
  split
  · rfl
  · rfl
end

/-! ## What they do -/
noncomputable section
def gLoad : List AV → AHeap → Option (AV × AHeap) := fun a H => match a with
  | [.ptr id off] => match H.get id with
    | some (.row false e cells) => match cells[off]? with
      | some (.int .i64 n) => some (.int .i64 n, H)
      | _ => none
    | _ => none
  | _ => none
def gStore : List AV → AHeap → Option (AV × AHeap) := fun a H => match a with
  | [.ptr id off, .int .i64 n] => match H.get id with
    | some (.row false e cells) => if off < cells.length then some (.tuple [], H.set id (.row false e (wr off [.int .i64 n] cells))) else none
    | _ => none
  | _ => none
def gAdd : List AV → AHeap → Option (AV × AHeap) := fun a H => match a with
  | [.ptr id off, .int .i64 d] => match H.get id with
    | some (.row false e cells) => match cells[off]? with
      | some (.int .i64 n) => some (.int .i64 (IntKind.i64.wrap (n + d)), H.set id (.row false e (wr off [.int .i64 (IntKind.i64.wrap (n + d))] cells)))
      | _ => none
    | _ => none
  | _ => none
end

theorem loadT_eq (t : Extern.Atomic.T) (x : Value) : Extern.Atomic.loadT t #[x] = (asAddr x >>= fun a => Extern.Atomic.read t a) := rfl
theorem storeT_eq (x y : Value) : Extern.Atomic.storeT #[x, y] = (asAddr x >>= fun a => store a y .atomic >>= fun _ => pure Extern.Atomic.none_) := rfl
theorem updateT_eq (op : IntKind → Int → Int → Sem Value) (k : IntKind) (x y : Value) : Extern.Atomic.update op k true #[x, y] = (asAddr x >>= fun a => Extern.Atomic.read (.int k) a >>= fun old => asInt old >>= fun i => asInt y >>= fun j => op k i j >>= fun new => store a new .atomic >>= fun _ => pure new) := rfl
/-- Which function of the model it is. -/
def IsExt (P : Program) (f : FuncId) (e : Array Value → Sem Value) : Prop :=
  ∃ fn, P.funcs[f]? = some fn ∧ (fn.name == "runtime.NumGoroutine") = false ∧ fn.body.isNone = true ∧ Extern.findNext fn = none ∧ Extern.find fn = some e

section
variable {P : Program} {f : FuncId}
theorem readA_run {m : Nat → Loc} {H : AHeap} {w : World} (S : Sim P m ml0 [] H w) {id off e : Nat} {cells : List AV} {n : Int} (hi : H.get id = some (.row false e cells)) (hc : cells[off]? = some (.int .i64 n)) :
    (Extern.Atomic.read (.int .i64) ((m id).at off)).run P w = .ok (.int .i64 n) w := by
  obtain ⟨arr, u1, u2, u3, u4⟩ := S.obj id _ hi
  have h := u4 off _ hc
  have hw : w.cell? ((m id).at off) = some (.int .i64 n) := by rw [Loc.at, u1.cell]; exact h
  simp only [Extern.Atomic.read, Sem.run_bind, run_load, hw, Result.andThen_ok, if_true, pure, Sem.run]
theorem gLoad_fits (h : IsExt P f (Extern.Atomic.loadT (.int .i64))) : ∀ args H v H', gLoad args H = some (v, H') → ETrip P f args H v H' := by
  intro args H v H' e
  obtain ⟨fn, h1, h2, h3, h4, h5⟩ := h
  unfold gLoad at e
  split at e
  · rename_i id off
    split at e
    · rename_i e0 cells hi
      split at e
      · rename_i n hc
        cases e
        refine ⟨Nat.le_refl _, fun m w S _ => ⟨.int .i64 n, w, callFunc_ext h1 h2 h3 h4 h5 ?_, m, rfl, S, .refl _ _ _ _ _, trivial⟩⟩
        show (Extern.Atomic.loadT (.int .i64) #[.pointer (some ((m id).at off))]).run P w = _
        rw [loadT_eq]
        simp only [Sem.run_bind, asAddr, pure, Sem.run, Result.andThen_ok]
        exact readA_run S hi hc
      · cases e
    · cases e
  · cases e
theorem gStore_fits (h : IsExt P f Extern.Atomic.storeT) : ∀ args H v H', gStore args H = some (v, H') → ETrip P f args H v H' := by
  intro args H v H' e
  obtain ⟨fn, h1, h2, h3, h4, h5⟩ := h
  unfold gStore at e
  split at e
  · rename_i id off n
    split at e
    · rename_i e0 cells hi
      split at e
      · rename_i ho
        cases e
        refine ⟨Nat.le_refl _, fun m w S _ => ?_⟩
        obtain ⟨w', r1, r2, r3⟩ := store_atomic S hi ho (v := .int .i64 n) rfl trivial
        refine ⟨.tuple #[], w', callFunc_ext h1 h2 h3 h4 h5 ?_, m, rfl, r2, r3, trivial⟩
        show (Extern.Atomic.storeT #[.pointer (some ((m id).at off)), .int .i64 n]).run P w = _
        rw [storeT_eq]
        simp only [Sem.run_bind, asAddr, pure, Sem.run, Result.andThen_ok, Extern.Atomic.none_]
        have r1 : (store ((m id).at off) (.int .i64 n) .atomic).run P w = .ok () w' := r1
        rw [r1]; rfl
      · cases e
    · cases e
  · cases e
theorem gAdd_fits (h : IsExt P f (Extern.Atomic.update (Op.intArith .add) .i64 true)) : ∀ args H v H', gAdd args H = some (v, H') → ETrip P f args H v H' := by
  intro args H v H' e
  obtain ⟨fn, h1, h2, h3, h4, h5⟩ := h
  unfold gAdd at e
  split at e
  · rename_i id off d
    split at e
    · rename_i e0 cells hi
      split at e
      · rename_i n hc
        cases e
        refine ⟨Nat.le_refl _, fun m w S _ => ?_⟩
        have ho : off < cells.length := by
          rcases Nat.lt_or_ge off cells.length with h | h
          · exact h
          · rw [List.getElem?_eq_none h] at hc; cases hc
        obtain ⟨w', r1, r2, r3⟩ := store_atomic S hi ho (v := .int .i64 (IntKind.i64.wrap (n + d))) rfl trivial
        refine ⟨.int .i64 (IntKind.i64.wrap (n + d)), w', callFunc_ext h1 h2 h3 h4 h5 ?_, m, rfl, r2, r3, trivial⟩
        have r1 : (store ((m id).at off) (.int .i64 (IntKind.i64.wrap (n + d))) .atomic).run P w = .ok () w' := r1
        show (Extern.Atomic.update (Op.intArith .add) .i64 true #[.pointer (some ((m id).at off)), .int .i64 d]).run P w = _
        rw [updateT_eq]
        have a1 : ∀ k, (asInt (.int .i64 k)).run P w = .ok k w := fun _ => rfl
        have a2 : (Op.intArith .add .i64 n d).run P w = .ok (.int .i64 (IntKind.i64.wrap (n + d))) w := rfl
        have a3 : (asAddr (.pointer (some ((m id).at off)))).run P w = .ok ((m id).at off) w := rfl
        simp only [Sem.run_bind, a3, Result.andThen_ok, readA_run S hi hc, a1, a2, r1]
        rfl
      · cases e
    · cases e
  · cases e
end
end Go.Wam
