/- The abstract machine: a step of a range over a map. No condition. -/
import Derived.Test.YtpdmmpajjdaebaaGreatAmP
import Derived.Laws.IdiomRangeMap
set_option linter.unusedVariables false
set_option linter.unusedSimpArgs false
namespace Go.Wam
section
variable {P : Program} {m : Nat → Loc} {ml : Nat → Nat} {loc : List (Nat × List AV)} {H : AHeap} {w w' : World}

theorem run_next_left (w : World) (ty : TypeId) (r bm since : Nat) (seen : Array Nat) (es : Array MapEntry) (hr : w.heap[r]? = some (.mapIter (some bm) since seen since)) (hb : w.heap[bm]? = some (.map es since)) (hold : ∀ x ∈ es.toList, x.born < since) :
    ((es.filter fun e => !seen.contains e.born).size = 0 ∧ (Instr.next (.pointer (some ⟨r, 0, none⟩)) false ty).run P w = .ok (.tuple #[.bool false]) w) ∨
    ∃ e ∈ (es.filter fun e => !seen.contains e.born).toList, ∃ d : Nat, (Instr.next (.pointer (some ⟨r, 0, none⟩)) false ty).run P w = .ok (.tuple #[.bool true, e.key, e.val]) { w with drawn := d, heap := w.heap.setIfInBounds r (.mapIter (some bm) since (seen.push e.born) since) } := by
  simp only [Instr.next, getObj, Sem.run_bind, Sem.run, hr, hb, Result.andThen, next_test_false seen es since since hold (Nat.le_refl _), Bool.false_eq_true, if_false]
  have hmem : ∀ x ∈ (Array.filter (fun e => !seen.contains e.born) es).toList, x.born < since := fun x hx => hold x (by simp at hx ⊢; exact hx.1)
  generalize Array.filter (fun e => !seen.contains e.born) es = L at hmem ⊢
  have e1 : L.filter (fun x => decide (x.born < since)) = L := Array.filter_eq_self.2 (fun x hx => by simpa using hmem x (by simpa using hx))
  have e2 : L.filter (fun x => decide (x.born ≥ since)) = #[] := by
    rw [Array.filter_eq_empty_iff]
    intro x hx
    have := hmem x (by simpa using hx)
    simp
    omega
  simp only [e1, e2, Array.append_empty]
  by_cases h0 : L.size = 0
  · left
    have : L = #[] := Array.eq_empty_of_size_eq_zero h0
    subst this
    refine ⟨rfl, ?_⟩
    simp [choose, Sem.run, Question.forced]
  · right
    have hne : L.isEmpty = false := by simp [Array.isEmpty, h0]
    simp only [hne, Bool.false_eq_true, if_false, Array.empty_append, Array.size_map]
    have hch : ∃ (j d : Nat), j < L.size ∧ (choose (Question.mapNext L.size)).run P w = .ok j { w with drawn := d } := by
      by_cases hf : L.size ≤ 1
      · exact ⟨0, w.drawn, by omega, by simp [choose, Sem.run, Question.forced, hf]⟩
      · exact ⟨_, w.drawn + 1, Nat.mod_lt _ (by omega), by
          simp only [choose, Sem.run, Question.forced, decide_eq_true_eq, hf, if_false, Question.cut]
          rfl⟩
    obtain ⟨j, d, hj, hrun⟩ := hch
    refine ⟨L[j], by simp, d, ?_⟩
    simp only [hrun, Array.getElem?_map, Array.getElem?_eq_getElem hj, Option.map_some, Sem.run_bind, setObj, Sem.run, hr, Result.andThen]
    rfl

def wNext (m : Nat → Loc) (w : World) (r id since b : Nat) (seen : List Nat) (d : Nat) : World :=
  { w with drawn := d, heap := w.heap.setIfInBounds (m r).block (.mapIter (some (m id).block) since (seen.reverse.toArray.push b) since) }

theorem nextM_sim {r id since : Nat} {seen : List Nat} {es : List ME} (S : Sim P m ml loc H w) (hr : H.get r = some (.miter (some id) since seen since)) (hid : H.get id = some (.map es since)) {e : ME} (he : e ∈ es) (d : Nat) :
    Sim P m ml loc (H.set r (.miter (some id) since (e.2.2 :: seen) since)) (wNext m w r id since e.2.2 seen d) ∧ Grow m ml loc H w m ml loc (H.set r (.miter (some id) since (e.2.2 :: seen) since)) (wNext m w r id since e.2.2 seen d) ∧
    (AV.tuple [.bool true, e.1, e.2.1]).okP (good m H.n) := by
  obtain ⟨b1, b2⟩ := S.obj r _ hr
  have hok := S.ok id _ hid e he
  refine ⟨?_, ?_, by simp [AV.okP, AV.okPL, hok]⟩
  · refine S.set_obj hr rfl ⟨?_, b2⟩ (show AObj.okP (good m H.n) (.miter (some id) since (e.2.2 :: seen) since) from (by have := S.ok r _ hr; exact this)) rfl fun b hb => ?_
    · have := (Go.MapKept.heap_set (o' := .mapIter (some (m id).block) since (seen.reverse.toArray.push e.2.2) since) b1).1
      unfold wNext
      simpa using this
    · exact Array.getElem?_setIfInBounds_ne (fun e => hb e.symm)
  · refine .of_set S.wf hr rfl rfl ⟨fun b hb => ?_, by simp [wNext], rfl, rfl, rfl⟩
    exact Array.getElem?_setIfInBounds_ne (fun e => hb e.symm)

theorem nextM_run {r id since : Nat} {seen : List Nat} {es : List ME} {ty : TypeId} (S : Sim P m ml loc H w) (hr : H.get r = some (.miter (some id) since seen since)) (hid : H.get id = some (.map es since)) :
    ((es.filter fun e => !seen.contains e.2.2) = [] ∧ (Instr.next (conc m ml (.ptr r 0)) false ty).run P w = .ok (conc m ml (.tuple [.bool false])) w) ∨
    ∃ e ∈ (es.filter fun e => !seen.contains e.2.2), ∃ d, (Instr.next (conc m ml (.ptr r 0)) false ty).run P w = .ok (conc m ml (.tuple [.bool true, e.1, e.2.1])) (wNext m w r id since e.2.2 seen d) := by
  obtain ⟨b1, b2⟩ := S.obj r _ hr
  obtain ⟨ces, c1, M⟩ := S.obj id _ hid
  obtain ⟨M1, M2, M3, M4⟩ := M
  have hl : conc m ml (.ptr r 0) = .pointer (some ⟨(m r).block, 0, none⟩) := by simp [conc, Loc.at, b2]
  rw [hl]
  have tr : ∀ ce ∈ ces.toList, ∃ e ∈ es, ce.key = conc m ml e.1 ∧ ce.val = conc m ml e.2.1 ∧ ce.born = e.2.2 := by
    intro ce hce
    have := (M1.mem_iff (a := (ce.key, ce.val, ce.born))).1 (List.mem_map.2 ⟨ce, hce, rfl⟩)
    obtain ⟨e, he, h⟩ := List.mem_map.1 this
    simp only [Prod.mk.injEq] at h
    exact ⟨e, he, h.1.symm, h.2.1.symm, h.2.2.symm⟩
  have hold : ∀ x ∈ ces.toList, x.born < since := fun x hx => by
    obtain ⟨e, he, _, _, h⟩ := tr x hx
    rw [h]; exact M2 e he
  rcases run_next_left (P := P) w ty _ _ since seen.reverse.toArray ces (by simpa using b1) c1 hold with ⟨h0, hrun⟩ | ⟨ce, hce, d, hrun⟩
  · left
    refine ⟨?_, by simpa [conc, concL] using hrun⟩
    rw [List.filter_eq_nil_iff]
    intro e he hse
    have := (M1.mem_iff (a := (conc m ml e.1, conc m ml e.2.1, e.2.2))).2 (List.mem_map.2 ⟨e, he, rfl⟩)
    obtain ⟨ce, hce, h⟩ := List.mem_map.1 this
    simp only [Prod.mk.injEq] at h
    have hm : ce ∈ ces.filter fun e => !seen.reverse.toArray.contains e.born := by
      rw [Array.mem_filter]
      refine ⟨by simpa using hce, ?_⟩
      rw [h.2.2]
      simpa using hse
    have := Array.size_pos_of_mem hm
    omega
  · right
    rw [Array.mem_toList_iff, Array.mem_filter] at hce
    obtain ⟨hce, hns⟩ := hce
    obtain ⟨e, he, k1, k2, k3⟩ := tr ce (by simpa using hce)
    refine ⟨e, List.mem_filter.2 ⟨he, by rw [k3] at hns; simpa using hns⟩, d, ?_⟩
    rw [hrun, k1, k2, k3]
    simp [conc, concL, wNext]
end
end Go.Wam
