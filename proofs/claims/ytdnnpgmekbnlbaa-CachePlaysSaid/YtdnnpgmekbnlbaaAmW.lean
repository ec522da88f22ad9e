/- Our machine: more about lists that are one's own. No condition. -/
import Derived.Test.YtdnnpgmekbnlbaaAmV
set_option linter.unusedVariables false
set_option linter.unusedSimpArgs false
namespace Go.Wam
/-- One's own list, cut ahead of a place. -/
theorem own_takev {H : AHeap} {v : AV} {rows : List (List AV)} {sz i : Nat} (h : Own H sz v rows) (hi : i < rows.length) :
    ∃ u, sliceA (.slice sz) v 0 (some i) none = some u ∧ View H sz u (rows.take i) := by
  obtain ⟨he, ⟨_, rfl⟩ | ⟨id, kc, rest, rfl, hk, hkr, hg⟩⟩ := h
  · simp at hi
  have hin : inB rows.length kc 0 (some i) none = true := by simp [inB]; omega
  have hfl : rows.flatten.length = rows.length * sz := flatten_len he
  have hsp : (rows.take i).flatten.length = i * sz := by
    rw [flatten_len (sz := sz) (fun r hr => he r (List.mem_of_mem_take hr)), List.length_take, Nat.min_eq_left (by omega)]
  have hcut : rows.flatten = (rows.take i).flatten ++ (rows.drop i).flatten := by rw [← List.flatten_append, List.take_append_drop]
  have hle : i * sz ≤ rows.length * sz := Nat.mul_le_mul_right _ (by omega)
  refine ⟨.oslice id 0 i kc sz, by simp [sliceA, hin]; omega, ?_, by simp; omega, fun r hr => he r (List.mem_of_mem_take hr), fun _ => ⟨false, sz, _, hg, ?_, ?_⟩⟩
  · simp [AV.sl]; omega
  · rw [soff_oslice, List.length_take, Nat.min_eq_left (by omega), List.length_append, hfl]; omega
  · rw [soff_oslice, List.drop_zero, List.length_take, Nat.min_eq_left (by omega), hcut, List.append_assoc, ← hsp, List.take_left]

theorem own_dropv {H : AHeap} {v : AV} {rows : List (List AV)} {sz i : Nat} (h : Own H sz v rows) (hi : i < rows.length) :
    ∃ u, sliceA (.slice sz) v (i + 1) none none = some u ∧ View H sz u (rows.drop (i + 1)) ∧ (0 < (rows.drop (i + 1)).length → sid u = sid v) := by
  obtain ⟨he, ⟨_, rfl⟩ | ⟨id, kc, rest, rfl, hk, hkr, hg⟩⟩ := h
  · simp at hi
  have hin : inB rows.length kc (i + 1) none none = true := by simp [inB]; omega
  have hfl : rows.flatten.length = rows.length * sz := flatten_len he
  have hsp : (rows.take (i + 1)).flatten.length = (i + 1) * sz := by
    rw [flatten_len (sz := sz) (fun r hr => he r (List.mem_of_mem_take hr)), List.length_take, Nat.min_eq_left (by omega)]
  have hsd : (rows.drop (i + 1)).flatten.length = (rows.length - (i + 1)) * sz := by
    rw [flatten_len (sz := sz) (fun r hr => he r (List.mem_of_mem_drop hr)), List.length_drop]
  have hcut : rows.flatten = (rows.take (i + 1)).flatten ++ (rows.drop (i + 1)).flatten := by rw [← List.flatten_append, List.take_append_drop]
  by_cases hlt : i + 1 < kc
  · refine ⟨.oslice id (0 + (i + 1) * sz) (rows.length - (i + 1)) (kc - (i + 1)) sz, by simp [sliceA, hin, hlt], ⟨?_, by simp, fun r hr => he r (List.mem_of_mem_drop hr), fun _ => ⟨false, sz, _, hg, ?_, ?_⟩⟩, fun _ => rfl⟩
    · simp [AV.sl]; omega
    · rw [soff_oslice, List.length_drop, List.length_append, hfl]
      have : (i + 1) * sz + (rows.length - (i + 1)) * sz = rows.length * sz := by rw [← Nat.add_mul]; congr 1; omega
      omega
    · rw [soff_oslice, Nat.zero_add, hcut, List.append_assoc, ← hsp, List.drop_left, List.length_drop, ← hsd, List.take_left]
  · have hn : rows.drop (i + 1) = [] := List.drop_of_length_le (by omega)
    refine ⟨.eslice id 0 (i + 1) sz, by simp [sliceA, hin, hlt], ?_, fun h => by rw [hn] at h; simp at h⟩
    rw [hn]
    exact ⟨rfl, rfl, fun r hr => (by cases hr), fun h => (by simp at h)⟩

theorem own_okB {K : AHeap} {sz : Nat} {v : AV} {rows : List (List AV)} (h : Own K sz v rows) (hw : K.wf) (hl : ∀ id, v = .slice id 0 0 0 → id < K.n) : v.okB K.n = true := by
  have hlt := h.lt hw
  obtain ⟨_, ⟨rfl | ⟨id, rfl⟩, _⟩ | ⟨id, kc, rest, rfl, _⟩⟩ := h
  · simp
  · rw [AV.okB]; exact decide_eq_true (hl id rfl)
  · rw [AV.okB]; exact decide_eq_true (hlt id (by simp))
theorem own_sid {K : AHeap} {sz : Nat} {v : AV} {rows : List (List AV)} (h : Own K sz v rows) (hr : 0 < rows.length) : sown v = [sid v] := by
  obtain ⟨_, ⟨_, rfl⟩ | ⟨id, kc, rest, rfl, _⟩⟩ := h
  · simp at hr
  · rfl

theorem append_okB {H K : AHeap} {sz bytes : Nat} {v x v' : AV} {rows more : List (List AV)} (h : Own H sz v rows) (hx : View H sz x more) (ok : K.wf) (ha : appendA H sz bytes v x = some (v', K)) (h2 : Own K sz v' (rows ++ more)) (hv : v.okB H.n = true) : v'.okB K.n = true := by
  by_cases hm : 0 < (rows ++ more).length
  · exact own_okB h2 ok (fun id hid => by have := own_sid h2 hm; rw [hid] at this; cases this)
  · simp only [List.length_append] at hm
    have h1 : rows = [] := List.length_eq_zero_iff.1 (by omega)
    have h3 : more = [] := List.length_eq_zero_iff.1 (by omega)
    subst h1 h3
    have hf := hx.first
    obtain ⟨he, ⟨rfl | ⟨id, rfl⟩, _⟩ | ⟨id, kc, rest, rfl, hk, hkr, hg⟩⟩ := h <;> simp [appendA, hf] at ha <;> obtain ⟨rfl, rfl⟩ := ha <;> exact hv

theorem okB_sl {sz n n' : Nat} {v : AV} (hs : v.sl sz = true) (h : v.okB n = true) (hn : n ≤ n') : v.okB n' = true := by
  cases v <;> first | (simp [AV.sl] at hs; done) | (simp [AV.okB] at h ⊢) <;> omega
end Go.Wam
