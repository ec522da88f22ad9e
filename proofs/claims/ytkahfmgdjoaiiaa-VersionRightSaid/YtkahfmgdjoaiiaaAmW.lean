/- Our machine: more about lists that are one's own. No condition. -/
import Derived.Test.YtkahfmgdjoaiiaaAmV
set_option linter.unusedVariables false
set_option linter.unusedSimpArgs false
namespace Go.Wam
/-- One's own list, cut ahead of a place. -/
theorem own_takev {H : AHeap} {v : AV} {rows : List (List AV)} {sz i : Nat} (h : Own H sz v rows) (hi : i < rows.length) :
    ∃ u, sliceA (.slice sz) v 0 (some i) none = some u ∧ View H sz u (rows.take i) := by
  obtain ⟨he, ⟨_, rfl⟩ | ⟨id, kc, rest, rfl, hk, hkr, hg⟩⟩ := h
  · simp at hi
  have hin : inB rows.length kc 0 (some i) none = true := by simp [inB]; omega
  have hfl : rows.flatten.length = rows.length * sz := flatten_len he
  have hsp : (rows.take i).flatten.length = i * sz := by
    rw [flatten_len (sz := sz) (fun r hr => he r (List.mem_of_mem_take hr)), List.length_take, Nat.min_eq_left (by omega)]
  have hcut : rows.flatten = (rows.take i).flatten ++ (rows.drop i).flatten := by rw [← List.flatten_append, List.take_append_drop]
  have hle : i * sz ≤ rows.length * sz := Nat.mul_le_mul_right _ (by omega)
  refine ⟨.oslice id 0 i kc sz, by simp [sliceA, hin]; omega, ?_, by simp; omega, fun r hr => he r (List.mem_of_mem_take hr), fun _ => ⟨false, sz, _, hg, ?_, ?_⟩⟩
  · simp [AV.sl]; omega
  · rw [soff_oslice, List.length_take, Nat.min_eq_left (by omega), List.length_append, hfl]; omega
  · rw [soff_oslice, List.drop_zero, List.length_take, Nat.min_eq_left (by omega), hcut, List.append_assoc, ← hsp, List.take_left]

theorem own_dropv {H : AHeap} {v : AV} {rows : List (List AV)} {sz i : Nat} (h : Own H sz v rows) (hi : i < rows.length) :
    ∃ u, sliceA (.slice sz) v (i + 1) none none = some u ∧ View H sz u (rows.drop (i + 1)) ∧ (0 < (rows.drop (i + 1)).length → sid u = sid v) := by
  obtain ⟨he, ⟨_, rfl⟩ | ⟨id, kc, rest, rfl, hk, hkr, hg⟩⟩ := h
  · simp at hi
  have hin : inB rows.length kc (i + 1) none none = true := by simp [inB]; omega
  have hfl : rows.flatten.length = rows.length * sz := flatten_len he
  have hsp : (rows.take (i + 1)).flatten.length = (i + 1) * sz := by
    rw [flatten_len (sz := sz) (fun r hr => he r (List.mem_of_mem_take hr)), List.length_take, Nat.min_eq_left (by omega)]
  have hsd : (rows.drop (i + 1)).flatten.length = (rows.length - (i + 1)) * sz := by
    rw [flatten_len (sz := sz) (fun r hr => he r (List.mem_of_mem_drop hr)), List.length_drop]
  have hcut : rows.flatten = (rows.take (i + 1)).flatten ++ (rows.drop (i + 1)).flatten := by rw [← List.flatten_append, List.take_append_drop]
  by_cases hlt : i + 1 < kc
  · refine ⟨.oslice id (0 + (i + 1) * sz) (rows.length - (i + 1)) (kc - (i + 1)) sz, by simp [sliceA, hin, hlt], ⟨?_, by simp, fun r hr => he r (List.mem_of_mem_drop hr), fun _ => ⟨false, sz, _, hg, ?_, ?_⟩⟩, fun _ => rfl⟩
    · simp [AV.sl]; omega
    · rw [soff_oslice, List.length_drop, List.length_append, hfl]
      have : (i + 1) * sz + (rows.length - (i + 1)) * sz = rows.length * sz := by rw [← Nat.add_mul]; congr 1; omega
      omega
    · rw [soff_oslice, Nat.zero_add, hcut, List.append_assoc, ← hsp, List.drop_left, List.length_drop, ← hsd, List.take_left]
  · have hn : rows.drop (i + 1) = [] := List.drop_of_length_le (by omega)
    refine ⟨.eslice id 0 (i + 1) sz, by simp [sliceA, hin, hlt], ?_, fun h => by rw [hn] at h; simp at h⟩
    rw [hn]
    exact ⟨rfl, rfl, fun r hr => (by cases hr), fun h => (by simp at h)⟩

theorem own_okB {K : AHeap} {sz : Nat} {v : AV} {rows : List (List AV)} (h : Own K sz v rows) (hw : K.wf) (hl : ∀ id, v = .slice id 0 0 0 → id < K.n) : v.okB K.n = true := by
  have hlt := h.lt hw
  obtain ⟨_, ⟨rfl | ⟨id, rfl⟩, _⟩ | ⟨id, kc, rest, rfl, _⟩⟩ := h
  · simp
  · rw [AV.okB]; exact decide_eq_true (hl id rfl)
  · rw [AV.okB]; exact decide_eq_true (hlt id (by simp))
theorem own_sid {K : AHeap} {sz : Nat} {v : AV} {rows : List (List AV)} (h : Own K sz v rows) (hr : 0 < rows.length) : sown v = [sid v] := by
  obtain ⟨_, ⟨_, rfl⟩ | ⟨id, kc, rest, rfl, _⟩⟩ := h
  · simp at hr
  · rfl

theorem append_okB {H K : AHeap} {sz bytes : Nat} {v x v' : AV} {rows more : List (List AV)} (h : Own H sz v rows) (hx : View H sz x more) (ok : K.wf) (ha : appendA H sz bytes v x = some (v', K)) (h2 : Own K sz v' (rows ++ more)) (hv : v.okB H.n = true) : v'.okB K.n = true := by
  by_cases hm : 0 < (rows ++ more).length
  · exact own_okB h2 ok (fun id hid => by have := own_sid h2 hm; rw [hid] at this; cases this)
  · simp only [List.length_append] at hm
    have h1 : rows = [] := List.length_eq_zero_iff.1 (by omega)
    have h3 : more = [] := List.length_eq_zero_iff.1 (by omega)
    subst h1 h3
    have hf := hx.first
    obtain ⟨he, ⟨rfl | ⟨id, rfl⟩, _⟩ | ⟨id, kc, rest, rfl, hk, hkr, hg⟩⟩ := h <;> simp [appendA, hf] at ha <;> obtain ⟨rfl, rfl⟩ := ha <;> exact hv

theorem okB_sl {sz n n' : Nat} {v : AV} (hs : v.sl sz = true) (h : v.okB n = true) (hn : n ≤ n') : v.okB n' = true := by
  cases v <;> first | (simp [AV.sl] at hs; done) | (simp [AV.okB] at h ⊢) <;> omega
theorem View.one {H : AHeap} {sz : Nat} {v : AV} {rows : List (List AV)} (h : View H sz v rows) : v.one = true := by
  have := h.sl
  cases v <;> first | rfl | (simp [AV.sl] at this)
/-- A slice that is read: where it stands, and that it is no later one. -/
structure SV (H : AHeap) (sz : Nat) (v : AV) (rows : List (List AV)) : Prop where
  view : View H sz v rows
  ok : v.okB H.n = true
theorem SV.top {H : AHeap} {sz : Nat} {v : AV} {rows : List (List AV)} (h : SV H sz v rows) : SV H.top sz v rows := ⟨h.view.top, h.ok⟩
theorem SV.new {H K : AHeap} {sz : Nat} {v : AV} {rows : List (List AV)} (hw : H.wf) (h : SV H sz v rows) (c : Chg [] H K) : SV K sz v rows := ⟨h.view.new hw c, okB_sl h.view.sl h.ok c.le⟩
theorem IsSl.sv {H : AHeap} {sz : Nat} {v : AV} {rows : List (List AV)} (hw : H.wf) (h : IsSl H sz v rows) : SV H sz v rows := by
  refine ⟨h.view, ?_⟩
  rcases h with ⟨rfl, rfl⟩ | ⟨b, o, s, rfl, rfl⟩ | ⟨id, cap, rfl, hc, hg, hr⟩
  · simp
  · rw [AV.okB] <;> simp
  · rw [AV.okB]; exact decide_eq_true (AHeap.get_lt hg hw)

theorem Chg.low_eq {H K : AHeap} (c : Chg [] H K) : K.low = H.low := Nat.le_antisymm c.lo (c.hi _ (Nat.le_refl _) (by simp))
/-- What is made of a list: new. -/
structure NewL (H K : AHeap) (sz : Nat) (v : AV) (rows : List (List AV)) : Prop where
  sv : SV K sz v rows
  chg : Chg [] H K
  new : 0 < rows.length → H.n ≤ sid v
theorem okB_sid {sz n : Nat} {v : AV} (hs : v.sl sz = true) (hv : v.okB n = true) (hl : 0 < slen v) : sid v < n := by
  cases v <;> first | (simp [AV.sl] at hs; done) | (simp [slen] at hl; done) | (simp [AV.okB] at hv; exact hv)
theorem SV.nil (H : AHeap) (sz : Nat) : SV H sz .nils [] := ⟨⟨rfl, rfl, fun r hr => (by cases hr), fun h => (by simp at h)⟩, by simp⟩
theorem NewL.nil (H : AHeap) (sz : Nat) : NewL H H sz .nils [] := ⟨.nil H sz, .refl _ _, fun h => by simp at h⟩
/-- Behind a call: what was made stays, where it is told. -/
theorem NewL.fin {H K : AHeap} {sz : Nat} {v w : AV} {rows : List (List AV)} (hok : H.ok) (m : NewL H.top K sz v rows) (hw : w.okB H.n = true → v.okB H.n = true) : NewL H (Go.Wam.fin H w K) sz v rows := by
  by_cases h : H.n ≤ K.low ∧ w.okB H.n = true
  · rw [fin_drop' h.1 h.2]
    have hv := hw h.2
    have h0 : rows = [] := by
      cases rows with
      | nil => rfl
      | cons r rs =>
        have h1 := m.new (by simp)
        have h2 := okB_sid m.sv.view.sl hv (by rw [m.sv.view.len]; simp)
        simp only [top_n] at h1
        omega
    subst h0
    exact ⟨⟨⟨m.sv.view.sl, m.sv.view.len, m.sv.view.each, fun h => by simp at h⟩, hv⟩, .refl _ _, fun h => by simp at h⟩
  · have e : Go.Wam.fin H w K = K.lowered H.low := by unfold Go.Wam.fin; rw [if_neg h]; rfl
    rw [e]
    exact ⟨⟨m.sv.view.frame fun _ => rfl, m.sv.ok⟩, m.chg.lowered hok, m.new⟩
theorem NewL.trans {H K L : AHeap} {sz : Nat} {v : AV} {rows : List (List AV)} (hok : H.ok) (c : Chg [] H K) (m : NewL K L sz v rows) : NewL H L sz v rows := ⟨m.sv, c.trans hok m.chg (by simp), fun h => Nat.le_trans c.le (m.new h)⟩
theorem okB_head {n : Nat} {v : AV} {cs : List AV} (h : (AV.agg (v :: cs)).okB n = true) : v.okB n = true := by
  rw [okB_agg, okL_cons] at h
  simp only [Bool.and_eq_true] at h
  exact h.1.1

/-- The same, of a list that may be added to. -/
structure NewO (H K : AHeap) (sz : Nat) (v : AV) (rows : List (List AV)) : Prop extends NewL H K sz v rows where
  own : Own K sz v rows
  mine : ∀ i ∈ sown v, H.n ≤ i
theorem NewO.nil (H : AHeap) (sz : Nat) : NewO H H sz .nils [] := ⟨.nil H sz, .nil H sz, by simp⟩
theorem NewO.fin {H K : AHeap} {sz : Nat} {v w : AV} {rows : List (List AV)} (hok : H.ok) (m : NewO H.top K sz v rows) (hw : w.okB H.n = true → v.okB H.n = true) : NewO H (Go.Wam.fin H w K) sz v rows := by
  refine ⟨m.toNewL.fin hok hw, ?_, m.mine⟩
  by_cases h : H.n ≤ K.low ∧ w.okB H.n = true
  · rw [fin_drop' h.1 h.2]
    refine m.own.frame fun i hi => ?_
    have h1 := m.mine i hi
    have h2 := hw h.2
    have := m.own
    obtain ⟨_, ⟨rfl | ⟨id, rfl⟩, _⟩ | ⟨id, kc, rest, rfl, _⟩⟩ := this
    · cases hi
    · cases hi
    · simp at hi
      subst hi
      simp [AV.okB] at h2
      simp only [top_n] at h1
      omega
  · have e : Go.Wam.fin H w K = K.lowered H.low := by unfold Go.Wam.fin; rw [if_neg h]; rfl
    rw [e]
    exact m.own.frame fun _ _ => rfl
theorem NewO.trans {H K L : AHeap} {sz : Nat} {v : AV} {rows : List (List AV)} (hok : H.ok) (c : Chg [] H K) (m : NewO K L sz v rows) : NewO H L sz v rows := ⟨m.toNewL.trans hok c, m.own, fun i hi => Nat.le_trans c.le (m.mine i hi)⟩
/-- Kept, where more is made. -/
theorem NewO.more {H K L : AHeap} {sz : Nat} {v : AV} {rows : List (List AV)} (hok : H.ok) (m : NewO H K sz v rows) (c : Chg [] K L) : NewO H L sz v rows :=
  have hw := (m.chg.ok hok).1
  ⟨⟨m.sv.new hw c, m.chg.trans hok c (by simp), m.new⟩, m.own.new hw c, m.mine⟩
theorem NewL.more {H K L : AHeap} {sz : Nat} {v : AV} {rows : List (List AV)} (hok : H.ok) (m : NewL H K sz v rows) (c : Chg [] K L) : NewL H L sz v rows :=
  ⟨m.sv.new (m.chg.ok hok).1 c, m.chg.trans hok c (by simp), m.new⟩
/-- Added to. -/
theorem NewO.append {H K : AHeap} {sz bytes : Nat} {v x : AV} {rows more : List (List AV)} (hok : H.ok) (m : NewO H K sz v rows) (hx : View K sz x more) (hz : 0 < sz) (hb : (rows.length + more.length) * bytes ≤ 2 ^ 47) :
    ∃ v' L, appendA K sz bytes v x = some (v', L) ∧ NewO H L sz v' (rows ++ more) ∧ v'.noL = true := by
  have okK := m.chg.ok hok
  obtain ⟨v', L, a1, o1, c1, n1, l1, vn⟩ := m.own.append' okK hx hz hb
  have okL := c1.ok okK
  have mine : ∀ i ∈ sown v', H.n ≤ i := fun i hi => by
    rcases n1 i hi with h | h
    · exact m.mine i h
    · exact Nat.le_trans m.chg.le h
  refine ⟨v', L, a1, ⟨⟨⟨o1.view, append_okB m.own hx okL.1 a1 o1 m.sv.ok⟩, m.chg.trans hok c1 (fun i hi => .inr (m.mine i hi)), fun h => ?_⟩, o1, mine⟩, vn⟩
  have := own_sid o1 h
  exact mine _ (by rw [this]; simp)
end Go.Wam
