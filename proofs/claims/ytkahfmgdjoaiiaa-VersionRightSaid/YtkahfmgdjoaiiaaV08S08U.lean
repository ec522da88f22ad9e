/- Plain: what becomes of chains. No condition. -/
import Derived.Test.YtkahfmgdjoaiiaaV08S08T
set_option linter.unusedVariables false
set_option linter.unusedSimpArgs false
namespace Go.Proofs.Ytkahfmgdjoaiiaa
open Go.Wam

theorem above_eq {L : List Ve} (h : rightA (L.map Ve.at_) = true) {s : Stp} {n : Nat} (hn : n ≤ L.length) (h1 : ∀ j, j < n → uptoB (atV L j).at_ s = true) (h2 : ∀ j, n ≤ j → j < L.length → uptoB (atV L j).at_ s = false) : aboveN L s = n := by
  have h3 := aboveN_le L s
  by_cases ha : aboveN L s < n
  · have := h1 _ ha
    rw [above_iff h s (by omega)] at this
    simp at this
  · by_cases hb : n < aboveN L s
    · have := h2 n (Nat.le_refl _) (by omega)
      rw [above_iff h s (by omega)] at this
      simp at this
      omega
    · omega
theorem above_mono {L : List Ve} (h : rightA (L.map Ve.at_) = true) {f t : Stp} (hft : uptoB f t = true) : aboveN L f ≤ aboveN L t := by
  by_cases hc : aboveN L t < aboveN L f
  · have h3 := aboveN_le L f
    have e1 := above_iff h f (by omega : aboveN L t < L.length)
    have e2 := above_iff h t (by omega : aboveN L t < L.length)
    simp [hc] at e1 e2
    rw [uptoB_iff] at e1 hft
    rw [← Bool.not_eq_true, uptoB_iff] at e2
    omega
  · omega
theorem lt_upto {a b : Stp} (h : ltS a b = true) : uptoB a b = true := by rw [ltS_iff] at h; rw [uptoB_iff]; omega
theorem not_upto {a b : Stp} : uptoB b a = false ↔ ltS a b = true := by rw [← Bool.not_eq_true, uptoB_iff, ltS_iff]; omega
theorem upto_refl (a : Stp) : uptoB a a = true := by rw [uptoB_iff]; omega
theorem atV_append {L : List Ve} {x : Ve} {j : Nat} (hj : j < L.length) : atV (L ++ [x]) j = atV L j := by unfold atV; rw [List.getElem?_append_left hj]
theorem atV_last {L : List Ve} {x : Ve} : atV (L ++ [x]) L.length = x := by unfold atV; rw [List.getElem?_append_right (Nat.le_refl _), Nat.sub_self]; rfl
theorem map_append_at (L : List Ve) (x : Ve) : (L ++ [x]).map Ve.at_ = L.map Ve.at_ ++ [x.at_] := by simp
theorem right_left {L : List Ve} {x : Ve} (h : rightA ((L ++ [x]).map Ve.at_) = true) : rightA (L.map Ve.at_) = true := by
  rw [map_append_at, rightA_append] at h; exact (Bool.and_eq_true _ _ ▸ h : _ ∧ _).1
/-- One more that is later. -/
theorem right_more {L : List Ve} {x : Stp} (h : rightA (L.map Ve.at_) = true) (h1 : rightT x = true) (h2 : L = [] ∨ ltS (lastS L) x = true) : rightA (L.map Ve.at_ ++ [x]) = true := by
  rw [rightA_append, h, h1]
  simp only [Bool.true_and, Bool.or_eq_true, decide_eq_true_eq, List.map_eq_nil_iff]
  rcases h2 with h2 | h2
  · exact .inl h2
  · by_cases hL : L = []
    · exact .inl hL
    · exact .inr (by rw [lastS_at L hL]; exact h2)
theorem more_last {L : List Ve} {x : Stp} (h : rightA (L.map Ve.at_ ++ [x]) = true) : rightA (L.map Ve.at_) = true ∧ rightT x = true ∧ (L = [] ∨ ltS (lastS L) x = true) := by
  rw [rightA_append] at h
  simp only [Bool.and_eq_true, Bool.or_eq_true, decide_eq_true_eq, List.map_eq_nil_iff] at h
  refine ⟨h.1, h.2.1, ?_⟩
  rcases h.2.2 with h2 | h2
  · exact .inl h2
  · by_cases hL : L = []
    · exact .inl hL
    · exact .inr (by rw [← lastS_at L hL]; exact h2)
theorem above_more {L : List Ve} {x : Ve} (h : rightA ((L ++ [x]).map Ve.at_) = true) (s : Stp) (hx : ltS s x.at_ = true) : aboveN (L ++ [x]) s = aboveN L s := by
  have hL := right_left h
  have hl := aboveN_le L s
  refine above_eq h (by simp; omega) ?_ ?_
  · intro j hj
    rw [atV_append (by omega), above_iff hL s (by omega)]; simpa using hj
  · intro j hj hj'
    simp at hj'
    by_cases he : j = L.length
    · subst he; rw [atV_last]; exact not_upto.2 hx
    · rw [atV_append (by omega), above_iff hL s (by omega)]; simpa using hj
theorem le_last {L : List Ve} (h : rightA (L.map Ve.at_) = true) {j : Nat} (hj : j < L.length) : uptoB (atV L j).at_ (lastS L) = true := by
  have := rightA_le h (i := j) (j := L.length - 1) (by omega) (by simp; omega)
  rw [atS_map L hj, atS_map L (by omega)] at this
  exact this
theorem above_end {L : List Ve} {x : Ve} (h : rightA ((L ++ [x]).map Ve.at_) = true) : aboveN (L ++ [x]) x.at_ = L.length + 1 := by
  refine above_eq h (by simp) ?_ ?_
  · intro j hj
    by_cases he : j = L.length
    · subst he; rw [atV_last]; exact upto_refl _
    · have hm := map_append_at L x ▸ h
      have := (more_last hm).2.2
      rcases this with h0 | h0
      · subst h0; simp at hj he; omega
      · rw [atV_append (by omega)]
        have h1 := le_last (right_left h) (by omega : j < L.length)
        rw [uptoB_iff] at h1 ⊢
        rw [ltS_iff] at h0
        omega
  · intro j hj hj'; simp at hj'; omega
theorem rightC_open {c : Ch} (h : rightC c = true) (ho : c.op = true) : rightA (c.L.map Ve.at_) = true ∧ rightT c.i.at_ = true ∧ (c.L = [] ∨ ltS (lastS c.L) c.i.at_ = true) := by
  unfold rightC atsC at h
  rw [ho] at h
  simp only [if_true, Bool.and_eq_true] at h
  exact more_last h.1
theorem rightC_shut {c : Ch} (h : rightC c = true) (ho : c.op = false) : c.i = zIt := by
  unfold rightC at h
  rw [ho] at h
  simp at h
  exact h.2
theorem right_new {L : List Ve} {i : It} (h : rightA (L.map Ve.at_) = true) (h1 : rightT i.at_ = true) (h2 : L = [] ∨ ltS (lastS L) i.at_ = true) : rightC ⟨L, true, i⟩ = true := by
  unfold rightC atsC; simp [right_more h h1 h2]
theorem right_none {L : List Ve} (h : rightA (L.map Ve.at_) = true) : rightC ⟨L, false, zIt⟩ = true := by
  unfold rightC atsC; simp [h]
theorem next_up {a : Stp} (h : (nextS a).2 = 0) : rightT (nextS a).1 = true ∧ ltS a (nextS a).1 = true := by
  unfold nextS at h ⊢
  split
  · rename_i h0; rw [if_pos h0] at h; cases h
  · rename_i h0
    have hr : rightT a = true := by cases hx : rightT a <;> simp_all
    have hb := right_bounds hr
    have h0 : ¬ (a.1 = 1099511627776 ∧ a.2 = 65535) := fun hh => h0 (.inr hh)
    clear h
    split
    · refine ⟨by simp [rightT]; omega, by rw [ltS_iff]; exact .inl (by simp only; omega)⟩
    · refine ⟨by simp [rightT]; omega, by rw [ltS_iff]; exact .inr ⟨rfl, by simp only; omega⟩⟩
theorem maxS_ge (a b : Stp) : uptoB a (maxS a b) = true ∧ uptoB b (maxS a b) = true := by
  unfold maxS
  split
  all_goals (rename_i h; simp only [ltS_iff] at h; rw [uptoB_iff, uptoB_iff]; omega)
theorem upto_trans {a b c : Stp} (h : uptoB a b = true) (h' : uptoB b c = true) : uptoB a c = true := by rw [uptoB_iff] at *; omega
theorem lt_upto_trans {a b c : Stp} (h : ltS a b = true) (h' : uptoB b c = true) : ltS a c = true := by rw [uptoB_iff] at *; rw [ltS_iff] at *; omega
theorem upS_ge (L : List Ve) (s : Stp) : uptoB s (upS L s) = true ∧ (¬ L = [] → uptoB (nextS (lastS L)).1 (upS L s) = true) := by
  unfold upS
  split
  · exact ⟨upto_refl _, fun h => absurd ‹_› h⟩
  · exact ⟨(maxS_ge _ _).1, fun _ => (maxS_ge _ _).2⟩
theorem least_is {L : List Ve} {op : Bool} {ia s : Stp} (h : (leastC L op ia s).2 = 0) : rightT (leastC L op ia s).1 = true ∧ uptoB s (leastC L op ia s).1 = true ∧ (L = [] ∨ ltS (lastS L) (leastC L op ia s).1 = true) := by
  unfold leastC at h ⊢
  by_cases h1 : ¬ L = [] ∧ ¬ (nextS (lastS L)).2 = 0
  · rw [if_pos h1] at h; exact absurd h h1.2
  · rw [if_neg h1] at h ⊢
    by_cases h2 : rightT (if op = true then maxS (upS L s) ia else upS L s) = true
    · rw [if_pos h2]
      simp only
      have hu : uptoB (upS L s) (if op = true then maxS (upS L s) ia else upS L s) = true := by
        split
        · exact (maxS_ge _ _).1
        · exact upto_refl _
      refine ⟨h2, upto_trans (upS_ge L s).1 hu, ?_⟩
      by_cases hL : L = []
      · exact .inl hL
      · have h3 : (nextS (lastS L)).2 = 0 := Decidable.byContradiction fun hh => h1 ⟨hL, hh⟩
        exact .inr (lt_upto_trans (next_up h3).2 (upto_trans ((upS_ge L s).2 hL) hu))
    · rw [if_neg h2] at h; cases h
/-- What a write that is none of the errors leaves. -/
theorem write_is {c : Ch} (hr : rightC c = true) {i : It} (h : (writeC c i).2.2.2 = 0) :
    (writeC c i = (c, c.i.at_, zMt, 0) ∧ c.op = true ∧ c.i.m.id = i.m.id ∧ c.i.m.ep = i.m.ep ∧ i.seq ≤ c.i.seq ∧ ¬ c.L.any (fun x => decide (x.by_ = i.m.id)) = true) ∨
    (∃ s, writeC c i = (⟨c.L, true, { i with at_ := s }⟩, s, zMt, 0) ∧ rightT s = true ∧ uptoB i.at_ s = true ∧ (c.L = [] ∨ ltS (lastS c.L) s = true) ∧ (c.op = true → c.i.m.id = i.m.id) ∧ ¬ c.L.any (fun x => decide (x.by_ = i.m.id)) = true ∧ ¬ (c.op = true ∧ c.i.m.ep = i.m.ep ∧ i.seq ≤ c.i.seq)) := by
  unfold writeC at h ⊢
  by_cases h1 : c.op = true ∧ ¬ c.i.m.id = i.m.id
  · rw [if_pos h1] at h; cases h
  rw [if_neg h1] at h ⊢
  by_cases h2 : c.L.any (fun x => decide (x.by_ = i.m.id)) = true
  · rw [if_pos h2] at h; cases h
  rw [if_neg h2] at h ⊢
  by_cases h3 : c.op = true ∧ i.m.ep < c.i.m.ep
  · rw [if_pos h3] at h; cases h
  rw [if_neg h3] at h ⊢
  by_cases h4 : c.op = true ∧ c.i.m.ep = i.m.ep ∧ i.seq ≤ c.i.seq
  · rw [if_pos h4]
    exact .inl ⟨rfl, h4.1, Decidable.byContradiction fun hh => h1 ⟨h4.1, hh⟩, h4.2.1, h4.2.2, h2⟩
  rw [if_neg h4] at h ⊢
  by_cases h5 : (leastC c.L c.op c.i.at_ i.at_).2 = 0
  · rw [if_pos h5]
    obtain ⟨a1, a2, a3⟩ := least_is h5
    exact .inr ⟨_, rfl, a1, a2, a3, fun ho => Decidable.byContradiction fun hh => h1 ⟨ho, hh⟩, h2, h4⟩
  · rw [if_neg h5] at h; cases h
/-- What a decision leaves. -/
theorem resolve_is {c : Ch} (hr : rightC c = true) {id ep : Int} {commit : Bool} {a : Stp} (h : (resolveC c id ep commit a).2 = 0) :
    (resolveC c id ep commit a = (c, 0)) ∨ (resolveC c id ep commit a = (⟨c.L, false, zIt⟩, 0)) ∨
    (resolveC c id ep commit a = (⟨c.L ++ [⟨a, c.i.val, c.i.gone, id⟩], false, zIt⟩, 0) ∧ c.op = true ∧ c.i.m.id = id ∧ rightT a = true ∧ (c.L = [] ∨ ltS (lastS c.L) a = true)) := by
  unfold resolveC at h ⊢
  by_cases h1 : keepC c id ep commit = true
  · rw [if_pos h1]; exact .inl rfl
  rw [if_neg h1] at h ⊢
  by_cases h2 : commit = true ∧ c.i.m.ep = ep
  · rw [if_pos h2] at h ⊢
    by_cases h3 : lateC c.L a = true
    · rw [if_pos h3] at h; cases h
    · rw [if_neg h3]
      refine .inr (.inr ⟨rfl, ?_, ?_, ?_, ?_⟩)
      · unfold keepC at h1; simp at h1; exact h1.1
      · unfold keepC at h1; simp at h1; exact h1.2.1
      · unfold lateC at h3; simp at h3; exact h3.1
      · unfold lateC at h3; simp at h3
        by_cases hL : c.L = []
        · exact .inl hL
        · exact .inr (not_upto.1 (h3.2 hL))
  · rw [if_neg h2]; exact .inr (.inl rfl)
theorem right_write {c : Ch} (hr : rightC c = true) {i : It} (h : (writeC c i).2.2.2 = 0) : rightC (writeC c i).1 = true := by
  rcases write_is hr h with h1 | ⟨s, h1, h2, h3, h4, _⟩
  · rw [h1.1]; exact hr
  · rw [h1]; exact right_new (rightC_L hr) h2 h4
theorem right_resolve {c : Ch} (hr : rightC c = true) {id ep : Int} {commit : Bool} {a : Stp} (h : (resolveC c id ep commit a).2 = 0) : rightC (resolveC c id ep commit a).1 = true := by
  rcases resolve_is hr h with h1 | h1 | ⟨h1, _, _, h2, h3⟩
  · rw [h1]; exact hr
  · rw [h1]; exact right_none (rightC_L hr)
  · rw [h1]; refine right_none ?_
    rw [map_append_at]; exact right_more (rightC_L hr) h2 h3
end Go.Proofs.Ytkahfmgdjoaiiaa
