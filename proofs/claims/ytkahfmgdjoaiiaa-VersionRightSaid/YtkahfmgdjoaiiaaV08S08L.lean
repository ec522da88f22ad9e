/- Plain: rising stamps, and places in them. No condition. -/
import Derived.Test.YtkahfmgdjoaiiaaV08S08K
set_option linter.unusedVariables false
set_option linter.unusedSimpArgs false
namespace Go.Proofs.Ytkahfmgdjoaiiaa
open Go.Wam

theorem ltS_iff (a b : Stp) : ltS a b = true ↔ a.1 < b.1 ∨ (a.1 = b.1 ∧ a.2 < b.2) := by simp [ltS]
theorem uptoB_iff (a b : Stp) : uptoB a b = true ↔ a.1 < b.1 ∨ (a.1 = b.1 ∧ a.2 ≤ b.2) := by
  unfold uptoB
  rw [Bool.not_eq_true', ← Bool.not_eq_true, ltS_iff]
  omega
theorem okAt_of {A : List Stp} (h : rightA A = true) {j : Nat} (hj : j < A.length) : okAt A j = true := by
  unfold rightA at h; rw [List.all_eq_true] at h; exact h j (List.mem_range.2 hj)
theorem rightA_lt {A : List Stp} (h : rightA A = true) {j : Nat} (hj : j + 1 < A.length) : ltS (atS A j) (atS A (j + 1)) = true := by
  have := okAt_of h hj
  unfold okAt at this
  simpa using (Bool.and_eq_true _ _ ▸ this : _ ∧ _).2
theorem rightA_le {A : List Stp} (h : rightA A = true) {i j : Nat} (hij : i ≤ j) (hj : j < A.length) : uptoB (atS A i) (atS A j) = true := by
  induction j with
  | zero => have : i = 0 := by omega
            subst this; rw [uptoB_iff]; omega
  | succ j ih =>
    by_cases he : i = j + 1
    · subst he; rw [uptoB_iff]; omega
    · have h1 := ih (by omega) (by omega)
      have h2 := rightA_lt h hj
      rw [uptoB_iff] at h1 ⊢
      rw [ltS_iff] at h2
      omega
theorem rightA_right {A : List Stp} (h : rightA A = true) {j : Nat} (hj : j < A.length) : rightT (atS A j) = true := by
  have := okAt_of h hj
  unfold okAt at this
  exact (Bool.and_eq_true _ _ ▸ this : _ ∧ _).1
theorem atS_map (L : List Ve) {j : Nat} (hj : j < L.length) : atS (L.map Ve.at_) j = (atV L j).at_ := by
  unfold atS; rw [List.getElem?_map, atV_get hj]; rfl
theorem atS_append (A B : List Stp) {j : Nat} (hj : j < A.length) : atS (A ++ B) j = atS A j := by
  unfold atS; rw [List.getElem?_append_left hj]
theorem atS_last (A : List Stp) (s : Stp) : atS (A ++ [s]) A.length = s := by
  unfold atS; rw [List.getElem?_append_right (Nat.le_refl _), Nat.sub_self]; rfl
theorem rightA_append (A : List Stp) (s : Stp) : rightA (A ++ [s]) = (rightA A && (rightT s && (decide (A = []) || ltS (atS A (A.length - 1)) s))) := by
  unfold rightA
  rw [List.length_append, List.length_singleton, List.range_succ, List.all_append]
  congr 1
  · have : ∀ j ∈ List.range A.length, okAt (A ++ [s]) j = okAt A j := by
      intro j hj
      have hj := List.mem_range.1 hj
      unfold okAt
      rw [atS_append _ _ hj, atS_append _ _ (by omega : j - 1 < A.length)]
    rw [Bool.eq_iff_iff, List.all_eq_true, List.all_eq_true]
    exact ⟨fun h j hj => by rw [← this j hj]; exact h j hj, fun h j hj => by rw [this j hj]; exact h j hj⟩
  · simp only [List.all_cons, List.all_nil, Bool.and_true]
    unfold okAt
    rw [atS_last]
    by_cases h0 : A = []
    · subst h0; simp
    · have hp : 0 < A.length := List.length_pos_iff.2 h0
      have : ¬ A.length = 0 := by omega
      rw [atS_append _ _ (by omega : A.length - 1 < A.length)]
      simp [h0]
/-- The places in a rising list. -/
theorem above_iff {L : List Ve} (h : rightA (L.map Ve.at_) = true) (s : Stp) {j : Nat} (hj : j < L.length) : uptoB (atV L j).at_ s = decide (j < aboveN L s) := by
  have hm : ∀ i j, i ≤ j → upAt L s j = true → upAt L s i = true := by
    intro i j hij hjt
    unfold upAt at hjt ⊢
    by_cases hjl : j < L.length
    · rw [atV_get hjl] at hjt
      rw [atV_get (by omega : i < L.length)]
      simp only at hjt ⊢
      have h1 := rightA_le h hij (by rw [List.length_map]; exact hjl)
      rw [atS_map L (by omega), atS_map L hjl] at h1
      rw [uptoB_iff] at h1 hjt ⊢
      omega
    · rw [List.getElem?_eq_none (by omega)] at hjt; cases hjt
  have := bs_mono (upAt L s) hm L.length 0 L.length (by omega) (by omega) (by omega) (fun k hk => by unfold upAt; rw [List.getElem?_eq_none (by omega)]) j
  unfold upAt at this
  rw [atV_get hj] at this
  exact this
def stepR (a l : Stp) (q : Ve × Bool × Ve × Bool) (x : Ve) : Ve × Bool × Ve × Bool :=
  if uptoB x.at_ a = true then (x, true, q.2.2.1, q.2.2.2) else if uptoB x.at_ l = true then (q.1, q.2.1, ⟨x.at_, [], false, 0⟩, true) else q
def foldR (L : List Ve) (a l : Stp) : Ve × Bool × Ve × Bool := L.foldl (stepR a l) (zVe, false, zVe, false)
theorem foldR_take {L : List Ve} {a l : Stp} {i : Nat} (h : i < L.length) : foldR (L.take (i + 1)) a l = stepR a l (foldR (L.take i) a l) (atV L i) := by
  unfold foldR
  rw [List.take_succ_eq_append_getElem h, List.foldl_append, atV_eq h]; rfl
theorem foldR_is {L : List Ve} (h : rightA (L.map Ve.at_) = true) (a l : Stp) : ∀ i, i ≤ L.length →
    foldR (L.take i) a l = (if 0 < min i (aboveN L a) then atV L (min i (aboveN L a) - 1) else zVe, decide (0 < min i (aboveN L a)), if aboveN L a < min i (aboveN L l) then ⟨(atV L (min i (aboveN L l) - 1)).at_, [], false, 0⟩ else zVe, decide (aboveN L a < min i (aboveN L l))) := by
  intro i
  induction i with
  | zero => intro _; simp [foldR]
  | succ i ih =>
    intro hi
    rw [foldR_take (by omega), ih (by omega)]
    unfold stepR
    rw [above_iff h a (by omega : i < L.length), above_iff h l (by omega : i < L.length)]
    generalize aboveN L a = k
    generalize aboveN L l = n
    by_cases h1 : i < k
    · have e1 : min (i + 1) k = i + 1 := by omega
      have e2 : ¬ k < min i n := by omega
      have e3 : ¬ k < min (i + 1) n := by omega
      simp [h1, e1, e2, e3]
    · have e1 : min (i + 1) k = min i k := by omega
      by_cases h2 : i < n
      · have e2 : min (i + 1) n = i + 1 := by omega
        have e3 : k < i + 1 := by omega
        simp [h1, h2, e1, e2, e3]
      · have e2 : min (i + 1) n = min i n := by omega
        simp [h1, h2, e1, e2]
theorem foldR_all {L : List Ve} (h : rightA (L.map Ve.at_) = true) (a l : Stp) :
    foldR L a l = (if 0 < aboveN L a then atV L (aboveN L a - 1) else zVe, decide (0 < aboveN L a), if aboveN L a < aboveN L l then ⟨(atV L (aboveN L l - 1)).at_, [], false, 0⟩ else zVe, decide (aboveN L a < aboveN L l)) := by
  have := foldR_is h a l L.length (Nat.le_refl _)
  have h1 := aboveN_le L a
  have h2 := aboveN_le L l
  rw [List.take_length, Nat.min_eq_right h1, Nat.min_eq_right h2] at this
  exact this
/-- Is there one between? -/
theorem between_iff {L : List Ve} (h : rightA (L.map Ve.at_) = true) (f t : Stp) : (∃ j, j < L.length ∧ uptoB (atV L j).at_ f = false ∧ uptoB (atV L j).at_ t = true) ↔ aboveN L f < aboveN L t := by
  have h2 := aboveN_le L t
  constructor
  · rintro ⟨j, hj, h3, h4⟩
    rw [above_iff h f hj] at h3
    rw [above_iff h t hj] at h4
    simp at h3 h4
    omega
  · intro hlt
    refine ⟨aboveN L f, by omega, ?_, ?_⟩
    · rw [above_iff h f (by omega)]; simp
    · rw [above_iff h t (by omega)]; simp [hlt]
theorem rightC_L {c : Ch} (h : rightC c = true) : rightA (c.L.map Ve.at_) = true := by
  unfold rightC atsC at h
  simp only [Bool.and_eq_true] at h
  have h := h.1
  cases ho : c.op with
  | false => rw [ho] at h; simpa using h
  | true => rw [ho] at h; simp only [if_true] at h; rw [rightA_append] at h; simp only [Bool.and_eq_true] at h; exact h.1
end Go.Proofs.Ytkahfmgdjoaiiaa
