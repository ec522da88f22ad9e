/- Plain facts of spans: texts by their rank. No condition. -/
import Derived.Test.YtdnnpgmekbnlbaaG5KS05A
set_option linter.unusedVariables false
set_option linter.unusedSimpArgs false
namespace Go.Proofs.Ytdnnpgmekbnlbaa
open Go.Wam

def rank : Nat → List UInt8 → Nat
  | 0, _ => 0
  | _ + 1, [] => 0
  | n + 1, b :: s => (b.toNat + 1) * 257 ^ n + rank n s
theorem rank_nil (n : Nat) : rank n [] = 0 := by cases n <;> rfl
theorem rank_lt (n : Nat) (s : List UInt8) : rank n s < 257 ^ n := by
  induction n generalizing s with
  | zero => simp [rank]
  | succ n ih =>
    have hp : 0 < 257 ^ n := Nat.pow_pos (by omega)
    cases s with
    | nil => rw [rank_nil]; exact Nat.pow_pos (by omega)
    | cons b s =>
      have h1 := ih s
      have h2 := b.toNat_lt
      have h3 : (b.toNat + 1) * 257 ^ n ≤ 256 * 257 ^ n := Nat.mul_le_mul_right _ (by omega)
      rw [rank, Nat.pow_succ]
      omega
theorem less_rank {n : Nat} {s t : List UInt8} (hs : s.length ≤ n) (ht : t.length ≤ n) : bytesLess s t = decide (rank n s < rank n t) := by
  induction n generalizing s t with
  | zero =>
    have : s = [] := List.length_eq_zero_iff.1 (by omega)
    have : t = [] := List.length_eq_zero_iff.1 (by omega)
    subst s t; rfl
  | succ n ih =>
    have hp : 0 < 257 ^ n := Nat.pow_pos (by omega)
    cases t with
    | nil => rw [rank_nil]; cases s <;> simp [bytesLess]
    | cons b t =>
      have hb : (0 + 1) * 257 ^ n ≤ (b.toNat + 1) * 257 ^ n := Nat.mul_le_mul_right _ (by omega)
      cases s with
      | nil =>
        rw [rank_nil, rank]
        simp only [bytesLess]
        exact (decide_eq_true (by omega)).symm
      | cons a s =>
        have i := ih (s := s) (t := t) (by simpa using hs) (by simpa using ht)
        have r1 := rank_lt n s
        have r2 := rank_lt n t
        simp only [bytesLess, rank, i]
        by_cases h1 : a < b
        · have h1' : a.toNat < b.toNat := UInt8.lt_iff_toNat_lt.1 h1
          have : (a.toNat + 1 + 1) * 257 ^ n ≤ (b.toNat + 1) * 257 ^ n := Nat.mul_le_mul_right _ (by omega)
          rw [Nat.add_mul (a.toNat + 1)] at this
          simp only [h1, decide_true, Bool.true_or]
          exact (decide_eq_true (by omega)).symm
        · have h1' : ¬ a.toNat < b.toNat := fun h => h1 (UInt8.lt_iff_toNat_lt.2 h)
          by_cases h2 : a = b
          · subst h2
            simp
          · have h2' : a.toNat ≠ b.toNat := fun h => h2 (UInt8.toNat_inj.1 h)
            have : (b.toNat + 1 + 1) * 257 ^ n ≤ (a.toNat + 1) * 257 ^ n := Nat.mul_le_mul_right _ (by omega)
            rw [Nat.add_mul (b.toNat + 1)] at this
            have h3 : (a == b) = false := by simpa using h2
            simp only [h1, h3, decide_false, Bool.false_and, Bool.or_self]
            exact (decide_eq_false (by omega)).symm
theorem rank_inj {n : Nat} {s t : List UInt8} (hs : s.length ≤ n) (ht : t.length ≤ n) (h : rank n s = rank n t) : s = t := by
  have h1 := less_total s t
  rw [less_rank hs ht, less_rank ht hs, h] at h1
  simpa using h1

/-! ## Texts of 200 bytes -/
def rk (s : List UInt8) : Nat := rank 200 s
def kn (s : List UInt8) : Nat := if keyB s = true then 1 else 0
def rA : Nat := rk [97]
def rZ : Nat := rk [123]
structure Txt (s : List UInt8) : Prop where
  len : s.length ≤ 200
theorem kn_iff (s : List UInt8) : keyB s = decide (kn s = 1) := by unfold kn; cases keyB s <;> rfl
theorem kn_le (s : List UInt8) : kn s ≤ 1 := by unfold kn; split <;> omega
theorem key_rank {s : List UInt8} (h : kn s = 1) : rA ≤ rk s ∧ rk s < rZ := by
  have hk : keyB s = true := by rw [kn_iff]; exact decide_eq_true h
  unfold keyB at hk
  simp only [Bool.and_eq_true, Bool.not_eq_true'] at hk
  obtain ⟨h1, h2, h3⟩ := hk
  cases s with
  | nil => simp at h2
  | cons a s =>
    rw [List.all_cons, Bool.and_eq_true] at h1
    have ha := h1.1
    unfold lowB at ha
    simp only [Bool.not_eq_true', Bool.or_eq_false_iff, decide_eq_false_iff_not] at ha
    have r1 := rank_lt 199 s
    have e1 : rA = 98 * 257 ^ 199 + rank 199 [] := rfl
    have e2 : rZ = 124 * 257 ^ 199 + rank 199 [] := rfl
    have e3 : rk (a :: s) = (a.toNat + 1) * 257 ^ 199 + rank 199 s := rfl
    rw [rank_nil] at e1 e2
    have h4 : 98 * 257 ^ 199 ≤ (a.toNat + 1) * 257 ^ 199 := Nat.mul_le_mul_right _ (by omega)
    have h5 : (a.toNat + 1) * 257 ^ 199 ≤ 123 * 257 ^ 199 := Nat.mul_le_mul_right _ (by omega)
    rw [e1, e2, e3]
    generalize 257 ^ 199 = P at *
    omega
theorem rA_pos : 0 < rA := by
  have e1 : rA = 98 * 257 ^ 199 + rank 199 [] := rfl
  have hp : 0 < 257 ^ 199 := Nat.pow_pos (by omega)
  rw [e1, rank_nil]
  generalize 257 ^ 199 = P at *
  omega
theorem rA_lt : rA < rZ := by
  have := key_rank (s := [97]) rfl
  exact this.2
theorem kn_A : kn [97] = 1 := rfl
theorem kn_Z : kn [123] = 0 := rfl
theorem kn_nil : kn [] = 0 := rfl
theorem rk_nil : rk [] = 0 := rank_nil _
theorem rk_zero {s : List UInt8} (h : Txt s) : (s = []) = (rk s = 0) := by
  refine propext ⟨fun e => by rw [e, rk_nil], fun e => rank_inj h.len (by simp) (by rw [rank_nil]; exact e)⟩
theorem rk_Z {s : List UInt8} (h : Txt s) : (s = [123]) = (rk s = rZ) := by
  refine propext ⟨fun e => by rw [e]; rfl, fun e => rank_inj h.len (by simp) e⟩
theorem rk_eq {s t : List UInt8} (h : Txt s) (g : Txt t) : (s = t) = (rk s = rk t) :=
  propext ⟨fun e => by rw [e], fun e => rank_inj h.len g.len e⟩
theorem rk_less {s t : List UInt8} (h : Txt s) (g : Txt t) : bytesLess s t = decide (rk s < rk t) := less_rank h.len g.len

abbrev RP (kf f kt t : Nat) : Prop := kf = 1 ∧ (t = 0 ∨ ((t = rZ ∨ kt = 1) ∧ f < t))
abbrev HP (kf f kt t kk k : Nat) : Prop := RP kf f kt t ∧ kk = 1 ∧ ((t = 0 ∧ k = f) ∨ (t ≠ 0 ∧ f ≤ k ∧ k < t))
abbrev MP (kf f kt t kf' f' kt' t' : Nat) : Prop := RP kf f kt t ∧ RP kf' f' kt' t' ∧ (HP kf f kt t kf' f' ∨ HP kf' f' kt' t' kf f)
section
variable {f t f' t' k : List UInt8}
theorem right_iff (hf : Txt f) (ht : Txt t) : rightB f t = true ↔ RP (kn f) (rk f) (kn t) (rk t) := by
  unfold rightB
  rw [kn_iff f, kn_iff t, rk_less hf ht]
  simp only [Bool.and_eq_true, Bool.or_eq_true, decide_eq_true_eq, beq_iff_eq, rk_zero ht, rk_Z ht]
theorem has_iff (hf : Txt f) (ht : Txt t) (hk : Txt k) : hasB f t k = true ↔ HP (kn f) (rk f) (kn t) (rk t) (kn k) (rk k) := by
  unfold hasB
  rw [kn_iff k, rk_less hk hf, rk_less hk ht, Bool.and_eq_true, Bool.and_eq_true, right_iff hf ht]
  by_cases h : t = []
  · rw [if_pos h]
    rw [rk_zero ht] at h
    simp only [decide_eq_true_eq, beq_iff_eq, rk_eq hk hf, h]
    omega
  · rw [if_neg h]
    rw [rk_zero ht] at h
    simp only [decide_eq_true_eq, Bool.and_eq_true, Bool.not_eq_true', decide_eq_false_iff_not]
    omega
theorem meet_iff (hf : Txt f) (ht : Txt t) (hf' : Txt f') (ht' : Txt t') : meetB f t f' t' = true ↔ MP (kn f) (rk f) (kn t) (rk t) (kn f') (rk f') (kn t') (rk t') := by
  unfold meetB
  rw [Bool.and_eq_true, Bool.and_eq_true, Bool.or_eq_true, right_iff hf ht, right_iff hf' ht', has_iff hf ht hf', has_iff hf' ht' hf]
abbrev Same2 (a b : List UInt8) : Prop := rk a = rk b ∧ kn a = kn b
theorem clip_spec (hf : Txt f) (ht : Txt t) (hf' : Txt f') (ht' : Txt t') (hm : meetB f t f' t' = true) : ∃ g u, clipB f t f' t' = ((g, u), true) ∧ Txt g ∧ Txt u ∧
    ((rk t = 0 ∧ Same2 g f ∧ Same2 u t) ∨ (rk t ≠ 0 ∧ rk t' = 0 ∧ Same2 g f' ∧ Same2 u t') ∨ (rk t ≠ 0 ∧ rk t' ≠ 0 ∧ ((rk f < rk f' ∧ Same2 g f') ∨ (rk f' ≤ rk f ∧ Same2 g f)) ∧ ((rk t' < rk t ∧ Same2 u t') ∨ (rk t ≤ rk t' ∧ Same2 u t)))) := by
  unfold clipB
  rw [if_pos hm]
  by_cases h1 : t = []
  · rw [if_pos h1]
    rw [rk_zero ht] at h1
    exact ⟨f, t, rfl, hf, ht, .inl ⟨h1, ⟨rfl, rfl⟩, ⟨rfl, rfl⟩⟩⟩
  · rw [if_neg h1]
    rw [rk_zero ht] at h1
    by_cases h2 : t' = []
    · rw [if_pos h2]
      rw [rk_zero ht'] at h2
      exact ⟨f', t', rfl, hf', ht', .inr (.inl ⟨h1, h2, ⟨rfl, rfl⟩, ⟨rfl, rfl⟩⟩)⟩
    · rw [if_neg h2]
      rw [rk_zero ht'] at h2
      rw [rk_less hf hf', rk_less ht' ht]
      by_cases h3 : rk f < rk f'
      · rw [if_pos (decide_eq_true h3)]
        by_cases h4 : rk t' < rk t
        · rw [if_pos (decide_eq_true h4)]
          exact ⟨f', t', rfl, hf', ht', .inr (.inr ⟨h1, h2, .inl ⟨h3, rfl, rfl⟩, .inl ⟨h4, rfl, rfl⟩⟩)⟩
        · rw [if_neg (by rw [decide_eq_true_eq]; exact h4)]
          exact ⟨f', t, rfl, hf', ht, .inr (.inr ⟨h1, h2, .inl ⟨h3, rfl, rfl⟩, .inr ⟨by omega, rfl, rfl⟩⟩)⟩
      · rw [if_neg (by rw [decide_eq_true_eq]; exact h3)]
        by_cases h4 : rk t' < rk t
        · rw [if_pos (decide_eq_true h4)]
          exact ⟨f, t', rfl, hf, ht', .inr (.inr ⟨h1, h2, .inr ⟨by omega, rfl, rfl⟩, .inl ⟨h4, rfl, rfl⟩⟩)⟩
        · rw [if_neg (by rw [decide_eq_true_eq]; exact h4)]
          exact ⟨f, t, rfl, hf, ht, .inr (.inr ⟨h1, h2, .inr ⟨by omega, rfl, rfl⟩, .inr ⟨by omega, rfl, rfl⟩⟩)⟩
end
end Go.Proofs.Ytdnnpgmekbnlbaa
