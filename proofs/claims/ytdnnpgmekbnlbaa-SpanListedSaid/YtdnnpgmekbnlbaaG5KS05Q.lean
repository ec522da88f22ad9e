/- Plain laws of spans. No condition. -/
import Derived.Test.YtdnnpgmekbnlbaaG5KS05R
set_option linter.unusedVariables false
set_option linter.unusedSimpArgs false
namespace Go.Proofs.Ytdnnpgmekbnlbaa
open Go.Wam

theorem txt_A : Txt [97] := ⟨by simp⟩
theorem txt_Z : Txt [123] := ⟨by simp⟩
theorem txt_nil : Txt [] := ⟨by simp⟩
section
variable {f t f' t' k : List UInt8}
theorem meet_comm (hf : Txt f) (ht : Txt t) (hf' : Txt f') (ht' : Txt t') : meetB f t f' t' = meetB f' t' f t := by
  rw [Bool.eq_iff_iff, meet_iff hf ht hf' ht', meet_iff hf' ht' hf ht]
  exact ⟨fun ⟨a, b, c⟩ => ⟨b, a, c.symm⟩, fun ⟨a, b, c⟩ => ⟨b, a, c.symm⟩⟩
theorem clip_no (h : meetB f t f' t' = false) : clipB f t f' t' = (([], []), false) := by unfold clipB; rw [if_neg (by rw [h]; simp)]
theorem clip_is (hf : Txt f) (ht : Txt t) (hf' : Txt f') (ht' : Txt t') : (clipB f t f' t').2 = meetB f t f' t' := by
  cases h : meetB f t f' t' with
  | false => rw [clip_no h]
  | true => obtain ⟨g, u, e, _⟩ := clip_spec hf ht hf' ht' h; rw [e]
theorem all_key (hk : Txt k) : keyB k = hasB [97] [123] k := by
  rw [Bool.eq_iff_iff, has_iff txt_A txt_Z hk, kn_iff k, decide_eq_true_eq, kn_A, kn_Z]
  have h1 := rA_pos
  have h2 := rA_lt
  have h3 : kn k = 1 → _ := key_rank (s := k)
  show kn k = 1 ↔ HP 1 rA 0 rZ (kn k) (rk k)
  generalize kn k = a at *
  generalize rk k = b at *
  generalize rA = A at *
  unfold HP RP
  generalize rZ = Z at *
  constructor
  · intro h; have := h3 h; omega
  · intro h; omega
theorem clip_comm (hf : Txt f) (ht : Txt t) (hf' : Txt f') (ht' : Txt t') : clipB f t f' t' = clipB f' t' f t := by
  cases h : meetB f t f' t' with
  | false => rw [clip_no h, clip_no (by rw [← meet_comm hf ht hf' ht']; exact h)]
  | true =>
    obtain ⟨g, u, e, hg, hu, q⟩ := clip_spec hf ht hf' ht' h
    obtain ⟨g2, u2, e2, hg2, hu2, q2⟩ := clip_spec hf' ht' hf ht (by rw [← meet_comm hf ht hf' ht']; exact h)
    rw [meet_iff hf ht hf' ht'] at h
    have h1 : g = g2 := by
      rw [rk_eq hg hg2]
      unfold Same2 at q q2; unfold MP HP RP at h
      omega
    have h2 : u = u2 := by
      rw [rk_eq hu hu2]
      unfold Same2 at q q2; unfold MP HP RP at h
      omega
    rw [e, e2, h1, h2]
theorem clip_has (hf : Txt f) (ht : Txt t) (hf' : Txt f') (ht' : Txt t') (hk : Txt k) : hasB (clipB f t f' t').1.1 (clipB f t f' t').1.2 k = (hasB f t k && hasB f' t' k) := by
  rw [Bool.eq_iff_iff, Bool.and_eq_true, has_iff hf ht hk, has_iff hf' ht' hk]
  cases h : meetB f t f' t' with
  | false =>
    rw [clip_no h]
    have h' : ¬ meetB f t f' t' = true := by rw [h]; simp
    rw [meet_iff hf ht hf' ht'] at h'
    refine ⟨fun e => (by simp [hasB, rightB, keyB] at e), fun ⟨e1, e2⟩ => absurd ?_ h'⟩
    unfold HP RP at e1 e2; unfold MP HP RP
    omega
  | true =>
    obtain ⟨g, u, e, hg, hu, q⟩ := clip_spec hf ht hf' ht' h
    rw [e]
    simp only
    rw [has_iff hg hu hk]
    rw [meet_iff hf ht hf' ht'] at h
    unfold Same2 at q; unfold MP HP RP at h; unfold HP RP
    omega
theorem clip_right (hf : Txt f) (ht : Txt t) (hf' : Txt f') (ht' : Txt t') (h : meetB f t f' t' = true) : ∃ g u, clipB f t f' t' = ((g, u), true) ∧ Txt g ∧ Txt u ∧ rightB g u = true ∧ clipB g u f t = ((g, u), true) ∧ meetB g u f t = true ∧ meetB g u f' t' = true ∧
    g = (if !bytesLess f f' then f else f') ∧ hasB f t g = true ∧ hasB f' t' g = true := by
  obtain ⟨g, u, e, hg, hu, q⟩ := clip_spec hf ht hf' ht' h
  rw [meet_iff hf ht hf' ht'] at h
  unfold Same2 at q
  have m1 : meetB g u f t = true := by rw [meet_iff hg hu hf ht]; unfold MP HP RP at h ⊢; omega
  have m2 : meetB g u f' t' = true := by rw [meet_iff hg hu hf' ht']; unfold MP HP RP at h ⊢; omega
  refine ⟨g, u, e, hg, hu, ?_, ?_, m1, m2, ?_, ?_, ?_⟩
  · rw [right_iff hg hu]; unfold MP HP RP at h; unfold RP; omega
  · obtain ⟨g2, u2, e2, hg2, hu2, q2⟩ := clip_spec hg hu hf ht m1
    unfold Same2 at q2
    have h1 : g2 = g := by rw [rk_eq hg2 hg]; unfold MP HP RP at h; omega
    have h2 : u2 = u := by rw [rk_eq hu2 hu]; unfold MP HP RP at h; omega
    rw [e2, h1, h2]
  · rw [rk_less hf hf']
    by_cases h3 : rk f < rk f'
    · rw [if_neg (by simp [h3]), rk_eq hg hf']; unfold MP HP RP at h; omega
    · rw [if_pos (by simp [h3]), rk_eq hg hf]; unfold MP HP RP at h; omega
  · rw [has_iff hf ht hg]; unfold MP HP RP at h; unfold HP RP; omega
  · rw [has_iff hf' ht' hg]; unfold MP HP RP at h; unfold HP RP; omega

/-! ## In two -/
theorem parts {a : List UInt8} (hf : Txt f) (ht : Txt t) (ha : Txt a) (hk : Txt k) (h0 : t ≠ []) (h1 : hasB f t a = true) (h2 : a ≠ f) :
    rightB f a = true ∧ rightB a t = true ∧ meetB f a a t = false ∧ hasB f t k = (hasB f a k != hasB a t k) ∧ (hasB f a k && hasB a t k) = false ∧ clipB f a f t = ((f, a), true) := by
  rw [has_iff hf ht ha] at h1
  have h0' : rk t ≠ 0 := fun h => h0 (by rw [rk_zero ht]; exact h)
  have h2' : rk a ≠ rk f := fun h => h2 (by rw [rk_eq ha hf]; exact h)
  have ka := key_rank (s := a)
  have hA := rA_pos
  unfold HP RP at h1
  obtain ⟨c1, c2, c3, c4, c5, c6⟩ : kn f = 1 ∧ (rk t = rZ ∨ kn t = 1) ∧ rk f < rk a ∧ rk a < rk t ∧ kn a = 1 ∧ rk a ≠ 0 := by omega
  clear h1 ka hA
  have r1 : rightB f a = true := by rw [right_iff hf ha]; unfold RP; omega
  have r2 : rightB a t = true := by rw [right_iff ha ht]; unfold RP; omega
  have m1 : meetB f a f t = true := by rw [meet_iff hf ha hf ht]; unfold MP HP RP; omega
  have n1 : ¬ MP (kn f) (rk f) (kn a) (rk a) (kn a) (rk a) (kn t) (rk t) := by unfold MP HP RP; omega
  have e1 : hasB f t k = true ↔ (kn k = 1 ∧ rk f ≤ rk k ∧ rk k < rk t) := by rw [has_iff hf ht hk]; unfold HP RP; omega
  have e2 : hasB f a k = true ↔ (kn k = 1 ∧ rk f ≤ rk k ∧ rk k < rk a) := by rw [has_iff hf ha hk]; unfold HP RP; omega
  have e3 : hasB a t k = true ↔ (kn k = 1 ∧ rk a ≤ rk k ∧ rk k < rk t) := by rw [has_iff ha ht hk]; unfold HP RP; omega
  refine ⟨r1, r2, ?_, ?_, ?_, ?_⟩
  · rw [Bool.eq_false_iff, ne_eq, meet_iff hf ha ha ht]; exact n1
  · have : hasB f t k = true ↔ ((hasB f a k = true ∧ ¬ hasB a t k = true) ∨ (¬ hasB f a k = true ∧ hasB a t k = true)) := by
      rw [e1, e2, e3]; clear e1 e2 e3; omega
    revert this
    cases hasB f t k <;> cases hasB f a k <;> cases hasB a t k <;> simp
  · rw [Bool.eq_false_iff, ne_eq, Bool.and_eq_true, e2, e3]; clear e1 e2 e3; omega
  · obtain ⟨g2, u2, e4, hg2, hu2, q2⟩ := clip_spec hf ha hf ht m1
    unfold Same2 at q2
    clear e1 e2 e3 n1
    have h1 : g2 = f := by rw [rk_eq hg2 hf]; omega
    have h2 : u2 = a := by rw [rk_eq hu2 ha]; omega
    rw [e4, h1, h2]

/-! ## What meets -/
theorem meets (hf : Txt f) (ht : Txt t) (hk : Txt k) : meetB k [] f t = hasB f t k ∧ meetB f t f t = rightB f t ∧ meetB f t [97] [123] = rightB f t := by
  have hA := rA_pos
  have hA2 := rA_lt
  have hkk := key_rank (s := k)
  have hkf := key_rank (s := f)
  refine ⟨?_, ?_, ?_⟩
  · rw [Bool.eq_iff_iff, meet_iff hk txt_nil hf ht, has_iff hf ht hk, kn_nil, rk_nil]; unfold MP HP RP; omega
  · rw [Bool.eq_iff_iff, meet_iff hf ht hf ht, right_iff hf ht]; unfold MP HP RP; omega
  · rw [Bool.eq_iff_iff, meet_iff hf ht txt_A txt_Z, right_iff hf ht, kn_A, kn_Z]
    show MP _ _ _ _ 1 rA 0 rZ ↔ _
    unfold MP HP RP; omega
end
end Go.Proofs.Ytdnnpgmekbnlbaa
