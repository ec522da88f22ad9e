/- Keys, plainly: in order, each once. No condition. -/
import Derived.Test.YtdnnpgmekbnlbaaG5KS05GK
set_option linter.unusedVariables false
set_option linter.unusedSimpArgs false
namespace Go.Proofs.Ytdnnpgmekbnlbaa
open Go.Wam

theorem less_lt : ∀ x y : List UInt8, bytesLess x y = decide (x < y)
  | [], [] => by simp [bytesLess]
  | _ :: _, [] => by simp [bytesLess]
  | [], _ :: _ => by simp [bytesLess]
  | a :: x, b :: y => by
    rw [bytesLess, less_lt x y, Bool.eq_iff_iff]
    simp [List.cons_lt_cons_iff]
theorem less_irr (x : List UInt8) : bytesLess x x = false := by
  have := less_total x x
  simp at this
  simpa using this
theorem less_asym {x y : List UInt8} (h : bytesLess x y = true) : bytesLess y x = false := by
  have := less_total x y
  rw [h] at this
  simpa using this
theorem less_eq {x y : List UInt8} (h : bytesLess x y = false) (h2 : bytesLess y x = false) : x = y := by
  have := less_total x y
  rw [h, h2] at this
  simpa using this
theorem less_trans {x y z : List UInt8} (h : bytesLess x y = true) (h2 : bytesLess y z = true) : bytesLess x z = true := by
  rw [less_lt, decide_eq_true_eq] at *
  exact List.lt_trans h h2
def Asc (o : List (List UInt8)) : Prop := o.Pairwise fun a b => bytesLess a b = true
structure KeysOf (f t : List UInt8) (l o : List (List UInt8)) : Prop where
  asc : Asc o
  mem : ∀ s, s ∈ o ↔ s ∈ l ∧ hasB f t s = true
theorem asc_unique : ∀ {o p : List (List UInt8)}, Asc o → Asc p → (∀ s, s ∈ o ↔ s ∈ p) → o = p
  | [], [], _, _, _ => rfl
  | [], b :: p, _, _, h => absurd ((h b).2 (by simp)) (by simp)
  | a :: o, [], _, _, h => absurd ((h a).1 (by simp)) (by simp)
  | a :: o, b :: p, h1, h2, h => by
    unfold Asc at h1 h2
    rw [List.pairwise_cons] at h1 h2
    have hab : a = b := by
      have ha := (h a).1 (by simp)
      have hb := (h b).2 (by simp)
      rcases List.mem_cons.1 ha with e | e
      · exact e
      · rcases List.mem_cons.1 hb with e2 | e2
        · exact e2.symm
        · have := less_asym (h1.1 b e2); rw [h2.1 a e] at this; cases this
    subst hab
    rw [asc_unique h1.2 h2.2 fun s => ?_]
    constructor
    · intro hs
      rcases List.mem_cons.1 ((h s).1 (by simp [hs])) with e | e
      · subst e; have := h1.1 s hs; rw [less_irr] at this; cases this
      · exact e
    · intro hs
      rcases List.mem_cons.1 ((h s).2 (by simp [hs])) with e | e
      · subst e; have := h2.1 s hs; rw [less_irr] at this; cases this
      · exact e
theorem KeysOf.unique {f t : List UInt8} {l o p : List (List UInt8)} (h : KeysOf f t l o) (g : KeysOf f t l p) : o = p :=
  asc_unique h.asc g.asc fun s => (h.mem s).trans (g.mem s).symm
def Ord (l : List (List UInt8)) : Prop := l.Pairwise fun a b => bytesLess b a = false
theorem srt_ord (l : List (List UInt8)) : Ord (srt l) := by
  have := List.pairwise_mergeSort (le := fun x y : List UInt8 => decide (x ≤ y)) (fun a b c h1 h2 => by
    simp only [decide_eq_true_eq] at *; exact List.le_trans h1 h2) (fun a b => by
    simp only [Bool.or_eq_true, decide_eq_true_eq]; exact List.le_total a b) l
  refine this.imp fun {a b} h => ?_
  rw [decide_eq_true_eq] at h
  rw [less_lt, decide_eq_false_iff_not]
  exact List.not_lt.2 h
theorem srt_mem (l : List (List UInt8)) (s : List UInt8) : s ∈ srt l ↔ s ∈ l := (List.mergeSort_perm l _).mem_iff
theorem cpt_asc {l : List (List UInt8)} (h : Ord l) : ∀ k, k ≤ l.length → Asc (cpt l k) ∧ ∀ s, s ∈ cpt l k ↔ s ∈ l.take k
  | 0, _ => ⟨List.Pairwise.nil, fun s => by simp [cpt]⟩
  | k + 1, hk => by
    obtain ⟨ha, hm⟩ := cpt_asc h k (by omega)
    have hk' : k < l.length := by omega
    have ht : l.take (k + 1) = l.take k ++ [l[k]] := List.take_succ_eq_append_getElem hk'
    have hord : ∀ i j (hi : i < l.length) (hj : j < l.length), i < j → bytesLess l[j] l[i] = false := fun i j hi hj hij => List.pairwise_iff_getElem.1 h i j hi hj hij
    by_cases h0 : 0 < k
    · rw [cpt_succ l h0 hk', ht]
      by_cases he : l[k] = l[k - 1]
      · rw [if_pos he, List.append_nil]
        refine ⟨ha, fun s => ?_⟩
        rw [hm s, List.mem_append, List.mem_singleton]
        refine ⟨.inl, fun hs => hs.elim id fun e => ?_⟩
        rw [e, he]
        have : (l.take k)[k - 1]'(by rw [List.length_take]; omega) = l[k - 1] := List.getElem_take
        exact this ▸ List.getElem_mem _
      · rw [if_neg he]
        refine ⟨?_, fun s => by rw [List.mem_append, hm s, List.mem_append]⟩
        unfold Asc
        rw [List.pairwise_append]
        refine ⟨ha, by simp, fun a haM b hb => ?_⟩
        rw [List.mem_singleton] at hb
        subst hb
        obtain ⟨i, hi, e⟩ := List.mem_iff_getElem.1 ((hm a).1 haM)
        rw [List.length_take] at hi
        rw [List.getElem_take] at e
        subst e
        have h1 := hord i k (by omega) hk' (by omega)
        cases h2 : bytesLess l[i] l[k] with
        | true => rfl
        | false =>
          exfalso
          have e := less_eq h2 h1
          have h3 := hord (k - 1) k (by omega) hk' (by omega)
          by_cases hik : i = k - 1
          · subst hik; exact he e.symm
          · have h4 := hord i (k - 1) (by omega) (by omega) (by omega)
            rw [e] at h4
            exact he (less_eq h3 h4)
    · have : k = 0 := by omega
      subst this
      rw [ht, cpt, List.getElem?_eq_getElem hk']
      simp [cpt, Asc]
theorem keys_of (f t : List UInt8) (l : List (List UInt8)) : KeysOf f t l (cpt (srt (keep f t l)) (srt (keep f t l)).length) := by
  obtain ⟨h1, h2⟩ := cpt_asc (srt_ord (keep f t l)) _ (Nat.le_refl _)
  refine ⟨h1, fun s => ?_⟩
  rw [h2, List.take_length, srt_mem]
  unfold keep
  rw [List.mem_filter]
theorem keys_self {f t : List UInt8} {l o : List (List UInt8)} (h : KeysOf f t l o) : KeysOf f t o o :=
  ⟨h.asc, fun s => ⟨fun hs => ⟨hs, ((h.mem s).1 hs).2⟩, fun hs => hs.1⟩⟩

/-- Keys, whole. -/
theorem sKeysOf {H : AHeap} {v : AV} {l : List (List UInt8)} {f t : List UInt8} (hok : H.ok) (hf : Small f) (ht : Small t) (hV : View H 1 v (l.map sR)) (hl : l.length ≤ 2 ^ 43) (hsm : ∀ s ∈ l, Small s) :
    ∃ o v' K, KeysOf f t l o ∧ call T 37 [.agg [.str f, .str t], v] H = some (v', K) ∧ Own K 1 v' (o.map sR) ∧ Chg [] H K ∧ (∀ j ∈ sown v', H.n ≤ j) := by
  have hkl : (keep f t l).length ≤ l.length := by unfold keep; exact List.length_filter_le _ _
  obtain ⟨v', K, h1, h2, h3, h4⟩ := sKeys hok hf ht hV hl hsm (sorts _ (by omega)) (compacts _ (by rw [srt_len]; omega))
  exact ⟨_, v', K, keys_of f t l, h1, h2, h3, h4⟩
end Go.Proofs.Ytdnnpgmekbnlbaa
