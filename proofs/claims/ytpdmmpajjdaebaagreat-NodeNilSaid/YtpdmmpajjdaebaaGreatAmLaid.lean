/- What is looked at of all types of a program, in parts. No condition. -/
import Derived.Test.YtpdmmpajjdaebaaGreatAmR
set_option linter.unusedVariables false
set_option linter.unusedSimpArgs false
namespace Go.Wam
theorem all_parts {f : Nat → Bool} {n k m : Nat} (hk : n ≤ k * m) (h : ∀ j, j < m → (List.range' (k * j) k).all f = true) (hz : ∀ i, n ≤ i → True) : (List.range n).all f = true := by
  rw [List.all_eq_true]
  intro x hx
  have hx := List.mem_range.1 hx
  have hkp : 0 < k := by rcases Nat.eq_zero_or_pos k with h | h; · subst h; omega
                         · exact h
  have hj : x / k < m := Nat.div_lt_of_lt_mul (Nat.lt_of_lt_of_le hx hk)
  have := List.all_eq_true.1 (h _ hj) x
  refine this ?_
  rw [List.mem_range'_1]
  have e := Nat.div_add_mod x k
  have l := Nat.mod_lt x hkp
  omega
theorem laid_parts {P : Program} {n k m : Nat} (hn : P.types.size = n) (hk : n ≤ k * m) (h : ∀ j, j < m → (List.range' (k * j) k).all (fun t => decide (n ≤ t) || rowFine P t) = true) (hg : P.globals.all (fun g => decide (g.type < n)) = true)
    (hf : P.funcs.all (fun f => f.params.all fun t => decide (t < n)) = true) : laidOutB P = true := by
  have h1 : (List.range P.types.size).all (rowFine P) = true := by
    rw [hn]
    have := all_parts (f := fun t => decide (n ≤ t) || rowFine P t) hk h (fun _ _ => trivial)
    rw [List.all_eq_true] at this ⊢
    intro x hx
    have h2 := this x hx
    have hx := List.mem_range.1 hx
    simp only [Bool.or_eq_true, decide_eq_true_eq] at h2
    rcases h2 with h2 | h2
    · omega
    · exact h2
  unfold laidOutB
  rw [h1, hn, hg, hf]; rfl
end Go.Wam
