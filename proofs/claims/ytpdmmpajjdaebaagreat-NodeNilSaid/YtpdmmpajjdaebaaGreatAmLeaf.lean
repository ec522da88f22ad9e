/- The abstract machine: the cells of an argument, one by one. No condition. -/
import Derived.Test.YtpdmmpajjdaebaaGreatAmNil
set_option linter.unusedVariables false
set_option linter.unusedSimpArgs false
namespace Go.Wam
/-- One cell of an argument. -/
def Leaf (H : AHeap) : Sh → AV → Prop
  | .int k, v => ∃ n, v = .int k n
  | .str, v => ∃ s, v = .str s
  | .bool, v => ∃ b, v = .bool b
  | .slice sz _ e, v => ∃ rows, IsSl H sz v rows ∧ ∀ r ∈ rows, IsC H e r
  | _, _ => True
def Leaves (H : AHeap) : List Sh → List AV → Prop
  | [], l => l = []
  | s :: r, l => ∃ v l', l = v :: l' ∧ Leaf H s v ∧ Leaves H r l'
theorem leaves_append {H : AHeap} : ∀ {a b : List Sh} {x y : List AV}, Leaves H a x → Leaves H b y → Leaves H (a ++ b) (x ++ y)
  | [], b, x, y, h1, h2 => by cases h1; exact h2
  | s :: a, b, x, y, h1, h2 => by
    obtain ⟨v, l, rfl, h1, h3⟩ := h1
    exact ⟨v, l ++ y, rfl, h1, leaves_append h3 h2⟩
theorem isC_leaves {H : AHeap} : ∀ {sh : Sh} {l : List AV}, IsC H sh l → Leaves H (flatS sh) l
  | .unit, l, h => h
  | .pair a b, l, h => by
    obtain ⟨x, y, rfl, h1, h2⟩ := h
    exact leaves_append (isC_leaves h1) (isC_leaves h2)
  | .bool, l, h => by obtain ⟨b, rfl⟩ := h; exact ⟨_, [], rfl, ⟨b, rfl⟩, rfl⟩
  | .int k, l, h => by obtain ⟨n, rfl, _⟩ := h; exact ⟨_, [], rfl, ⟨n, rfl⟩, rfl⟩
  | .str, l, h => by obtain ⟨s, rfl, _⟩ := h; exact ⟨_, [], rfl, ⟨s, rfl⟩, rfl⟩
  | .slice sz by_ e, l, h => by obtain ⟨v, rows, rfl, h1, _, _, h4⟩ := h; exact ⟨v, [], rfl, ⟨rows, h1, h4⟩, rfl⟩
theorem Leaves.len {H : AHeap} : ∀ {s : List Sh} {l : List AV}, Leaves H s l → l.length = s.length
  | [], l, h => by cases h; rfl
  | s :: r, l, h => by obtain ⟨v, l', rfl, _, h2⟩ := h; simp [h2.len]
theorem Leaves.at {H : AHeap} : ∀ {s : List Sh} {l : List AV}, Leaves H s l → ∀ {i : Nat} {t : Sh}, s[i]? = some t → ∃ v, l[i]? = some v ∧ Leaf H t v
  | [], l, h, i, t, ht => by simp at ht
  | s :: r, l, h, i, t, ht => by
    obtain ⟨v, l', rfl, h1, h2⟩ := h
    cases i with
    | zero => simp at ht; subst ht; exact ⟨v, rfl, h1⟩
    | succ i =>
      simp only [List.getElem?_cons_succ] at ht ⊢
      exact h2.at ht
theorem rdCell {l : List AV} {i : Nat} {v : AV} (h : l[i]? = some v) : rd false 1 i l = some v := h
theorem rdPart {l x : List AV} {n k : Nat} (hn : n + k ≤ l.length) (hk : x.length = k) (h : ∀ i, i < k → l[n + i]? = x[i]?) : rd true k n l = some (.agg x) := by
  unfold rd
  simp only [if_true]
  rw [if_pos hn]
  congr 2
  apply List.ext_getElem?
  intro i
  rw [List.getElem?_take, List.getElem?_drop]
  by_cases hi : i < k
  · rw [if_pos hi]; exact h i hi
  · rw [if_neg hi, List.getElem?_eq_none (by omega)]
theorem rdAll {l : List AV} {k : Nat} (hk : l.length = k) : rd true k 0 l = some (.agg l) := by
  unfold rd
  simp only [if_true]
  rw [if_pos (by omega)]
  simp [← hk]
theorem rdSome {l : List AV} {n k : Nat} (hn : n + k ≤ l.length) : rd true k n l = some (.agg ((l.drop n).take k)) := by
  unfold rd
  simp only [if_true]
  rw [if_pos hn]
end Go.Wam
