/- What a row asks of what a function reaches, by a table of who leads to whom. No condition. -/
import Derived.Test.YtpdmmpajjdaebaaGreatAmLaid
import Derived.JoinedOf
set_option linter.unusedVariables false
set_option linter.unusedSimpArgs false
namespace Go.Wam
def leadsAt (P : Program) (g : Nat) : List Nat := (P.funcs[g]?).elim [] P.leadsTo
def closT (tab : List (List Nat)) : Nat → List Nat → List Nat → List Nat
  | 0, _, seen => seen.reverse
  | _ + 1, [], seen => seen.reverse
  | n + 1, f :: todo, seen => if seen.contains f then closT tab n todo seen else closT tab n (tab.getD f [] ++ todo) (f :: seen)
theorem closureVia_eq {P : Program} {tab : List (List Nat)} (h : ∀ g, leadsAt P g = tab.getD g []) : ∀ (n : Nat) (todo seen : List Nat), P.closureVia n todo seen = closT tab n todo seen
  | 0, todo, seen => by cases todo <;> rfl
  | n + 1, [], seen => rfl
  | n + 1, f :: todo, seen => by
    have e : P.closureVia (n + 1) (f :: todo) seen = if seen.contains f then P.closureVia n todo seen else P.closureVia n ((P.funcs[f]?).elim [] P.leadsTo ++ todo) (f :: seen) := rfl
    rw [e, closureVia_eq h, closureVia_eq h, show (P.funcs[f]?).elim [] P.leadsTo = tab.getD f [] from h f]; rfl
theorem leads_parts {P : Program} {tab : List (List Nat)} {n k m : Nat} (hn : P.funcs.size = n) (ht : tab.length = n) (hk : n ≤ k * m) (h : ∀ j, j < m → (List.range' (k * j) k).all (fun g => leadsAt P g == tab.getD g []) = true) (g : Nat) : leadsAt P g = tab.getD g [] := by
  by_cases hg : g < n
  · have := all_parts hk h (fun _ _ => trivial)
    rw [List.all_eq_true] at this
    exact eq_of_beq (this g (List.mem_range.2 hg))
  · have e1 : P.funcs[g]? = none := Array.getElem?_eq_none (by omega)
    rw [leadsAt, e1, List.getD_eq_getElem?_getD, List.getElem?_eq_none (by omega)]; rfl
theorem closure_eq {P : Program} {tab : List (List Nat)} {n : Nat} (hn : P.funcs.size = n) (ht : tab.length = n) (h : ∀ g, leadsAt P g = tab.getD g []) (f : FuncId) : P.closure f = closT tab (1 + (tab.map fun l => l.length + 1).sum) [f] [] := by
  have e : (P.funcs.toList.map fun g => (P.leadsTo g).length + 1) = tab.map fun l => l.length + 1 := by
    apply List.ext_getElem?
    intro i
    rw [List.getElem?_map, List.getElem?_map]
    have hi := h i
    unfold leadsAt at hi
    rw [Array.getElem?_toList]
    by_cases hl : i < n
    · have h1 : i < P.funcs.size := by omega
      have h2 : i < tab.length := by omega
      rw [Array.getElem?_eq_getElem h1] at hi ⊢
      rw [List.getD_eq_getElem?_getD, List.getElem?_eq_getElem h2] at hi
      rw [List.getElem?_eq_getElem h2]
      have hi : P.leadsTo P.funcs[i] = tab[i] := hi
      rw [Option.map_some, Option.map_some, hi]
    · rw [Array.getElem?_eq_none (by omega), List.getElem?_eq_none (by omega)]; rfl
  unfold Program.closure
  rw [e, closureVia_eq h]
theorem mapsRowed_parts {P : Program} {n k m : Nat} (hn : P.types.size = n) (hk : n ≤ k * m) (h : ∀ j, j < m → (List.range' (k * j) k).all (fun t => match P.underlying t with | some (.map _ e) => decide (e < n) | _ => true) = true) : mapsRowed P = true := by
  unfold mapsRowed
  rw [hn]
  exact all_parts hk h (fun _ _ => trivial)
end Go.Wam
