/- What a cache tells never falls: plainly. No condition. -/
import Derived.Test.YtdnnpgmekbnlbaaC10S10L
set_option linter.unusedVariables false
set_option linter.unusedSimpArgs false
namespace Go.Proofs.Ytdnnpgmekbnlbaa
open Go.Wam

theorem le_tr {a b c : Stp} (h : ltS b a = false) (g : ltS c b = false) : ltS c a = false := by
  unfold ltS at *
  simp only [Bool.or_eq_false_iff, Bool.and_eq_false_iff, decide_eq_false_iff_not] at *
  omega
theorem le_rf (a : Stp) : ltS a a = false := by unfold ltS; simp
theorem max_l (a b : Stp) : ltS (maxS a b) a = false := max_ge (le_rf a)
theorem max_r (a b : Stp) : ltS (maxS a b) b = false := by
  unfold maxS
  cases h : ltS a b with
  | true => simp only [if_true]; exact le_rf b
  | false => simpa using h
theorem max_in (a b : Stp) : maxS a b = a ∨ maxS a b = b := by unfold maxS; split <;> simp
section
variable {lo lo' : Stp} {L L' : List Sn} {f t f' t' : List UInt8} {a : Stp} {all : List Stp}
theorem most_ub {s : Sn} (hs : s ∈ L) (hm : meetB s.f s.t f t = true) : ltS (mostF lo L f t) s.a = false := by
  unfold mostF
  have key : ∀ (L : List Sn) (o : Stp), ltS (L.foldl (fun out s => if meetB s.f s.t f t = true then maxS out s.a else out) o) o = false ∧ ∀ s ∈ L, meetB s.f s.t f t = true → ltS (L.foldl (fun out s => if meetB s.f s.t f t = true then maxS out s.a else out) o) s.a = false := by
    intro L
    induction L with
    | nil => intro o; exact ⟨le_rf o, fun s hs => by cases hs⟩
    | cons x L ih =>
      intro o
      obtain ⟨h1, h2⟩ := ih (if meetB x.f x.t f t = true then maxS o x.a else o)
      refine ⟨?_, fun s hs hm => ?_⟩
      · refine le_tr ?_ h1
        split
        · exact max_l _ _
        · exact le_rf o
      · rcases List.mem_cons.1 hs with rfl | hs
        · refine le_tr ?_ h1
          rw [if_pos hm]
          exact max_r _ _
        · exact h2 s hs hm
  exact (key L lo).2 s hs hm
theorem most_in : mostF lo L f t = lo ∨ ∃ s ∈ L, meetB s.f s.t f t = true ∧ mostF lo L f t = s.a := by
  unfold mostF
  have key : ∀ (L : List Sn) (o : Stp), L.foldl (fun out s => if meetB s.f s.t f t = true then maxS out s.a else out) o = o ∨ ∃ s ∈ L, meetB s.f s.t f t = true ∧ L.foldl (fun out s => if meetB s.f s.t f t = true then maxS out s.a else out) o = s.a := by
    intro L
    induction L with
    | nil => intro o; exact .inl rfl
    | cons x L ih =>
      intro o
      rcases ih (if meetB x.f x.t f t = true then maxS o x.a else o) with h | ⟨s, hs, hm, h⟩
      · rw [List.foldl_cons, h]
        by_cases hx : meetB x.f x.t f t = true
        · rw [if_pos hx]
          rcases max_in o x.a with e | e
          · exact .inl e
          · exact .inr ⟨x, by simp, hx, e⟩
        · rw [if_neg hx]; exact .inl rfl
      · exact .inr ⟨s, by simp [hs], hm, h⟩
  exact key L lo
/-- What the one told, the other tells too. -/
def Over (lo : Stp) (L : List Sn) (lo' : Stp) (L' : List Sn) : Prop := ltS lo' lo = false ∧ ∀ s ∈ L, s ∈ L' ∨ ltS lo' s.a = false
theorem over_most (h : Over lo L lo' L') : ltS (mostF lo' L' f t) (mostF lo L f t) = false := by
  rcases most_in (lo := lo) (L := L) (f := f) (t := t) with e | ⟨s, hs, hm, e⟩
  · rw [e]; exact le_tr h.1 (most_ge lo' L' f t)
  · rw [e]
    rcases h.2 s hs with h2 | h2
    · exact most_ub h2 hm
    · exact le_tr h2 (most_ge lo' L' f t)
theorem erase_or {k : Nat} {s : Sn} (hk : k < L.length) (hs : s ∈ L) : s ∈ L.eraseIdx k ∨ s = L[k] := by
  obtain ⟨j, hj, rfl⟩ := List.mem_iff_getElem.1 hs
  by_cases h : j = k
  · subst h; exact .inr rfl
  · left
    rw [List.mem_eraseIdx_iff_getElem]
    exact ⟨j, hj, h, rfl⟩
theorem add_over : Over lo L (addS lo L f t a).1 (addS lo L f t a).2 ∧ (addE f t a = 0 → (⟨f, t, a⟩ : Sn) ∈ (addS lo L f t a).2 ∨ ltS (addS lo L f t a).1 a = false) := by
  unfold addS
  cases hw : addW lo f t a with
  | true =>
    rw [if_pos rfl]
    by_cases h16 : (L ++ [(⟨f, t, a⟩ : Sn)]).length ≤ 16
    · rw [if_pos h16]
      exact ⟨⟨le_rf lo, fun s hs => .inl (by simp [hs])⟩, fun _ => .inl (by simp)⟩
    · rw [if_neg h16]
      have hk := minT_lt (L ++ [(⟨f, t, a⟩ : Sn)]) (k := (L ++ [(⟨f, t, a⟩ : Sn)]).length) (by simp)
      have hat := atN_get hk
      simp only
      generalize minT (L ++ [(⟨f, t, a⟩ : Sn)]) (L ++ [(⟨f, t, a⟩ : Sn)]).length = k at *
      have any : ∀ s ∈ L ++ [(⟨f, t, a⟩ : Sn)], s ∈ (L ++ [(⟨f, t, a⟩ : Sn)]).eraseIdx k ∨ ltS (maxS lo (atN (L ++ [(⟨f, t, a⟩ : Sn)]) k)) s.a = false := fun s hs => by
        rcases erase_or hk hs with h | h
        · exact .inl h
        · right; rw [h, hat]; exact max_r _ _
      exact ⟨⟨max_l _ _, fun s hs => any s (by simp [hs])⟩, fun _ => any ⟨f, t, a⟩ (by simp)⟩
  | false =>
    rw [if_neg (by simp)]
    refine ⟨⟨le_rf lo, fun s hs => .inl hs⟩, fun h0 => .inr ?_⟩
    unfold addE at h0
    unfold addW at hw
    cases h1 : rightB f t <;> cases h2 : rightT a <;> simp [h1, h2] at h0 hw
    exact hw
theorem raise_over : Over lo L (raiseS lo L a).1 (raiseS lo L a).2 ∧ (raiseE a = 0 → ltS (raiseS lo L a).1 a = false) := by
  unfold raiseS raiseE
  cases h : rightT a with
  | true =>
    simp only [if_true]
    refine ⟨⟨max_l _ _, fun s hs => ?_⟩, fun _ => max_r _ _⟩
    cases h2 : ltS (maxS lo a) s.a with
    | true => exact .inl (List.mem_filter.2 ⟨hs, h2⟩)
    | false => exact .inr rfl
  | false =>
    simp only [Bool.false_eq_true, if_false]
    exact ⟨⟨le_rf lo, fun s hs => .inl hs⟩, fun h => by cases h⟩
/-- All stamps that it can tell were given. -/
def Known (all : List Stp) (lo : Stp) (L : List Sn) : Prop := lo ∈ all ∧ ∀ s ∈ L, s.a ∈ all
theorem Known.most (h : Known all lo L) : mostF lo L f t ∈ all := by
  rcases most_in (lo := lo) (L := L) (f := f) (t := t) with e | ⟨s, hs, _, e⟩
  · rw [e]; exact h.1
  · rw [e]; exact h.2 s hs
theorem Known.add (h : Known all lo L) : Known (if addE f t a = 0 then all ++ [a] else all) (addS lo L f t a).1 (addS lo L f t a).2 := by
  unfold addS
  cases hw : addW lo f t a with
  | true =>
    rw [addW_E hw, if_pos rfl, if_pos rfl]
    have hall : ∀ s ∈ L ++ [(⟨f, t, a⟩ : Sn)], s.a ∈ all ++ [a] := fun s hs => by
      rcases List.mem_append.1 hs with hs | hs
      · exact List.mem_append_left _ (h.2 s hs)
      · simp at hs; subst hs; simp
    split
    · exact ⟨List.mem_append_left _ h.1, hall⟩
    · have hk := minT_lt (L ++ [(⟨f, t, a⟩ : Sn)]) (k := (L ++ [(⟨f, t, a⟩ : Sn)]).length) (by simp)
      refine ⟨?_, fun s hs => hall s (List.mem_of_mem_eraseIdx hs)⟩
      rcases max_in lo (atN (L ++ [(⟨f, t, a⟩ : Sn)]) (minT (L ++ [(⟨f, t, a⟩ : Sn)]) (L ++ [(⟨f, t, a⟩ : Sn)]).length)) with e | e
      · rw [e]; exact List.mem_append_left _ h.1
      · rw [e, atN_get hk]; exact hall _ (List.getElem_mem hk)
  | false =>
    simp only [Bool.false_eq_true, if_false]
    split
    · exact ⟨List.mem_append_left _ h.1, fun s hs => List.mem_append_left _ (h.2 s hs)⟩
    · exact h
theorem Known.raise (h : Known all lo L) : Known (if raiseE a = 0 then all ++ [a] else all) (raiseS lo L a).1 (raiseS lo L a).2 := by
  unfold raiseS raiseE
  cases hr : rightT a with
  | true =>
    simp only [if_true]
    refine ⟨?_, fun s hs => List.mem_append_left _ (h.2 s (List.mem_filter.1 hs).1)⟩
    rcases max_in lo a with e | e
    · rw [e]; exact List.mem_append_left _ h.1
    · rw [e]; simp
  | false =>
    simp only [Bool.false_eq_true, if_false]
    exact h
end
end Go.Proofs.Ytdnnpgmekbnlbaa
