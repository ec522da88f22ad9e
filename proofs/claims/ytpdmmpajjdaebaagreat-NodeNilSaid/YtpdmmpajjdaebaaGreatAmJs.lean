/- The abstract machine: what an operation leaves of the state. No condition. -/
import Derived.Test.YtpdmmpajjdaebaaGreatAmI
set_option linter.unusedVariables false
set_option linter.unusedSimpArgs false
namespace Go.Wam

/-- As many ids at the least, what the frame has deferred as it was. -/
def HLe (H H' : AHeap) : Prop := H.n ≤ H'.n ∧ H'.dfs = H.dfs
theorem HLe.refl (H : AHeap) : HLe H H := ⟨Nat.le_refl _, rfl⟩

theorem appendX_le {H H' : AHeap} {sz b n : Nat} {xs : List AV} {a v : AV} (h : appendX H sz b n xs a = some (v, H')) : HLe H H' := by
  unfold appendX at h
  (repeat' (split at h)) <;> (try cases h) <;> simp [HLe]
theorem appendA_le {H H' : AHeap} {sz b : Nat} {a x v : AV} (h : appendA H sz b a x = some (v, H')) : HLe H H' := by
  unfold appendA at h
  split at h
  · cases h
  · exact appendX_le h
theorem appendZ_le {H H' : AHeap} {sz b : Nat} {z : List AV} {a x v : AV} (h : appendZ H sz b z a x = some (v, H')) : HLe H H' := by
  unfold appendZ at h
  split at h
  · split at h
    · exact appendX_le h
    · cases h
  · cases h
theorem nextA_le {H H' : AHeap} {u r : AV} (h : nextA H u = some (r, H')) : HLe H H' := by
  unfold nextA at h
  (repeat' (split at h)) <;> (try cases h) <;> simp [HLe]
theorem rangeMA_le {H H' : AHeap} {u r : AV} (h : rangeMA H u = some (r, H')) : HLe H H' := by
  unfold rangeMA at h
  (repeat' (split at h)) <;> (try cases h) <;> simp [HLe]
theorem updA_le {H H' : AHeap} {t : KeyT} {a b c : AV} (h : updA H t a b c = some H') : HLe H H' := by
  unfold updA at h
  (repeat' (split at h)) <;> (try cases h) <;> simp [HLe]
theorem delA_le {H H' : AHeap} {t : KeyT} {a b : AV} (h : delA H t a b = some H') : HLe H H' := by
  unfold delA at h
  (repeat' (split at h)) <;> (try cases h) <;> simp [HLe]
theorem mapEntryA_le {H H' : AHeap} {t : KeyT} {z a b r : AV} (h : mapEntryA H t z a b = some (r, H')) : HLe H H' := by
  unfold mapEntryA at h
  (repeat' (split at h)) <;> (try cases h) <;> simp [HLe]
theorem entryStoreA_le {H H' : AHeap} {a b c : AV} (h : entryStoreA H a b c = some H') : HLe H H' := by
  unfold entryStoreA at h
  (repeat' (split at h)) <;> (try cases h)
  rw [Option.map_eq_some_iff] at h
  obtain ⟨_, _, rfl⟩ := h
  simp [HLe]
theorem storeA_le {s s' : St} {sz : Nat} {v p : AV} (h : storeA s sz v p = some s') : s'.env = s.env ∧ HLe s.H s'.H := by
  unfold storeA at h
  (repeat' (split at h)) <;> (try cases h) <;> simp [HLe]
theorem clearA_le {s s' : St} {sz : Nat} {z : List AV} {id off len : Nat} {v : AV} (h : clearA s sz z id off len = some (v, s')) : s'.env = s.env ∧ HLe s.H s'.H := by
  unfold clearA at h
  (repeat' (split at h)) <;> (try cases h) <;> simp [HLe]
theorem copyA_le {s s' : St} {sz : Nat} {d x v : AV} (h : copyA s sz d x = some (v, s')) : s'.env = s.env ∧ HLe s.H s'.H := by
  have to : ∀ {n id off : Nat}, copyTo s sz n id off x = some (v, s') → s'.env = s.env ∧ HLe s.H s'.H := by
    intro n id off h
    unfold copyTo at h
    (repeat' (split at h)) <;> (try cases h) <;> simp [HLe]
  unfold copyA at h
  split at h <;> first | exact to h | (cases h; done) | (cases h; exact ⟨rfl, .refl _⟩)

theorem evOp_shape' {dst : Option Nat} {s s' : St} {io : IOp} {v : AV} (h : evOp dst s io = some (v, s')) : s'.env = s.env ∧ (io.cls = .pure → s' = s) ∧ (io.cls = .read → s' = s) ∧ s.H.n ≤ s'.H.n ∧ (plainOp io = true → s'.H.dfs = s.H.dfs) := by
  have one : ∀ {α : Type} {o : Option α} {f : α → AV}, (o.map fun u => (f u, s)) = some (v, s') → s' = s := by
    intro α o f h
    cases o with
    | none => cases h
    | some u => simp at h; exact h.2.symm
  have same : s' = s → s'.env = s.env ∧ (io.cls = .pure → s' = s) ∧ (io.cls = .read → s' = s) ∧ s.H.n ≤ s'.H.n ∧ (plainOp io = true → s'.H.dfs = s.H.dfs) := fun e => by subst e; exact ⟨rfl, fun _ => rfl, fun _ => rfl, Nat.le_refl _, fun _ => rfl⟩
  have heap : ∀ {H' : AHeap}, HLe s.H H' → s' = { s with H := H' } → io.cls ≠ .pure → io.cls ≠ .read → s'.env = s.env ∧ (io.cls = .pure → s' = s) ∧ (io.cls = .read → s' = s) ∧ s.H.n ≤ s'.H.n ∧ (plainOp io = true → s'.H.dfs = s.H.dfs) := by
    intro H' hl e h1 h2
    subst e
    exact ⟨rfl, fun h => absurd h h1, fun h => absurd h h2, hl.1, fun _ => hl.2⟩
  have st : (s'.env = s.env ∧ HLe s.H s'.H) → io.cls ≠ .pure → io.cls ≠ .read → s'.env = s.env ∧ (io.cls = .pure → s' = s) ∧ (io.cls = .read → s' = s) ∧ s.H.n ≤ s'.H.n ∧ (plainOp io = true → s'.H.dfs = s.H.dfs) :=
    fun ⟨a, b⟩ h1 h2 => ⟨a, fun h => absurd h h1, fun h => absurd h h2, b.1, fun _ => b.2⟩
  cases io
  case alloc l sz z =>
    cases l
    · simp only [evOp, Option.some.injEq, Prod.mk.injEq] at h; obtain ⟨_, rfl⟩ := h; exact heap (by simp [HLe]) rfl (by simp [IOp.cls]) (by simp [IOp.cls])
    · simp only [evOp] at h
      split at h
      · split at h <;> cases h; exact st ⟨rfl, .refl _⟩ (by simp [IOp.cls]) (by simp [IOp.cls])
      · cases h
  case box l sz x =>
    cases l
    · simp only [evOp] at h
      split at h
      · split at h <;> cases h; exact heap (by simp [HLe]) rfl (by simp [IOp.cls]) (by simp [IOp.cls])
      · cases h
    · simp only [evOp] at h
      split at h
      · split at h <;> cases h; exact st ⟨rfl, .refl _⟩ (by simp [IOp.cls]) (by simp [IOp.cls])
      · cases h
  case buildSlice sz len z ps =>
    simp only [evOp] at h
    cases hf : fillA s.env ps z with
    | none => simp [hf] at h
    | some r => simp [hf] at h; obtain ⟨_, rfl⟩ := h; exact heap (by simp [HLe]) rfl (by simp [IOp.cls]) (by simp [IOp.cls])
  case mkMap => simp only [evOp, Option.some.injEq, Prod.mk.injEq] at h; obtain ⟨_, rfl⟩ := h; exact heap (by simp [HLe]) rfl (by simp [IOp.cls]) (by simp [IOp.cls])
  case mkSlice sz b z l c =>
    simp only [evOp] at h
    split at h
    · split at h <;> cases h; exact heap (by simp [HLe]) rfl (by simp [IOp.cls]) (by simp [IOp.cls])
    · cases h
  case conv c x =>
    simp only [evOp] at h
    split at h
    · cases h; exact same rfl
    · cases h; exact same rfl
    · cases h; exact heap (by simp [HLe]) rfl (by simp [IOp.cls]) (by simp [IOp.cls])
    · exact same (one h)
    · (repeat' (split at h)) <;> first | (cases h; done) | (cases h; exact same rfl)
    · cases h
  case store sz a x =>
    simp only [evOp] at h
    split at h
    · rename_i q u _ _
      cases hs : storeA s sz u q with
      | none => simp [hs] at h
      | some s1 => simp [hs] at h; obtain ⟨_, rfl⟩ := h; exact st (storeA_le hs) (by simp [IOp.cls]) (by simp [IOp.cls])
    · cases h
  case append sz b a x =>
    simp only [evOp] at h
    split at h
    · rename_i q u _ _
      cases hs : appendA s.H sz b q u with
      | none => simp [hs] at h
      | some r => obtain ⟨v1, H1⟩ := r; simp [hs] at h; obtain ⟨_, rfl⟩ := h; exact heap (appendA_le hs) rfl (by simp [IOp.cls]) (by simp [IOp.cls])
    · cases h
  case appendZ sz b z a x =>
    simp only [evOp] at h
    split at h
    · rename_i q u _ _
      cases hs : appendZ s.H sz b z q u with
      | none => simp [hs] at h
      | some r => obtain ⟨v1, H1⟩ := r; simp [hs] at h; obtain ⟨_, rfl⟩ := h; exact heap (appendZ_le hs) rfl (by simp [IOp.cls]) (by simp [IOp.cls])
    · cases h
  case clear sz z x =>
    simp only [evOp] at h
    split at h
    · cases h; exact st ⟨rfl, .refl _⟩ (by simp [IOp.cls]) (by simp [IOp.cls])
    · cases h; exact st ⟨rfl, .refl _⟩ (by simp [IOp.cls]) (by simp [IOp.cls])
    · cases h; exact st ⟨rfl, .refl _⟩ (by simp [IOp.cls]) (by simp [IOp.cls])
    · exact st (clearA_le h) (by simp [IOp.cls]) (by simp [IOp.cls])
    · exact st (clearA_le h) (by simp [IOp.cls]) (by simp [IOp.cls])
    · cases h
  case copy sz d x =>
    simp only [evOp] at h
    split at h
    · exact st (copyA_le h) (by simp [IOp.cls]) (by simp [IOp.cls])
    · cases h
  case rangeS x =>
    simp only [evOp] at h
    split at h
    · cases h; exact heap (by simp [HLe]) rfl (by simp [IOp.cls]) (by simp [IOp.cls])
    · cases h
  case nextS x =>
    simp only [evOp] at h
    split at h
    · rename_i u _
      cases hs : nextA s.H u with
      | none => simp [hs] at h
      | some r => obtain ⟨r1, H1⟩ := r; simp [hs] at h; obtain ⟨_, rfl⟩ := h; exact heap (nextA_le hs) rfl (by simp [IOp.cls]) (by simp [IOp.cls])
    · cases h
  case rangeM x =>
    simp only [evOp] at h
    split at h
    · rename_i u _
      cases hs : rangeMA s.H u with
      | none => simp [hs] at h
      | some r => obtain ⟨r1, H1⟩ := r; simp [hs] at h; obtain ⟨_, rfl⟩ := h; exact heap (rangeMA_le hs) rfl (by simp [IOp.cls]) (by simp [IOp.cls])
    · cases h
  case mapUpdate t x k v1 =>
    simp only [evOp] at h
    split at h
    · rename_i a b c _ _ _
      cases hs : updA s.H t a b c with
      | none => simp [hs] at h
      | some H1 => simp [hs] at h; obtain ⟨_, rfl⟩ := h; exact heap (updA_le hs) rfl (by simp [IOp.cls]) (by simp [IOp.cls])
    · cases h
  case mapEntry t z x k =>
    simp only [evOp] at h
    split at h
    · rename_i a b _ _
      cases hs : mapEntryA s.H t z a b with
      | none => simp [hs] at h
      | some r => obtain ⟨r1, H1⟩ := r; simp [hs] at h; obtain ⟨_, rfl⟩ := h; exact heap (mapEntryA_le hs) rfl (by simp [IOp.cls]) (by simp [IOp.cls])
    · cases h
  case entryStore x b v1 =>
    simp only [evOp] at h
    split at h
    · rename_i a b c _ _ _
      cases hs : entryStoreA s.H a b c with
      | none => simp [hs] at h
      | some H1 => simp [hs] at h; obtain ⟨_, rfl⟩ := h; exact heap (entryStoreA_le hs) rfl (by simp [IOp.cls]) (by simp [IOp.cls])
    · cases h
  case delete t x k =>
    simp only [evOp] at h
    split at h
    · rename_i a b _ _
      cases hs : delA s.H t a b with
      | none => simp [hs] at h
      | some H1 => simp [hs] at h; obtain ⟨_, rfl⟩ := h; exact heap (delA_le hs) rfl (by simp [IOp.cls]) (by simp [IOp.cls])
    · cases h
  case defer f as =>
    simp only [evOp] at h
    (repeat' (split at h)) <;> first | (cases h; done) | (cases h; exact ⟨rfl, by simp [IOp.cls], by simp [IOp.cls], Nat.le_refl _, by simp [plainOp]⟩)
  case call f as => simp [evOp] at h
  case bad => simp [evOp] at h
  case nextM x => simp [evOp] at h
  case indexAddr arr sz x i =>
    apply same
    cases arr <;> simp only [evOp] at h <;> (repeat' (split at h)) <;> first | (cases h; done) | (cases h; rfl)
  case index arr x i =>
    apply same
    cases arr <;> simp only [evOp] at h <;> (repeat' (split at h)) <;> first | exact one h | (cases h; done) | (cases h; rfl)
  all_goals
    apply same
    simp only [evOp] at h
    (repeat' (split at h)) <;> first | exact one h | (cases h; done) | (cases h; rfl)

theorem evOp_shape {dst : Option Nat} {s s' : St} {io : IOp} {v : AV} (h : evOp dst s io = some (v, s')) : s'.env = s.env ∧ (io.cls = .pure → s' = s) ∧ (io.cls = .read → s' = s) ∧ s.H.n ≤ s'.H.n :=
  have h := evOp_shape' h; ⟨h.1, h.2.1, h.2.2.1, h.2.2.2.1⟩
theorem evOp_dfs {dst : Option Nat} {s s' : St} {io : IOp} {v : AV} (h : evOp dst s io = some (v, s')) (hp : plainOp io = true) : s'.H.dfs = s.H.dfs := (evOp_shape' h).2.2.2.2 hp

end Go.Wam
