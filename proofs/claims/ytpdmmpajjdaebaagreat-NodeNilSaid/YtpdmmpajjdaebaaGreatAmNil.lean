/- The abstract machine: a function of no arguments whose run on the empty heap is reckoned by the kernel tells the same on every heap; tables as trees. No condition. -/
import Derived.Test.YtpdmmpajjdaebaaGreatAmEz
import Derived.Test.YtpdmmpajjdaebaaGreatAmR
set_option linter.unusedVariables false
set_option linter.unusedSimpArgs false
namespace Go.Wam
section
variable {P : Program} {m m' : Nat → Loc} {H : AHeap} {w w' : World}

theorem Sim.none (m : Nat → Loc) (w : World) : Sim P m ml0 [] noH w where
  wf := fun i => by simp [AHeap.get, noH, getP_nil_leaf]
  obj := fun i o h => by simp [AHeap.get, noH, getP_nil_leaf] at h
  ok := fun i o h => by simp [AHeap.get, noH, getP_nil_leaf] at h
  inj := fun i j ⟨o, h, _⟩ => by simp [AHeap.get, noH, getP_nil_leaf] at h
  sep := fun i j ⟨o, h, _⟩ => by simp [AHeap.get, noH, getP_nil_leaf] at h
  locs := fun t c h => by simp [look] at h
  locok := fun t c h => by simp [look] at h
  locinj := fun t u c d h => by simp [look] at h
  locsep := fun t c i h => by simp [look] at h

/-- What a function of no arguments tells on the empty heap, it tells on every heap. -/
theorem ATrip.any {f : FuncId} {b : Bool} (h : ATrip P f [] noH (.bool b) noH) (H : AHeap) : ATrip P f [] H (.bool b) H := by
  obtain ⟨hF, _, hT⟩ := h
  refine ⟨hF, Nat.le_refl _, fun m w S _ => ?_⟩
  refine (hT m w (Sim.none m w) (fun v hv => by cases hv)).mono ?_
  rintro e w' ⟨u, rfl, m', rfl, _, G, _⟩
  refine ⟨_, rfl, m, by simp [conc], S.frame fun b hb => ?_, ?_, by simp [AV.okP]⟩
  · exact G.keep b (S.used_lt hb) (fun id ⟨o, h, _⟩ => by simp [AHeap.get, noH, getP_nil_leaf] at h) (fun t c h => by simp [look] at h)
  · refine ⟨Nat.le_refl _, fun _ _ => rfl, G.size, G.os, G.tape, G.output, fun b hb _ _ => ?_, fun id h => .inl ⟨id, h, rfl⟩, fun t c h => .inl ⟨c, h, rfl⟩, Nat.le_refl _, fun _ _ _ => rfl, fun _ h => h⟩
    exact G.keep b hb (fun id ⟨o, h, _⟩ => by simp [AHeap.get, noH, getP_nil_leaf] at h) (fun t c h => by simp [look] at h)

theorem runF_noH {C : CallF} {n : Nat} {F : FnIR} {v : AV} {H' : AHeap} (h : runF C n F [] noH = some (v, H')) (hv : v.okB 0 = true) : H' = noH := by
  unfold runF at h
  split at h
  · rw [Option.bind_eq_some_iff] at h
    obtain ⟨q, _, h⟩ := h
    unfold leaveA at h
    split at h
    · cases h
    · rw [Option.bind_eq_some_iff] at h
      obtain ⟨H2, _, h⟩ := h
      split at h
      · split at h
        · simp only [Option.some.injEq, Prod.mk.injEq] at h
          obtain ⟨rfl, rfl⟩ := h
          unfold fin
          rw [if_pos ⟨Nat.zero_le _, hv⟩]
        · cases h
      · cases h
  · cases h

/-- Reckoned by the kernel. -/
theorem alive_any {T : FuncId → Option FnDef} (hm : P.follows .mixedOrders = true) (hT : TableOk P T) {f : FuncId} {F : FnIR} (hf : f < yieldF) (hF : T f = some (.ir F)) {n : Nat} {b : Bool}
    (h : (ob (evFX T n f [] noH) fun r => sBool r.1) = some b) (H : AHeap) : ATrip P f [] H (.bool b) H := by
  obtain ⟨⟨v, H'⟩, h1, h2⟩ := ob_some.1 h
  cases sBool_some h2
  have h1 := evFX_some h1
  cases n with
  | zero => simp [evF] at h1
  | succ n =>
    have hd : ¬ deferF ≤ f := fun h => absurd (Nat.lt_of_lt_of_le hf (Nat.le_trans (show yieldF ≤ deferF by decide) h)) (Nat.lt_irrefl _)
    rw [evF] at h1
    simp only [if_neg (Nat.ne_of_lt hf), if_neg hd, hF] at h1
    cases runF_noH h1 (by simp [AV.okB])
    exact (runF_sound hm (evF_sound hm hT n) (hT f _ hF) h1).any H

/-- Such a function, as one that is given. -/
def aliveG (b : Bool) : List AV → AHeap → Option (AV × AHeap) := fun a H => match a with
  | [] => some (.bool b, H)
  | _ => none
theorem aliveG_fits {f : FuncId} {b : Bool} (h : ∀ H, ATrip P f [] H (.bool b) H) : FitsD P f (.prim (aliveG b)) := by
  intro args H v H' e
  cases args with
  | nil => cases e; exact h H
  | cons a r => cases e

/-! ## A law whose arguments bear no ids -/
theorem ATrip.free {f : FuncId} {args : List AV} {b : Bool} (h : ATrip P f args noH (.bool b) noH) (ha : ∀ v ∈ args, v.okB 0 = true) (H : AHeap) : ATrip P f args H (.bool b) H := by
  obtain ⟨hF, _, hT⟩ := h
  refine ⟨hF, Nat.le_refl _, fun m w S hok => ?_⟩
  refine (hT m w (Sim.none m w) (fun v hv => okB_okP (n := 0) (fun i k _ hi => absurd hi (Nat.not_lt_zero _)) v (ha v hv) (hok v hv))).mono ?_
  rintro e w' ⟨u, rfl, m', rfl, _, G, _⟩
  refine ⟨_, rfl, m, by simp [conc], S.frame fun b hb => ?_, ?_, by simp [AV.okP]⟩
  · exact G.keep b (S.used_lt hb) (fun id ⟨o, h, _⟩ => by simp [AHeap.get, noH, getP_nil_leaf] at h) (fun t c h => by simp [look] at h)
  · refine ⟨Nat.le_refl _, fun _ _ => rfl, G.size, G.os, G.tape, G.output, fun b hb _ _ => ?_, fun id h => .inl ⟨id, h, rfl⟩, fun t c h => .inl ⟨c, h, rfl⟩, Nat.le_refl _, fun _ _ _ => rfl, fun _ h => h⟩
    exact G.keep b hb (fun id ⟨o, h, _⟩ => by simp [AHeap.get, noH, getP_nil_leaf] at h) (fun t c h => by simp [look] at h)
theorem runF_noH' {C : CallF} {n : Nat} {F : FnIR} {args : List AV} {v : AV} {H' : AHeap} (h : runF C n F args noH = some (v, H')) (hv : v.okB 0 = true) : H' = noH := by
  unfold runF at h
  split at h
  · rw [Option.bind_eq_some_iff] at h
    obtain ⟨q, _, h⟩ := h
    unfold leaveA at h
    split at h
    · cases h
    · rw [Option.bind_eq_some_iff] at h
      obtain ⟨H2, _, h⟩ := h
      split at h
      · split at h
        · simp only [Option.some.injEq, Prod.mk.injEq] at h
          obtain ⟨rfl, rfl⟩ := h
          unfold fin
          rw [if_pos ⟨Nat.zero_le _, hv⟩]
        · cases h
      · cases h
  · cases h

/-- What a function of arguments that bear no ids tells, of a shape that is told. -/
noncomputable def phi (P : Program) (f : FuncId) (args : List AV) : Bool := open Classical in if ATrip P f args noH (.bool true) noH then true else false
noncomputable def shapeG (P : Program) (f : FuncId) (sh : List AV → Bool) : List AV → AHeap → Option (AV × AHeap) := fun args H => bc (sh args) (some (.bool (phi P f args), H))
theorem shapeG_fits {f : FuncId} {sh : List AV → Bool} (h : ∀ args, sh args = true → (∀ v ∈ args, v.okB 0 = true) ∧ ∃ b, ATrip P f args noH (.bool b) noH) : FitsD P f (.prim (shapeG P f sh)) := by
  intro args H v H' e
  obtain ⟨h1, h2⟩ := bc_some.1 e
  cases h2
  obtain ⟨k1, b, k2⟩ := h args h1
  have : ATrip P f args noH (.bool (phi P f args)) noH := by
    unfold phi
    split
    · assumption
    · rename_i hn
      cases b with
      | true => exact absurd k2 hn
      | false => exact k2
  exact this.free k1 H

/-- A body, cut behind its second region. -/
def cutP : IC → IC
  | .seq a (.keep k1 l1 (.seq b (.keep k2 l2 c))) => .seq a (.keep k1 l1 (.seq b (.keep k2 l2 .skip)))
  | _ => .stuck
def cutR : IC → IC
  | .seq a (.keep k1 l1 (.seq b (.keep k2 l2 c))) => c
  | _ => .stuck
theorem cut_run {C : CallF} {n : Nat} {s s1 : St} {r : AExit × St} : ∀ {body : IC}, evC C n (cutP body) s = some (.normal, s1) → evC C n (cutR body) s1 = some r → evC C n body s = some r
  | .seq a (.keep k1 l1 (.seq b (.keep k2 l2 c))), h1, h2 => by
    simp only [cutP, cutR, evC] at h1 h2 ⊢
    cases ha : evC C n a s with
    | none => rw [ha] at h1; cases h1
    | some q =>
      obtain ⟨x, sa⟩ := q
      rw [ha] at h1
      cases x with
      | normal =>
        simp only at h1 ⊢
        cases hb : evC C n b { env := prune k1 sa.env, loc := prune l1 sa.loc, H := sa.H } with
        | none => rw [hb] at h1; cases h1
        | some q =>
          obtain ⟨x, sb⟩ := q
          rw [hb] at h1
          cases x with
          | normal => cases h1; exact h2
          | exit j => cases h1
          | ret => cases h1
      | exit j => cases h1
      | ret => cases h1
  | .skip, h, _ | .region _, h, _ | .regionD .., h, _ | .cond .., h, _ | .block .., h, _ | .loop _, h, _ | .exit _, h, _ | .ret, h, _ | .rangeF .., h, _ | .mapR .., h, _ | .stuck, h, _ | .keep .., h, _ => by simp [cutP, evC] at h
  | .seq _ .skip, h, _ | .seq _ (.region _), h, _ | .seq _ (.regionD ..), h, _ | .seq _ (.cond ..), h, _ | .seq _ (.block ..), h, _ | .seq _ (.loop _), h, _ | .seq _ (.exit _), h, _ | .seq _ .ret, h, _ | .seq _ (.rangeF ..), h, _ | .seq _ (.mapR ..), h, _ | .seq _ .stuck, h, _ | .seq _ (.seq ..), h, _ => by simp [cutP, evC] at h
  | .seq _ (.keep _ _ .skip), h, _ | .seq _ (.keep _ _ (.region _)), h, _ | .seq _ (.keep _ _ (.regionD ..)), h, _ | .seq _ (.keep _ _ (.cond ..)), h, _ | .seq _ (.keep _ _ (.block ..)), h, _ | .seq _ (.keep _ _ (.loop _)), h, _ | .seq _ (.keep _ _ (.exit _)), h, _ | .seq _ (.keep _ _ .ret), h, _ | .seq _ (.keep _ _ (.rangeF ..)), h, _ | .seq _ (.keep _ _ (.mapR ..)), h, _ | .seq _ (.keep _ _ .stuck), h, _ | .seq _ (.keep _ _ (.keep ..)), h, _ => by simp [cutP, evC] at h
  | .seq _ (.keep _ _ (.seq _ .skip)), h, _ | .seq _ (.keep _ _ (.seq _ (.region _))), h, _ | .seq _ (.keep _ _ (.seq _ (.regionD ..))), h, _ | .seq _ (.keep _ _ (.seq _ (.cond ..))), h, _ | .seq _ (.keep _ _ (.seq _ (.block ..))), h, _ | .seq _ (.keep _ _ (.seq _ (.loop _))), h, _ | .seq _ (.keep _ _ (.seq _ (.exit _))), h, _ | .seq _ (.keep _ _ (.seq _ .ret)), h, _ | .seq _ (.keep _ _ (.seq _ (.rangeF ..))), h, _ | .seq _ (.keep _ _ (.seq _ (.mapR ..))), h, _ | .seq _ (.keep _ _ (.seq _ .stuck)), h, _ | .seq _ (.keep _ _ (.seq _ (.seq ..))), h, _ => by simp [cutP, evC] at h

/-- A law whose arguments bear no ids, reckoned by the kernel in two parts: up to where its second region ends, and from there on. -/
theorem law_free {T : FuncId → Option FnDef} (hm : P.follows .mixedOrders = true) (hT : TableOk P T) {f : FuncId} {F : FnIR} (hf : f < yieldF) (hF : T f = some (.ir F)) {args : List AV} (ha : ∀ v ∈ args, v.okB 0 = true) (hl : args.length = F.nargs) {n : Nat} {s1 : St}
    (h1 : evCX (cutP F.body) (evFX T n) n (enterX args noH) = some (.normal, s1)) (h2 : (ob (evCX (cutR F.body) (evFX T n) n s1) fun r => ob (leaveX (evFX T n) F noH r) fun q => sBool q.1) = some true) (H : AHeap) : ATrip P f args H (.bool true) H := by
  obtain ⟨r, h3, h2⟩ := ob_some.1 h2
  obtain ⟨⟨v, H'⟩, h4, h2⟩ := ob_some.1 h2
  cases sBool_some h2
  have hle := evFX_le (T := T) n
  have k1 := evC_le hle _ (Nat.le_refl n) (evCX_le _ h1)
  have k2 := evC_le hle _ (Nat.le_refl n) (evCX_le _ h3)
  rw [enterX_eq] at k1
  have k3 := cut_run k1 k2
  have hr : runF (evF T n) n F args noH = some (.bool true, H') := by
    simp only [runF, hl, if_true, k3, Option.bind_some]
    exact leaveA_le hle (leaveX_le h4)
  cases runF_noH' hr (by simp [AV.okB])
  exact (runF_sound hm (evF_sound hm hT n) (hT f _ hF) hr).free ha H

/-! ## Shapes that bear no ids -/
def flatS : Sh → List Sh
  | .unit => []
  | .pair a b => flatS a ++ flatS b
  | s => [s]
def IsFl : List Sh → List AV → Prop
  | [], l => l = []
  | .int k :: r, l => ∃ n l', l = .int k n :: l' ∧ IsFl r l'
  | .str :: r, l => ∃ s l', l = .str s :: l' ∧ IsFl r l'
  | .bool :: r, l => ∃ b l', l = .bool b :: l' ∧ IsFl r l'
  | _ :: r, l => ∃ v l', l = v :: l' ∧ IsFl r l'
theorem isFl_append : ∀ {a b : List Sh} {x y : List AV}, IsFl a x → IsFl b y → IsFl (a ++ b) (x ++ y)
  | [], b, x, y, h1, h2 => by cases h1; exact h2
  | s :: a, b, x, y, h1, h2 => by
    cases s with
    | int k => obtain ⟨n, l, rfl, h1⟩ := h1; exact ⟨n, l ++ y, rfl, isFl_append h1 h2⟩
    | str => obtain ⟨n, l, rfl, h1⟩ := h1; exact ⟨n, l ++ y, rfl, isFl_append h1 h2⟩
    | bool => obtain ⟨n, l, rfl, h1⟩ := h1; exact ⟨n, l ++ y, rfl, isFl_append h1 h2⟩
    | unit => obtain ⟨n, l, rfl, h1⟩ := h1; exact ⟨n, l ++ y, rfl, isFl_append h1 h2⟩
    | pair a b => obtain ⟨n, l, rfl, h1⟩ := h1; exact ⟨n, l ++ y, rfl, isFl_append h1 h2⟩
    | slice a b e => obtain ⟨n, l, rfl, h1⟩ := h1; exact ⟨n, l ++ y, rfl, isFl_append h1 h2⟩
theorem isC_flat {H : AHeap} : ∀ {sh : Sh} {l : List AV}, IsC H sh l → IsFl (flatS sh) l
  | .unit, l, h => h
  | .pair a b, l, h => by
    obtain ⟨x, y, rfl, h1, h2⟩ := h
    exact isFl_append (isC_flat h1) (isC_flat h2)
  | .bool, l, h => by obtain ⟨b, rfl⟩ := h; exact ⟨b, [], rfl, rfl⟩
  | .int k, l, h => by obtain ⟨n, rfl, _⟩ := h; exact ⟨n, [], rfl, rfl⟩
  | .str, l, h => by obtain ⟨s, rfl, _⟩ := h; exact ⟨s, [], rfl, rfl⟩
  | .slice sz by_ e, l, h => by obtain ⟨v, rows, rfl, _⟩ := h; exact ⟨v, [], rfl, rfl⟩

/-! ## Tables as trees -/
def TTFit (P : Program) : TT → Prop
  | .leaf => True
  | .node k d l r => FitsD P k d ∧ TTFit P l ∧ TTFit P r
theorem tableOkT : ∀ {t : TT}, TTFit P t → TableOk P (fun f => t.find f)
  | .leaf, _, f, d, h => by cases h
  | .node k d l r, ⟨h1, h2, h3⟩, f, e, h => by
    have h : ifb (Nat.blt f k) (l.find f) (ifb (Nat.blt k f) (r.find f) (some d)) = some e := h
    cases c1 : Nat.blt f k with
    | true => rw [c1] at h; exact tableOkT h2 f e h
    | false =>
      rw [c1] at h
      simp only [ifb_false] at h
      cases c2 : Nat.blt k f with
      | true => rw [c2] at h; exact tableOkT h3 f e h
      | false =>
        rw [c2] at h
        cases h
        have : f = k := by
          rcases Nat.lt_trichotomy f k with h | h | h
          · have : Nat.blt f k = true := Nat.ble_eq_true_of_le h; rw [c1] at this; cases this
          · exact h
          · have : Nat.blt k f = true := Nat.ble_eq_true_of_le h; rw [c2] at this; cases this
        subst this
        cases d <;> exact h1
end
end Go.Wam
