/- The abstract machine: a region that draws its order comes to what its operations come to in our order. No condition. -/
import Derived.Test.YtpdmmpajjdaebaaGreatAmK
set_option linter.unusedVariables false
set_option linter.unusedSimpArgs false
namespace Go.Wam

def envPut (dst : Option Nat) (v : AV) (env : List (Nat × AV)) : List (Nat × AV) := match dst with | some d => (d, v) :: env | none => env

theorem stepOp_cases {C : CallF} {io : IOper} {s s' : St} (h : stepOp C io s = some s') : ∃ v, s'.env = envPut io.dst v s.env ∧
    ((wantedA s io.guard = some false ∧ v = undefA ∧ s'.loc = s.loc ∧ s'.H = s.H) ∨
     (wantedA s io.guard = some true ∧ ((∃ f args g vs, io.op = .call f args ∧ f.ev s.env = some g ∧ evs s.env args = some vs ∧
          callR C g vs s.H = some (v, s'.H) ∧ s'.loc = s.loc) ∨
        ((∀ f args, io.op ≠ .call f args) ∧ evOp io.dst s io.op = some (v, { env := s.env, loc := s'.loc, H := s'.H }))))) := by
  obtain ⟨dst, op, g⟩ := io
  unfold stepOp at h
  simp only at h ⊢
  split at h
  · cases h
  · rename_i hw
    cases h
    refine ⟨undefA, ?_, .inl ⟨hw, rfl, ?_, ?_⟩⟩ <;> cases dst <;> rfl
  · rename_i hw
    split at h
    · rename_i f args
      split at h
      · rename_i k vs h1 h2
        cases hc : callR C k vs s.H with
        | none => simp [hc] at h
        | some r =>
          obtain ⟨v, H'⟩ := r
          simp [hc] at h
          subst h
          refine ⟨v, by cases dst <;> rfl, .inr ⟨hw, .inl ⟨f, args, k, vs, rfl, h1, h2, ?_, by cases dst <;> rfl⟩⟩⟩
          rw [hc]; cases dst <;> rfl
      · cases h
    · rename_i hne
      cases he : evOp dst s op with
      | none => simp [he] at h
      | some r =>
        obtain ⟨v, s1⟩ := r
        simp [he] at h
        subst h
        obtain ⟨e1, _⟩ := evOp_shape he
        refine ⟨v, by cases dst <;> simp [St.put, envPut, e1], .inr ⟨hw, .inr ⟨fun f args e => hne f args e, ?_⟩⟩⟩
        rw [← e1]; cases dst <;> rfl

/-! ## A region, by places -/
/-- Does it make a local variable? -/
def isLoc : IOp → Bool
  | .alloc true _ _ => true
  | .box true _ _ => true
  | _ => false

structure Reg (P : Program) (C : CallF) (nt : Nat) (locals : List Nat) (ops : Array Oper) (n : Nat) (o : Nat → Oper) (io : Nat → IOper) (idx : Nat → Nat) (stt : Nat → St) : Prop where
  hplain : ∀ q, q < n → plainOp (io q).op = true
  hops : ∀ q, q < n → ops[idx q]? = some (o q)
  hcomp : ∀ q, q < n → compOper P nt locals ops (o q) = some (io q)
  hstep : ∀ q, q < n → stepOp C (io q) (stt q) = some (stt (q + 1))
  hsurj : ∀ i, i < ops.size → ∃ q, q < n ∧ idx q = i
  hinj : ∀ p q, p < q → q < n → idx p ≠ idx q
  heff : ∀ p q, p < q → q < n → (io q).op.cls = .effect → allocs (io p).op.cls = true → idx p ∈ (preds ops).getD (idx q) []
  hclash : ∀ p q, p < q → q < n → clash ops (o p) (o q) = true → idx p ∈ (preds ops).getD (idx q) []
  halloc : ∀ p q, p < q → q < n → (io p).op.cls = .alloc → (io q).op.cls = .alloc → (o p).dst ≠ (o q).dst
  hdown : ∀ i o', ops[i]? = some o' → ∀ e ∈ o'.after, Region.binds .any e = true → e.on < i
  hfresh : ∀ q, q < n → ∀ t, (o q).dst = some t → isLoc (io q).op = true → look t (stt 0).loc = none ∧ ∀ k off, look k (stt 0).env ≠ some (.lptr t off)
  hread : ∀ q, q < n → (io q).op.cls = .read → wantedA (stt q) (io q).guard = some true → ∀ d v, (o q).dst = some d → look d (stt (q + 1)).env = some v → v.okB (stt q).H.n = true
  hcheck : ∀ q r, q < n → r ≤ n → (io q).op.cls = .read → (r = 0 ∨ (io (r - 1)).op.cls = .effect) → (∀ e, e < n → (io e).op.cls = .effect → if e < r then idx q ∉ (preds ops).getD (idx e) [] else idx e ∉ (preds ops).getD (idx q) []) →
    wantedA (stt q) (io q).guard = some true → ∃ v s1, evOp (o q).dst { stt q with loc := (stt r).loc, H := (stt r).H } (io q).op = some (v, s1) ∧ ∀ d, (o q).dst = some d → look d (stt (q + 1)).env = some v


theorem Grow.add_obj {m0 m : Nat → Loc} {ml1 ml : Nat → Nat} {loc0 loc : List (Nat × List AV)} {H0 H : AHeap} {w0 w : World} (G : Grow m0 ml1 loc0 H0 w0 m ml loc H w) {ao : AObj} (hw : H.wf) (hro : ao.isRo = false) (hb : w0.heap.size ≤ (m H.n).block) :
    Grow m0 ml1 loc0 H0 w0 m ml loc (H.alloc ao) w := by
  refine ⟨Nat.le_succ_of_le G.n_le, G.agree, G.size, G.os, G.tape, G.output, G.keep, fun id h => ?_, G.locs, G.low, fun id h1 h2 => ?_, fun id h => ?_⟩
  · rw [Owned.alloc_iff hw] at h
    rcases h with ⟨rfl, _⟩ | h
    · exact .inr hb
    · exact G.own id h
  · rw [AHeap.get_alloc, if_neg (by have := G.n_le; omega)]
    exact G.pres id h1 h2
  · rw [IsRo.alloc_iff hw] at h
    rcases h with ⟨_, h⟩ | h
    · rw [hro] at h; cases h
    · exact G.ro id h

theorem Grow.add_loc {m0 m : Nat → Loc} {ml1 ml : Nat → Nat} {loc0 loc : List (Nat × List AV)} {H0 H : AHeap} {w0 w : World} (G : Grow m0 ml1 loc0 H0 w0 m ml loc H w) {t : Nat} {cells : List AV} (hb : w0.heap.size ≤ ml t) :
    Grow m0 ml1 loc0 H0 w0 m ml ((t, cells) :: loc) H w := by
  refine ⟨G.n_le, G.agree, G.size, G.os, G.tape, G.output, G.keep, G.own, fun u c h => ?_, G.low, G.pres, G.ro⟩
  simp only [look] at h
  split at h
  · rename_i e; subst e; exact .inr hb
  · exact G.locs u c h

theorem upd_self {α : Type} (f : Nat → α) (i : Nat) : upd f i (f i) = f := by
  funext j; unfold upd; split
  · rename_i h; rw [h]
  · rfl

section
variable {P : Program} {C : CallF} {nt : Nat} {locals : List Nat} {ops : Array Oper} {n : Nat} {o : Nat → Oper} {io : Nat → IOper} {idx : Nat → Nat} {stt : Nat → St}

def Wtd (io : Nat → IOper) (stt : Nat → St) (p : Nat) : Prop := wantedA (stt p) (io p).guard = some true

/-- An id that one of the operations done has brought, or that was there. -/
def asgd (n : Nat) (stt : Nat → St) (T : Nat → Prop) (id : Nat) : Prop := id < (stt 0).H.n ∨ ∃ p, p < n ∧ T p ∧ (stt p).H.n ≤ id ∧ id < (stt (p + 1)).H.n

def goodT (n : Nat) (stt : Nat → St) (T : Nat → Prop) (m : Nat → Loc) : Nat → Nat → Prop := fun id k => asgd n stt T id ∧ k ≤ (m id).room

def availL (n : Nat) (o : Nat → Oper) (io : Nat → IOper) (T : Nat → Prop) (t : Nat) : Prop := ∀ p, p < n → (o p).dst = some t → isLoc (io p).op = true → T p

def CurV (n : Nat) (o : Nat → Oper) (stt : Nat → St) (T : Nat → Prop) (t : Nat) (v : AV) (b : Nat) : Prop :=
  (∃ p, p < n ∧ T p ∧ (o p).dst = some t ∧ (∀ p', p < p' → p' < n → T p' → (o p').dst ≠ some t) ∧ look t (stt (p + 1)).env = some v ∧ b = (stt (p + 1)).H.n) ∨
  ((∀ p, p < n → T p → (o p).dst ≠ some t) ∧ look t (stt 0).env = some v ∧ b = (stt 0).H.n)

/-- The block of what operation p has made. -/
def pbk (o : Nat → Oper) (io : Nat → IOper) (stt : Nat → St) (m : Nat → Loc) (ml : Nat → Nat) (p : Nat) : Nat :=
  if isLoc (io p).op then ml ((o p).dst.getD 0) else (m (stt p).H.n).block

def Pend (P : Program) (n : Nat) (o : Nat → Oper) (io : Nat → IOper) (stt : Nat → St) (T : Nat → Prop) (m : Nat → Loc) (ml : Nat → Nat) (w : World) (p : Nat) : Prop :=
  (isLoc (io p).op = false ∧ ∃ ao, (stt (p + 1)).H = (stt p).H.alloc ao ∧ (stt (p + 1)).loc = (stt p).loc ∧ ao.owned = true ∧ ObjAt P m ml w (m (stt p).H.n) ao ∧ ao.okP (fun id k => id < (stt p).H.n ∧ goodT n stt T m id k)) ∨
  (isLoc (io p).op = true ∧ ∃ t cells, (o p).dst = some t ∧ (stt (p + 1)).loc = (t, cells) :: (stt p).loc ∧ (stt (p + 1)).H = (stt p).H ∧ LocAt m ml w (ml t) cells ∧ AV.okPL (fun id k => id < (stt p).H.n ∧ goodT n stt T m id k) cells ∧ cells.all AV.one = true)

structure Inv (P : Program) (n : Nat) (nt : Nat) (o : Nat → Oper) (io : Nat → IOper) (stt : Nat → St) (m0 : Nat → Loc) (ml1 : Nat → Nat) (w0 : World) (T : Nat → Prop) (m : Nat → Loc) (ml : Nat → Nat) (r : Nat) (a : Act) (w : World) : Prop where
  rn : r ≤ n
  rb : r = 0 ∨ (0 < r ∧ (io (r - 1)).op.cls = .effect)
  eff : ∀ p, p < n → (io p).op.cls = .effect → (T p ↔ p < r)
  all : ∀ p, p < r → (io p).op.cls = .alloc → T p
  sim : Sim P m ml (stt r).loc (stt r).H w
  pend : ∀ p, r ≤ p → p < n → T p → (io p).op.cls = .alloc → Wtd io stt p → Pend P n o io stt T m ml w p ∧ w0.heap.size ≤ pbk o io stt m ml p ∧ pbk o io stt m ml p < w.heap.size ∧ ¬ UsedB m ml (stt r).loc (stt r).H (pbk o io stt m ml p)
  pdist : ∀ p q, r ≤ p → p < q → q < n → T p → T q → (io p).op.cls = .alloc → (io q).op.cls = .alloc → Wtd io stt p → Wtd io stt q → pbk o io stt m ml p ≠ pbk o io stt m ml q
  env : ∀ t v b, CurV n o stt T t v b → a.tmps.getD t undef = conc m ml v ∧ vOk (fun id k => id < b ∧ goodT n stt T m id k) (availL n o io T) v
  size : a.tmps.size = nt
  defers : a.defers = (stt 0).H.dfs.map (concD m0)
  grow : Grow m0 ml1 (stt 0).loc (stt 0).H w0 m ml (stt r).loc (stt r).H w

variable {m0 : Nat → Loc} {ml1 : Nat → Nat} {w0 : World} {T : Nat → Prop} {m : Nat → Loc} {ml : Nat → Nat} {r : Nat} {a : Act} {w : World}

/-- What a place leaves of the memory. -/
theorem Reg.mem (G : Reg P C nt locals ops n o io idx stt) {q : Nat} (hq : q < n) : ((io q).op.cls ≠ .alloc ∨ ¬ Wtd io stt q) → (io q).op.cls ≠ .effect ∨ ¬ Wtd io stt q → (stt (q + 1)).loc = (stt q).loc ∧ (stt (q + 1)).H = (stt q).H := by
  intro h1 h2
  obtain ⟨v, _, h⟩ := stepOp_cases (G.hstep q hq)
  rcases h with ⟨_, _, a, b⟩ | ⟨hw, h⟩
  · exact ⟨a, b⟩
  · have e1 := h1.resolve_right (fun x => x hw)
    have e2 := h2.resolve_right (fun x => x hw)
    rcases h with ⟨f, args, _, _, hop, _⟩ | ⟨_, he⟩
    · rw [hop] at e2; exact absurd rfl e2
    · obtain ⟨_, s1, s2, _⟩ := evOp_shape he
      have : ({ env := (stt q).env, loc := (stt (q + 1)).loc, H := (stt (q + 1)).H } : St) = stt q := by
        cases hc : (io q).op.cls with
        | pure => exact s1 hc
        | read => exact s2 hc
        | alloc => exact absurd hc e1
        | effect => exact absurd hc e2
      have h3 := congrArg St.loc this
      have h4 := congrArg St.H this
      exact ⟨h3, h4⟩

/-- What a call leaves of the heap's size and of what is deferred. -/
theorem callR_same (hC : CallOk P C) {g : AV} {vs : List AV} {H H' : AHeap} {v : AV} (h : callR C g vs H = some (v, H')) : HLe H H' := by
  unfold callR at h
  split at h
  · split at h
    · rename_i hl
      obtain ⟨hd, _, hT, _⟩ := hC _ _ _ _ _ h
      rcases hT hl.1 with ⟨_, hn, _⟩ | ⟨⟨hn, _⟩, _⟩ <;> exact ⟨hn, hd⟩
    · cases h
  · split at h
    · obtain ⟨hd, hY, _⟩ := hC _ _ _ _ _ h
      exact ⟨(hY rfl).1, hd⟩
    · cases h
  · cases h
theorem callR_le (hC : CallOk P C) {g : AV} {vs : List AV} {H H' : AHeap} {v : AV} (h : callR C g vs H = some (v, H')) : H.n ≤ H'.n := (callR_same hC h).1

theorem Reg.mono1 (hC : CallOk P C) (G : Reg P C nt locals ops n o io idx stt) {q : Nat} (hq : q < n) : (stt q).H.n ≤ (stt (q + 1)).H.n := by
  obtain ⟨v, _, h⟩ := stepOp_cases (G.hstep q hq)
  rcases h with ⟨_, _, _, b⟩ | ⟨hw, h⟩
  · rw [b]; exact Nat.le_refl _
  · rcases h with ⟨f, args, _, _, hop, _, _, hc, _⟩ | ⟨_, he⟩
    · exact callR_le hC hc
    · exact (evOp_shape he).2.2.2

theorem Reg.mono (hC : CallOk P C) (G : Reg P C nt locals ops n o io idx stt) {p q : Nat} (h : p ≤ q) (hq : q ≤ n) : (stt p).H.n ≤ (stt q).H.n := by
  induction h with
  | refl => exact Nat.le_refl _
  | step h ih => exact Nat.le_trans (ih (by omega)) (G.mono1 hC (by omega))

theorem Reg.dfs1 (hC : CallOk P C) (G : Reg P C nt locals ops n o io idx stt) {q : Nat} (hq : q < n) : (stt (q + 1)).H.dfs = (stt q).H.dfs := by
  obtain ⟨v, _, h⟩ := stepOp_cases (G.hstep q hq)
  rcases h with ⟨_, _, _, b⟩ | ⟨hw, h⟩
  · rw [b]
  · rcases h with ⟨f, args, _, _, hop, _, _, hc, _⟩ | ⟨_, he⟩
    · exact (callR_same hC hc).2
    · exact (evOp_shape' he).2.2.2.2 (G.hplain q hq)
theorem Reg.dfs (hC : CallOk P C) (G : Reg P C nt locals ops n o io idx stt) : ∀ q, q ≤ n → (stt q).H.dfs = (stt 0).H.dfs := by
  intro q
  induction q with
  | zero => intro _; rfl
  | succ q ih => intro hq; rw [G.dfs1 hC (by omega), ih (by omega)]

theorem aowned_ro {ao : AObj} (h : ao.owned = true) : ao.isRo = false := by
  cases ao with
  | row ro _ _ => cases ro <;> simp_all [AObj.owned, AObj.isRo]
  | _ => rfl

/-- Up to the next effect: what has been made is laid in. -/
theorem Inv.advance (G : Reg P C nt locals ops n o io idx stt) (I : Inv P n nt o io stt m0 ml1 w0 T m ml r a w) : ∀ j, r ≤ j → j ≤ n → (∀ p, r ≤ p → p < j → (io p).op.cls ≠ .effect) → (∀ p, r ≤ p → p < j → (io p).op.cls = .alloc → T p) →
    Sim P m ml (stt j).loc (stt j).H w ∧ Grow m0 ml1 (stt 0).loc (stt 0).H w0 m ml (stt j).loc (stt j).H w ∧
    (∀ b, UsedB m ml (stt j).loc (stt j).H b → UsedB m ml (stt r).loc (stt r).H b ∨ ∃ p, r ≤ p ∧ p < j ∧ (io p).op.cls = .alloc ∧ Wtd io stt p ∧ pbk o io stt m ml p = b) := by
  intro j hj
  induction hj with
  | refl => intro _ _ _; exact ⟨I.sim, I.grow, fun b h => .inl h⟩
  | @step j hrj ih =>
    intro hjn he ha
    obtain ⟨S, Gr, U⟩ := ih (by omega) (fun p h1 h2 => he p h1 (by omega)) (fun p h1 h2 => ha p h1 (by omega))
    by_cases hal : (io j).op.cls = .alloc ∧ Wtd io stt j
    · obtain ⟨hcl, hw⟩ := hal
      obtain ⟨hp, hb1, hb2, hb3⟩ := I.pend j hrj (by omega) (ha j hrj (by omega) hcl) hcl hw
      have hnew : ∀ b, UsedB m ml (stt j).loc (stt j).H b → b ≠ pbk o io stt m ml j := by
        intro b hb e
        subst e
        rcases U _ hb with h | ⟨p, h1, h2, h3, h4, h5⟩
        · exact hb3 h
        · exact I.pdist p j h1 h2 (by omega) (ha p h1 (by omega) h3) (ha j hrj (by omega) hcl) h3 hcl h4 hw h5
      rcases hp with ⟨hl, ao, e1, e2, e3, e4, e5⟩ | ⟨hl, t, cells, e1, e2, e3, e4, e5, e6⟩
      · have hpb : pbk o io stt m ml j = (m (stt j).H.n).block := by simp [pbk, hl]
        rw [e1, e2]
        have S2 := S.add_obj e4 (AObj.okP_mono (fun i k hi => ⟨hi.1, hi.2.2⟩) e5) (fun b hb => by rw [← hpb]; exact hnew b hb) (aowned_ro e3)
        rw [upd_self] at S2
        refine ⟨S2, Gr.add_obj S.wf (aowned_ro e3) (by rw [← hpb]; exact hb1), ?_⟩
        intro b hb
        have : UsedB m ml (stt j).loc (stt j).H b ∨ b = pbk o io stt m ml j := by
          rcases hb with ⟨id, ho, rfl⟩ | ⟨t, c, ht, rfl⟩
          · rw [Owned.alloc_iff S.wf, IsRo.alloc_iff S.wf] at ho
            rcases ho with (⟨rfl, _⟩ | h) | (⟨rfl, _⟩ | h)
            · exact .inr hpb.symm
            · exact .inl (.inl ⟨id, .inl h, rfl⟩)
            · exact .inr hpb.symm
            · exact .inl (.inl ⟨id, .inr h, rfl⟩)
          · exact .inl (.inr ⟨t, c, ht, rfl⟩)
        rcases this with h | rfl
        · rcases U b h with h | ⟨p, h1, h2, h3⟩
          · exact .inl h
          · exact .inr ⟨p, h1, by omega, h3⟩
        · exact .inr ⟨j, hrj, by omega, hcl, hw, rfl⟩
      · have hpb : pbk o io stt m ml j = ml t := by simp [pbk, hl, e1]
        rw [e2, e3]
        have S2 := S.add_loc (t := t) (b := ml t) e4 (okPL_mono (fun i k hi => ⟨hi.1, hi.2.2⟩) _ e5) e6 (fun b hb => by rw [← hpb]; exact hnew b hb)
        rw [upd_self] at S2
        refine ⟨S2, Gr.add_loc (by rw [← hpb]; exact hb1), ?_⟩
        intro b hb
        have : UsedB m ml (stt j).loc (stt j).H b ∨ b = pbk o io stt m ml j := by
          rcases hb with ⟨id, ho, rfl⟩ | ⟨u, c, hu, rfl⟩
          · exact .inl (.inl ⟨id, ho, rfl⟩)
          · simp only [look] at hu
            split at hu
            · rename_i e; subst e; exact .inr hpb.symm
            · exact .inl (.inr ⟨u, c, hu, rfl⟩)
        rcases this with h | rfl
        · rcases U b h with h | ⟨p, h1, h2, h3⟩
          · exact .inl h
          · exact .inr ⟨p, h1, by omega, h3⟩
        · exact .inr ⟨j, hrj, by omega, hcl, hw, rfl⟩
    · have hne := he j hrj (by omega)
      have hal' : (io j).op.cls ≠ .alloc ∨ ¬ Wtd io stt j := by
        by_cases h : (io j).op.cls = .alloc
        · exact .inr fun hw => hal ⟨h, hw⟩
        · exact .inl h
      obtain ⟨e1, e2⟩ := G.mem (by omega) hal' (.inl hne)
      rw [e1, e2]
      refine ⟨S, Gr, fun b hb => ?_⟩
      rcases U b hb with h | ⟨p, h1, h2, h3⟩
      · exact .inl h
      · exact .inr ⟨p, h1, by omega, h3⟩

/-- The last that wrote a slot ahead of a place. -/
theorem Reg.last (G : Reg P C nt locals ops n o io idx stt) {t : Nat} {v : AV} : ∀ q, q ≤ n → look t (stt q).env = some v →
    (∃ p, p < q ∧ (o p).dst = some t ∧ (∀ p', p < p' → p' < q → (o p').dst ≠ some t) ∧ look t (stt (p + 1)).env = some v) ∨ ((∀ p, p < q → (o p).dst ≠ some t) ∧ look t (stt 0).env = some v) := by
  intro q
  induction q with
  | zero => intro _ h; exact .inr ⟨fun p hp => by omega, h⟩
  | succ q ih =>
    intro hq h
    have hd : (io q).dst = (o q).dst := (compOper_spec (G.hcomp q (by omega))).2.2.2
    by_cases hw : (o q).dst = some t
    · exact .inl ⟨q, by omega, hw, fun p' h1 h2 => by omega, h⟩
    · obtain ⟨v', he, _⟩ := stepOp_cases (G.hstep q (by omega))
      have h' : look t (stt q).env = some v := by
        rw [he] at h
        unfold envPut at h
        rw [hd] at h
        cases hdq : (o q).dst with
        | none => rw [hdq] at h; exact h
        | some d =>
          rw [hdq] at h hw
          simp only [look] at h
          rw [if_neg (fun e => hw (by rw [e]))] at h
          exact h
      rcases ih (by omega) h' with ⟨p, h1, h2, h3, h4⟩ | ⟨h1, h2⟩
      · refine .inl ⟨p, by omega, h2, fun p' h5 h6 => ?_, h4⟩
        by_cases e : p' = q
        · subst e; exact hw
        · exact h3 p' h5 (by omega)
      · refine .inr ⟨fun p hp => ?_, h2⟩
        by_cases e : p = q
        · subst e; exact hw
        · exact h1 p (by omega)

/-- What an operation that is due looks at has its value. -/
theorem Reg.cur (hC : CallOk P C) (G : Reg P C nt locals ops n o io idx stt) (hT : ∀ p q, p < n → q < n → idx p ∈ (preds ops).getD (idx q) [] → T q → T p) {q : Nat} (hq : q < n) (hnq : ¬ T q) (hpre : ∀ p, p < n → idx p ∈ (preds ops).getD (idx q) [] → T p)
    {t : Nat} {v : AV} (hu : t ∈ (o q).looksAt ops) (h : look t (stt q).env = some v) : ∃ b, CurV n o stt T t v b ∧ b ≤ (stt q).H.n := by
  have hlater : ∀ p', q < p' → p' < n → T p' → (o p').dst ≠ some t := by
    intro p' h1 h2 h3 hd
    have : clash ops (o q) (o p') = true := by
      simp only [clash, usesOf, hd, Bool.or_eq_true]
      exact .inr (by simpa using hu)
    exact hnq (hT q p' hq h2 (G.hclash q p' h1 h2 this) h3)
  rcases G.last q (by omega) h with ⟨p, h1, h2, h3, h4⟩ | ⟨h1, h2⟩
  · have hp : T p := by
      refine hpre p (by omega) (G.hclash p q h1 hq ?_)
      simp only [clash, usesOf, h2, Bool.or_eq_true]
      exact .inl (.inl (by simpa using hu))
    refine ⟨(stt (p + 1)).H.n, .inl ⟨p, by omega, hp, h2, fun p' h5 h6 h7 => ?_, h4, rfl⟩, G.mono hC (by omega) (by omega)⟩
    by_cases e : p' < q
    · exact h3 p' h5 e
    · by_cases e2 : p' = q
      · subst e2; exact absurd h7 hnq
      · exact hlater p' (by omega) h6 h7
  · refine ⟨(stt 0).H.n, .inr ⟨fun p h5 h6 => ?_, h2, rfl⟩, G.mono hC (Nat.zero_le _) (by omega)⟩
    by_cases e : p < q
    · exact h1 p e
    · by_cases e2 : p = q
      · subst e2; exact absurd h6 hnq
      · exact hlater p (by omega) h5 h6


theorem asgd_mono {T T' : Nat → Prop} (h : ∀ p, T p → T' p) {id : Nat} (ha : asgd n stt T id) : asgd n stt T' id :=
  ha.imp (fun h => h) fun ⟨p, h1, h2, h3⟩ => ⟨p, h1, h p h2, h3⟩

theorem availL_mono {T T' : Nat → Prop} (h : ∀ p, T p → T' p) {t : Nat} (ha : availL n o io T t) : availL n o io T' t := fun p h1 h2 h3 => h p (ha p h1 h2 h3)

/-- A slot's value behind one operation more. -/
theorem Reg.cur_step (G : Reg P C nt locals ops n o io idx stt) (hT : ∀ p q, p < n → q < n → idx p ∈ (preds ops).getD (idx q) [] → T q → T p) {q : Nat} (hq : q < n) (hnq : ¬ T q) {t : Nat} {v : AV} {b : Nat}
    (h : CurV n o stt (fun p => T p ∨ p = q) t v b) : ((o q).dst = some t ∧ look t (stt (q + 1)).env = some v ∧ b = (stt (q + 1)).H.n) ∨ ((o q).dst ≠ some t ∧ CurV n o stt T t v b) := by
  rcases h with ⟨p, h1, h2, h3, h4, h5, h6⟩ | ⟨h1, h2, h3⟩
  · by_cases hd : (o q).dst = some t
    · have : p = q := by
        rcases h2 with h2 | h2
        · by_cases e : p < q
          · exact absurd hd (h4 q e hq (.inr rfl))
          · by_cases e2 : p = q
            · exact e2
            · have : clash ops (o q) (o p) = true := by
                simp only [clash, hd, h3, Bool.or_eq_true]
                exact .inl (.inr (by simp))
              exact absurd (hT q p hq h1 (G.hclash q p (by omega) h1 this) h2) hnq
        · exact h2
      subst this
      exact .inl ⟨hd, h5, h6⟩
    · have hp : T p := by
        rcases h2 with h2 | h2
        · exact h2
        · subst h2; exact absurd h3 hd
      exact .inr ⟨hd, .inl ⟨p, h1, hp, h3, fun p' a b c => h4 p' a b (.inl c), h5, h6⟩⟩
  · exact .inr ⟨h1 q hq (.inr rfl), .inr ⟨fun p a b => h1 p a (.inl b), h2, h3⟩⟩

/-- The slots behind one operation more. -/
theorem Inv.env_step (G : Reg P C nt locals ops n o io idx stt) (hT : ∀ p q, p < n → q < n → idx p ∈ (preds ops).getD (idx q) [] → T q → T p) (I : Inv P n nt o io stt m0 ml1 w0 T m ml r a w) {q : Nat} (hq : q < n) (hnq : ¬ T q)
    {m' : Nat → Loc} {ml' : Nat → Nat} (hm : ∀ id, asgd n stt T id → m' id = m id) (hml : ∀ t, availL n o io T t → ml' t = ml t) {u : Value}
    (hv : ∀ d v, (o q).dst = some d → look d (stt (q + 1)).env = some v → u = conc m' ml' v ∧ vOk (fun id k => id < (stt (q + 1)).H.n ∧ goodT n stt (fun p => T p ∨ p = q) m' id k) (availL n o io (fun p => T p ∨ p = q)) v) :
    ∀ t v b, CurV n o stt (fun p => T p ∨ p = q) t v b → (a.put (o q).dst u).tmps.getD t undef = conc m' ml' v ∧ vOk (fun id k => id < b ∧ goodT n stt (fun p => T p ∨ p = q) m' id k) (availL n o io (fun p => T p ∨ p = q)) v := by
  intro t v b h
  have hd : ∀ d, (o q).dst = some d → d < nt := (compOper_spec (G.hcomp q hq)).1
  rcases G.cur_step hT hq hnq h with ⟨h1, h2, rfl⟩ | ⟨h1, h2⟩
  · obtain ⟨e1, e2⟩ := hv t v h1 h2
    refine ⟨?_, e2⟩
    rw [h1, getD_put (by rw [I.size]; exact hd t h1), if_pos rfl, e1]
  · obtain ⟨e1, e2⟩ := I.env t v b h2
    refine ⟨?_, e2.mono (fun id k hi => ⟨hi.1, asgd_mono (fun _ => .inl) hi.2.1, by rw [hm id hi.2.1]; exact hi.2.2⟩) (fun t => availL_mono fun _ => .inl)⟩
    have hget : (a.put (o q).dst u).tmps.getD t undef = a.tmps.getD t undef := by
      cases hdq : (o q).dst with
      | none => rfl
      | some d =>
        rw [getD_put (by rw [I.size]; exact hd d hdq), if_neg]
        rintro rfl
        exact h1 hdq
    rw [hget, e1]
    rcases e2 with e2 | ⟨t', off, rfl, hl⟩
    · exact (conc_congr ml ml' (fun id k hi => hm id hi.2.1) v e2).symm
    · simp [conc, hml t' hl]

/-- Ids that stand below a place are those of operations done, or were there. -/
theorem Inv.asgd_lt (G : Reg P C nt locals ops n o io idx stt) (I : Inv P n nt o io stt m0 ml1 w0 T m ml r a w) {id : Nat} : ∀ j, j ≤ r → id < (stt j).H.n → asgd n stt T id := by
  intro j
  induction j with
  | zero => intro _ h; exact .inl h
  | succ j ih =>
    intro hj h
    by_cases hlt : id < (stt j).H.n
    · exact ih (by omega) hlt
    · by_cases hc : (io j).op.cls = .alloc
      · exact .inr ⟨j, by have := I.rn; omega, I.all j (by omega) hc, by omega, h⟩
      · by_cases he : (io j).op.cls = .effect
        · exact .inr ⟨j, by have := I.rn; omega, (I.eff j (by have := I.rn; omega) he).2 (by omega), by omega, h⟩
        · obtain ⟨_, e⟩ := G.mem (q := j) (by have := I.rn; omega) (.inl hc) (.inl he)
          rw [e] at h; exact absurd h hlt

theorem evOp_loc {dst : Option Nat} {s s' : St} {io : IOp} {v : AV} (h : evOp dst s io = some (v, s')) (hc : io.cls = .alloc) : (isLoc io = true → s'.H = s.H) ∧ (isLoc io = false → s'.loc = s.loc) := by
  cases io <;> try (simp [IOp.cls] at hc; done)
  case len k x => cases k <;> simp [IOp.cls] at hc
  case alloc l sz z =>
    cases l
    · simp only [evOp, Option.some.injEq, Prod.mk.injEq] at h; obtain ⟨_, rfl⟩ := h; exact ⟨by simp [isLoc], fun _ => rfl⟩
    · simp only [evOp] at h
      split at h
      · split at h <;> cases h; exact ⟨fun _ => rfl, by simp [isLoc]⟩
      · cases h
  case box l sz x =>
    cases l
    · simp only [evOp] at h
      split at h
      · split at h <;> cases h; exact ⟨by simp [isLoc], fun _ => rfl⟩
      · cases h
    · simp only [evOp] at h
      split at h
      · split at h <;> cases h; exact ⟨fun _ => rfl, by simp [isLoc]⟩
      · cases h
  case buildSlice sz len z ps =>
    simp only [evOp] at h
    cases hf : fillA s.env ps z with
    | none => simp [hf] at h
    | some r => simp [hf] at h; obtain ⟨_, rfl⟩ := h; exact ⟨by simp [isLoc], fun _ => rfl⟩
  case mkMap => simp only [evOp, Option.some.injEq, Prod.mk.injEq] at h; obtain ⟨_, rfl⟩ := h; exact ⟨by simp [isLoc], fun _ => rfl⟩
  case rangeS x =>
    simp only [evOp] at h
    split at h
    · cases h; exact ⟨by simp [isLoc], fun _ => rfl⟩
    · cases h
  case mkSlice sz b z l c =>
    simp only [evOp] at h
    split at h
    · split at h <;> cases h; exact ⟨by simp [isLoc], fun _ => rfl⟩
    · cases h
  case conv c x =>
    simp only [evOp] at h
    split at h
    · cases h; exact ⟨by simp [isLoc], fun _ => rfl⟩
    · cases h; exact ⟨by simp [isLoc], fun _ => rfl⟩
    · cases h; exact ⟨by simp [isLoc], fun _ => rfl⟩
    · rename_i u _
      cases hb : bytesA s.H u with
      | none => simp [hb] at h
      | some l => simp [hb] at h; obtain ⟨_, rfl⟩ := h; exact ⟨by simp [isLoc], fun _ => rfl⟩
    · (repeat' (split at h)) <;> first | (cases h; done) | (cases h; exact ⟨by simp [isLoc], fun _ => rfl⟩)
    · cases h

theorem evOp_locs {dst : Option Nat} {s s' : St} {io : IOp} {v : AV} (h : evOp dst s io = some (v, s')) (hc : io.cls = .effect) {t : Nat} (ht : look t s.loc = none) : look t s'.loc = none := by
  cases io <;> try (simp [IOp.cls] at hc; done)
  case conv c x =>
    cases c <;> simp [IOp.cls] at hc
  case len k x => cases k <;> simp [IOp.cls] at hc
  case store sz a x =>
    simp only [evOp] at h
    split at h
    · rename_i q u _ _
      cases hs : storeA s sz u q with
      | none => simp [hs] at h
      | some s1 =>
        simp [hs] at h; obtain ⟨_, rfl⟩ := h
        unfold storeA at hs
        split at hs
        · split at hs
          · split at hs <;> cases hs; exact ht
          · cases hs
        · split at hs
          · rename_i t' off _ cells hl
            split at hs <;> cases hs
            simp only [look]
            rw [if_neg]
            · exact ht
            · rintro rfl; rw [hl] at ht; cases ht
          · cases hs
        · cases hs
    · cases h
  case append sz b a x =>
    simp only [evOp] at h
    split at h
    · rename_i q u _ _
      cases hs : appendA s.H sz b q u with
      | none => simp [hs] at h
      | some r => obtain ⟨v1, H1⟩ := r; simp [hs] at h; obtain ⟨_, rfl⟩ := h; exact ht
    · cases h
  case clear sz z x =>
    simp only [evOp] at h
    have cl : ∀ {id off len : Nat}, clearA s sz z id off len = some (v, s') → s'.loc = s.loc := by
      intro id off len hc
      unfold clearA at hc
      (repeat' (split at hc)) <;> (try cases hc) <;> rfl
    split at h
    · cases h; exact ht
    · cases h; exact ht
    · cases h; exact ht
    · rw [cl h]; exact ht
    · rw [cl h]; exact ht
    · cases h
  case nextS x =>
    simp only [evOp] at h
    split at h
    · rename_i u _
      cases hs : nextA s.H u with
      | none => simp [hs] at h
      | some r => obtain ⟨r1, H1⟩ := r; simp [hs] at h; obtain ⟨_, rfl⟩ := h; exact ht
    · cases h
  case mapUpdate t1 x k v1 =>
    simp only [evOp] at h
    split at h
    · rename_i a b c _ _ _
      cases hs : updA s.H t1 a b c with
      | none => simp [hs] at h
      | some H1 => simp [hs] at h; obtain ⟨_, rfl⟩ := h; exact ht
    · cases h
  case delete t1 x k =>
    simp only [evOp] at h
    split at h
    · rename_i a b _ _
      cases hs : delA s.H t1 a b with
      | none => simp [hs] at h
      | some H1 => simp [hs] at h; obtain ⟨_, rfl⟩ := h; exact ht
    · cases h
  case appendZ sz b z a x =>
    simp only [evOp] at h
    split at h
    · rename_i q u _ _
      cases hs : appendZ s.H sz b z q u with
      | none => simp [hs] at h
      | some r => obtain ⟨v1, H1⟩ := r; simp [hs] at h; obtain ⟨_, rfl⟩ := h; exact ht
    · cases h
  case rangeM x =>
    simp only [evOp] at h
    split at h
    · rename_i u _
      cases hs : rangeMA s.H u with
      | none => simp [hs] at h
      | some r => obtain ⟨r1, H1⟩ := r; simp [hs] at h; obtain ⟨_, rfl⟩ := h; exact ht
    · cases h
  case mapEntry t1 z x k =>
    simp only [evOp] at h
    split at h
    · rename_i a b _ _
      cases hs : mapEntryA s.H t1 z a b with
      | none => simp [hs] at h
      | some r => obtain ⟨r1, H1⟩ := r; simp [hs] at h; obtain ⟨_, rfl⟩ := h; exact ht
    · cases h
  case entryStore x b v1 =>
    simp only [evOp] at h
    split at h
    · rename_i a b c _ _ _
      cases hs : entryStoreA s.H a b c with
      | none => simp [hs] at h
      | some H1 => simp [hs] at h; obtain ⟨_, rfl⟩ := h; exact ht
    · cases h
  case copy sz d x =>
    simp only [evOp] at h
    have cl : ∀ {a b : AV}, copyA s sz a b = some (v, s') → s'.loc = s.loc := by
      intro a b hc
      have to : ∀ {n id off : Nat}, copyTo s sz n id off b = some (v, s') → s'.loc = s.loc := by
        intro n id off hc
        unfold copyTo at hc
        (repeat' (split at hc)) <;> (try cases hc) <;> rfl
      unfold copyA at hc
      split at hc <;> first | exact to hc | (cases hc; done) | (cases hc; rfl)
    split at h
    · rw [cl h]; exact ht
    · cases h
  case defer f as =>
    simp only [evOp] at h
    (repeat' (split at h)) <;> first | (cases h; done) | (cases h; exact ht)
  case nextM x => simp [evOp] at h
  case call f as => simp [evOp] at h
  case bad => simp [evOp] at h

/-- A local variable that is made at a place is not there ahead of it. -/
theorem Reg.loc_none (G : Reg P C nt locals ops n o io idx stt) {q : Nat} (hq : q < n) {t : Nat} (hd : (o q).dst = some t) (hl : isLoc (io q).op = true) : ∀ j, j ≤ q → look t (stt j).loc = none := by
  intro j
  induction j with
  | zero => intro _; exact (G.hfresh q hq t hd hl).1
  | succ j ih =>
    intro hj
    have h0 := ih (by omega)
    obtain ⟨v, _, h⟩ := stepOp_cases (G.hstep j (by omega))
    rcases h with ⟨_, _, e, _⟩ | ⟨hw, h⟩
    · rw [e]; exact h0
    · rcases h with ⟨f, args, _, _, hop, _, _, _, e⟩ | ⟨_, he⟩
      · rw [e]; exact h0
      · cases hc : (io j).op.cls with
        | pure => have := congrArg St.loc ((evOp_shape he).2.1 hc); simp only at this; rw [this]; exact h0
        | read => have := congrArg St.loc ((evOp_shape he).2.2.1 hc); simp only at this; rw [this]; exact h0
        | effect => exact evOp_locs he hc h0
        | alloc =>
          by_cases hlj : isLoc (io j).op = true
          · have hdj : (io j).dst = (o j).dst := (compOper_spec (G.hcomp j (by omega))).2.2.2
            have hne : (o j).dst ≠ (o q).dst := by
              refine G.halloc j q (by omega) hq hc ?_
              cases hop : (io q).op <;> simp [isLoc, hop] at hl <;> simp [IOp.cls]
            have key : ∃ u cells, (o j).dst = some u ∧ (stt (j + 1)).loc = (u, cells) :: (stt j).loc := by
              rw [hdj] at he
              cases hop : (io j).op with
              | alloc l sz z =>
                rw [hop] at he hlj
                cases l
                · simp [isLoc] at hlj
                · simp only [evOp] at he
                  split at he
                  · rename_i u hu; split at he
                    · simp only [Option.some.injEq, Prod.mk.injEq, St.mk.injEq] at he; exact ⟨u, z, hu, he.2.2.1.symm⟩
                    · cases he
                  · cases he
              | box l sz x =>
                rw [hop] at he hlj
                cases l
                · simp [isLoc] at hlj
                · simp only [evOp] at he
                  split at he
                  · rename_i u x' hu _; split at he
                    · simp only [Option.some.injEq, Prod.mk.injEq, St.mk.injEq] at he; exact ⟨u, _, hu, he.2.2.1.symm⟩
                    · cases he
                  · cases he
              | _ => rw [hop] at hlj; simp [isLoc] at hlj
            obtain ⟨u, cells, hu, e⟩ := key
            rw [e]
            simp only [look]
            rw [if_neg]
            · exact h0
            · rintro rfl; exact hne (hu.trans hd.symm)
          · have := (evOp_loc he hc).2 (by simpa using hlj)
            simp only at this; rw [this]; exact h0


theorem Grow.rename {m m' m'' : Nat → Loc} {ml ml' : Nat → Nat} {loc loc' : List (Nat × List AV)} {H H' : AHeap} {w w' : World} (G : Grow m ml loc H w m' ml' loc' H' w') (hw : H'.wf) (h : ∀ id, id < H'.n → m'' id = m' id) :
    Grow m ml loc H w m'' ml' loc' H' w' :=
  ⟨G.n_le, fun id hi => (h id (Nat.lt_of_lt_of_le hi G.n_le)).trans (G.agree id hi), G.size, G.os, G.tape, G.output, G.keep, fun id hi => by rw [h id (hi.lt hw)]; exact G.own id hi, G.locs, G.low, G.pres, G.ro⟩

theorem wanted_spec2 {ops : Array Oper} {s : St} {a : Act} {o : Oper} {g : Option (Nat × Bool)} {b : Bool} (R : ∀ d v, d ∈ o.looksAt ops → look d s.env = some v → a.tmps.getD d undef = conc m ml v)
    (hsz : ∀ (j d : Nat), (ops[j]?).bind (fun (x : Oper) => x.dst) = some d → d < a.tmps.size)
    (h : compGuard ops o.guard = some g) (hw : wantedA s g = some b) : Region.wanted o (yielded ops a.tmps) = b := by
  unfold Region.wanted
  cases hg : o.guard with
  | none =>
    rw [hg] at h; simp [compGuard] at h; subst h
    simp [wantedA] at hw; subst hw; rfl
  | some jw =>
    obtain ⟨j, want⟩ := jw
    rw [hg] at h
    simp only [compGuard] at h
    cases hd : (ops[j]?).bind (·.dst) with
    | none => simp [hd] at h
    | some d =>
      simp [hd] at h; subst h
      have hlt := hsz j d hd
      have hmem : d ∈ o.looksAt ops := by simp [Oper.looksAt, hg, hd]
      simp only [wantedA] at hw
      have hy : yielded ops a.tmps j = match a.tmps.getD d undef with | .bool b => some b | _ => none := by
        simp only [yielded, hd, Option.bind_some]
        have : a.tmps[d]? = some (a.tmps.getD d undef) := by
          rw [Array.getD_eq_getD_getElem?, Array.getElem?_eq_getElem hlt]; rfl
        rw [this]
        generalize a.tmps.getD d undef = u
        cases u <;> rfl
      simp only [hy]
      split at hw
      · rename_i b' hb
        cases hw
        rw [R d _ hmem hb]
        simp [conc]
      · rename_i v hne hb
        cases hw
        rw [R d _ hmem hb]
        cases v <;> simp_all [conc]
      · cases hw

/-- What was made and stands yet to be laid in stays as it is. -/
theorem Pend.keep {T' : Nat → Prop} (hT' : ∀ p, T p → T' p) {p : Nat} (h : Pend P n o io stt T m ml w p) {m' : Nat → Loc} {ml' : Nat → Nat} {w' : World} (hm : ∀ id, asgd n stt T id → m' id = m id) (hmp : isLoc (io p).op = false → m' (stt p).H.n = m (stt p).H.n)
    (hml : isLoc (io p).op = true → ∀ t, (o p).dst = some t → ml' t = ml t) (hw : w'.heap[pbk o io stt m ml p]? = w.heap[pbk o io stt m ml p]?) :
    Pend P n o io stt T' m' ml' w' p ∧ pbk o io stt m' ml' p = pbk o io stt m ml p := by
  have hg : ∀ id k, (id < (stt p).H.n ∧ goodT n stt T m id k) → (id < (stt p).H.n ∧ goodT n stt T' m' id k) := fun id k hi => ⟨hi.1, asgd_mono hT' hi.2.1, by rw [hm id hi.2.1]; exact hi.2.2⟩
  rcases h with ⟨hl, ao, e1, e2, e3, e4, e5⟩ | ⟨hl, t, cells, e1, e2, e3, e4, e5, e6⟩
  · have hpb : pbk o io stt m ml p = (m (stt p).H.n).block := by simp [pbk, hl]
    rw [hpb] at hw
    refine ⟨.inl ⟨hl, ao, e1, e2, e3, ?_, AObj.okP_mono hg e5⟩, by simp [pbk, hl, hmp hl]⟩
    rw [hmp hl]
    exact (e4.congr hw).rename (fun i k hi => hm i hi.2.1) e5
  · have hpb : pbk o io stt m ml p = ml t := by simp [pbk, hl, e1]
    rw [hpb] at hw
    refine ⟨.inr ⟨hl, t, cells, e1, e2, e3, ?_, okPL_mono hg _ e5, e6⟩, by simp [pbk, hl, e1, hml hl t e1]⟩
    rw [hml hl t e1]
    exact (e4.congr hw).rename (fun i k hi => hm i hi.2.1) e5

/-- An operation that leaves the memory as it was. -/
theorem Inv.same (G : Reg P C nt locals ops n o io idx stt) (I : Inv P n nt o io stt m0 ml1 w0 T m ml r a w) {q : Nat} (hq : q < n) (hnq : ¬ T q) (he : (io q).op.cls ≠ .effect) (ha : (io q).op.cls = .alloc → ¬ Wtd io stt q) {u : Value}
    (henv : ∀ t v b, CurV n o stt (fun p => T p ∨ p = q) t v b → (a.put (o q).dst u).tmps.getD t undef = conc m ml v ∧ vOk (fun id k => id < b ∧ goodT n stt (fun p => T p ∨ p = q) m id k) (availL n o io (fun p => T p ∨ p = q)) v) :
    Inv P n nt o io stt m0 ml1 w0 (fun p => T p ∨ p = q) m ml r (a.put (o q).dst u) w := by
  refine ⟨I.rn, I.rb, fun p hp hc => ?_, fun p hp hc => .inl (I.all p hp hc), I.sim, fun p h1 h2 h3 h4 h5 => ?_, fun p p' h1 h2 h3 h4 h5 h6 h7 h8 h9 => ?_, henv, by cases (o q).dst <;> simp [Act.put, I.size], by cases (o q).dst <;> simp [Act.put, I.defers], I.grow⟩
  · rw [← I.eff p hp hc]
    constructor
    · rintro (h | rfl)
      · exact h
      · exact absurd hc he
    · exact .inl
  · rcases h3 with h3 | rfl
    · obtain ⟨k1, k2, k3, k4⟩ := I.pend p h1 h2 h3 h4 h5
      obtain ⟨j1, j2⟩ := k1.keep (T' := fun p => T p ∨ p = q) (fun _ => .inl) (m' := m) (ml' := ml) (w' := w) (fun _ _ => rfl) (fun _ => rfl) (fun _ _ _ => rfl) rfl
      exact ⟨j1, k2, k3, k4⟩
    · exact absurd h5 (ha h4)
  · rcases h4 with h4 | rfl
    · rcases h5 with h5 | rfl
      · exact I.pdist p p' h1 h2 h3 h4 h5 h6 h7 h8 h9
      · exact absurd h9 (ha h7)
    · exact absurd h8 (ha h6)

/-- An effect. -/
theorem Inv.effect (hC : CallOk P C) (G : Reg P C nt locals ops n o io idx stt) (hT : ∀ p q, p < n → q < n → idx p ∈ (preds ops).getD (idx q) [] → T q → T p) (I : Inv P n nt o io stt m0 ml1 w0 T m ml r a w) {q : Nat} (hq : q < n) (hnq : ¬ T q)
    (hpre : ∀ p, p < n → idx p ∈ (preds ops).getD (idx q) [] → T p) (he : (io q).op.cls = .effect) {m' : Nat → Loc} {w' : World} {u : Value}
    (S' : Sim P m' ml (stt (q + 1)).loc (stt (q + 1)).H w') (G' : Grow m ml (stt q).loc (stt q).H w m' ml (stt (q + 1)).loc (stt (q + 1)).H w')
    (hv : ∀ d v, (o q).dst = some d → look d (stt (q + 1)).env = some v → u = conc m' ml v ∧ vOk (good m' (stt (q + 1)).H.n) (availL n o io (fun p => T p ∨ p = q)) v) :
    ∃ m'', Inv P n nt o io stt m0 ml1 w0 (fun p => T p ∨ p = q) m'' ml (q + 1) (a.put (o q).dst u) w' := by
  have hrq : r ≤ q := by
    by_cases h : q < r
    · exact absurd ((I.eff q hq he).2 h) hnq
    · omega
  have hne : ∀ p, r ≤ p → p < q → (io p).op.cls ≠ .effect := by
    intro p h1 h2 h3
    have := hpre p (by omega) (G.heff p q h2 hq he (by simp [allocs, h3]))
    have := (I.eff p (by omega) h3).1 this
    omega
  have hal : ∀ p, r ≤ p → p < q → (io p).op.cls = .alloc → T p := fun p h1 h2 h3 => hpre p (by omega) (G.heff p q h2 hq he (by simp [allocs, h3]))
  obtain ⟨S, Gr, U⟩ := I.advance G q hrq (by omega) hne hal
  have hm0 : ∃ m'' : Nat → Loc, (∀ id, id < (stt (q + 1)).H.n → m'' id = m' id) ∧ ∀ id, ¬ id < (stt (q + 1)).H.n → m'' id = m id :=
    ⟨fun id => if id < (stt (q + 1)).H.n then m' id else m id, fun id h => by simp [h], fun id h => by simp [h]⟩
  obtain ⟨m'', hm1, hm2⟩ := hm0
  refine ⟨m'', ?_⟩
  have hmas : ∀ id, asgd n stt T id → m'' id = m id := by
    intro id h
    by_cases hlt : id < (stt (q + 1)).H.n
    · rw [hm1 id hlt]
      refine G'.agree id ?_
      rcases h with h | ⟨p, h1, h2, h3, h4⟩
      · exact Nat.lt_of_lt_of_le h (G.mono hC (Nat.zero_le _) (by omega))
      · by_cases e : p < q
        · exact Nat.lt_of_lt_of_le h4 (G.mono hC e (by omega))
        · by_cases e2 : p = q
          · subst e2; exact absurd h2 hnq
          · have := G.mono hC (show q + 1 ≤ p by omega) (by omega); omega
    · exact hm2 id hlt
  have S2 : Sim P m'' ml (stt (q + 1)).loc (stt (q + 1)).H w' := S'.rename hm1 (fun _ _ _ => rfl)
  have G2 := G'.rename S'.wf hm1
  have hpk : ∀ p, q < p → p < n → T p → (io p).op.cls = .alloc → Wtd io stt p →
      w'.heap[pbk o io stt m ml p]? = w.heap[pbk o io stt m ml p]? ∧ (isLoc (io p).op = false → m'' (stt p).H.n = m (stt p).H.n) ∧
      ∀ b, UsedB m ml (stt q).loc (stt q).H b → b ≠ pbk o io stt m ml p := by
    intro p h1 h2 h3 h4 h5
    obtain ⟨k1, k2, k3, k4⟩ := I.pend p (by omega) h2 h3 h4 h5
    have hnu : ∀ b, UsedB m ml (stt q).loc (stt q).H b → b ≠ pbk o io stt m ml p := by
      rintro b hb rfl
      rcases U _ hb with h | ⟨p', j1, j2, j3, j4, j5⟩
      · exact k4 h
      · exact I.pdist p' p j1 (by omega) h2 (hal p' j1 j2 j3) h3 j3 h4 j4 h5 j5
    refine ⟨?_, fun _ => ?_, hnu⟩
    · exact G'.keep _ k3 (fun id hid => hnu _ (.inl ⟨id, .inl hid, rfl⟩)) (fun t c ht => hnu _ (.inr ⟨t, c, ht, rfl⟩))
    · have := G.mono hC (show q + 1 ≤ p by omega) (by omega)
      exact hm2 _ (by omega)
  refine ⟨by omega, .inr ⟨by omega, by simpa using he⟩, fun p hp hc => ?_, fun p hp hc => ?_, S2, fun p h1 h2 h3 h4 h5 => ?_, fun p p' h1 h2 h3 h4 h5 h6 h7 h8 h9 => ?_, ?_, by cases (o q).dst <;> simp [Act.put, I.size], by cases (o q).dst <;> simp [Act.put, I.defers], Gr.trans G2⟩
  · constructor
    · rintro (h | rfl)
      · have := (I.eff p hp hc).1 h; omega
      · omega
    · intro h
      by_cases e : p = q
      · exact .inr e
      · exact .inl (hpre p hp (G.heff p q (by omega) hq he (by simp [allocs, hc])))
  · by_cases e : p = q
    · exact .inr e
    · exact .inl (hpre p (by omega) (G.heff p q (by omega) hq he (by simp [allocs, hc])))
  · rcases h3 with h3 | rfl
    · obtain ⟨k1, k2, k3, k4⟩ := I.pend p (by omega) h2 h3 h4 h5
      obtain ⟨g1, g2, g3⟩ := hpk p (by omega) h2 h3 h4 h5
      obtain ⟨j1, j2⟩ := k1.keep (T' := fun p => T p ∨ p = q) (fun _ => .inl) (m' := m'') (ml' := ml) (w' := w') hmas g2 (fun _ _ _ => rfl) g1
      refine ⟨j1, by rw [j2]; exact k2, by rw [j2]; exact Nat.lt_of_lt_of_le k3 G'.size, ?_⟩
      rw [j2]
      rintro (⟨id, ho, hb⟩ | ⟨t, c, ht, hb⟩)
      · rcases ho with ho | ho
        · rcases G2.own id ho with ⟨i, hi, hbi⟩ | hbi
          · exact g3 _ (.inl ⟨i, .inl hi, rfl⟩) (hbi.trans hb)
          · omega
        · have h0 := G2.ro id ho
          have := G2.agree id (h0.lt S.wf)
          rw [this] at hb
          exact g3 _ (.inl ⟨id, .inr h0, rfl⟩) hb
      · rcases G2.locs t c ht with ⟨d, hd, hbi⟩ | hbi
        · exact g3 _ (.inr ⟨t, d, hd, rfl⟩) hb
        · omega
    · omega
  · rcases h4 with h4 | rfl
    · rcases h5 with h5 | rfl
      · obtain ⟨_, g2, _⟩ := hpk p (by omega) (by omega) h4 h6 h8
        obtain ⟨_, g2', _⟩ := hpk p' (by omega) h3 h5 h7 h9
        have e1 : pbk o io stt m'' ml p = pbk o io stt m ml p := by
          unfold pbk; split
          · rfl
          · rename_i hl; rw [g2 (by simpa using hl)]
        have e2 : pbk o io stt m'' ml p' = pbk o io stt m ml p' := by
          unfold pbk; split
          · rfl
          · rename_i hl; rw [g2' (by simpa using hl)]
        rw [e1, e2]
        exact I.pdist p p' (by omega) h2 h3 h4 h5 h6 h7 h8 h9
      · rw [he] at h7; cases h7
    · rw [he] at h6; cases h6
  · refine I.env_step G hT hq hnq hmas (fun _ _ => rfl) fun d v hd hv' => ?_
    obtain ⟨e1, e2⟩ := hv d v hd hv'
    have hcv : conc m'' ml v = conc m' ml v := by
      rcases e2 with e2 | ⟨t, off, rfl, _⟩
      · exact conc_congr ml ml (fun i k hi => hm1 i hi.1) v e2
      · simp [conc]
    refine ⟨by rw [hcv]; exact e1, e2.mono (fun id k hi => ⟨hi.1, ?_, by rw [hm1 id hi.1]; exact hi.2⟩) fun _ h => h⟩
    by_cases hlt : id < (stt q).H.n
    · -- below the place: of operations done
      by_cases h0 : id < (stt r).H.n
      · exact asgd_mono (fun _ => .inl) (I.asgd_lt G r (Nat.le_refl _) h0)
      · -- made between r and q
        have : ∀ j, r ≤ j → j ≤ q → id < (stt j).H.n → asgd n stt (fun p => T p ∨ p = q) id := by
          intro j hj
          induction hj with
          | refl => intro _ h; exact absurd h h0
          | @step j hrj ih =>
            intro hjq h
            by_cases h5 : id < (stt j).H.n
            · exact ih (by omega) h5
            · by_cases hc : (io j).op.cls = .alloc
              · exact .inr ⟨j, by omega, .inl (hal j hrj (by omega) hc), by omega, h⟩
              · obtain ⟨_, e⟩ := G.mem (q := j) (by omega) (.inl hc) (.inl (hne j hrj (by omega)))
                rw [e] at h; exact absurd h h5
        exact this q hrq (Nat.le_refl _) hlt
    · exact .inr ⟨q, hq, .inr rfl, by omega, hi.1⟩

end
end Go.Wam
