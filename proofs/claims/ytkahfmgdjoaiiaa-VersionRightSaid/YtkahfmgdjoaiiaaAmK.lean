/- The abstract machine: regions that draw their order. No condition. -/
import Derived.Test.YtkahfmgdjoaiiaaAmJ
import Derived.Orders
set_option linter.unusedVariables false
set_option linter.unusedSimpArgs false
namespace Go.Wam

/-- Reckoned ahead of what goes on with it (for the kernel). -/
def strictN {α : Type} (n : Nat) (k : Nat → α) : α := match n with | 0 => k 0 | p + 1 => k (p + 1)
theorem strictN_eq {α : Type} (n : Nat) (k : Nat → α) : strictN n k = k n := by cases n <;> rfl

/-- For each operation, all that it waits for: a bit each; the last one first. -/
def masksGo : List Oper → List Nat → Nat → List Nat
  | [], acc, _ => acc
  | o :: r, acc, n => strictN (o.after.toList.foldl (fun m e => if Region.binds .any e && decide (e.on < n) then (m ||| (1 <<< e.on)) ||| acc.getD (n - 1 - e.on) 0 else if Region.binds .any e then m ||| (1 <<< e.on) else m) 0) fun m =>
    strictN (n + 1) fun n' => masksGo r (m :: acc) n'

def preds (ops : Array Oper) : List (List Nat) := (masksGo ops.toList [] 0).reverse.map fun m => (List.range ops.size).filter fun j => m.testBit j

def compAt (P : Program) (nt : Nat) (locals : List Nat) (ops : Array Oper) : List Nat → Option (List IOper)
  | [] => some []
  | i :: r => match (ops[i]?).bind (compOper P nt locals ops), compAt P nt locals ops r with
    | some o, some os => some (o :: os)
    | _, _ => none

/-- The order in which we carry the operations out: each effect behind all that it waits for, the rest last. -/
def canonD (P : Program) (locals : List Nat) (ops : Array Oper) : List Nat :=
  let pr := preds ops
  let idx := List.range ops.size
  let isE := fun i => match ops[i]? with
    | some o => (match compOp P locals o.dst o.op with | some io => io.cls == .effect | none => false)
    | none => false
  let out := (idx.filter isE).foldl (fun acc e => acc ++ (idx.filter fun i => (pr.getD e []).contains i && !acc.contains i) ++ (if acc.contains e then [] else [e])) []
  out ++ idx.filter fun i => !out.contains i

def usesOp : Opd → List Nat
  | .tmp t => [t]
  | _ => []

/-- The slots that an operation of the model looks at. -/
def usesOf (ops : Array Oper) (o : Oper) : List Nat := o.looksAt ops

/-- May two operations' slots meet? -/
def clash (ops : Array Oper) (x y : Oper) : Bool :=
  (match x.dst with | some d => (usesOf ops y).contains d || y.dst == some d | none => false) ||
  (match y.dst with | some d => (usesOf ops x).contains d | none => false)

def allocs (c : Cls) : Bool := c == .alloc || c == .effect

/-- The boundaries at which a read has to tell the same: behind no effect, or behind effect r - 1. -/
def needAt (pr : List (List Nat)) (ord : List Nat) (cls : List Cls) (q r : Nat) : Bool :=
  let n := ord.length
  let o := fun p => ord.getD p 0
  (r == 0 || cls.getD (r - 1) .pure == .effect) &&
  (List.range n).all fun e => cls.getD e .pure != .effect ||
    (if e < r then !(pr.getD (o e) []).contains (o q) else !(pr.getD (o q) []).contains (o e))

/-- No effect and nothing made between two places. -/
def quietIn (cls : List Cls) (r q : Nat) : Bool := (List.range q).all fun p => p < r || !allocs (cls.getD p .pure)

def checksOf (pr : List (List Nat)) (ord : List Nat) (cls : List Cls) : List (Nat × Nat) :=
  let n := ord.length
  (List.range n).flatMap fun q => if cls.getD q .pure == .read then
    (List.range (n + 1)).filterMap fun r => if needAt pr ord cls q r && !(decide (r ≤ q) && quietIn cls r q) then some (q, r) else none
  else []

def drawOk (ops : Array Oper) (ord : List Nat) (ios : List IOper) : Bool :=
  let pr := preds ops
  let n := ops.size
  let cls := ios.map (·.op.cls)
  let o := fun p => ord.getD p 0
  let op := fun p => ops.getD (o p) default
  (ord.length == n) && ((List.range n).all fun i => ord.contains i) && (ord.all fun i => decide (i < n)) &&
  ((List.range n).all fun q => (List.range q).all fun p => o p != o q) &&
  ((List.range n).all fun q => (List.range q).all fun p => (!(cls.getD q .pure == .effect) || !allocs (cls.getD p .pure) || (pr.getD (o q) []).contains (o p))) &&
  ((List.range n).all fun q => (List.range q).all fun p => (!clash ops (op p) (op q) || (pr.getD (o q) []).contains (o p))) &&
  ((List.range n).all fun q => (List.range q).all fun p => !(cls.getD p .pure == .alloc && cls.getD q .pure == .alloc && (op p).dst == (op q).dst)) &&
  ((List.range n).all fun i => (ops.getD i default).after.toList.all fun e => !Region.binds .any e || decide (e.on < i)) &&
  ((List.range n).all fun i => !(pr.getD i []).contains i)

/-- Looked at one by one, so that no kernel has to go deep. -/
def warm (ops : Array Oper) : Bool := (List.range ops.size).all fun i => ((preds ops).getD i []).all fun _ => true

def compD (P : Program) (nt : Nat) (locals : List Nat) (ops : Array Oper) : Option IC :=
  if warm ops = false then none else
  let ord := canonD P locals ops
  match compAt P nt locals ops ord with
  | some ios => if drawOk ops ord ios then some (.regionD ios (checksOf (preds ops) ord (ios.map (·.op.cls)))) else none
  | none => none

/-! ## Static facts -/
/-- A set that is closed under what its members wait for. -/
def Closed (ops : Array Oper) (S : Nat → Prop) : Prop := ∀ (i : Nat) (o : Oper), ops[i]? = some o → S i → ∀ e ∈ o.after, Region.binds .any e = true → S e.on

theorem masksGo_spec {ops : Array Oper} {S : Nat → Prop} (hS : Closed ops S) : ∀ (r : List Oper) (acc : List Nat) (n : Nat), acc.length = n → (∀ k, r[k]? = ops[n + k]?) → (∀ i j, S i → (acc.reverse.getD i 0).testBit j = true → S j) →
    ∀ i j, S i → ((masksGo r acc n).reverse.getD i 0).testBit j = true → S j := by
  intro r
  induction r with
  | nil => intro acc n _ _ h; exact h
  | cons o r ih =>
    intro acc n hl hr h
    simp only [masksGo, strictN_eq]
    refine ih _ (n + 1) (by simp [hl]) (fun k => ?_) ?_
    · have := hr (k + 1)
      simp only [List.getElem?_cons_succ] at this
      rw [this]
      congr 1; omega
    · intro i j hi hj
      have ho : ops[n]? = some o := by have := hr 0; simpa using this.symm
      rw [List.reverse_cons] at hj
      by_cases hlt : i < n
      · rw [show ∀ m : Nat, (acc.reverse ++ [m]).getD i 0 = acc.reverse.getD i 0 by intro m; simp [List.getD_eq_getElem?_getD, List.getElem?_append_left, hl, hlt]] at hj
        exact h i j hi hj
      · by_cases he : i = n
        · subst he
          rw [show ∀ m : Nat, (acc.reverse ++ [m]).getD i 0 = m by intro m; simp [List.getD_eq_getElem?_getD, ← hl]] at hj
          have key : ∀ (es : List Edge) (m : Nat), (∀ e ∈ es, e ∈ o.after) → (∀ x, m.testBit x = true → S x) → ∀ x, (es.foldl (fun m e => if Region.binds .any e && decide (e.on < i) then (m ||| (1 <<< e.on)) ||| acc.getD (i - 1 - e.on) 0 else if Region.binds .any e then m ||| (1 <<< e.on) else m) m).testBit x = true → S x := by
            intro es
            induction es with
            | nil => intro m _ hm; exact hm
            | cons e es ihe =>
              intro m hes hm
              simp only [List.foldl_cons]
              refine ihe _ (fun e' he' => hes e' (by simp [he'])) ?_
              intro x hx
              have one : ∀ x, (1 <<< e.on : Nat).testBit x = true → x = e.on := fun x hx => by
                rw [Nat.testBit_shiftLeft] at hx
                simp only [Bool.and_eq_true, decide_eq_true_eq] at hx
                have := Nat.testBit_one_eq_true_iff_self_eq_zero.1 hx.2
                omega
              by_cases hb : Region.binds .any e = true
              · have hon := hS _ o ho hi e (hes e (by simp)) hb
                by_cases hlt2 : e.on < i
                · simp only [hb, hlt2, decide_true, Bool.and_self, if_true, Nat.testBit_or, Bool.or_eq_true] at hx
                  rcases hx with (hx | hx) | hx
                  · exact hm x hx
                  · rw [one x hx]; exact hon
                  · refine h _ _ hon ?_
                    rw [List.getD_eq_getElem?_getD, List.getElem?_reverse (by omega), hl]
                    rw [List.getD_eq_getElem?_getD] at hx
                    exact hx
                · simp only [hb, hlt2, decide_false, Bool.and_false, Bool.false_eq_true, if_false, if_true, Nat.testBit_or, Bool.or_eq_true] at hx
                  rcases hx with hx | hx
                  · exact hm x hx
                  · rw [one x hx]; exact hon
              · simp only [hb, Bool.false_and, Bool.false_eq_true, if_false] at hx
                exact hm x hx
          exact key _ 0 (fun e he => by simpa using he) (by simp) j hj
        · rw [show ∀ m : Nat, (acc.reverse ++ [m]).getD i 0 = 0 by intro m; rw [List.getD_eq_getElem?_getD, List.getElem?_eq_none (by simp [hl]; omega)]; rfl] at hj
          simp at hj

theorem preds_closed {ops : Array Oper} {S : Nat → Prop} (hS : Closed ops S) {i j : Nat} (hi : S i) (hj : j ∈ (preds ops).getD i []) : S j := by
  refine masksGo_spec hS ops.toList [] 0 rfl (fun k => by simp) (fun i j _ h => ?_) i j hi ?_
  · simp at h
  · unfold preds at hj
    rw [List.getD_eq_getElem?_getD, List.getElem?_map] at hj
    rw [List.getD_eq_getElem?_getD]
    cases hm : (masksGo ops.toList [] 0).reverse[i]? with
    | none => rw [hm] at hj; simp at hj
    | some m =>
      rw [hm] at hj
      simp only [Option.map_some, Option.getD_some, List.mem_filter] at hj
      exact hj.2

mutual
theorem AV.beq_eq : ∀ (a b : AV), AV.beq a b = true → a = b
  | .bool a, b, h => by cases b <;> simp_all [AV.beq]
  | .int k a, b, h => by cases b <;> simp_all [AV.beq]
  | .str s, b, h => by cases b <;> simp_all [AV.beq]
  | .nilp, b, h => by cases b <;> simp_all [AV.beq]
  | .ptr _ _, b, h => by cases b <;> simp_all [AV.beq]
  | .lptr _ _, b, h => by cases b <;> simp_all [AV.beq]
  | .nils, b, h => by cases b <;> simp_all [AV.beq]
  | .slice .., b, h => by cases b <;> simp_all [AV.beq]
  | .oslice .., b, h => by cases b <;> simp_all [AV.beq]
  | .eslice .., b, h => by cases b <;> simp_all [AV.beq]
  | .xslice .., b, h => by cases b <;> simp_all [AV.beq]
  | .nilm, b, h => by cases b <;> simp_all [AV.beq]
  | .map _, b, h => by cases b <;> simp_all [AV.beq]
  | .func f x y, b, h => by
    cases b <;> simp only [AV.beq, Bool.false_eq_true, Bool.and_eq_true, decide_eq_true_eq] at h
    rw [h.1.1, AV.beqL_eq _ _ h.1.2, AV.beqL_eq _ _ h.2]
  | .nilFunc, b, h => by cases b <;> simp_all [AV.beq]
  | .iface t v, b, h => by
    cases b <;> simp only [AV.beq, Bool.false_eq_true, Bool.and_eq_true, decide_eq_true_eq] at h
    rw [h.1, AV.beq_eq _ _ h.2]
  | .nilIface, b, h => by cases b <;> simp_all [AV.beq]
  | .agg x, b, h => by
    cases b <;> simp only [AV.beq, Bool.false_eq_true] at h
    rw [AV.beqL_eq _ _ h]
  | .tuple x, b, h => by
    cases b <;> simp only [AV.beq, Bool.false_eq_true] at h
    rw [AV.beqL_eq _ _ h]
theorem AV.beqL_eq : ∀ (a b : List AV), AV.beqL a b = true → a = b
  | [], b, h => by cases b <;> simp_all [AV.beqL]
  | x :: a, b, h => by
    cases b with
    | nil => simp [AV.beqL] at h
    | cons y b =>
      simp only [AV.beqL, Bool.and_eq_true] at h
      rw [AV.beq_eq _ _ h.1, AV.beqL_eq _ _ h.2]
end

/-! ## What an operation leaves of the state -/
theorem evOp_shape {dst : Option Nat} {s s' : St} {io : IOp} {v : AV} (h : evOp dst s io = some (v, s')) : s'.env = s.env ∧ (io.cls = .pure → s' = s) ∧ (io.cls = .read → s' = s) ∧ s.H.n ≤ s'.H.n := by
  have one : ∀ {α : Type} {o : Option α} {f : α → AV}, (o.map fun u => (f u, s)) = some (v, s') → s' = s := by
    intro α o f h
    cases o with
    | none => cases h
    | some u => simp at h; exact h.2.symm
  have same : s' = s → s'.env = s.env ∧ (io.cls = .pure → s' = s) ∧ (io.cls = .read → s' = s) ∧ s.H.n ≤ s'.H.n := fun e => by subst e; exact ⟨rfl, fun _ => rfl, fun _ => rfl, Nat.le_refl _⟩
  cases io
  case alloc l sz z =>
    cases l
    · simp only [evOp, Option.some.injEq, Prod.mk.injEq] at h; obtain ⟨_, rfl⟩ := h; exact ⟨rfl, by simp [IOp.cls], by simp [IOp.cls], by simp⟩
    · simp only [evOp] at h
      split at h
      · split at h <;> cases h; exact ⟨rfl, by simp [IOp.cls], by simp [IOp.cls], Nat.le_refl _⟩
      · cases h
  case box l sz x =>
    cases l
    · simp only [evOp] at h
      split at h
      · split at h <;> cases h; exact ⟨rfl, by simp [IOp.cls], by simp [IOp.cls], by simp⟩
      · cases h
    · simp only [evOp] at h
      split at h
      · split at h <;> cases h; exact ⟨rfl, by simp [IOp.cls], by simp [IOp.cls], Nat.le_refl _⟩
      · cases h
  case buildSlice sz len z ps =>
    simp only [evOp] at h
    cases hf : fillA s.env ps z with
    | none => simp [hf] at h
    | some r => simp [hf] at h; obtain ⟨_, rfl⟩ := h; exact ⟨rfl, by simp [IOp.cls], by simp [IOp.cls], by simp⟩
  case mkMap => simp only [evOp, Option.some.injEq, Prod.mk.injEq] at h; obtain ⟨_, rfl⟩ := h; exact ⟨rfl, by simp [IOp.cls], by simp [IOp.cls], by simp⟩
  case mkSlice sz b z l c =>
    simp only [evOp] at h
    split at h
    · split at h <;> cases h; exact ⟨rfl, by simp [IOp.cls], by simp [IOp.cls], by simp⟩
    · cases h
  case conv c x =>
    simp only [evOp] at h
    split at h <;> cases h
    · exact same rfl
    · exact same rfl
    · exact ⟨rfl, by simp [IOp.cls], by simp [IOp.cls], by simp⟩
  case store sz a x =>
    simp only [evOp] at h
    split at h
    · rename_i q u _ _
      cases hs : storeA s sz u q with
      | none => simp [hs] at h
      | some s1 =>
        simp [hs] at h; obtain ⟨_, rfl⟩ := h
        unfold storeA at hs
        split at hs
        · split at hs
          · split at hs <;> cases hs; exact ⟨rfl, by simp [IOp.cls], by simp [IOp.cls], Nat.le_refl _⟩
          · cases hs
        · split at hs
          · split at hs <;> cases hs; exact ⟨rfl, by simp [IOp.cls], by simp [IOp.cls], Nat.le_refl _⟩
          · cases hs
        · cases hs
    · cases h
  case append sz b a x =>
    simp only [evOp] at h
    split at h
    · rename_i q u _ _
      cases hs : appendA s.H sz b q u with
      | none => simp [hs] at h
      | some r =>
        obtain ⟨v1, H1⟩ := r
        simp [hs] at h; obtain ⟨_, rfl⟩ := h
        refine ⟨rfl, by simp [IOp.cls], by simp [IOp.cls], ?_⟩
        simp only
        unfold appendA at hs
        (repeat' (split at hs)) <;> (try cases hs) <;> simp
    · cases h
  case clear sz z x =>
    simp only [evOp] at h
    have cl : ∀ {id off len : Nat}, clearA s sz z id off len = some (v, s') → s'.env = s.env ∧ s.H.n ≤ s'.H.n := by
      intro id off len hc
      unfold clearA at hc
      (repeat' (split at hc)) <;> (try cases hc) <;> simp
    split at h
    · cases h; exact ⟨rfl, by simp [IOp.cls], by simp [IOp.cls], Nat.le_refl _⟩
    · cases h; exact ⟨rfl, by simp [IOp.cls], by simp [IOp.cls], Nat.le_refl _⟩
    · cases h; exact ⟨rfl, by simp [IOp.cls], by simp [IOp.cls], Nat.le_refl _⟩
    · obtain ⟨a, b⟩ := cl h; exact ⟨a, by simp [IOp.cls], by simp [IOp.cls], b⟩
    · obtain ⟨a, b⟩ := cl h; exact ⟨a, by simp [IOp.cls], by simp [IOp.cls], b⟩
    · cases h
  case call f as => simp [evOp] at h
  case bad => simp [evOp] at h
  case indexAddr arr sz x i =>
    apply same
    cases arr <;> simp only [evOp] at h <;> (repeat' (split at h)) <;> first | (cases h; done) | (cases h; rfl)
  case index arr x i =>
    apply same
    cases arr <;> simp only [evOp] at h <;> (repeat' (split at h)) <;> first | exact one h | (cases h; done) | (cases h; rfl)
  all_goals
    apply same
    simp only [evOp] at h
    (repeat' (split at h)) <;> first | exact one h | (cases h; done) | (cases h; rfl)

theorem put_env (s : St) (dst : Option Nat) (v : AV) : (s.put dst v).loc = s.loc ∧ (s.put dst v).H = s.H ∧ (s.put dst v).env = match dst with | some d => (d, v) :: s.env | none => s.env := by
  cases dst <;> exact ⟨rfl, rfl, rfl⟩

end Go.Wam
