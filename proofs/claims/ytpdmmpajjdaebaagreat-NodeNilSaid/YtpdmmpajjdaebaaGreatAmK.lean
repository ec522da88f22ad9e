/- The abstract machine: regions that draw their order. No condition. -/
import Derived.Test.YtpdmmpajjdaebaaGreatAmJ
import Derived.Orders
set_option linter.unusedVariables false
set_option linter.unusedSimpArgs false
namespace Go.Wam

/-! ## Static facts -/
/-- A set that is closed under what its members wait for. -/
def Closed (ops : Array Oper) (S : Nat → Prop) : Prop := ∀ (i : Nat) (o : Oper), ops[i]? = some o → S i → ∀ e ∈ o.after, Region.binds .any e = true → S e.on

theorem masksGo_spec {ops : Array Oper} {S : Nat → Prop} (hS : Closed ops S) : ∀ (r : List Oper) (acc : List Nat) (n : Nat), acc.length = n → (∀ k, r[k]? = ops[n + k]?) → (∀ i j, S i → (acc.reverse.getD i 0).testBit j = true → S j) →
    ∀ i j, S i → ((masksGo r acc n).reverse.getD i 0).testBit j = true → S j := by
  intro r
  induction r with
  | nil => intro acc n _ _ h; exact h
  | cons o r ih =>
    intro acc n hl hr h
    simp only [masksGo, strictN_eq]
    refine ih _ (n + 1) (by simp [hl]) (fun k => ?_) ?_
    · have := hr (k + 1)
      simp only [List.getElem?_cons_succ] at this
      rw [this]
      congr 1; omega
    · intro i j hi hj
      have ho : ops[n]? = some o := by have := hr 0; simpa using this.symm
      rw [List.reverse_cons] at hj
      by_cases hlt : i < n
      · rw [show ∀ m : Nat, (acc.reverse ++ [m]).getD i 0 = acc.reverse.getD i 0 by intro m; simp [List.getD_eq_getElem?_getD, List.getElem?_append_left, hl, hlt]] at hj
        exact h i j hi hj
      · by_cases he : i = n
        · subst he
          rw [show ∀ m : Nat, (acc.reverse ++ [m]).getD i 0 = m by intro m; simp [List.getD_eq_getElem?_getD, ← hl]] at hj
          have key : ∀ (es : List Edge) (m : Nat), (∀ e ∈ es, e ∈ o.after) → (∀ x, m.testBit x = true → S x) → ∀ x, (es.foldl (fun m e => if Region.binds .any e && decide (e.on < i) then (m ||| (1 <<< e.on)) ||| acc.getD (i - 1 - e.on) 0 else if Region.binds .any e then m ||| (1 <<< e.on) else m) m).testBit x = true → S x := by
            intro es
            induction es with
            | nil => intro m _ hm; exact hm
            | cons e es ihe =>
              intro m hes hm
              simp only [List.foldl_cons]
              refine ihe _ (fun e' he' => hes e' (by simp [he'])) ?_
              intro x hx
              have one : ∀ x, (1 <<< e.on : Nat).testBit x = true → x = e.on := fun x hx => by
                rw [Nat.testBit_shiftLeft] at hx
                simp only [Bool.and_eq_true, decide_eq_true_eq] at hx
                have := Nat.testBit_one_eq_true_iff_self_eq_zero.1 hx.2
                omega
              by_cases hb : Region.binds .any e = true
              · have hon := hS _ o ho hi e (hes e (by simp)) hb
                by_cases hlt2 : e.on < i
                · simp only [hb, hlt2, decide_true, Bool.and_self, if_true, Nat.testBit_or, Bool.or_eq_true] at hx
                  rcases hx with (hx | hx) | hx
                  · exact hm x hx
                  · rw [one x hx]; exact hon
                  · refine h _ _ hon ?_
                    rw [List.getD_eq_getElem?_getD, List.getElem?_reverse (by omega), hl]
                    rw [List.getD_eq_getElem?_getD] at hx
                    exact hx
                · simp only [hb, hlt2, decide_false, Bool.and_false, Bool.false_eq_true, if_false, if_true, Nat.testBit_or, Bool.or_eq_true] at hx
                  rcases hx with hx | hx
                  · exact hm x hx
                  · rw [one x hx]; exact hon
              · simp only [hb, Bool.false_and, Bool.false_eq_true, if_false] at hx
                exact hm x hx
          exact key _ 0 (fun e he => by simpa using he) (by simp) j hj
        · rw [show ∀ m : Nat, (acc.reverse ++ [m]).getD i 0 = 0 by intro m; rw [List.getD_eq_getElem?_getD, List.getElem?_eq_none (by simp [hl]; omega)]; rfl] at hj
          simp at hj

theorem preds_closed {ops : Array Oper} {S : Nat → Prop} (hS : Closed ops S) {i j : Nat} (hi : S i) (hj : j ∈ (preds ops).getD i []) : S j := by
  refine masksGo_spec hS ops.toList [] 0 rfl (fun k => by simp) (fun i j _ h => ?_) i j hi ?_
  · simp at h
  · unfold preds at hj
    rw [List.getD_eq_getElem?_getD, List.getElem?_map] at hj
    rw [List.getD_eq_getElem?_getD]
    cases hm : (masksGo ops.toList [] 0).reverse[i]? with
    | none => rw [hm] at hj; simp at hj
    | some m =>
      rw [hm] at hj
      simp only [Option.map_some, Option.getD_some, List.mem_filter] at hj
      exact hj.2

mutual
theorem AV.beq_eq : ∀ (a b : AV), AV.beq a b = true → a = b
  | .bool a, b, h => by cases b <;> simp_all [AV.beq]
  | .int k a, b, h => by cases b <;> simp_all [AV.beq]
  | .str s, b, h => by cases b <;> simp_all [AV.beq]
  | .nilp, b, h => by cases b <;> simp_all [AV.beq]
  | .ptr _ _, b, h => by cases b <;> simp_all [AV.beq]
  | .lptr _ _, b, h => by cases b <;> simp_all [AV.beq]
  | .nils, b, h => by cases b <;> simp_all [AV.beq]
  | .slice .., b, h => by cases b <;> simp_all [AV.beq]
  | .oslice .., b, h => by cases b <;> simp_all [AV.beq]
  | .eslice .., b, h => by cases b <;> simp_all [AV.beq]
  | .xslice .., b, h => by cases b <;> simp_all [AV.beq]
  | .nilm, b, h => by cases b <;> simp_all [AV.beq]
  | .map _, b, h => by cases b <;> simp_all [AV.beq]
  | .yield _, b, h => by cases b <;> simp_all [AV.beq]
  | .func f x y, b, h => by
    cases b <;> simp only [AV.beq, Bool.false_eq_true, Bool.and_eq_true, decide_eq_true_eq] at h
    rw [h.1.1, AV.beqL_eq _ _ h.1.2, AV.beqL_eq _ _ h.2]
  | .nilFunc, b, h => by cases b <;> simp_all [AV.beq]
  | .iface t v, b, h => by
    cases b <;> simp only [AV.beq, Bool.false_eq_true, Bool.and_eq_true, decide_eq_true_eq] at h
    rw [h.1, AV.beq_eq _ _ h.2]
  | .nilIface, b, h => by cases b <;> simp_all [AV.beq]
  | .agg x, b, h => by
    cases b <;> simp only [AV.beq, Bool.false_eq_true] at h
    rw [AV.beqL_eq _ _ h]
  | .tuple x, b, h => by
    cases b <;> simp only [AV.beq, Bool.false_eq_true] at h
    rw [AV.beqL_eq _ _ h]
theorem AV.beqL_eq : ∀ (a b : List AV), AV.beqL a b = true → a = b
  | [], b, h => by cases b <;> simp_all [AV.beqL]
  | x :: a, b, h => by
    cases b with
    | nil => simp [AV.beqL] at h
    | cons y b =>
      simp only [AV.beqL, Bool.and_eq_true] at h
      rw [AV.beq_eq _ _ h.1, AV.beqL_eq _ _ h.2]
end

theorem put_env (s : St) (dst : Option Nat) (v : AV) : (s.put dst v).loc = s.loc ∧ (s.put dst v).H = s.H ∧ (s.put dst v).env = match dst with | some d => (d, v) :: s.env | none => s.env := by
  cases dst <;> exact ⟨rfl, rfl, rfl⟩

end Go.Wam
