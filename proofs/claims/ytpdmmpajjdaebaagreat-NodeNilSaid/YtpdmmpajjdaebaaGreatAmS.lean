/- The abstract machine: its heaps, for reckoning. No condition. -/
import Derived.Test.YtpdmmpajjdaebaaGreatAmR
set_option linter.unusedVariables false
set_option linter.unusedSimpArgs false
namespace Go.Wam

theorem setP_setP (x y : AObj) : ∀ (p : List Bool) (t : Tr), setP y p (setP x p t) = setP y p t
  | [], .leaf => rfl
  | [], .node .. => rfl
  | true :: p, .leaf => by simp only [setP]; rw [setP_setP x y p]
  | true :: p, .node .. => by simp only [setP]; rw [setP_setP x y p]
  | false :: p, .leaf => by simp only [setP]; rw [setP_setP x y p]
  | false :: p, .node .. => by simp only [setP]; rw [setP_setP x y p]
theorem setP_comm (x y : AObj) : ∀ (p q : List Bool) (t : Tr), p ≠ q → setP y q (setP x p t) = setP x p (setP y q t)
  | [], [], _, h => absurd rfl h
  | [], true :: q, .leaf, _ => rfl
  | [], false :: q, .leaf, _ => rfl
  | [], true :: q, .node .., _ => rfl
  | [], false :: q, .node .., _ => rfl
  | true :: p, [], .leaf, _ => rfl
  | false :: p, [], .leaf, _ => rfl
  | true :: p, [], .node .., _ => rfl
  | false :: p, [], .node .., _ => rfl
  | true :: p, false :: q, .leaf, _ => rfl
  | false :: p, true :: q, .leaf, _ => rfl
  | true :: p, false :: q, .node .., _ => rfl
  | false :: p, true :: q, .node .., _ => rfl
  | true :: p, true :: q, .leaf, h => by simp only [setP]; rw [setP_comm x y p q _ fun e => h (by rw [e])]
  | true :: p, true :: q, .node .., h => by simp only [setP]; rw [setP_comm x y p q _ fun e => h (by rw [e])]
  | false :: p, false :: q, .leaf, h => by simp only [setP]; rw [setP_comm x y p q _ fun e => h (by rw [e])]
  | false :: p, false :: q, .node .., h => by simp only [setP]; rw [setP_comm x y p q _ fun e => h (by rw [e])]

/-- The heap ahead of a frame's first step. -/
def AHeap.top (H : AHeap) : AHeap := { t := H.t, n := H.n, low := H.n, dfs := [] }

@[simp] theorem mk_top (H : AHeap) : ({ t := H.t, n := H.n, low := H.n, dfs := [] } : AHeap) = H.top := rfl
@[simp] theorem top_dfs (H : AHeap) : H.top.dfs = [] := rfl
@[simp] theorem top_n (H : AHeap) : H.top.n = H.n := rfl
@[simp] theorem top_low (H : AHeap) : H.top.low = H.n := rfl
@[simp] theorem top_get (H : AHeap) (i : Nat) : H.top.get i = H.get i := by simp only [AHeap.get, AHeap.top]
@[simp] theorem top_top (H : AHeap) : H.top.top = H.top := rfl
theorem top_wf {H : AHeap} (h : H.wf) : H.top.wf := fun i => by rw [top_get]; exact h i
@[simp] theorem get_alloc_same (H : AHeap) (x : AObj) : (H.alloc x).get H.n = some x := by rw [AHeap.get_alloc, if_pos rfl]
theorem get_alloc_lt (H : AHeap) (x : AObj) {j : Nat} (h : j < H.n) : (H.alloc x).get j = H.get j := by rw [AHeap.get_alloc, if_neg (by omega)]
theorem get_alloc_ne (H : AHeap) (x : AObj) {j : Nat} (h : j ≠ H.n) : (H.alloc x).get j = H.get j := by rw [AHeap.get_alloc, if_neg h]

theorem AHeap.set_low (H : AHeap) (i : Nat) (x : AObj) : (H.set i x).low = if i < H.low then i else H.low := rfl
@[simp] theorem set_set (H : AHeap) (i : Nat) (x y : AObj) : (H.set i x).set i y = H.set i y := by
  simp only [AHeap.set, AHeap.mk.injEq, true_and, and_true]
  constructor
  · split
    · exact setP_setP ..
    · rfl
  · split <;> simp_all

theorem AHeap.eq {A B : AHeap} (h1 : A.t = B.t) (h2 : A.n = B.n) (h3 : A.low = B.low) (h4 : A.dfs = B.dfs := by rfl) : A = B := by
  cases A; cases B; simp_all

theorem set_comm (H : AHeap) {i j : Nat} (x y : AObj) (h : i ≠ j) : (H.set i x).set j y = (H.set j y).set i x := by
  refine AHeap.eq ?_ rfl ?_
  · simp only [AHeap.set]
    by_cases h1 : i < H.n <;> by_cases h2 : j < H.n <;> simp only [h1, h2, if_true, if_false]
    exact setP_comm _ _ _ _ _ fun e => h (path_inj e)
  simp only [AHeap.set_low]
  by_cases h1 : i < H.low <;> by_cases h2 : j < H.low <;> simp only [h1, h2, if_true, if_false] <;> (try rfl) <;> split <;> (try split) <;> omega

/-- What was just made, written. -/
theorem set_alloc_same (H : AHeap) (x y : AObj) (h : H.low ≤ H.n) : (H.alloc x).set H.n y = H.alloc y := by
  refine AHeap.eq ?_ rfl ?_
  · simp only [AHeap.set, AHeap.alloc, Nat.lt_succ_self, if_true]; exact setP_setP ..
  · exact if_neg (by omega : ¬ H.n < H.low)
theorem set_alloc_lt (H : AHeap) (x y : AObj) {i : Nat} (h : i < H.n) : (H.alloc x).set i y = (H.set i y).alloc x := by
  refine AHeap.eq ?_ rfl rfl
  have h1 : i < (H.alloc x).n := Nat.lt_succ_of_lt h
  show (if i < (H.alloc x).n then setP y (path i) (setP x (path H.n) H.t) else setP x (path H.n) H.t) = setP x (path H.n) (if i < H.n then setP y (path i) H.t else H.t)
  rw [if_pos h1, if_pos h]
  exact setP_comm _ _ _ _ _ fun e => by have := path_inj e; omega

@[simp] theorem top_alloc_get (H : AHeap) (x : AObj) : (H.top.alloc x).get H.n = some x := get_alloc_same H.top x
@[simp] theorem top_alloc_set (H : AHeap) (x y : AObj) : (H.top.alloc x).set H.n y = H.top.alloc y := set_alloc_same H.top x y (Nat.le_refl _)

/-! ## Behind a call -/
theorem fin_pure {H : AHeap} {v : AV} (h : v.okB H.n = true) : fin H v H.top = H := by simp [fin, h]
theorem fin_top {H : AHeap} {v : AV} (h : H.low ≤ H.n) : fin H v H.top = H := by
  unfold fin
  split
  · rfl
  · exact AHeap.eq rfl rfl (if_neg (by simp only [top_low]; omega))
theorem fin_alloc {H : AHeap} {v : AV} {x : AObj} (h : H.low ≤ H.n) (hv : v.okB H.n = false) : fin H v (H.top.alloc x) = H.alloc x := by
  unfold fin
  rw [if_neg (by simp [hv])]
  exact AHeap.eq rfl rfl (if_neg (by simp only [AHeap.alloc_low, top_low]; omega))
theorem fin_drop {H : AHeap} {v : AV} {x : AObj} (hv : v.okB H.n = true) : fin H v (H.top.alloc x) = H := by
  unfold fin
  rw [if_pos ⟨by simp, hv⟩]
theorem fin_drop2 {H : AHeap} {v : AV} {x y : AObj} (hv : v.okB H.n = true) : fin H v ((H.top.alloc x).alloc y) = H := by
  unfold fin
  rw [if_pos ⟨by simp, hv⟩]
theorem top_set_low {H : AHeap} {i : Nat} (x : AObj) (hi : i < H.n) : (H.top.set i x).low = i := if_pos hi
theorem fin_set {H : AHeap} {v : AV} {x : AObj} {i : Nat} (hi : i < H.n) : fin H v (H.top.set i x) = H.set i x := by
  unfold fin
  rw [if_neg (by rw [top_set_low x hi]; omega), top_set_low x hi]
  exact AHeap.eq rfl rfl rfl
theorem fin_set_drop {H : AHeap} {v : AV} {x y : AObj} {i : Nat} (hi : i < H.n) : fin H v ((H.top.set i x).alloc y) = (H.set i x).alloc y := by
  unfold fin
  rw [if_neg (by rw [AHeap.alloc_low, top_set_low x hi]; omega), AHeap.alloc_low, top_set_low x hi]
  exact AHeap.eq rfl rfl rfl

theorem wrap_id {n : Int} (h : -9223372036854775808 ≤ n) (h' : n ≤ 9223372036854775807) : IntKind.i64.wrap n = n := by
  simp only [IntKind.wrap, IntKind.bits, IntKind.signed]
  simp
  split <;> omega
theorem ibeq (a b : Int) : (a == b) = decide (a = b) := by by_cases h : a = b <;> simp [h]
theorem ibne (a b : Int) : (a != b) = !decide (a = b) := by by_cases h : a = b <;> simp [h]
theorem i_add (e : EqT) (k : IntKind) (a b : Int) : binA .add e (.int k a) (.int k b) = some (.int k (k.wrap (a + b))) := by simp [binA, intOp]
theorem i_sub (e : EqT) (k : IntKind) (a b : Int) : binA .sub e (.int k a) (.int k b) = some (.int k (k.wrap (a - b))) := by simp [binA, intOp]
theorem i_mul (e : EqT) (k : IntKind) (a b : Int) : binA .mul e (.int k a) (.int k b) = some (.int k (k.wrap (a * b))) := by simp [binA, intOp]
theorem i_lss (e : EqT) (k : IntKind) (a b : Int) : binA .lss e (.int k a) (.int k b) = some (.bool (decide (a < b))) := by simp [binA, intOp]
theorem i_leq (e : EqT) (k : IntKind) (a b : Int) : binA .leq e (.int k a) (.int k b) = some (.bool (decide (a ≤ b))) := by simp [binA, intOp]
theorem i_gtr (e : EqT) (k : IntKind) (a b : Int) : binA .gtr e (.int k a) (.int k b) = some (.bool (decide (b < a))) := by simp [binA, intOp]
theorem i_geq (e : EqT) (k : IntKind) (a b : Int) : binA .geq e (.int k a) (.int k b) = some (.bool (decide (b ≤ a))) := by simp [binA, intOp]
theorem i_quo (e : EqT) (k : IntKind) (a b : Int) : binA .quo e (.int k a) (.int k b) = if b = 0 then none else some (.int k (k.wrap (a.tdiv b))) := by simp [binA, intOp]
theorem i_rem (e : EqT) (k : IntKind) (a b : Int) : binA .rem e (.int k a) (.int k b) = if b = 0 then none else some (.int k (a.tmod b)) := by simp [binA, intOp]
theorem i_eql (e : EqT) (k : IntKind) (a b : Int) : binA .eql e (.int k a) (.int k b) = some (.bool (decide (a = b))) := by simp [binA, intOp, ibeq]
theorem i_neq (e : EqT) (k : IntKind) (a b : Int) : binA .neq e (.int k a) (.int k b) = some (.bool !decide (a = b)) := by simp [binA, intOp, ibne]
theorem s_eql (e : EqT) (a b : List UInt8) : binA .eql e (.str a) (.str b) = strOp .eql a b := rfl
theorem s_neq (e : EqT) (a b : List UInt8) : binA .neq e (.str a) (.str b) = strOp .neq a b := rfl
theorem s_lss (e : EqT) (a b : List UInt8) : binA .lss e (.str a) (.str b) = strOp .lss a b := rfl
theorem s_leq (e : EqT) (a b : List UInt8) : binA .leq e (.str a) (.str b) = strOp .leq a b := rfl
theorem s_gtr (e : EqT) (a b : List UInt8) : binA .gtr e (.str a) (.str b) = strOp .gtr a b := rfl
theorem s_geq (e : EqT) (a b : List UInt8) : binA .geq e (.str a) (.str b) = strOp .geq a b := rfl
theorem s_add (e : EqT) (a b : List UInt8) : binA .add e (.str a) (.str b) = strOp .add a b := rfl
theorem e_bool (e : EqT) (x : Bool) (y : AV) : binA .eql e (.bool x) y = (aeq e (.bool x) y).map .bool := rfl
theorem n_bool (e : EqT) (x : Bool) (y : AV) : binA .neq e (.bool x) y = (aeq e (.bool x) y).map fun b => .bool !b := rfl
theorem e_nilp (e : EqT) (y : AV) : binA .eql e (.nilp) y = (aeq e (.nilp) y).map .bool := rfl
theorem n_nilp (e : EqT) (y : AV) : binA .neq e (.nilp) y = (aeq e (.nilp) y).map fun b => .bool !b := rfl
theorem e_ptr (e : EqT) (i o : Nat) (y : AV) : binA .eql e (.ptr i o) y = (aeq e (.ptr i o) y).map .bool := rfl
theorem n_ptr (e : EqT) (i o : Nat) (y : AV) : binA .neq e (.ptr i o) y = (aeq e (.ptr i o) y).map fun b => .bool !b := rfl
theorem e_lptr (e : EqT) (i o : Nat) (y : AV) : binA .eql e (.lptr i o) y = (aeq e (.lptr i o) y).map .bool := rfl
theorem n_lptr (e : EqT) (i o : Nat) (y : AV) : binA .neq e (.lptr i o) y = (aeq e (.lptr i o) y).map fun b => .bool !b := rfl
theorem e_agg (e : EqT) (x : List AV) (y : AV) : binA .eql e (.agg x) y = (aeq e (.agg x) y).map .bool := rfl
theorem n_agg (e : EqT) (x : List AV) (y : AV) : binA .neq e (.agg x) y = (aeq e (.agg x) y).map fun b => .bool !b := rfl
theorem e_nils (e : EqT) (y : AV) : binA .eql e (.nils) y = (aeq e (.nils) y).map .bool := rfl
theorem n_nils (e : EqT) (y : AV) : binA .neq e (.nils) y = (aeq e (.nils) y).map fun b => .bool !b := rfl
theorem e_slice (e : EqT) (a b c d : Nat) (y : AV) : binA .eql e (.slice a b c d) y = (aeq e (.slice a b c d) y).map .bool := rfl
theorem n_slice (e : EqT) (a b c d : Nat) (y : AV) : binA .neq e (.slice a b c d) y = (aeq e (.slice a b c d) y).map fun b => .bool !b := rfl
theorem e_oslice (e : EqT) (a b c k d : Nat) (y : AV) : binA .eql e (.oslice a b c k d) y = (aeq e (.oslice a b c k d) y).map .bool := rfl
theorem n_oslice (e : EqT) (a b c k d : Nat) (y : AV) : binA .neq e (.oslice a b c k d) y = (aeq e (.oslice a b c k d) y).map fun b => .bool !b := rfl
theorem e_eslice (e : EqT) (a b c d : Nat) (y : AV) : binA .eql e (.eslice a b c d) y = (aeq e (.eslice a b c d) y).map .bool := rfl
theorem n_eslice (e : EqT) (a b c d : Nat) (y : AV) : binA .neq e (.eslice a b c d) y = (aeq e (.eslice a b c d) y).map fun b => .bool !b := rfl
theorem e_xslice (e : EqT) (a b : Nat) (c : Option Nat) (y : AV) : binA .eql e (.xslice a b c) y = (aeq e (.xslice a b c) y).map .bool := rfl
theorem n_xslice (e : EqT) (a b : Nat) (c : Option Nat) (y : AV) : binA .neq e (.xslice a b c) y = (aeq e (.xslice a b c) y).map fun b => .bool !b := rfl
theorem e_nilm (e : EqT) (y : AV) : binA .eql e (.nilm) y = (aeq e (.nilm) y).map .bool := rfl
theorem n_nilm (e : EqT) (y : AV) : binA .neq e (.nilm) y = (aeq e (.nilm) y).map fun b => .bool !b := rfl
theorem e_map (e : EqT) (a : Nat) (y : AV) : binA .eql e (.map a) y = (aeq e (.map a) y).map .bool := rfl
theorem n_map (e : EqT) (a : Nat) (y : AV) : binA .neq e (.map a) y = (aeq e (.map a) y).map fun b => .bool !b := rfl
theorem e_nilFunc (e : EqT) (y : AV) : binA .eql e (.nilFunc) y = (aeq e (.nilFunc) y).map .bool := rfl
theorem n_nilFunc (e : EqT) (y : AV) : binA .neq e (.nilFunc) y = (aeq e (.nilFunc) y).map fun b => .bool !b := rfl
theorem e_func (e : EqT) (f : Fn) (a b : List AV) (y : AV) : binA .eql e (.func f a b) y = (aeq e (.func f a b) y).map .bool := rfl
theorem n_func (e : EqT) (f : Fn) (a b : List AV) (y : AV) : binA .neq e (.func f a b) y = (aeq e (.func f a b) y).map fun b => .bool !b := rfl
theorem q_int (k : IntKind) (a b : Int) : aeq .int (.int k a) (.int k b) = some (decide (a = b)) := by simp [aeq, ibeq]
theorem q_bool (a b : Bool) : aeq .bool (.bool a) (.bool b) = some (a == b) := by rw [aeq]
theorem q_str (a b : List UInt8) : aeq .str (.str a) (.str b) = some (a == b) := by rw [aeq]
theorem q_struct (fs : List (Nat × Bool × Nat × EqT)) (a b : List AV) : aeq (.struct fs) (.agg a) (.agg b) = aeqF fs a b := by rw [aeq]
theorem q_ptr0 : aeq .ptr .nilp .nilp = some true := by rw [aeq]
theorem q_ptrL0 (i o : Nat) : aeq .ptr .nilp (.ptr i o) = some false := by rw [aeq]
theorem q_ptrR0 (i o : Nat) : aeq .ptr (.ptr i o) .nilp = some false := by rw [aeq]
theorem q_ptrL1 (i o : Nat) : aeq .ptr .nilp (.lptr i o) = some false := by rw [aeq]
theorem q_ptrR1 (i o : Nat) : aeq .ptr (.lptr i o) .nilp = some false := by rw [aeq]
theorem q_slice0 : aeq .slice .nils .nils = some true := by rw [aeq]
theorem q_sliceL0 (a b c d : Nat) : aeq .slice .nils (.slice a b c d) = some false := by rw [aeq]
theorem q_sliceR0 (a b c d : Nat) : aeq .slice (.slice a b c d) .nils = some false := by rw [aeq]
theorem q_sliceL1 (a b c k d : Nat) : aeq .slice .nils (.oslice a b c k d) = some false := by rw [aeq]
theorem q_sliceR1 (a b c k d : Nat) : aeq .slice (.oslice a b c k d) .nils = some false := by rw [aeq]
theorem q_sliceL2 (a b c d : Nat) : aeq .slice .nils (.eslice a b c d) = some false := by rw [aeq]
theorem q_sliceR2 (a b c d : Nat) : aeq .slice (.eslice a b c d) .nils = some false := by rw [aeq]
theorem q_sliceL3 (a b : Nat) (c : Option Nat) : aeq .slice .nils (.xslice a b c) = some false := by rw [aeq]
theorem q_sliceR3 (a b : Nat) (c : Option Nat) : aeq .slice (.xslice a b c) .nils = some false := by rw [aeq]
theorem q_map0 : aeq .map .nilm .nilm = some true := by rw [aeq]
theorem q_mapL0 (a : Nat) : aeq .map .nilm (.map a) = some false := by rw [aeq]
theorem q_mapR0 (a : Nat) : aeq .map (.map a) .nilm = some false := by rw [aeq]
theorem q_func0 : aeq .func .nilFunc .nilFunc = some true := by rw [aeq]
theorem q_funcL0 (f : Fn) (a b : List AV) : aeq .func .nilFunc (.func f a b) = some false := by rw [aeq]
theorem q_funcR0 (f : Fn) (a b : List AV) : aeq .func (.func f a b) .nilFunc = some false := by rw [aeq]
/-- Equal parts, one after the other. -/
def andA : Option Bool → Option Bool → Option Bool
  | some true, q => q
  | some false, _ => some false
  | none, _ => none
theorem andA_some (b q : Bool) : andA (some b) (some q) = some (b && q) := by cases b <;> rfl
theorem aeqF_nil (xs ys : List AV) : aeqF [] xs ys = some true := by rw [aeqF]
theorem aeqF_cons (off : Nat) (agg : Bool) (sz : Nat) (e : EqT) (r : List (Nat × Bool × Nat × EqT)) (xs ys : List AV) : aeqF ((off, agg, sz, e) :: r) xs ys = match rd agg sz off xs, rd agg sz off ys with
    | some x, some y => andA (aeq e x y) (aeqF r xs ys)
    | _, _ => none := by
  rw [aeqF]
  cases rd agg sz off xs with
  | none => rfl
  | some x =>
    cases rd agg sz off ys with
    | none => rfl
    | some y =>
      simp only
      cases aeq e x y with
      | none => rfl
      | some b => cases b <;> rfl
theorem goOn_normal (s : St) (k : St → Option (AExit × St)) : goOn (.normal, s) k = k s := rfl
theorem goOn_exit (i : Nat) (s : St) (k : St → Option (AExit × St)) : goOn (.exit i, s) k = some (.exit i, s) := rfl
theorem goOn_ret (s : St) (k : St → Option (AExit × St)) : goOn (.ret, s) k = some (.ret, s) := rfl
theorem outBlock_normal (i : Nat) (s : St) : outBlock i (.normal, s) = (.normal, s) := rfl
theorem outBlock_exit (i j : Nat) (s : St) : outBlock i (.exit j, s) = if j = i then (.normal, s) else (.exit j, s) := rfl
theorem outBlock_ret (i : Nat) (s : St) : outBlock i (.ret, s) = (.ret, s) := rfl
@[simp] theorem okB_bool (n : Nat) (b : Bool) : (AV.bool b).okB n = true := by rw [AV.okB] <;> simp
@[simp] theorem okB_int (n : Nat) (k : IntKind) (i : Int) : (AV.int k i).okB n = true := by rw [AV.okB] <;> simp
@[simp] theorem okB_str (n : Nat) (l : List UInt8) : (AV.str l).okB n = true := by rw [AV.okB] <;> simp
@[simp] theorem okB_nilp (n : Nat) : AV.nilp.okB n = true := by rw [AV.okB] <;> simp
@[simp] theorem okB_nils (n : Nat) : AV.nils.okB n = true := by rw [AV.okB] <;> simp
@[simp] theorem okB_ptr (n i o : Nat) : (AV.ptr i o).okB n = decide (i < n) := by rw [AV.okB]
@[simp] theorem okB_agg (n : Nat) (cs : List AV) : (AV.agg cs).okB n = (AV.okL n cs && cs.all AV.one) := by rw [AV.okB]
@[simp] theorem okB_tuple (n : Nat) (cs : List AV) : (AV.tuple cs).okB n = AV.okL n cs := by rw [AV.okB]
@[simp] theorem okB_undefA (n : Nat) : undefA.okB n = true := by simp [undefA, AV.okB, AV.okL]
@[simp] theorem okL_nil (n : Nat) : AV.okL n [] = true := by rw [AV.okL]
@[simp] theorem okL_cons (n : Nat) (v : AV) (vs : List AV) : AV.okL n (v :: vs) = (v.okB n && AV.okL n vs) := by rw [AV.okL]

/-! ## For reckoning -/
def leaveR (rs : List RV) (H0 : AHeap) (r : AExit × St) : Option (AV × AHeap) := leave0 ⟨0, 0, rs, [], .skip⟩ H0 r
theorem leaveR_ret (rs : List RV) (H0 : AHeap) (s : St) : leaveR rs H0 (.ret, s) = match rvs s rs with
    | some vs => if allNoL vs then some (packA vs, fin H0 (packA vs) s.H) else none
    | none => none := Eq.trans rfl rfl
theorem leaveR_normal (rs : List RV) (H0 : AHeap) (s : St) : leaveR rs H0 (.normal, s) = match rvs s rs with
    | some vs => if allNoL vs then some (packA vs, fin H0 (packA vs) s.H) else none
    | none => none := Eq.trans rfl rfl
/-! ## What a frame has deferred -/
def CDfs (C : CallF) : Prop := ∀ g args H v H', C g args H = some (v, H') → H'.dfs = H.dfs
theorem callR_dfs {C : CallF} (hC : CDfs C) {g : AV} {vs : List AV} {H H' : AHeap} {v : AV} (h : callR C g vs H = some (v, H')) : H'.dfs = H.dfs := by
  unfold callR at h
  split at h
  · split at h
    · exact hC _ _ _ _ _ h
    · cases h
  · split at h
    · exact hC _ _ _ _ _ h
    · cases h
  · cases h
theorem stepOp_dfs {C : CallF} (hC : CDfs C) {o : IOper} (hp : plainOp o.op = true) {s s' : St} (h : stepOp C o s = some s') : s'.H.dfs = s.H.dfs := by
  obtain ⟨v, _, h⟩ := stepOp_cases h
  rcases h with ⟨_, _, _, b⟩ | ⟨_, h⟩
  · rw [b]
  · rcases h with ⟨f, args, g, vs, hop, _, _, hc, _⟩ | ⟨_, he⟩
    · exact callR_dfs hC hc
    · exact (evOp_shape' he).2.2.2.2 hp
theorem stepOps_dfs {C : CallF} (hC : CDfs C) : ∀ {os : List IOper} {s s' : St}, (os.all fun o => plainOp o.op) = true → stepOps C os s = some s' → s'.H.dfs = s.H.dfs := by
  intro os
  induction os with
  | nil => intro s s' _ h; cases h; rfl
  | cons o os ih =>
    intro s s' hp h
    simp only [List.all_cons, Bool.and_eq_true] at hp
    simp only [stepOps] at h
    rw [Option.bind_eq_some_iff] at h
    obtain ⟨s1, h1, h2⟩ := h
    exact (ih hp.2 h2).trans (stepOp_dfs hC hp.1 h1)
theorem trace_dfs {C : CallF} (hC : CDfs C) : ∀ {os : List IOper} {s s' : St} {tr : List St}, (os.all fun o => plainOp o.op) = true → trace C os s = some tr → tr.getLast? = some s' → s'.H.dfs = s.H.dfs := by
  intro os
  induction os with
  | nil => intro s s' tr _ h hl; simp [trace] at h; subst h; simp at hl; subst hl; rfl
  | cons o os ih =>
    intro s s' tr hp h hl
    simp only [List.all_cons, Bool.and_eq_true] at hp
    simp only [trace] at h
    split at h
    · rename_i s1 hs
      cases ht : trace C os s1 with
      | none => simp [ht] at h
      | some t =>
        simp [ht] at h; subst h
        have hne : t ≠ [] := by
          intro e
          have := (trace_spec ht).1
          rw [e] at this; simp at this
        have hl' : t.getLast? = some s' := by
          rw [List.getLast?_cons] at hl
          cases htl : t.getLast? with
          | none => simp [List.getLast?_eq_none_iff] at htl; exact absurd htl hne
          | some x => rw [htl] at hl; simpa using hl
        exact (ih hp.2 ht hl').trans (stepOp_dfs hC hp.1 hs)
    · cases h
theorem cleanA_dfs {ks ls : List Nat} {r : Nat} {x y : AExit} {s s' : St} (h : cleanA ks ls r x s = some (y, s')) : s'.H.dfs = s.H.dfs := by
  unfold cleanA at h
  split at h <;> cases h
  rfl
theorem iter_dfs {f : St → Option (AExit × St)} (hf : ∀ s x s', f s = some (x, s') → s'.H.dfs = s.H.dfs) : ∀ n s x s', iter f n s = some (x, s') → s'.H.dfs = s.H.dfs := by
  intro n
  induction n with
  | zero => intro s x s' h; cases h
  | succ n ih =>
    intro s x s' h
    simp only [iter] at h
    split at h
    · rename_i s1 h1; exact (ih _ _ _ h).trans (hf _ _ _ h1)
    · exact hf _ _ _ h
theorem mapLoop_dfs {d0 d1 b : Nat} {it : Opd} {ks ls : List Nat} {f : St → Option (AExit × St)} (hf : ∀ s x s', f s = some (x, s') → s'.H.dfs = s.H.dfs) : ∀ n s x s', mapLoop d0 d1 it b ks ls f n s = some (x, s') → s'.H.dfs = s.H.dfs := by
  intro n
  induction n with
  | zero => intro s x s' h; simp [mapLoop] at h
  | succ n ih =>
    intro s x s' h
    simp only [mapLoop] at h
    split at h
    · split at h
      · rw [cleanA_dfs h]
      · split at h
        · split at h
          · split at h
            · rw [cleanA_dfs h]
            · split at h
              · rename_i q hq
                split at h
                · cases h
                  split at hq
                  · rename_i hfe; have h0 := hf _ _ _ hfe; simp only [AHeap.set_dfs] at h0; exact (ih _ _ _ hq).trans h0
                  · rename_i hfe; have h0 := hf _ _ _ hfe; simp only [AHeap.set_dfs] at h0; rw [cleanA_dfs hq]; exact h0
                  · cases hq
                · cases h
              · cases h
          · cases h
        · cases h
      · cases h
    · cases h
theorem evC_dfs {C : CallF} (hC : CDfs C) (n : Nat) : ∀ (c : IC) (s s' : St) (x : AExit), plainC c = true → evC C n c s = some (x, s') → s'.H.dfs = s.H.dfs := by
  intro c
  induction c with
  | skip | exit | ret => intro s s' x _ h; simp [evC] at h; rw [h.2]
  | region ops =>
    intro s s' x hp h
    simp only [evC] at h
    cases hs : stepOps C ops s with
    | none => simp [hs] at h
    | some s1 => simp [hs] at h; rw [← h.2]; exact stepOps_dfs hC hp hs
  | regionD ops checks =>
    intro s s' x hp h
    simp only [evC] at h
    cases hs : runD C ops checks s with
    | none => simp [hs] at h
    | some s1 =>
      simp [hs] at h; rw [← h.2]
      unfold runD at hs
      split at hs
      · rename_i tr ht
        split at hs
        · exact trace_dfs hC hp ht hs
        · cases hs
      · cases hs
  | seq a b iha ihb =>
    intro s s' x hp h
    simp only [plainC, Bool.and_eq_true] at hp
    simp only [evC] at h
    split at h
    · rename_i s1 he; exact (ihb _ _ _ hp.2 h).trans (iha _ _ _ hp.1 he)
    · exact iha _ _ _ hp.1 h
  | cond c a b iha ihb =>
    intro s s' x hp h
    simp only [plainC, Bool.and_eq_true] at hp
    simp only [evC] at h
    split at h
    · exact iha _ _ _ hp.1 h
    · exact ihb _ _ _ hp.2 h
    · cases h
  | block id b ih =>
    intro s s' x hp h
    simp only [plainC] at hp
    simp only [evC] at h
    split at h
    · rename_i j s1 he
      split at h <;> (cases h; exact ih _ _ _ hp he)
    · exact ih _ _ _ hp h
  | loop b ih =>
    intro s s' x hp h
    exact iter_dfs (fun s x s' h => ih s s' x hp h) n s x s' h
  | rangeF => intro s s' x hp; simp [plainC] at hp
  | mapR d0 d1 it b ks ls body ih =>
    intro s s' x hp h
    simp only [evC] at h
    exact mapLoop_dfs (fun s x s' h => ih s s' x hp h) n s x s' h
  | stuck => intro s s' x _ h; simp [evC] at h
  | keep ks ls c ih =>
    intro s s' x hp h
    simp only [evC] at h
    have := ih { s with env := prune ks s.env, loc := prune ls s.loc } _ _ hp h
    exact this
theorem evF_dfs {T : FuncId → Option FnDef} (n : Nat) : CDfs (evF T n) := by
  cases n with
  | zero => intro g args H v H' h; simp [evF] at h
  | succ n =>
    intro g args H v H' h
    simp only [evF] at h
    have lv : ∀ {F : FnIR} {q : AExit × St}, leaveA (evF T n) F H q = some (v, H') → H'.dfs = H.dfs := by
      intro F q h
      unfold leaveA at h
      split at h
      · cases h
      · rw [Option.bind_eq_some_iff] at h
        obtain ⟨H2, _, h⟩ := h
        split at h
        · split at h <;> cases h
          exact fin_dfs
        · cases h
    have ld : ∀ {F : FnIR} {q : AExit × St}, leaveD F H q = some (v, H') → H'.dfs = H.dfs := by
      intro F q h
      unfold leaveD at h
      split at h
      · cases h
      · split at h
        · split at h
          · split at h <;> cases h
            exact fin_dfs
          · cases h
        · cases h
    have ry : runY (evF T n) n args H = some (v, H') → H'.dfs = H.dfs := by
      intro h
      unfold runY at h
      split at h
      · split at h
        · split at h
          · split at h
            · split at h
              · rw [Option.bind_eq_some_iff] at h
                obtain ⟨q, _, h⟩ := h
                split at h
                · split at h
                  · cases h; rfl
                  · cases h
                · cases h
              · cases h
            · cases h
          · cases h
        · cases h
      · cases h
    split at h
    · exact ry h
    · split at h
      · split at h
        · unfold runFD at h
          split at h
          · rw [Option.bind_eq_some_iff] at h
            obtain ⟨q, _, h⟩ := h
            exact ld h
          · cases h
        · cases h
      · split at h
        · unfold runF at h
          split at h
          · rw [Option.bind_eq_some_iff] at h
            obtain ⟨q, _, h⟩ := h
            exact lv h
          · cases h
        · obtain ⟨H1, _, rfl⟩ := keepD_some h; rfl
        · split at h
          · cases h
          · obtain ⟨H1, _, rfl⟩ := keepD_some h; rfl
        · cases h
theorem call_dfs {T : FuncId → Option FnDef} {f : FuncId} {args : List AV} {H H' : AHeap} {v : AV} (h : call T f args H = some (v, H')) : H'.dfs = H.dfs := by
  obtain ⟨n, hn⟩ := call_iff.1 h
  exact evF_dfs n _ _ _ _ _ hn
theorem den_dfs {T : FuncId → Option FnDef} {c : IC} (hp : plainC c = true) {s s' : St} {x : AExit} (h : den T c s = some (x, s')) : s'.H.dfs = s.H.dfs := by
  obtain ⟨n, hn⟩ := den_iff.1 h
  exact evC_dfs (evF_dfs n) n c _ _ _ hp hn

theorem call_at {T : FuncId → Option FnDef} {f : FuncId} {nt na : Nat} {rs : List RV} {ls : List Nat} {b : IC} (hF : T f = some (.ir ⟨nt, na, rs, ls, b⟩)) (hf : f < yieldF) (hp : plainC b = true) (args : List AV) (H : AHeap) :
    call T f args H = if args.length = na then (den T b (enterA args H)).bind (leaveR rs H) else none := by
  rw [call_ir hF hf]
  show (if args.length = na then (den T b (enterA args H)).bind (leaveT T ⟨nt, na, rs, ls, b⟩ H) else none) = _
  split
  · cases hd : den T b (enterA args H) with
    | none => rfl
    | some q =>
      obtain ⟨x, s'⟩ := q
      simp only [Option.bind_some]
      rw [leaveT_0 (show s'.H.dfs = [] from (den_dfs hp hd).trans rfl)]
      rfl
  · rfl

def readOk (o : IOper) (s s' : St) : Bool := !isRead o.op || (match o.dst.bind (look · s'.env) with | some v => v.okB s.H.n | none => true)

noncomputable def sopsR (T : FuncId → Option FnDef) : List IOper → St → Option St
  | [], s => some s
  | o :: os, s => (stepOp (call T) o s).bind fun s' => if readOk o s s' then sopsR T os s' else none
theorem sopsR_nil {T : FuncId → Option FnDef} (s : St) : sopsR T [] s = some s := Eq.trans rfl rfl
def goR (o : IOper) (s : St) (k : St → Option St) (s' : St) : Option St := if readOk o s s' then k s' else none
theorem sopsR_cons {T : FuncId → Option FnDef} (o : IOper) (os : List IOper) (s : St) : sopsR T (o :: os) s = (stepOp (call T) o s).bind (goR o s (sopsR T os)) := Eq.trans rfl rfl
theorem goR_eq (o : IOper) (s : St) (k : St → Option St) (e : List (Nat × AV)) (l : List (Nat × List AV)) (H : AHeap) : goR o s k ⟨e, l, H⟩ = if readOk o s ⟨e, l, H⟩ then k ⟨e, l, H⟩ else none := Eq.trans rfl rfl

theorem trace_head {T : FuncId → Option FnDef} : ∀ (os : List IOper) (s : St) (tr : List St), traceT T os s = some tr → ∃ r, tr = s :: r := by
  intro os
  cases os with
  | nil => intro s tr h; rw [trace_nil] at h; cases h; exact ⟨[], rfl⟩
  | cons o os =>
    intro s tr h
    rw [trace_cons] at h
    cases hs : stepOp (call T) o s with
    | none => simp [hs] at h
    | some s' =>
      cases ht : traceT T os s' with
      | none => simp [hs, ht] at h
      | some t => simp [hs, ht] at h; exact ⟨t, h.symm⟩

theorem readsOk_cons (o : IOper) (os : List IOper) (s s' : St) (tr : List St) : readsOk (o :: os) (s :: s' :: tr) = (readOk o s s' && readsOk os (s' :: tr)) := rfl

theorem sopsR_eq {T : FuncId → Option FnDef} : ∀ (os : List IOper) (s : St), ((traceT T os s).bind fun tr => if readsOk os tr then tr.getLast? else none) = sopsR T os s := by
  intro os
  induction os with
  | nil => intro s; rw [trace_nil]; simp [readsOk, sopsR]
  | cons o os ih =>
    intro s
    rw [trace_cons]
    simp only [sopsR]
    cases hs : stepOp (call T) o s with
    | none => simp
    | some s' =>
      simp only [Option.bind_some]
      rw [← ih s']
      cases ht : traceT T os s' with
      | none => simp
      | some t =>
        obtain ⟨r, rfl⟩ := trace_head os s' t ht
        simp only [Option.map_some, Option.bind_some, readsOk_cons, List.getLast?_cons_cons]
        cases readOk o s s' <;> simp

theorem den_regionD0 {T : FuncId → Option FnDef} (os : List IOper) (s : St) : den T (.regionD os []) s = if freshD os s then (sopsR T os s).map fun s' => (.normal, s') else none := by
  rw [den_regionD, ← sopsR_eq]
  simp only [drawCond, List.all_nil, Bool.and_true]
  cases freshD os s with
  | false => simp
  | true =>
    cases traceT T os s with
    | none => simp
    | some tr =>
      simp only [Option.bind_some, Bool.true_and, if_true]
      split <;> simp
theorem den_regionD1 {T : FuncId → Option FnDef} (os : List IOper) (c : Nat × Nat) (cs : List (Nat × Nat)) (s : St) :
    den T (.regionD os (c :: cs)) s = (traceT T os s).bind fun tr => if drawCond os (c :: cs) s tr then (tr.getLast?).map fun s' => (.normal, s') else none := den_regionD os (c :: cs) s

end Go.Wam
