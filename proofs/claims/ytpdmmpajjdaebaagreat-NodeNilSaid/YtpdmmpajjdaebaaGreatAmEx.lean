/- The abstract machine: an evaluator for the kernel; what it tells is what the machine tells. No condition. -/
import Derived.Test.YtpdmmpajjdaebaaGreatAmN
set_option linter.unusedVariables false
set_option linter.unusedSimpArgs false
namespace Go.Wam
noncomputable section

def ob {α β : Type} (o : Option α) (f : α → Option β) : Option β := Option.rec none f o
theorem ob_some {α β : Type} {o : Option α} {f : α → Option β} {r : β} : ob o f = some r ↔ ∃ a, o = some a ∧ f a = some r := by
  cases o <;> simp [ob]
def bc {α : Type} (b : Bool) (x : Option α) : Option α := Bool.rec none x b
theorem bc_some {α : Type} {b : Bool} {x : Option α} {r : α} : bc b x = some r ↔ b = true ∧ x = some r := by
  cases b <;> simp [bc]
def ifb {α : Type} (b : Bool) (x y : α) : α := Bool.rec y x b
@[simp] theorem ifb_true {α : Type} (x y : α) : ifb true x y = x := rfl
@[simp] theorem ifb_false {α : Type} (x y : α) : ifb false x y = y := rfl

theorem beqN_eq {a b : Nat} (h : Nat.beq a b = true) : a = b := Nat.eq_of_beq_eq_true h
theorem beqN_ne {a b : Nat} (h : ¬ a = b) : Nat.beq a b = false := by
  cases hb : Nat.beq a b with
  | false => rfl
  | true => exact absurd (beqN_eq hb) h
theorem bltN {a b : Nat} (h : Nat.blt a b = true) : a < b := Nat.le_of_ble_eq_true h
theorem bleN {a b : Nat} (h : Nat.ble a b = true) : a ≤ b := Nat.le_of_ble_eq_true h
def lookX {α : Type} (t : Nat) (l : List (Nat × α)) : Option α := List.rec none (fun e _ ih => Bool.rec ih (some e.2) (Nat.beq e.1 t)) l
theorem lookX_eq {α : Type} (t : Nat) : ∀ l : List (Nat × α), lookX t l = look t l
  | [] => rfl
  | (k, v) :: l => by
    have : lookX t ((k, v) :: l) = Bool.rec (lookX t l) (some v) (Nat.beq k t) := rfl
    rw [this, lookX_eq t l, look]
    by_cases h : k = t
    · subst h; rw [if_pos rfl, Nat.beq_refl]
    · rw [if_neg h, beqN_ne h]

def opdX (env : List (Nat × AV)) (o : Opd) : Option AV := Opd.rec (fun t => lookX t env) (fun v => some v) (fun f => some (.func (.func f) [] [])) o
theorem opdX_eq (env : List (Nat × AV)) (o : Opd) : opdX env o = o.ev env := by
  cases o
  · exact lookX_eq _ _
  · rfl
  · rfl
def evsX (env : List (Nat × AV)) (l : List Opd) : Option (List AV) := List.rec (some []) (fun x _ ih => ob (opdX env x) fun v => ob ih fun vs => some (v :: vs)) l
theorem evsX_eq (env : List (Nat × AV)) : ∀ l : List Opd, evsX env l = evs env l
  | [] => rfl
  | x :: l => by
    have : evsX env (x :: l) = ob (opdX env x) fun v => ob (evsX env l) fun vs => some (v :: vs) := rfl
    rw [this, evsX_eq env l, opdX_eq, evs]
    cases x.ev env <;> cases evs env l <;> rfl

def appX {α : Type} (a b : List α) : List α := List.rec b (fun e _ ih => e :: ih) a
theorem appX_eq {α : Type} : ∀ (a b : List α), appX a b = a ++ b
  | [], _ => rfl
  | e :: a, b => congrArg (e :: ·) (appX_eq a b)
def nthX {α : Type} (l : List α) (n : Nat) : Option α := List.rec (motive := fun _ => Nat → Option α) (fun _ => none) (fun e _ ih n => Bool.rec (ih (Nat.sub n 1)) (some e) (Nat.beq n 0)) l n
theorem nthX_eq {α : Type} : ∀ (l : List α) (n : Nat), nthX l n = l[n]?
  | [], n => by simp [nthX]
  | e :: l, 0 => rfl
  | e :: l, n + 1 => by
    have : nthX (e :: l) (n + 1) = nthX l n := rfl
    rw [this, nthX_eq l n]; simp
def dropX {α : Type} (l : List α) (n : Nat) : List α := List.rec (motive := fun _ => Nat → List α) (fun _ => []) (fun e l ih n => Bool.rec (ih (Nat.sub n 1)) (e :: l) (Nat.beq n 0)) l n
theorem dropX_eq {α : Type} : ∀ (l : List α) (n : Nat), dropX l n = l.drop n
  | [], n => by simp [dropX]
  | e :: l, 0 => rfl
  | e :: l, n + 1 => by
    have : dropX (e :: l) (n + 1) = dropX l n := rfl
    rw [this, dropX_eq l n]; simp
def takeN {α : Type} (n : Nat) (l : List α) : Option (List α) := Nat.rec (motive := fun _ => List α → Option (List α)) (fun _ => some []) (fun _ ih l => List.rec none (fun e l _ => ob (ih l) fun r => some (e :: r)) l) n l
theorem takeN_some {α : Type} : ∀ {n : Nat} {l r : List α}, takeN n l = some r → n ≤ l.length ∧ r = l.take n
  | 0, l, r, h => by cases h; simp
  | n + 1, [], r, h => by cases h
  | n + 1, e :: l, r, h => by
    have : takeN (n + 1) (e :: l) = ob (takeN n l) fun r => some (e :: r) := rfl
    rw [this, ob_some] at h
    obtain ⟨a, h1, h2⟩ := h
    cases h2
    obtain ⟨k1, k2⟩ := takeN_some h1
    exact ⟨by simp; omega, by simp [k2]⟩
def rdX (agg : Bool) (sz off : Nat) (cells : List AV) : Option AV := Bool.rec (nthX cells off) (ifb (Nat.beq sz 0) (rd true sz off cells) (ob (takeN sz (dropX cells off)) fun r => some (.agg r))) agg
theorem rdX_le {agg : Bool} {sz off : Nat} {cells : List AV} {r : AV} (h : rdX agg sz off cells = some r) : rd agg sz off cells = some r := by
  cases agg
  · exact (nthX_eq cells off).symm.trans h
  · have : rdX true sz off cells = ifb (Nat.beq sz 0) (rd true sz off cells) (ob (takeN sz (dropX cells off)) fun r => some (.agg r)) := rfl
    rw [this] at h
    cases hb : Nat.beq sz 0 with
    | true => rw [hb] at h; exact h
    | false =>
      rw [hb] at h
      simp only [ifb_false, ob_some] at h
      obtain ⟨a, h1, h2⟩ := h
      cases h2
      rw [dropX_eq] at h1
      obtain ⟨k1, rfl⟩ := takeN_some h1
      simp only [List.length_drop] at k1
      have hz : sz ≠ 0 := fun e => by subst e; cases hb
      unfold rd
      simp only [if_true]
      rw [if_pos (by omega)]

def putN {α : Type} (vs cells : List α) : Option (List α) := List.rec (motive := fun _ => List α → Option (List α)) (fun cells => some cells) (fun v _ ih cells => List.rec none (fun _ cs _ => ob (ih cs) fun r => some (v :: r)) cells) vs cells
theorem putN_some {α : Type} : ∀ {vs cells r : List α}, putN vs cells = some r → vs.length ≤ cells.length ∧ r = vs ++ cells.drop vs.length
  | [], cells, r, h => by cases h; simp
  | v :: vs, [], r, h => by cases h
  | v :: vs, c :: cs, r, h => by
    have : putN (v :: vs) (c :: cs) = ob (putN vs cs) fun r => some (v :: r) := rfl
    rw [this, ob_some] at h
    obtain ⟨a, h1, h2⟩ := h
    cases h2
    obtain ⟨k1, rfl⟩ := putN_some h1
    exact ⟨by simp; omega, by simp⟩
def wrX {α : Type} (off : Nat) (vs cells : List α) : Option (List α) := Nat.rec (motive := fun _ => List α → Option (List α)) (fun cells => putN vs cells) (fun _ ih cells => List.rec none (fun c cs _ => ob (ih cs) fun r => some (c :: r)) cells) off cells
theorem wrX_some {α : Type} {vs : List α} : ∀ {off : Nat} {cells r : List α}, wrX off vs cells = some r → off + vs.length ≤ cells.length ∧ r = wr off vs cells
  | 0, cells, r, h => by
    obtain ⟨k1, k2⟩ := putN_some (show putN vs cells = some r from h)
    exact ⟨by omega, by simp [wr, k2]⟩
  | off + 1, [], r, h => by cases h
  | off + 1, c :: cs, r, h => by
    have : wrX (off + 1) vs (c :: cs) = ob (wrX off vs cs) fun r => some (c :: r) := rfl
    rw [this, ob_some] at h
    obtain ⟨a, h1, h2⟩ := h
    cases h2
    obtain ⟨k1, rfl⟩ := wrX_some h1
    refine ⟨by simp; omega, ?_⟩
    simp only [wr, List.take_succ_cons, List.cons_append]
    rw [show off + 1 + vs.length = (off + vs.length) + 1 by omega, List.drop_succ_cons]

/-! ## The heap -/
theorem pathF_le : ∀ (f i : Nat), i ≤ f → pathF f i = path i := by
  have key : ∀ (f g i : Nat), i ≤ f → i ≤ g → pathF f i = pathF g i := by
    intro f
    induction f with
    | zero => intro g i h1 h2; have : i = 0 := by omega
              subst this; cases g <;> simp [pathF]
    | succ f ih =>
      intro g i h1 h2
      cases g with
      | zero => have : i = 0 := by omega
                subst this; simp [pathF]
      | succ g =>
        simp only [pathF]
        by_cases h0 : i = 0
        · simp [h0]
        · simp only [h0, if_false]
          rw [ih g (i / 2) (by omega) (by omega), ih g (i / 2 - 1) (by omega) (by omega)]
  intro f i h
  exact key f i i h (Nat.le_refl _)
theorem path_zero : path 0 = [] := rfl
theorem path_pos {i : Nat} (h : i ≠ 0) : path i = if i % 2 = 1 then true :: path (i / 2) else false :: path (i / 2 - 1) := by
  obtain ⟨k, rfl⟩ : ∃ k, i = k + 1 := ⟨i - 1, by omega⟩
  rw [path, pathF, if_neg h, pathF_le k _ (by omega), pathF_le k _ (by omega)]
def getF (f i : Nat) (t : Tr) : Option AObj := Nat.rec (motive := fun _ => Nat → Tr → Option AObj) (fun _ _ => none) (fun _ ih i t => Tr.rec none (fun v l r _ _ => Bool.rec (Bool.rec (ih (Nat.sub (Nat.div i 2) 1) r) (ih (Nat.div i 2) l) (Nat.beq (Nat.mod i 2) 1)) v (Nat.beq i 0)) t) f i t
theorem getF_le : ∀ (f : Nat) {i : Nat} {t : Tr} {o : AObj}, getF f i t = some o → getP (path i) t = some o
  | 0, i, t, o, h => by cases h
  | f + 1, i, .leaf, o, h => by cases h
  | f + 1, i, .node v l r, o, h => by
    have e : getF (f + 1) i (.node v l r) = Bool.rec (Bool.rec (getF f (i / 2 - 1) r) (getF f (i / 2) l) (Nat.beq (i % 2) 1)) v (Nat.beq i 0) := rfl
    rw [e] at h
    by_cases h0 : i = 0
    · subst h0; exact h
    · rw [beqN_ne h0] at h
      simp only at h
      rw [path_pos h0]
      by_cases h1 : i % 2 = 1
      · rw [h1] at h; rw [if_pos h1]; exact getF_le f h
      · rw [beqN_ne h1] at h; rw [if_neg h1]; exact getF_le f h
def getX (H : AHeap) (i : Nat) : Option AObj := getF 64 i H.t
theorem getX_le {H : AHeap} {i : Nat} {o : AObj} (h : getX H i = some o) : H.get i = some o := getF_le 64 h
def setF (x : AObj) (f i : Nat) (t : Tr) : Option Tr := Nat.rec (motive := fun _ => Nat → Tr → Option Tr) (fun _ _ => none)
  (fun _ ih i t => Tr.rec (Bool.rec (Bool.rec (ob (ih (Nat.sub (Nat.div i 2) 1) .leaf) fun r => some (.node none .leaf r)) (ob (ih (Nat.div i 2) .leaf) fun l => some (.node none l .leaf)) (Nat.beq (Nat.mod i 2) 1)) (some (.node (some x) .leaf .leaf)) (Nat.beq i 0))
    (fun v l r _ _ => Bool.rec (Bool.rec (ob (ih (Nat.sub (Nat.div i 2) 1) r) fun r => some (.node v l r)) (ob (ih (Nat.div i 2) l) fun l => some (.node v l r)) (Nat.beq (Nat.mod i 2) 1)) (some (.node (some x) l r)) (Nat.beq i 0)) t) f i t
theorem setF_le {x : AObj} : ∀ (f : Nat) {i : Nat} {t t' : Tr}, setF x f i t = some t' → t' = setP x (path i) t
  | 0, i, t, o, h => by cases h
  | f + 1, i, .leaf, o, h => by
    have e : setF x (f + 1) i .leaf = Bool.rec (Bool.rec (ob (setF x f (i / 2 - 1) .leaf) fun r => some (.node none .leaf r)) (ob (setF x f (i / 2) .leaf) fun l => some (.node none l .leaf)) (Nat.beq (i % 2) 1)) (some (.node (some x) .leaf .leaf)) (Nat.beq i 0) := rfl
    rw [e] at h
    by_cases h0 : i = 0
    · subst h0; cases h; rfl
    · rw [beqN_ne h0] at h
      simp only at h
      rw [path_pos h0]
      by_cases h1 : i % 2 = 1
      · rw [h1] at h
        obtain ⟨a, k1, k2⟩ := ob_some.1 (show ob (setF x f (i / 2) .leaf) (fun l => some (.node none l .leaf)) = some o from h)
        cases k2; rw [if_pos h1, setF_le f k1]; rfl
      · rw [beqN_ne h1] at h
        obtain ⟨a, k1, k2⟩ := ob_some.1 (show ob (setF x f (i / 2 - 1) .leaf) (fun l => some (.node none .leaf l)) = some o from h)
        cases k2; rw [if_neg h1, setF_le f k1]; rfl
  | f + 1, i, .node v l r, o, h => by
    have e : setF x (f + 1) i (.node v l r) = Bool.rec (Bool.rec (ob (setF x f (i / 2 - 1) r) fun r => some (.node v l r)) (ob (setF x f (i / 2) l) fun l => some (.node v l r)) (Nat.beq (i % 2) 1)) (some (.node (some x) l r)) (Nat.beq i 0) := rfl
    rw [e] at h
    by_cases h0 : i = 0
    · subst h0; cases h; rfl
    · rw [beqN_ne h0] at h
      simp only at h
      rw [path_pos h0]
      by_cases h1 : i % 2 = 1
      · rw [h1] at h
        obtain ⟨a, k1, k2⟩ := ob_some.1 (show ob (setF x f (i / 2) l) (fun l => some (.node v l r)) = some o from h)
        cases k2; rw [if_pos h1, setF_le f k1]; rfl
      · rw [beqN_ne h1] at h
        obtain ⟨a, k1, k2⟩ := ob_some.1 (show ob (setF x f (i / 2 - 1) r) (fun r => some (.node v l r)) = some o from h)
        cases k2; rw [if_neg h1, setF_le f k1]; rfl
def setX (H : AHeap) (i : Nat) (x : AObj) : Option AHeap := bc (Nat.blt i H.n) (ob (setF x 64 i H.t) fun t => some { t := t, n := H.n, low := ifb (Nat.blt i H.low) i H.low, dfs := H.dfs })
theorem ifb_lt {a b : Nat} {α : Type} (x y : α) : ifb (Nat.blt a b) x y = if a < b then x else y := by
  cases h : Nat.blt a b with
  | true => rw [if_pos (bltN h)]; rfl
  | false => rw [if_neg]; · rfl
             intro h2; have : Nat.blt a b = true := Nat.ble_eq_true_of_le h2
             rw [h] at this; cases this
theorem setX_le {H : AHeap} {i : Nat} {x : AObj} {H' : AHeap} (h : setX H i x = some H') : H' = H.set i x := by
  obtain ⟨h1, h2⟩ := bc_some.1 h
  obtain ⟨t, k1, k2⟩ := ob_some.1 h2
  cases k2
  rw [setF_le 64 k1, ifb_lt, AHeap.set, if_pos (bltN h1)]
def allocX (H : AHeap) (x : AObj) : Option AHeap := ob (setF x 64 H.n H.t) fun t => some { t := t, n := Nat.add H.n 1, low := H.low, dfs := H.dfs }
theorem allocX_le {H : AHeap} {x : AObj} {H' : AHeap} (h : allocX H x = some H') : H' = H.alloc x := by
  obtain ⟨t, k1, k2⟩ := ob_some.1 h
  cases k2
  rw [setF_le 64 k1, AHeap.alloc]
end
end Go.Wam
