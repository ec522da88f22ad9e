/- The abstract machine: how its states stand for worlds. No condition. -/
import Derived.Test.YtpdmmpajjdaebaaGreatAmC
import Derived.Calls
set_option linter.unusedVariables false
set_option linter.unusedSimpArgs false
namespace Go.Wam

/-- Where an abstract row lies: its block, its first cell, how many cells there are from there on. -/
structure Loc where
  block : Nat
  base : Nat
  room : Nat

def Loc.at (l : Loc) (off : Nat) : Addr := ⟨l.block, l.base + off, none⟩

mutual
def conc (m : Nat → Loc) (ml : Nat → Nat) : AV → Value
  | .bool b => .bool b
  | .int k n => .int k n
  | .str s => .string ⟨s.toArray⟩
  | .nilp => .pointer none
  | .ptr id off => .pointer (some ((m id).at off))
  | .lptr t off => .pointer (some ⟨ml t, off, none⟩)
  | .nils => .slice none 0 0
  | .slice id off len c => .slice (some ((m id).at off)) len c
  | .oslice id off len _ sz => .slice (some ((m id).at off)) len (((m id).room - off) / sz)
  | .eslice id off l sz => .slice (some (if ((m id).room - off) / sz = l then (m id).at off else (m id).at (off + l * sz))) 0 (((m id).room - off) / sz - l)
  | .xslice b off spot => .slice (some ⟨b, off, spot⟩) 0 0
  | .nilm => .map none
  | .map id => .map (some (m id).block)
  | .yield id => .func (.yield (m id).block) #[] #[]
  | .func fn a b => .func fn (concL m ml a).toArray (concL m ml b).toArray
  | .nilFunc => .nilFunc
  | .iface t v => .iface t (conc m ml v)
  | .nilIface => .nilIface
  | .agg cs => .agg (concL m ml cs).toArray
  | .tuple vs => .tuple (concL m ml vs).toArray
def concL (m : Nat → Loc) (ml : Nat → Nat) : List AV → List Value
  | [] => []
  | v :: vs => conc m ml v :: concL m ml vs
end

theorem concL_eq (m : Nat → Loc) (ml : Nat → Nat) (l : List AV) : concL m ml l = l.map (conc m ml) := by
  induction l with
  | nil => simp [concL]
  | cons v l ih => simp [concL, ih]

theorem okL_iff (n : Nat) (l : List AV) : AV.okL n l = true ↔ ∀ v ∈ l, v.okB n = true := by
  induction l with
  | nil => simp [AV.okL]
  | cons v l ih => simp [AV.okL, ih]

/-! ## Ids that are good: p id k: the id is one that is there, and its row has room for k cells -/
mutual
def AV.okP (p : Nat → Nat → Prop) : AV → Prop
  | .ptr id _ => p id 0
  | .lptr .. => False
  | .slice id _ _ _ => p id 0
  | .oslice id off len kc sz => p id (off + max len kc * sz)
  | .eslice id off l sz => p id (off + l * sz)
  | .map id => p id 0
  | .yield id => p id 0
  | .func _ fs cs => AV.okPL p fs ∧ AV.okPL p cs
  | .iface _ v => v.okP p
  | .agg cs => AV.okPL p cs ∧ cs.all AV.one = true
  | .tuple vs => AV.okPL p vs
  | _ => True
def AV.okPL (p : Nat → Nat → Prop) : List AV → Prop
  | [] => True
  | v :: vs => v.okP p ∧ AV.okPL p vs
end

theorem okPL_iff (p : Nat → Nat → Prop) (l : List AV) : AV.okPL p l ↔ ∀ v ∈ l, v.okP p := by
  induction l with
  | nil => simp [AV.okPL]
  | cons v l ih => simp [AV.okPL, ih]

mutual
/-- What is good, and has ids below n alone, is good below n. -/
theorem okB_okP {n : Nat} {p q : Nat → Nat → Prop} (h : ∀ i k, p i k → i < n → q i k) : ∀ v : AV, v.okB n = true → v.okP p → v.okP q
  | .bool _ | .int .. | .str _ | .nilp | .nils | .xslice .. | .nilm | .nilFunc | .nilIface => by simp [AV.okP]
  | .lptr .. => by simp [AV.okP]
  | .ptr .. | .slice .. | .map .. | .yield .. => by simp only [AV.okB, AV.okP, decide_eq_true_eq]; exact fun a b => h _ _ b a
  | .oslice .. | .eslice .. => by simp only [AV.okB, AV.okP, decide_eq_true_eq]; exact fun a b => h _ _ b a
  | .func _ fs cs => by simp only [AV.okB, AV.okP, Bool.and_eq_true]; exact fun ⟨a, b⟩ ⟨c, d⟩ => ⟨okL_okPL h fs a c, okL_okPL h cs b d⟩
  | .iface _ v => by simp only [AV.okB, AV.okP]; exact okB_okP h v
  | .agg cs => by simp only [AV.okB, AV.okP, Bool.and_eq_true]; exact fun ⟨a, b⟩ ⟨c, d⟩ => ⟨okL_okPL h cs a c, d⟩
  | .tuple vs => by simp only [AV.okB, AV.okP]; exact okL_okPL h vs
theorem okL_okPL {n : Nat} {p q : Nat → Nat → Prop} (h : ∀ i k, p i k → i < n → q i k) : ∀ l : List AV, AV.okL n l = true → AV.okPL p l → AV.okPL q l
  | [] => by simp [AV.okPL]
  | v :: l => by simp only [AV.okL, AV.okPL, Bool.and_eq_true]; exact fun ⟨a, b⟩ ⟨c, d⟩ => ⟨okB_okP h v a c, okL_okPL h l b d⟩
end

mutual
theorem okP_mono {p q : Nat → Nat → Prop} (h : ∀ i k, p i k → q i k) : ∀ v : AV, v.okP p → v.okP q
  | .bool _ | .int .. | .str _ | .nilp | .nils | .xslice .. | .nilm | .nilFunc | .nilIface => by simp [AV.okP]
  | .lptr .. => by simp [AV.okP]
  | .ptr id _ | .slice id _ _ _ | .map id | .yield id => by simp only [AV.okP]; exact h id _
  | .oslice .. | .eslice .. => by simp only [AV.okP]; exact h _ _
  | .func _ fs cs => by simp only [AV.okP]; exact fun ⟨a, b⟩ => ⟨okPL_mono h fs a, okPL_mono h cs b⟩
  | .iface _ v => by simp only [AV.okP]; exact okP_mono h v
  | .agg cs => by simp only [AV.okP]; exact fun ⟨a, b⟩ => ⟨okPL_mono h cs a, b⟩
  | .tuple vs => by simp only [AV.okP]; exact okPL_mono h vs
theorem okPL_mono {p q : Nat → Nat → Prop} (h : ∀ i k, p i k → q i k) : ∀ l : List AV, AV.okPL p l → AV.okPL q l
  | [] => by simp [AV.okPL]
  | v :: l => by simp only [AV.okPL]; exact fun ⟨a, b⟩ => ⟨okP_mono h v a, okPL_mono h l b⟩
end

mutual
theorem conc_congr {p : Nat → Nat → Prop} {m m' : Nat → Loc} (ml ml' : Nat → Nat) (h : ∀ i k, p i k → m' i = m i) : ∀ v : AV, v.okP p → conc m' ml' v = conc m ml v
  | .bool _ | .int .. | .str _ | .nilp | .nils | .xslice .. | .nilm | .nilFunc | .nilIface => by simp [conc]
  | .lptr .. => by simp [AV.okP]
  | .ptr id _ | .map id | .yield id | .slice id _ _ _ => by simp only [AV.okP]; intro hi; simp [conc, h id _ hi]
  | .oslice id _ _ _ _ | .eslice id _ _ _ => by simp only [AV.okP]; intro hi; simp [conc, h id _ hi]
  | .func _ fs cs => by simp only [AV.okP]; intro ⟨a, b⟩; simp [conc, concL_congr ml ml' h fs a, concL_congr ml ml' h cs b]
  | .iface _ v => by simp only [AV.okP]; intro a; simp [conc, conc_congr ml ml' h v a]
  | .agg cs => by simp only [AV.okP]; intro ⟨a, _⟩; simp [conc, concL_congr ml ml' h cs a]
  | .tuple vs => by simp only [AV.okP]; intro a; simp [conc, concL_congr ml ml' h vs a]
theorem concL_congr {p : Nat → Nat → Prop} {m m' : Nat → Loc} (ml ml' : Nat → Nat) (h : ∀ i k, p i k → m' i = m i) : ∀ l : List AV, AV.okPL p l → concL m' ml' l = concL m ml l
  | [] => by simp [concL]
  | v :: l => by simp only [AV.okPL]; intro ⟨a, b⟩; simp [concL, conc_congr ml ml' h v a, concL_congr ml ml' h l b]
end

/-! ## The heap -/
def num : List Bool → Nat
  | [] => 0
  | true :: p => 2 * num p + 1
  | false :: p => 2 * num p + 2
theorem num_pathF : ∀ (f i : Nat), i ≤ f → num (pathF f i) = i
  | 0, i, h => by simp [pathF, num]; omega
  | f + 1, i, h => by
    simp only [pathF]
    split
    · rename_i h0; simp [num, h0]
    · split
      · rename_i h0 h1
        simp only [num]; rw [num_pathF f (i / 2) (by omega)]; omega
      · rename_i h0 h1
        simp only [num]; rw [num_pathF f (i / 2 - 1) (by omega)]; omega
theorem num_path (i : Nat) : num (path i) = i := num_pathF i i (Nat.le_refl _)
theorem path_inj {i j : Nat} (h : path i = path j) : i = j := by rw [← num_path i, h, num_path]
theorem getP_nil_leaf (p : List Bool) : getP p .leaf = none := by cases p with | nil => rfl | cons b p => cases b <;> rfl
theorem getP_setP (x : AObj) : ∀ (p q : List Bool) (t : Tr), getP q (setP x p t) = if q = p then some x else getP q t
  | [], [], .leaf | [], [], .node .. => by simp [setP, getP]
  | [], b :: q, .leaf => by cases b <;> simp [setP, getP, getP_nil_leaf]
  | [], b :: q, .node .. => by cases b <;> simp [setP, getP]
  | b :: p, [], .leaf => by cases b <;> simp [setP, getP]
  | b :: p, [], .node .. => by cases b <;> simp [setP, getP]
  | true :: p, true :: q, .leaf => by simp only [setP, getP, List.cons.injEq, true_and]; rw [getP_setP x p q .leaf, getP_nil_leaf]
  | true :: p, true :: q, .node v l r => by simp only [setP, getP, List.cons.injEq, true_and]; exact getP_setP x p q l
  | false :: p, false :: q, .leaf => by simp only [setP, getP, List.cons.injEq, true_and]; rw [getP_setP x p q .leaf, getP_nil_leaf]
  | false :: p, false :: q, .node v l r => by simp only [setP, getP, List.cons.injEq, true_and]; exact getP_setP x p q r
  | true :: p, false :: q, .leaf | false :: p, true :: q, .leaf => by simp [setP, getP, getP_nil_leaf]
  | true :: p, false :: q, .node .. | false :: p, true :: q, .node .. => by simp [setP, getP]

/-- Each id that was given has an object, and no other. -/
def AHeap.wf (H : AHeap) : Prop := ∀ i, (H.get i).isSome = true ↔ i < H.n

theorem AHeap.get_lt {H : AHeap} {i : Nat} {o : AObj} (h : H.get i = some o) (hw : H.wf) : i < H.n := (hw i).1 (by rw [h]; rfl)
theorem AHeap.get_some {H : AHeap} {i : Nat} (hw : H.wf) (hi : i < H.n) : ∃ o, H.get i = some o := Option.isSome_iff_exists.1 ((hw i).2 hi)
theorem AHeap.get_set {H : AHeap} {i j : Nat} {x : AObj} (hw : H.wf) (hi : i < H.n) : (H.set i x).get j = if j = i then some x else H.get j := by
  simp only [AHeap.get, AHeap.set, if_pos hi, getP_setP]
  by_cases h : j = i
  · subst h; simp
  · rw [if_neg h, if_neg fun e => h (path_inj e)]
theorem AHeap.set_ge {H : AHeap} {i : Nat} {x : AObj} (hi : ¬ i < H.n) (j : Nat) : (H.set i x).get j = H.get j := by simp only [AHeap.get, AHeap.set, if_neg hi]
@[simp] theorem AHeap.set_n (H : AHeap) (i : Nat) (x : AObj) : (H.set i x).n = H.n := rfl
@[simp] theorem AHeap.alloc_n (H : AHeap) (x : AObj) : (H.alloc x).n = H.n + 1 := rfl
@[simp] theorem AHeap.alloc_low (H : AHeap) (x : AObj) : (H.alloc x).low = H.low := rfl
@[simp] theorem AHeap.set_dfs (H : AHeap) (i : Nat) (x : AObj) : (H.set i x).dfs = H.dfs := rfl
@[simp] theorem AHeap.alloc_dfs (H : AHeap) (x : AObj) : (H.alloc x).dfs = H.dfs := rfl
theorem AHeap.wf_set {H : AHeap} {i : Nat} {x : AObj} (hw : H.wf) : (H.set i x).wf := by
  intro j
  by_cases hi : i < H.n
  · rw [AHeap.get_set hw hi, AHeap.set_n]
    split
    · rename_i h; subst h; simp [hi]
    · exact hw j
  · rw [AHeap.set_ge hi, AHeap.set_n]; exact hw j
theorem AHeap.get_alloc (H : AHeap) (x : AObj) (j : Nat) : (H.alloc x).get j = if j = H.n then some x else H.get j := by
  simp only [AHeap.get, AHeap.alloc, getP_setP]
  by_cases h : j = H.n
  · subst h; simp
  · rw [if_neg h, if_neg fun e => h (path_inj e)]
theorem AHeap.wf_alloc {H : AHeap} {x : AObj} (hw : H.wf) : (H.alloc x).wf := by
  intro j
  rw [AHeap.get_alloc, AHeap.alloc_n]
  split
  · rename_i h; subst h; simp
  · rename_i h; rw [hw j]; omega
theorem AHeap.low_congr_get (H : AHeap) (l i : Nat) (d : List Dfr) : ({ H with low := l, dfs := d } : AHeap).get i = H.get i := rfl

def AObj.owned : AObj → Bool
  | .row false _ _ => true
  | .map .. => true
  | .siter .. => true
  | .miter .. => true
  | .loop .. => true
  | .dfd => true
  | _ => false
def AObj.isRo : AObj → Bool
  | .row true _ _ => true
  | _ => false

def Owned (H : AHeap) (id : Nat) : Prop := ∃ o, H.get id = some o ∧ o.owned = true
def IsRo (H : AHeap) (id : Nat) : Prop := ∃ o, H.get id = some o ∧ o.isRo = true

def AObj.okP (p : Nat → Nat → Prop) : AObj → Prop
  | .row _ _ cells => AV.okPL p cells ∧ cells.all AV.one = true
  | .map es _ => ∀ e ∈ es, e.1.okP p ∧ e.2.1.okP p
  | .siter .. => True
  | .miter (some i) _ _ _ => p i 0
  | .miter none _ _ _ => True
  | .loop _ _ env _ _ _ => ∀ t v, look t env = some v → v.okP p
  | .dfd => True
  | .dead => True

/-- A block of cells none of which is frozen ('st': nor is it marked as a text's). -/
def Unfrozen (st : Bool) (w : World) (b : Nat) (arr : Array Value) : Prop :=
  ∃ ty fr, w.heap[b]? = some (.cells arr ty fr) ∧ ∀ i, (i < arr.size ∨ (st = true ∧ i = arr.size)) → ¬ (fr.1 ≤ i ∧ i < fr.2)

def RowAt (st : Bool) (m : Nat → Loc) (ml : Nat → Nat) (w : World) (l : Loc) (cells : List AV) : Prop :=
  ∃ arr, Unfrozen st w l.block arr ∧ l.base + l.room ≤ arr.size ∧ cells.length ≤ l.room ∧ ∀ i v, cells[i]? = some v → arr[l.base + i]? = some (conc m ml v)

def RoAt (m : Nat → Loc) (ml : Nat → Nat) (w : World) (l : Loc) (cells : List AV) : Prop :=
  cells.length ≤ l.room ∧ (∃ o, w.heap[l.block]? = some o) ∧ ∀ i v, cells[i]? = some v → w.cell? (l.at i) = some (conc m ml v)

def codeX : AExit → Code
  | .normal => .skip
  | .exit id => .exit id
  | .ret => .ret

/-- The model's record of a range over a function, and our code of its rounds. -/
structure LoopK (P : Program) (r : Loop) (ps : List Nat) (ia ib : IC) : Prop where
  pe : r.params.toList = ps
  lt : ∀ p ∈ ps, p < r.tmps.size
  comp : ∃ locals, compC P r.tmps.size locals r.assign = some (erase ia) ∧ compC P r.tmps.size locals r.body = some (erase ib)
  pa : plainC ia = true
  pb : plainC ib = true

def MapAt (m : Nat → Loc) (ml : Nat → Nat) (ces : Array MapEntry) (es : List ME) (clock : Nat) : Prop :=
  List.Perm (ces.toList.map fun e => (e.key, e.val, e.born)) (es.map fun e => (conc m ml e.1, conc m ml e.2.1, e.2.2)) ∧
    (∀ e ∈ es, e.2.2 < clock) ∧ (es.map (·.2.2)).Nodup ∧ (es.map fun e => conc m ml e.1).Nodup

def ObjAt (P : Program) (m : Nat → Loc) (ml : Nat → Nat) (w : World) (l : Loc) : AObj → Prop
  | .row false sz cells => RowAt (decide (sz ≠ 1)) m ml w l cells
  | .row true _ cells => RoAt m ml w l cells
  | .map es clock => ∃ ces, w.heap[l.block]? = some (.map ces clock) ∧ MapAt m ml ces es clock
  | .siter s pos => w.heap[l.block]? = some (.stringIter ⟨s.toArray⟩ pos) ∧ l.base = 0
  | .miter mid since seen last => w.heap[l.block]? = some (.mapIter (mid.map fun i => (m i).block) since seen.reverse.toArray last) ∧ l.base = 0
  | .loop st pend env ps ia ib => ∃ r : Loop, w.heap[l.block]? = some (.loop r) ∧ r.state = st ∧ r.pending = pend.map codeX ∧ (∀ t v, look t env = some v → r.tmps.getD t undef = conc m ml v) ∧ LoopK P r ps ia ib
  | .dfd => w.heap[l.block]? = some (.deferred (some []))
  | .dead => True

def LocAt (m : Nat → Loc) (ml : Nat → Nat) (w : World) (b : Nat) (cells : List AV) : Prop :=
  ∃ arr, Unfrozen false w b arr ∧ arr.toList = concL m ml cells

/-- An id that is there, whose row has room for k cells. -/
def good (m : Nat → Loc) (n : Nat) : Nat → Nat → Prop := fun id k => id < n ∧ k ≤ (m id).room

structure Sim (P : Program) (m : Nat → Loc) (ml : Nat → Nat) (loc : List (Nat × List AV)) (H : AHeap) (w : World) : Prop where
  wf : H.wf
  obj : ∀ id o, H.get id = some o → ObjAt P m ml w (m id) o
  ok : ∀ id o, H.get id = some o → o.okP (good m H.n)
  inj : ∀ i j, Owned H i → Owned H j → (m i).block = (m j).block → i = j
  sep : ∀ i j, Owned H i → IsRo H j → (m i).block ≠ (m j).block
  locs : ∀ t cells, look t loc = some cells → LocAt m ml w (ml t) cells
  locok : ∀ t cells, look t loc = some cells → AV.okPL (good m H.n) cells ∧ cells.all AV.one = true
  locinj : ∀ t u c d, look t loc = some c → look u loc = some d → ml t = ml u → t = u
  locsep : ∀ t c i, look t loc = some c → (Owned H i ∨ IsRo H i) → (m i).block ≠ ml t

/-- What a stretch of the run leaves of the world: what it may have written, what it owns behind it. -/
structure Grow (m : Nat → Loc) (ml : Nat → Nat) (loc : List (Nat × List AV)) (H : AHeap) (w : World) (m' : Nat → Loc) (ml' : Nat → Nat) (loc' : List (Nat × List AV)) (H' : AHeap) (w' : World) : Prop where
  n_le : H.n ≤ H'.n
  agree : ∀ id, id < H.n → m' id = m id
  size : w.heap.size ≤ w'.heap.size
  os : w'.os = w.os
  tape : w'.tape = w.tape
  output : w'.output = w.output
  keep : ∀ b, b < w.heap.size → (∀ id, Owned H id → (m id).block ≠ b) → (∀ t c, look t loc = some c → ml t ≠ b) → w'.heap[b]? = w.heap[b]?
  own : ∀ id, Owned H' id → (∃ i, Owned H i ∧ (m i).block = (m' id).block) ∨ w.heap.size ≤ (m' id).block
  locs : ∀ t c, look t loc' = some c → (∃ d, look t loc = some d ∧ ml' t = ml t) ∨ w.heap.size ≤ ml' t
  low : H'.low ≤ H.low
  pres : ∀ id, id < H'.low → id < H.n → H'.get id = H.get id
  ro : ∀ id, IsRo H' id → IsRo H id

theorem Grow.refl (m : Nat → Loc) (ml : Nat → Nat) (loc : List (Nat × List AV)) (H : AHeap) (w : World) : Grow m ml loc H w m ml loc H w :=
  ⟨Nat.le_refl _, fun _ _ => rfl, Nat.le_refl _, rfl, rfl, rfl, fun _ _ _ _ => rfl, fun id h => .inl ⟨id, h, rfl⟩, fun t c h => .inl ⟨c, h, rfl⟩, Nat.le_refl _, fun _ _ _ => rfl, fun _ h => h⟩

theorem Owned.lt {H : AHeap} {id : Nat} (h : Owned H id) (hw : H.wf) : id < H.n := let ⟨_, h, _⟩ := h; AHeap.get_lt h hw

theorem Grow.trans {m m1 m2 : Nat → Loc} {ml ml1 ml2 : Nat → Nat} {loc loc1 loc2 : List (Nat × List AV)} {H H1 H2 : AHeap} {w w1 w2 : World}
    (a : Grow m ml loc H w m1 ml1 loc1 H1 w1) (b : Grow m1 ml1 loc1 H1 w1 m2 ml2 loc2 H2 w2) : Grow m ml loc H w m2 ml2 loc2 H2 w2 where
  n_le := Nat.le_trans a.n_le b.n_le
  agree := fun id h => (b.agree id (Nat.lt_of_lt_of_le h a.n_le)).trans (a.agree id h)
  size := Nat.le_trans a.size b.size
  os := b.os.trans a.os
  tape := b.tape.trans a.tape
  output := b.output.trans a.output
  keep := fun x hx h1 h2 => by
    refine (b.keep x (Nat.lt_of_lt_of_le hx a.size) ?_ ?_).trans (a.keep x hx h1 h2)
    · intro id hid he
      rcases a.own id hid with ⟨i, hi, hb⟩ | hb
      · exact h1 i hi (hb.trans he)
      · omega
    · intro t c ht he
      rcases a.locs t c ht with ⟨d, hd, hb⟩ | hb
      · exact h2 t d hd (hb.symm.trans he)
      · omega
  own := fun id h => by
    rcases b.own id h with ⟨i, hi, hb⟩ | hb
    · rcases a.own i hi with ⟨j, hj, hc⟩ | hc
      · exact .inl ⟨j, hj, hc.trans hb⟩
      · exact .inr (by omega)
    · exact .inr (Nat.le_trans a.size hb)
  locs := fun t c h => by
    rcases b.locs t c h with ⟨d, hd, hb⟩ | hb
    · rcases a.locs t d hd with ⟨e, he, hc⟩ | hc
      · exact .inl ⟨e, he, hb.trans hc⟩
      · exact .inr (by omega)
    · exact .inr (Nat.le_trans a.size hb)
  low := Nat.le_trans b.low a.low
  pres := fun id h1 h2 => (b.pres id h1 (Nat.lt_of_lt_of_le h2 a.n_le)).trans (a.pres id (Nat.lt_of_lt_of_le h1 b.low) h2)
  ro := fun id h => a.ro id (b.ro id h)

end Go.Wam
