/- The abstract machine: how its states stand for worlds. No condition. -/
import Derived.Test.YtkahfmgdjoaiiaaAmA
import Derived.Calls
set_option linter.unusedVariables false
set_option linter.unusedSimpArgs false
namespace Go.Wam

/-- Where an abstract row lies: its block, its first cell, how many cells there are from there on. -/
structure Loc where
  block : Nat
  base : Nat
  room : Nat

def Loc.at (l : Loc) (off : Nat) : Addr := ⟨l.block, l.base + off, none⟩

mutual
def conc (m : Nat → Loc) (ml : Nat → Nat) : AV → Value
  | .bool b => .bool b
  | .int k n => .int k n
  | .str s => .string ⟨s.toArray⟩
  | .nilp => .pointer none
  | .ptr id off => .pointer (some ((m id).at off))
  | .lptr t off => .pointer (some ⟨ml t, off, none⟩)
  | .nils => .slice none 0 0
  | .slice id off len c => .slice (some ((m id).at off)) len c
  | .oslice id off len _ sz => .slice (some ((m id).at off)) len (((m id).room - off) / sz)
  | .eslice id off l sz => .slice (some (if ((m id).room - off) / sz = l then (m id).at off else (m id).at (off + l * sz))) 0 (((m id).room - off) / sz - l)
  | .xslice b off spot => .slice (some ⟨b, off, spot⟩) 0 0
  | .nilm => .map none
  | .map id => .map (some (m id).block)
  | .func fn a b => .func fn (concL m ml a).toArray (concL m ml b).toArray
  | .nilFunc => .nilFunc
  | .iface t v => .iface t (conc m ml v)
  | .nilIface => .nilIface
  | .agg cs => .agg (concL m ml cs).toArray
  | .tuple vs => .tuple (concL m ml vs).toArray
def concL (m : Nat → Loc) (ml : Nat → Nat) : List AV → List Value
  | [] => []
  | v :: vs => conc m ml v :: concL m ml vs
end

theorem concL_eq (m : Nat → Loc) (ml : Nat → Nat) (l : List AV) : concL m ml l = l.map (conc m ml) := by
  induction l with
  | nil => simp [concL]
  | cons v l ih => simp [concL, ih]

theorem okL_iff (n : Nat) (l : List AV) : AV.okL n l = true ↔ ∀ v ∈ l, v.okB n = true := by
  induction l with
  | nil => simp [AV.okL]
  | cons v l ih => simp [AV.okL, ih]

/-! ## Ids that are good: p id k: the id is one that is there, and its row has room for k cells -/
mutual
def AV.okP (p : Nat → Nat → Prop) : AV → Prop
  | .ptr id _ => p id 0
  | .lptr .. => False
  | .slice id _ _ _ => p id 0
  | .oslice id off len kc sz => p id (off + max len kc * sz)
  | .eslice id off l sz => p id (off + l * sz)
  | .map id => p id 0
  | .func _ fs cs => AV.okPL p fs ∧ AV.okPL p cs
  | .iface _ v => v.okP p
  | .agg cs => AV.okPL p cs ∧ cs.all AV.one = true
  | .tuple vs => AV.okPL p vs
  | _ => True
def AV.okPL (p : Nat → Nat → Prop) : List AV → Prop
  | [] => True
  | v :: vs => v.okP p ∧ AV.okPL p vs
end

theorem okPL_iff (p : Nat → Nat → Prop) (l : List AV) : AV.okPL p l ↔ ∀ v ∈ l, v.okP p := by
  induction l with
  | nil => simp [AV.okPL]
  | cons v l ih => simp [AV.okPL, ih]

mutual
/-- What is good, and has ids below n alone, is good below n. -/
theorem okB_okP {n : Nat} {p q : Nat → Nat → Prop} (h : ∀ i k, p i k → i < n → q i k) : ∀ v : AV, v.okB n = true → v.okP p → v.okP q
  | .bool _ | .int .. | .str _ | .nilp | .nils | .xslice .. | .nilm | .nilFunc | .nilIface => by simp [AV.okP]
  | .lptr .. => by simp [AV.okP]
  | .ptr .. | .slice .. | .map .. => by simp only [AV.okB, AV.okP, decide_eq_true_eq]; exact fun a b => h _ _ b a
  | .oslice .. | .eslice .. => by simp only [AV.okB, AV.okP, decide_eq_true_eq]; exact fun a b => h _ _ b a
  | .func _ fs cs => by simp only [AV.okB, AV.okP, Bool.and_eq_true]; exact fun ⟨a, b⟩ ⟨c, d⟩ => ⟨okL_okPL h fs a c, okL_okPL h cs b d⟩
  | .iface _ v => by simp only [AV.okB, AV.okP]; exact okB_okP h v
  | .agg cs => by simp only [AV.okB, AV.okP, Bool.and_eq_true]; exact fun ⟨a, b⟩ ⟨c, d⟩ => ⟨okL_okPL h cs a c, d⟩
  | .tuple vs => by simp only [AV.okB, AV.okP]; exact okL_okPL h vs
theorem okL_okPL {n : Nat} {p q : Nat → Nat → Prop} (h : ∀ i k, p i k → i < n → q i k) : ∀ l : List AV, AV.okL n l = true → AV.okPL p l → AV.okPL q l
  | [] => by simp [AV.okPL]
  | v :: l => by simp only [AV.okL, AV.okPL, Bool.and_eq_true]; exact fun ⟨a, b⟩ ⟨c, d⟩ => ⟨okB_okP h v a c, okL_okPL h l b d⟩
end

mutual
theorem okP_mono {p q : Nat → Nat → Prop} (h : ∀ i k, p i k → q i k) : ∀ v : AV, v.okP p → v.okP q
  | .bool _ | .int .. | .str _ | .nilp | .nils | .xslice .. | .nilm | .nilFunc | .nilIface => by simp [AV.okP]
  | .lptr .. => by simp [AV.okP]
  | .ptr id _ | .slice id _ _ _ | .map id => by simp only [AV.okP]; exact h id _
  | .oslice .. | .eslice .. => by simp only [AV.okP]; exact h _ _
  | .func _ fs cs => by simp only [AV.okP]; exact fun ⟨a, b⟩ => ⟨okPL_mono h fs a, okPL_mono h cs b⟩
  | .iface _ v => by simp only [AV.okP]; exact okP_mono h v
  | .agg cs => by simp only [AV.okP]; exact fun ⟨a, b⟩ => ⟨okPL_mono h cs a, b⟩
  | .tuple vs => by simp only [AV.okP]; exact okPL_mono h vs
theorem okPL_mono {p q : Nat → Nat → Prop} (h : ∀ i k, p i k → q i k) : ∀ l : List AV, AV.okPL p l → AV.okPL q l
  | [] => by simp [AV.okPL]
  | v :: l => by simp only [AV.okPL]; exact fun ⟨a, b⟩ => ⟨okP_mono h v a, okPL_mono h l b⟩
end

mutual
theorem conc_congr {p : Nat → Nat → Prop} {m m' : Nat → Loc} (ml ml' : Nat → Nat) (h : ∀ i k, p i k → m' i = m i) : ∀ v : AV, v.okP p → conc m' ml' v = conc m ml v
  | .bool _ | .int .. | .str _ | .nilp | .nils | .xslice .. | .nilm | .nilFunc | .nilIface => by simp [conc]
  | .lptr .. => by simp [AV.okP]
  | .ptr id _ | .map id | .slice id _ _ _ => by simp only [AV.okP]; intro hi; simp [conc, h id _ hi]
  | .oslice id _ _ _ _ | .eslice id _ _ _ => by simp only [AV.okP]; intro hi; simp [conc, h id _ hi]
  | .func _ fs cs => by simp only [AV.okP]; intro ⟨a, b⟩; simp [conc, concL_congr ml ml' h fs a, concL_congr ml ml' h cs b]
  | .iface _ v => by simp only [AV.okP]; intro a; simp [conc, conc_congr ml ml' h v a]
  | .agg cs => by simp only [AV.okP]; intro ⟨a, _⟩; simp [conc, concL_congr ml ml' h cs a]
  | .tuple vs => by simp only [AV.okP]; intro a; simp [conc, concL_congr ml ml' h vs a]
theorem concL_congr {p : Nat → Nat → Prop} {m m' : Nat → Loc} (ml ml' : Nat → Nat) (h : ∀ i k, p i k → m' i = m i) : ∀ l : List AV, AV.okPL p l → concL m' ml' l = concL m ml l
  | [] => by simp [concL]
  | v :: l => by simp only [AV.okPL]; intro ⟨a, b⟩; simp [concL, conc_congr ml ml' h v a, concL_congr ml ml' h l b]
end

/-! ## The heap -/
theorem getL_lt {l : List AObj} {n i : Nat} {o : AObj} (h : getL l n i = some o) (hn : n = l.length) : i < n := by
  induction l generalizing n with
  | nil => simp [getL] at h
  | cons x l ih =>
    simp only [getL] at h
    split at h
    · omega
    · have := ih h (by simp at hn; omega)
      simp at hn; omega

theorem getL_some {l : List AObj} {n i : Nat} (hn : n = l.length) (hi : i < n) : ∃ o, getL l n i = some o := by
  induction l generalizing n with
  | nil => simp at hn; omega
  | cons x l ih =>
    simp only [getL]
    split
    · exact ⟨x, rfl⟩
    · simp at hn; exact ih (by omega) (by omega)

theorem setL_length {l : List AObj} {n i : Nat} {x : AObj} : (setL l n i x).length = l.length := by
  induction l generalizing n with
  | nil => rfl
  | cons y l ih =>
    simp only [setL]
    split
    · simp
    · simp [ih]

theorem getL_setL {l : List AObj} {n i j : Nat} {x : AObj} (hn : n = l.length) (hi : i < n) : getL (setL l n i x) n j = if j = i then some x else getL l n j := by
  induction l generalizing n with
  | nil => simp at hn; omega
  | cons y l ih =>
    simp only [setL]
    by_cases h : i + 1 = n
    · simp only [h, if_true, getL]
      by_cases hj : j = i
      · subst hj; simp [h]
      · have : ¬ j + 1 = n := by omega
        simp [hj, this]
    · simp only [h, if_false, getL]
      simp at hn
      by_cases hj : j + 1 = n
      · have : j ≠ i := by omega
        simp [hj, this]
      · simp only [hj, if_false]
        exact ih (by omega) (by omega)

def AHeap.wf (H : AHeap) : Prop := H.n = H.objs.length

theorem AHeap.get_lt {H : AHeap} {i : Nat} {o : AObj} (h : H.get i = some o) (hw : H.wf) : i < H.n := getL_lt h hw
theorem AHeap.get_some {H : AHeap} {i : Nat} (hw : H.wf) (hi : i < H.n) : ∃ o, H.get i = some o := getL_some hw hi
theorem AHeap.get_set {H : AHeap} {i j : Nat} {x : AObj} (hw : H.wf) (hi : i < H.n) : (H.set i x).get j = if j = i then some x else H.get j := getL_setL hw hi
theorem AHeap.wf_set {H : AHeap} {i : Nat} {x : AObj} (hw : H.wf) : (H.set i x).wf := by simpa [AHeap.wf, AHeap.set, setL_length] using hw
theorem AHeap.wf_alloc {H : AHeap} {x : AObj} (hw : H.wf) : (H.alloc x).wf := by simpa [AHeap.wf, AHeap.alloc] using hw
@[simp] theorem AHeap.set_n (H : AHeap) (i : Nat) (x : AObj) : (H.set i x).n = H.n := rfl
@[simp] theorem AHeap.alloc_n (H : AHeap) (x : AObj) : (H.alloc x).n = H.n + 1 := rfl
@[simp] theorem AHeap.alloc_low (H : AHeap) (x : AObj) : (H.alloc x).low = H.low := rfl
theorem AHeap.get_alloc (H : AHeap) (x : AObj) (j : Nat) : (H.alloc x).get j = if j = H.n then some x else H.get j := by
  simp only [AHeap.get, AHeap.alloc, getL]
  by_cases h : j = H.n
  · simp [h]
  · have : ¬ j + 1 = H.n + 1 := by omega
    simp [h]
theorem AHeap.low_congr_get (H : AHeap) (l i : Nat) : ({ H with low := l } : AHeap).get i = H.get i := rfl

def AObj.owned : AObj → Bool
  | .row false _ _ => true
  | .map _ => true
  | _ => false
def AObj.isRo : AObj → Bool
  | .row true _ _ => true
  | _ => false

def Owned (H : AHeap) (id : Nat) : Prop := ∃ o, H.get id = some o ∧ o.owned = true
def IsRo (H : AHeap) (id : Nat) : Prop := ∃ o, H.get id = some o ∧ o.isRo = true

def AObj.okP (p : Nat → Nat → Prop) : AObj → Prop
  | .row _ _ cells => AV.okPL p cells ∧ cells.all AV.one = true
  | .map es => ∀ e ∈ es, e.1.okP p ∧ e.2.okP p
  | .dead => True

/-- A block of cells none of which is frozen. -/
def Unfrozen (w : World) (b : Nat) (arr : Array Value) : Prop :=
  ∃ ty fr, w.heap[b]? = some (.cells arr ty fr) ∧ ∀ i, i < arr.size → ¬ (fr.1 ≤ i ∧ i < fr.2)

def RowAt (m : Nat → Loc) (ml : Nat → Nat) (w : World) (l : Loc) (cells : List AV) : Prop :=
  ∃ arr, Unfrozen w l.block arr ∧ l.base + l.room ≤ arr.size ∧ cells.length ≤ l.room ∧ ∀ i v, cells[i]? = some v → arr[l.base + i]? = some (conc m ml v)

def RoAt (m : Nat → Loc) (ml : Nat → Nat) (w : World) (l : Loc) (cells : List AV) : Prop :=
  cells.length ≤ l.room ∧ (∃ o, w.heap[l.block]? = some o) ∧ ∀ i v, cells[i]? = some v → w.cell? (l.at i) = some (conc m ml v)

def ObjAt (m : Nat → Loc) (ml : Nat → Nat) (w : World) (l : Loc) : AObj → Prop
  | .row false _ cells => RowAt m ml w l cells
  | .row true _ cells => RoAt m ml w l cells
  | .map es => ∃ ces clock, w.heap[l.block]? = some (.map ces clock) ∧ ces.toList.map (fun e => (e.key, e.val)) = es.map (fun e => (conc m ml e.1, conc m ml e.2)) ∧
      (∀ e ∈ ces.toList, e.born < clock) ∧ (ces.toList.map (·.born)).Nodup
  | .dead => True

def LocAt (m : Nat → Loc) (ml : Nat → Nat) (w : World) (b : Nat) (cells : List AV) : Prop :=
  ∃ arr, Unfrozen w b arr ∧ arr.toList = concL m ml cells

/-- An id that is there, whose row has room for k cells. -/
def good (m : Nat → Loc) (n : Nat) : Nat → Nat → Prop := fun id k => id < n ∧ k ≤ (m id).room

structure Sim (m : Nat → Loc) (ml : Nat → Nat) (loc : List (Nat × List AV)) (H : AHeap) (w : World) : Prop where
  wf : H.wf
  obj : ∀ id o, H.get id = some o → ObjAt m ml w (m id) o
  ok : ∀ id o, H.get id = some o → o.okP (good m H.n)
  inj : ∀ i j, Owned H i → Owned H j → (m i).block = (m j).block → i = j
  sep : ∀ i j, Owned H i → IsRo H j → (m i).block ≠ (m j).block
  locs : ∀ t cells, look t loc = some cells → LocAt m ml w (ml t) cells
  locok : ∀ t cells, look t loc = some cells → AV.okPL (good m H.n) cells ∧ cells.all AV.one = true
  locinj : ∀ t u c d, look t loc = some c → look u loc = some d → ml t = ml u → t = u
  locsep : ∀ t c i, look t loc = some c → (Owned H i ∨ IsRo H i) → (m i).block ≠ ml t

/-- What a stretch of the run leaves of the world: what it may have written, what it owns behind it. -/
structure Grow (m : Nat → Loc) (ml : Nat → Nat) (loc : List (Nat × List AV)) (H : AHeap) (w : World) (m' : Nat → Loc) (ml' : Nat → Nat) (loc' : List (Nat × List AV)) (H' : AHeap) (w' : World) : Prop where
  n_le : H.n ≤ H'.n
  agree : ∀ id, id < H.n → m' id = m id
  size : w.heap.size ≤ w'.heap.size
  os : w'.os = w.os
  tape : w'.tape = w.tape
  output : w'.output = w.output
  keep : ∀ b, b < w.heap.size → (∀ id, Owned H id → (m id).block ≠ b) → (∀ t c, look t loc = some c → ml t ≠ b) → w'.heap[b]? = w.heap[b]?
  own : ∀ id, Owned H' id → (∃ i, Owned H i ∧ (m i).block = (m' id).block) ∨ w.heap.size ≤ (m' id).block
  locs : ∀ t c, look t loc' = some c → (∃ d, look t loc = some d ∧ ml' t = ml t) ∨ w.heap.size ≤ ml' t
  low : H'.low ≤ H.low
  pres : ∀ id, id < H'.low → id < H.n → H'.get id = H.get id
  ro : ∀ id, IsRo H' id → IsRo H id

theorem Grow.refl (m : Nat → Loc) (ml : Nat → Nat) (loc : List (Nat × List AV)) (H : AHeap) (w : World) : Grow m ml loc H w m ml loc H w :=
  ⟨Nat.le_refl _, fun _ _ => rfl, Nat.le_refl _, rfl, rfl, rfl, fun _ _ _ _ => rfl, fun id h => .inl ⟨id, h, rfl⟩, fun t c h => .inl ⟨c, h, rfl⟩, Nat.le_refl _, fun _ _ _ => rfl, fun _ h => h⟩

theorem Owned.lt {H : AHeap} {id : Nat} (h : Owned H id) (hw : H.wf) : id < H.n := let ⟨_, h, _⟩ := h; AHeap.get_lt h hw

theorem Grow.trans {m m1 m2 : Nat → Loc} {ml ml1 ml2 : Nat → Nat} {loc loc1 loc2 : List (Nat × List AV)} {H H1 H2 : AHeap} {w w1 w2 : World}
    (a : Grow m ml loc H w m1 ml1 loc1 H1 w1) (b : Grow m1 ml1 loc1 H1 w1 m2 ml2 loc2 H2 w2) : Grow m ml loc H w m2 ml2 loc2 H2 w2 where
  n_le := Nat.le_trans a.n_le b.n_le
  agree := fun id h => (b.agree id (Nat.lt_of_lt_of_le h a.n_le)).trans (a.agree id h)
  size := Nat.le_trans a.size b.size
  os := b.os.trans a.os
  tape := b.tape.trans a.tape
  output := b.output.trans a.output
  keep := fun x hx h1 h2 => by
    refine (b.keep x (Nat.lt_of_lt_of_le hx a.size) ?_ ?_).trans (a.keep x hx h1 h2)
    · intro id hid he
      rcases a.own id hid with ⟨i, hi, hb⟩ | hb
      · exact h1 i hi (hb.trans he)
      · omega
    · intro t c ht he
      rcases a.locs t c ht with ⟨d, hd, hb⟩ | hb
      · exact h2 t d hd (hb.symm.trans he)
      · omega
  own := fun id h => by
    rcases b.own id h with ⟨i, hi, hb⟩ | hb
    · rcases a.own i hi with ⟨j, hj, hc⟩ | hc
      · exact .inl ⟨j, hj, hc.trans hb⟩
      · exact .inr (by omega)
    · exact .inr (Nat.le_trans a.size hb)
  locs := fun t c h => by
    rcases b.locs t c h with ⟨d, hd, hb⟩ | hb
    · rcases a.locs t d hd with ⟨e, he, hc⟩ | hc
      · exact .inl ⟨e, he, hb.trans hc⟩
      · exact .inr (by omega)
    · exact .inr (Nat.le_trans a.size hb)
  low := Nat.le_trans b.low a.low
  pres := fun id h1 h2 => (b.pres id h1 (Nat.lt_of_lt_of_le h2 a.n_le)).trans (a.pres id (Nat.lt_of_lt_of_le h1 b.low) h2)
  ro := fun id h => a.ro id (b.ro id h)

end Go.Wam
