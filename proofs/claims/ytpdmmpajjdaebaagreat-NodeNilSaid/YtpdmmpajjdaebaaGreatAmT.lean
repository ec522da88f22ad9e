/- The abstract machine: lists in the heap, what a call may change, loops. No condition. -/
import Derived.Test.YtpdmmpajjdaebaaGreatAmS
set_option linter.unusedVariables false
set_option linter.unusedSimpArgs false
namespace Go.Wam

/-! ## Loads -/
def AHeap.rdAt (H : AHeap) (id : Nat) (agg : Bool) (sz off : Nat) : Option AV :=
  match H.get id with
  | some (.row _ _ cells) => rd agg sz off cells
  | _ => none
theorem load_ptr (e : List (Nat × AV)) (l : List (Nat × List AV)) (H : AHeap) (agg : Bool) (sz id off : Nat) : loadA ⟨e, l, H⟩ agg sz (.ptr id off) = H.rdAt id agg sz off := rfl
theorem load_lptr (e : List (Nat × AV)) (l : List (Nat × List AV)) (H : AHeap) (agg : Bool) (sz t off : Nat) : loadA ⟨e, l, H⟩ agg sz (.lptr t off) = match look t l with
    | some cells => rd agg sz off cells
    | none => none := rfl
theorem rdAt_row {H : AHeap} {id : Nat} {ro : Bool} {e : Nat} {cells : List AV} (h : H.get id = some (.row ro e cells)) (agg : Bool) (sz off : Nat) : H.rdAt id agg sz off = rd agg sz off cells := by
  simp only [AHeap.rdAt, h]
theorem rdAt_congr {H K : AHeap} {id : Nat} (h : K.get id = H.get id) (agg : Bool) (sz off : Nat) : K.rdAt id agg sz off = H.rdAt id agg sz off := by
  simp only [AHeap.rdAt, h]
@[simp] theorem rdAt_top (H : AHeap) (id : Nat) (agg : Bool) (sz off : Nat) : H.top.rdAt id agg sz off = H.rdAt id agg sz off := rfl
@[simp] theorem rdAt_alloc_same (H : AHeap) (ro : Bool) (e : Nat) (cells : List AV) (agg : Bool) (sz off : Nat) : (H.alloc (.row ro e cells)).rdAt H.n agg sz off = rd agg sz off cells := rdAt_row (get_alloc_same H _) ..
theorem rdAt_alloc_ne (H : AHeap) (x : AObj) {j : Nat} (h : j ≠ H.n) (agg : Bool) (sz off : Nat) : (H.alloc x).rdAt j agg sz off = H.rdAt j agg sz off := rdAt_congr (get_alloc_ne H x h) ..

theorem get_set_ne (H : AHeap) (x : AObj) {i j : Nat} (h : j ≠ i) : (H.set i x).get j = H.get j := by
  simp only [AHeap.get, AHeap.set]
  split
  · rw [getP_setP, if_neg fun e => h (path_inj e)]
  · rfl
theorem get_set_same (H : AHeap) (x : AObj) {i : Nat} (hw : H.wf) (h : (H.get i).isSome = true) : (H.set i x).get i = some x := by
  rw [AHeap.get_set hw ((hw i).1 h), if_pos rfl]
theorem rdAt_set_ne (H : AHeap) (x : AObj) {i j : Nat} (h : j ≠ i) (agg : Bool) (sz off : Nat) : (H.set i x).rdAt j agg sz off = H.rdAt j agg sz off := rdAt_congr (get_set_ne H x h) ..
theorem rdAt_set_same (H : AHeap) (ro : Bool) (e : Nat) (cells : List AV) {i : Nat} (hw : H.wf) (h : (H.get i).isSome = true) (agg : Bool) (sz off : Nat) : (H.set i (.row ro e cells)).rdAt i agg sz off = rd agg sz off cells := rdAt_row (get_set_same H _ hw h) ..

theorem get_alloc_of {H : AHeap} {x o : AObj} {j : Nat} (hw : H.wf) (h : H.get j = some o) : (H.alloc x).get j = some o := by
  rw [get_alloc_lt H x (AHeap.get_lt h hw)]; exact h
theorem rdAt_alloc_of {H : AHeap} {x : AObj} {j : Nat} {ro : Bool} {e : Nat} {cells : List AV} (hw : H.wf) (h : H.get j = some (.row ro e cells)) (agg : Bool) (sz off : Nat) : (H.alloc x).rdAt j agg sz off = rd agg sz off cells := rdAt_row (get_alloc_of hw h) ..

/-! ## Slices, whatever their form -/
def AV.sl (sz : Nat) : AV → Bool
  | .nils => true
  | .slice _ _ len c => decide (len ≤ c)
  | .oslice _ _ len kc z => decide (z = sz) && decide (len ≤ kc)
  | .eslice .. => true
  | .xslice .. => true
  | _ => false
def slen : AV → Nat
  | .slice _ _ n _ => n
  | .oslice _ _ n _ _ => n
  | _ => 0
def sid : AV → Nat
  | .slice i _ _ _ => i
  | .oslice i _ _ _ _ => i
  | _ => 0
def soff : AV → Nat
  | .slice _ o _ _ => o
  | .oslice _ o _ _ _ => o
  | _ => 0
@[simp] theorem slen_nils : slen .nils = 0 := rfl
@[simp] theorem slen_slice (i o n c : Nat) : slen (.slice i o n c) = n := rfl
@[simp] theorem slen_oslice (i o n c z : Nat) : slen (.oslice i o n c z) = n := rfl
@[simp] theorem slen_eslice (i o n c : Nat) : slen (.eslice i o n c) = 0 := rfl
@[simp] theorem slen_xslice (i o : Nat) (s : Option Nat) : slen (.xslice i o s) = 0 := rfl
@[simp] theorem sid_slice (i o n c : Nat) : sid (.slice i o n c) = i := rfl
@[simp] theorem sid_oslice (i o n c z : Nat) : sid (.oslice i o n c z) = i := rfl
@[simp] theorem soff_slice (i o n c : Nat) : soff (.slice i o n c) = o := rfl
@[simp] theorem soff_oslice (i o n c z : Nat) : soff (.oslice i o n c z) = o := rfl

def lenS (v : AV) : Option AV :=
  match v with
  | .nils => some (.int .i64 0)
  | .slice _ _ n _ => some (.int .i64 n)
  | .oslice _ _ n _ _ => some (.int .i64 n)
  | .eslice .. => some (.int .i64 0)
  | .xslice .. => some (.int .i64 0)
  | _ => none
theorem ev_len (dst : Option Nat) (e : List (Nat × AV)) (l : List (Nat × List AV)) (H : AHeap) (x : Opd) : evOp dst ⟨e, l, H⟩ (.len .slice x) = ((x.ev e).bind lenS).map fun v => (v, ⟨e, l, H⟩) := by
  simp only [evOp]
  cases x.ev e with
  | none => simp
  | some v => cases v <;> simp [lenS]
@[simp] theorem lenS_nils : lenS .nils = some (.int .i64 0) := rfl
@[simp] theorem lenS_slice (i o n c : Nat) : lenS (.slice i o n c) = some (.int .i64 n) := rfl
@[simp] theorem lenS_oslice (i o n c z : Nat) : lenS (.oslice i o n c z) = some (.int .i64 n) := rfl
@[simp] theorem lenS_eslice (i o n c : Nat) : lenS (.eslice i o n c) = some (.int .i64 0) := rfl
@[simp] theorem lenS_xslice (i o : Nat) (s : Option Nat) : lenS (.xslice i o s) = some (.int .i64 0) := rfl
theorem lenS_sl {sz : Nat} {v : AV} (h : v.sl sz = true) : lenS v = some (.int .i64 (slen v)) := by cases v <;> simp_all [AV.sl]

def idxS (sz : Nat) (v i : AV) : Option AV :=
  match v, i with
  | .slice id off len _, .int _ n => if 0 ≤ n ∧ n < len then some (.ptr id (off + n.toNat * sz)) else none
  | .oslice id off len _ _, .int _ n => if 0 ≤ n ∧ n < len then some (.ptr id (off + n.toNat * sz)) else none
  | _, _ => none
theorem ev_idx (dst : Option Nat) (e : List (Nat × AV)) (l : List (Nat × List AV)) (H : AHeap) (sz : Nat) (x i : Opd) : evOp dst ⟨e, l, H⟩ (.indexAddr none sz x i) = ((x.ev e).bind fun v => (i.ev e).bind (idxS sz v)).map fun v => (v, ⟨e, l, H⟩) := by
  simp only [evOp]
  cases x.ev e with
  | none => simp
  | some v =>
    cases i.ev e with
    | none => cases v <;> simp
    | some u =>
      cases v <;> cases u <;> simp [idxS] <;> (split <;> simp_all)
theorem idxS_slice (sz id off len c : Nat) (k : IntKind) (n : Int) : idxS sz (.slice id off len c) (.int k n) = if 0 ≤ n ∧ n < len then some (.ptr id (off + n.toNat * sz)) else none := rfl
theorem idxS_oslice (sz id off len c z : Nat) (k : IntKind) (n : Int) : idxS sz (.oslice id off len c z) (.int k n) = if 0 ≤ n ∧ n < len then some (.ptr id (off + n.toNat * sz)) else none := rfl
theorem idxS_sl {sz : Nat} {v : AV} {n : Int} (k : IntKind) (h : 0 ≤ n) (h' : n < slen v) : idxS sz v (.int k n) = some (.ptr (sid v) (soff v + n.toNat * sz)) := by
  cases v <;> simp_all [idxS, slen] <;> omega

/-- A slice whose elements' cells are told. -/
structure View (H : AHeap) (sz : Nat) (v : AV) (rows : List (List AV)) : Prop where
  sl : v.sl sz = true
  len : slen v = rows.length
  each : ∀ r ∈ rows, r.length = sz
  row : 0 < rows.length → ∃ ro e cells, H.get (sid v) = some (.row ro e cells) ∧ soff v + rows.length * sz ≤ cells.length ∧ (cells.drop (soff v)).take (rows.length * sz) = rows.flatten

section
variable {H K : AHeap} {sz : Nat} {v : AV} {rows : List (List AV)}

theorem View.lenS (h : View H sz v rows) : Go.Wam.lenS v = some (.int .i64 rows.length) := by rw [lenS_sl h.sl, h.len]
theorem View.idx (h : View H sz v rows) {n : Int} (k : IntKind) (h0 : 0 ≤ n) (h1 : n < rows.length) : idxS sz v (.int k n) = some (.ptr (sid v) (soff v + n.toNat * sz)) := idxS_sl k h0 (by rw [h.len]; exact h1)
theorem View.frame (h : View H sz v rows) (hk : 0 < rows.length → K.get (sid v) = H.get (sid v)) : View K sz v rows :=
  ⟨h.sl, h.len, h.each, fun hr => by rw [hk hr]; exact h.row hr⟩
theorem View.lt (h : View H sz v rows) (hw : H.wf) (hr : 0 < rows.length) : sid v < H.n := by
  obtain ⟨ro, e, cells, h1, _⟩ := h.row hr
  exact AHeap.get_lt h1 hw

theorem View.rd (h : View H sz v rows) {i : Nat} {r : List AV} (hr : rows[i]? = some r) (agg : Bool) {k f : Nat} (hf : f + k ≤ sz) (hk : 0 < k) (h1 : agg = false → k = 1) : H.rdAt (sid v) agg k (soff v + i * sz + f) = Go.Wam.rd agg k f r := by
  have hi : i < rows.length := (List.getElem?_eq_some_iff.1 hr).1
  obtain ⟨ro, e, cells, h2, h3, h4⟩ := h.row (by omega)
  have hlen := h.each r (List.mem_of_getElem? hr)
  have hle : (i + 1) * sz ≤ rows.length * sz := Nat.mul_le_mul_right _ hi
  have hle2 : i * sz + sz ≤ rows.length * sz := by rw [Nat.add_mul] at hle; omega
  have g : ∀ j, j < sz → cells[soff v + i * sz + j]? = r[j]? := by
    intro j hj
    have e1 : ((cells.drop (soff v)).take (rows.length * sz))[i * sz + j]? = cells[soff v + i * sz + j]? := by
      rw [List.getElem?_take, if_pos (by omega), List.getElem?_drop]; congr 1; omega
    rw [← e1, h4, flatten_get (by omega) h.each]
    have d1 : (i * sz + j) / sz = i := by rw [Nat.mul_comm, Nat.mul_add_div (by omega), Nat.div_eq_of_lt hj, Nat.add_zero]
    have d2 : (i * sz + j) % sz = j := by rw [Nat.mul_comm, Nat.mul_add_mod, Nat.mod_eq_of_lt hj]
    rw [d1, d2, hr]; rfl
  rw [rdAt_row h2]
  unfold Go.Wam.rd
  cases agg with
  | false =>
    simp only [Bool.false_eq_true, if_false]
    exact g f (by have := h1 rfl; omega)
  | true =>
    simp only [if_true]
    rw [if_pos (by omega), if_pos (by omega)]
    congr 2
    apply List.ext_getElem?
    intro j
    rw [List.getElem?_take, List.getElem?_take]
    by_cases hj : j < k
    · rw [if_pos hj, if_pos hj, List.getElem?_drop, List.getElem?_drop, Nat.add_assoc]
      exact g (f + j) (by omega)
    · rw [if_neg hj, if_neg hj]

theorem IsSl.view (h : IsSl H sz v rows) : View H sz v rows := by
  rcases h with ⟨rfl, rfl⟩ | ⟨b, o, s, rfl, rfl⟩ | ⟨id, cap, rfl, hc, hg, hr⟩
  · exact ⟨rfl, rfl, fun r hr => (by cases hr), fun h => (by simp at h)⟩
  · exact ⟨rfl, rfl, fun r hr => (by cases hr), fun h => (by simp at h)⟩
  · refine ⟨by simp [AV.sl, hc], rfl, hr, fun _ => ⟨true, sz, _, hg, ?_, ?_⟩⟩
    · rw [soff_slice, flatten_len hr]; omega
    · rw [soff_slice, List.drop_zero, ← flatten_len hr, List.take_length]

/-- Its cells, as append reads them. -/
theorem View.first (h : View H sz v rows) : firstA H sz v = some (rows.length, rows.flatten) := by
  have hlen := flatten_len h.each
  have h0 := h.len
  have h1 := h.row
  have h2 := h.sl
  cases v with
  | nils => simp at h0; have : rows = [] := List.length_eq_zero_iff.1 h0.symm; subst this; rfl
  | eslice => simp at h0; have : rows = [] := List.length_eq_zero_iff.1 h0.symm; subst this; rfl
  | xslice => simp at h0; have : rows = [] := List.length_eq_zero_iff.1 h0.symm; subst this; rfl
  | slice id off len c =>
    simp only [slen_slice] at h0
    subst h0
    simp only [firstA]
    split
    · rename_i h3; have : rows = [] := List.length_eq_zero_iff.1 h3; subst this; rfl
    · obtain ⟨ro, e, cells, h4, h5, h6⟩ := h1 (by omega)
      simp only [sid_slice, soff_slice] at h4 h5 h6
      simp only [cutA, h4, h5, if_true, Option.map_some, h6]
  | oslice id off len kc z =>
    simp only [slen_oslice] at h0
    subst h0
    simp only [firstA]
    split
    · rename_i h3; have : rows = [] := List.length_eq_zero_iff.1 h3; subst this; rfl
    · obtain ⟨ro, e, cells, h4, h5, h6⟩ := h1 (by omega)
      simp only [sid_oslice, soff_oslice] at h4 h5 h6
      simp only [cutA, h4, h5, if_true, Option.map_some, h6]
  | _ => simp [AV.sl] at h2
end

/-! ## What a call may change -/
def AHeap.ok (H : AHeap) : Prop := H.wf ∧ H.low ≤ H.n
theorem AHeap.ok.top {H : AHeap} (h : H.wf) : H.top.ok := ⟨h, Nat.le_refl _⟩

structure Chg (F : List Nat) (H K : AHeap) : Prop where
  le : H.n ≤ K.n
  ok : H.ok → K.ok
  get : ∀ i, i < H.n → i ∉ F → K.get i = H.get i
  lo : K.low ≤ H.low
  hi : ∀ k, k ≤ H.low → (∀ i ∈ F, k ≤ i) → k ≤ K.low

theorem Chg.refl (F : List Nat) (H : AHeap) : Chg F H H := ⟨Nat.le_refl _, id, fun _ _ _ => rfl, Nat.le_refl _, fun _ h _ => h⟩
theorem Chg.trans {F G : List Nat} {H K L : AHeap} (hok : H.ok) (a : Chg F H K) (b : Chg G K L) (h : ∀ i ∈ G, i ∈ F ∨ H.n ≤ i) : Chg F H L where
  le := Nat.le_trans a.le b.le
  ok := fun h => b.ok (a.ok h)
  get := fun i hi hn => by
    rw [b.get i (Nat.lt_of_lt_of_le hi a.le) (fun hg => by rcases h i hg with h | h; exact hn h; omega), a.get i hi hn]
  lo := Nat.le_trans b.lo a.lo
  hi := fun k h1 h2 => b.hi k (a.hi k h1 h2) fun i hi => by
    rcases h i hi with h | h
    · exact h2 i h
    · have := hok.2; omega
theorem Chg.mono {F G : List Nat} {H K : AHeap} (a : Chg F H K) (h : ∀ i ∈ F, i ∈ G) : Chg G H K :=
  ⟨a.le, a.ok, fun i hi hn => a.get i hi fun hf => hn (h i hf), a.lo, fun k h1 h2 => a.hi k h1 fun i hi => h2 i (h i hi)⟩
theorem Chg.alloc (H : AHeap) (x : AObj) : Chg [] H (H.alloc x) :=
  ⟨Nat.le_succ _, fun h => ⟨AHeap.wf_alloc h.1, Nat.le_succ_of_le h.2⟩, fun i hi _ => get_alloc_lt H x hi, Nat.le_refl _, fun _ h _ => h⟩
theorem Chg.set (H : AHeap) (i : Nat) (x : AObj) : Chg [i] H (H.set i x) := by
  refine ⟨Nat.le_refl _, fun h => ⟨AHeap.wf_set h.1, ?_⟩, fun j hj hn => get_set_ne H x (by simpa using hn), ?_, fun k h1 h2 => ?_⟩
  · rw [AHeap.set_low]; have := h.2; split <;> simp <;> omega
  · rw [AHeap.set_low]; split <;> omega
  · rw [AHeap.set_low]; have := h2 i (by simp); split <;> omega
def AHeap.lowered (K H : AHeap) : AHeap := { t := K.t, n := K.n, low := if K.low < H.low then K.low else H.low, dfs := H.dfs }
@[simp] theorem lowered_n (K H : AHeap) : (K.lowered H).n = K.n := rfl
@[simp] theorem lowered_get (K H : AHeap) (i : Nat) : (K.lowered H).get i = K.get i := by simp only [AHeap.get, AHeap.lowered]
@[simp] theorem lowered_rdAt (K H : AHeap) (i : Nat) (agg : Bool) (sz off : Nat) : (K.lowered H).rdAt i agg sz off = K.rdAt i agg sz off := rdAt_congr (lowered_get K H i) agg sz off
theorem lowered_wf {K : AHeap} (H : AHeap) (h : K.wf) : (K.lowered H).wf := fun i => by rw [lowered_get]; exact h i
theorem fin_drop' {H K : AHeap} {v : AV} (hk : H.n ≤ K.low) (hv : v.okB H.n = true) : fin H v K = H := by unfold fin; rw [if_pos ⟨hk, hv⟩]
theorem fin_keep {H K : AHeap} {v : AV} (h : K.low < H.n ∨ v.okB H.n = false) : fin H v K = K.lowered H := by
  unfold fin
  rw [if_neg]
  · rfl
  · rintro ⟨a, b⟩
    rcases h with h | h
    · omega
    · rw [h] at b; cases b
theorem Chg.lowered {F : List Nat} {H K : AHeap} (hok : H.ok) (a : Chg F H.top K) : Chg F H (K.lowered H) where
  le := a.le
  ok := fun h => ⟨lowered_wf H (a.ok ⟨top_wf h.1, Nat.le_refl _⟩).1, by have := a.le; simp only [AHeap.lowered]; have := h.2; simp only [top_n] at *; split <;> omega⟩
  get := fun i hi hn => by rw [lowered_get, a.get i hi hn, top_get]
  lo := by simp only [AHeap.lowered]; split <;> omega
  hi := fun k h1 h2 => by
    have := a.hi k (Nat.le_trans h1 hok.2) h2
    simp only [AHeap.lowered]; split <;> omega
theorem Chg.fin {F : List Nat} {H K : AHeap} (hok : H.ok) (v : AV) (a : Chg F H.top K) : Chg F H (Go.Wam.fin H v K) := by
  by_cases h : H.n ≤ K.low ∧ v.okB H.n = true
  · rw [fin_drop' h.1 h.2]; exact .refl F H
  · have : Go.Wam.fin H v K = K.lowered H := by unfold Go.Wam.fin; rw [if_neg h]; rfl
    rw [this]; exact a.lowered hok

theorem View.chg {F : List Nat} {H K : AHeap} {sz : Nat} {v : AV} {rows : List (List AV)} (hw : H.wf) (h : View H sz v rows) (c : Chg F H K) (hf : 0 < rows.length → sid v ∉ F) : View K sz v rows :=
  h.frame fun hr => c.get _ (h.lt hw hr) (hf hr)
theorem View.new {H K : AHeap} {sz : Nat} {v : AV} {rows : List (List AV)} (hw : H.wf) (h : View H sz v rows) (c : Chg [] H K) : View K sz v rows := h.chg hw c (fun _ => by simp)
theorem View.top {H : AHeap} {sz : Nat} {v : AV} {rows : List (List AV)} (h : View H sz v rows) : View H.top sz v rows := h.frame fun _ => top_get ..
theorem View.alloc {H : AHeap} {sz : Nat} {v : AV} {rows : List (List AV)} (hw : H.wf) (h : View H sz v rows) (x : AObj) : View (H.alloc x) sz v rows := h.new hw (.alloc H x)

/-! ## Lists that are one's own -/
structure Own (H : AHeap) (sz : Nat) (v : AV) (rows : List (List AV)) : Prop where
  each : ∀ r ∈ rows, r.length = sz
  is : ((v = .nils ∨ ∃ id, v = .slice id 0 0 0) ∧ rows = []) ∨ ∃ id kc rest, v = .oslice id 0 rows.length kc sz ∧ rows.length ≤ kc ∧ kc * sz ≤ rows.length * sz + rest.length ∧ H.get id = some (.row false sz (rows.flatten ++ rest))

/-- The row that a list is kept in. -/
def sown : AV → List Nat
  | .oslice i _ _ _ _ => [i]
  | _ => []
@[simp] theorem sown_nils : sown .nils = [] := rfl
@[simp] theorem sown_slice (i o n c : Nat) : sown (.slice i o n c) = [] := rfl
@[simp] theorem sown_oslice (i o n c z : Nat) : sown (.oslice i o n c z) = [i] := rfl

section
variable {H K : AHeap} {sz bytes : Nat} {v x : AV} {rows more : List (List AV)}
theorem Own.nil (H : AHeap) (sz : Nat) : Own H sz .nils [] := ⟨fun r hr => (by cases hr), .inl ⟨.inl rfl, rfl⟩⟩
theorem Own.lit (H : AHeap) (sz id : Nat) : Own H sz (.slice id 0 0 0) [] := ⟨fun r hr => (by cases hr), .inl ⟨.inr ⟨id, rfl⟩, rfl⟩⟩
theorem Own.view (h : Own H sz v rows) : View H sz v rows := by
  obtain ⟨he, ⟨rfl | ⟨id, rfl⟩, rfl⟩ | ⟨id, kc, rest, rfl, hk, _, hg⟩⟩ := h
  · exact ⟨rfl, rfl, he, fun h => by simp at h⟩
  · exact ⟨rfl, rfl, he, fun h => by simp at h⟩
  · refine ⟨by simp [AV.sl, hk], rfl, he, fun _ => ⟨false, sz, _, hg, ?_, ?_⟩⟩
    · rw [soff_oslice, List.length_append, flatten_len he]; omega
    · rw [soff_oslice, List.drop_zero, ← flatten_len he, List.take_left]
theorem Own.frame (h : Own H sz v rows) (hk : ∀ i ∈ sown v, K.get i = H.get i) : Own K sz v rows := by
  obtain ⟨he, ⟨rfl | ⟨id, rfl⟩, rfl⟩ | ⟨id, kc, rest, rfl, h1, h2, hg⟩⟩ := h
  · exact .nil K sz
  · exact .lit K sz id
  · exact ⟨he, .inr ⟨id, kc, rest, rfl, h1, h2, by rw [← hg]; exact hk id (by simp)⟩⟩
theorem Own.lt (h : Own H sz v rows) (hw : H.wf) : ∀ i ∈ sown v, i < H.n := by
  obtain ⟨he, ⟨rfl | ⟨id, rfl⟩, rfl⟩ | ⟨id, kc, rest, rfl, h1, h2, hg⟩⟩ := h
  · intro i hi; cases hi
  · intro i hi; cases hi
  · intro i hi; simp at hi; subst hi; exact AHeap.get_lt hg hw
theorem Own.chg {F : List Nat} (hw : H.wf) (h : Own H sz v rows) (c : Chg F H K) (hf : ∀ i ∈ sown v, i ∉ F) : Own K sz v rows :=
  h.frame fun i hi => c.get i (h.lt hw i hi) (hf i hi)
theorem Own.new (hw : H.wf) (h : Own H sz v rows) (c : Chg [] H K) : Own K sz v rows := h.chg hw c (fun _ _ => by simp)

theorem wr_append {α : Type} (a b c : List α) (n : Nat) (h : a.length = n) : wr n b (a ++ c) = a ++ b ++ c.drop b.length := by
  subst h
  unfold wr
  rw [List.take_left, List.drop_append]
  rw [List.drop_of_length_le (Nat.le_add_right _ _), List.nil_append, Nat.add_sub_cancel_left, List.append_assoc]

theorem Own.append (hok : H.ok) (h : Own H sz v rows) (hx : View H sz x more) (hm : 0 < more.length) (hz : 0 < sz) (hb : (rows.length + more.length) * bytes ≤ 2 ^ 47) :
    ∃ v' K, appendA H sz bytes v x = some (v', K) ∧ Own K sz v' (rows ++ more) ∧ Chg (sown v) H K ∧ (∀ i ∈ sown v', i ∈ sown v ∨ H.n ≤ i) ∧ K.low = (sown v).foldl min H.low := by
  have hmore := hx.each
  have heach : ∀ r ∈ rows ++ more, r.length = sz := fun r hr => by
    rcases List.mem_append.1 hr with hr | hr
    · exact h.each r hr
    · exact hmore r hr
  have hmf : more.flatten.length = more.length * sz := flatten_len hmore
  obtain ⟨he, ⟨rfl | ⟨id, rfl⟩, rfl⟩ | ⟨id, kc, rest, rfl, hk, hkr, hg⟩⟩ := h
  · simp only [appendA, appendX, hx.first, List.length_nil, Nat.zero_add] at hb ⊢
    rw [if_neg (by omega), if_pos hb]
    refine ⟨_, _, rfl, ⟨heach, .inr ⟨H.n, more.length, [], rfl, Nat.le_refl _, by simp, ?_⟩⟩, .alloc _ _, ?_, by simp⟩
    · simp
    · intro i hi; simp at hi; omega
  · simp only [appendA, appendX, hx.first, List.length_nil, Nat.zero_add] at hb ⊢
    rw [if_neg (by omega), if_neg (by omega), if_neg (by omega)]
    simp only [oldA, if_true, List.nil_append]
    refine ⟨_, _, rfl, ⟨heach, .inr ⟨H.n, more.length, [], rfl, Nat.le_refl _, by simp, ?_⟩⟩, .alloc _ _, ?_, by simp⟩
    · simp
    · intro i hi; simp at hi; omega
  · have h1 : rows.flatten.length = rows.length * sz := flatten_len he
    have hlt := AHeap.get_lt hg hok.1
    have h2 : 0 < more.length * sz := Nat.mul_pos hm hz
    simp only [appendA, appendX, hx.first, hg, ne_eq, not_true, if_false, Nat.zero_add, List.length_append, h1]
    rw [if_neg (by omega), if_neg (by omega)]
    have hlow : ∀ o, (H.set id o).low = min H.low id := fun o => by rw [AHeap.set_low]; split <;> omega
    by_cases hf : (rows.length + more.length) * sz ≤ rows.length * sz + rest.length
    · rw [if_pos hf]
      have hf' : more.length * sz ≤ rest.length := by rw [Nat.add_mul] at hf; omega
      refine ⟨_, _, rfl, ⟨heach, .inr ⟨id, max kc (rows.length + more.length), rest.drop (more.length * sz), by rw [List.length_append], by rw [List.length_append]; omega, ?_, ?_⟩⟩, ?_, ?_, ?_⟩
      · rw [List.length_append, List.length_drop, Nat.add_mul]
        rcases Nat.le_total kc (rows.length + more.length) with hh | hh
        · rw [Nat.max_eq_right hh, Nat.add_mul]; omega
        · rw [Nat.max_eq_left hh]; omega
      · rw [get_set_same _ _ hok.1 (by rw [hg]; rfl), wr_append _ _ _ _ h1, List.flatten_append, hmf]
      · exact Chg.set H id _
      · intro i hi; simp at hi; simp [hi]
      · simp [hlow]
    · rw [if_neg hf, if_pos ⟨by omega, fun h => h⟩]
      refine ⟨_, _, rfl, ⟨heach, .inr ⟨H.n, rows.length + more.length, [], by rw [List.length_append], by rw [List.length_append]; exact Nat.le_refl _, by simp [List.length_append], ?_⟩⟩, ?_, ?_, ?_⟩
      · rw [show H.n = (H.set id .dead).n from rfl, get_alloc_same, List.drop_zero, List.take_append_of_le_length (by omega), ← h1, List.take_length, List.flatten_append, List.append_nil]
      · have a := Chg.set H id .dead
        have b := Chg.alloc (H.set id .dead) (.row false sz (List.take (rows.length * sz) (List.drop 0 (rows.flatten ++ rest)) ++ more.flatten))
        exact ⟨Nat.le_trans a.le b.le, fun h => b.ok (a.ok h), fun i hi hn => by rw [b.get i hi (by simp), a.get i hi hn], Nat.le_trans b.lo a.lo, fun k h1 h2 => b.hi k (a.hi k h1 h2) (by simp)⟩
      · intro i hi; simp at hi; right; omega
      · simp [hlow]
end

/-- Append, whatever is added. -/
theorem Own.append' {H : AHeap} {sz bytes : Nat} {v x : AV} {rows more : List (List AV)} (hok : H.ok) (h : Own H sz v rows) (hx : View H sz x more) (hz : 0 < sz) (hb : (rows.length + more.length) * bytes ≤ 2 ^ 47) :
    ∃ v' K, appendA H sz bytes v x = some (v', K) ∧ Own K sz v' (rows ++ more) ∧ Chg (sown v) H K ∧ (∀ i ∈ sown v', i ∈ sown v ∨ H.n ≤ i) ∧ (sown v).foldl min H.low ≤ K.low ∧ v'.noL = true := by
  by_cases hm : 0 < more.length
  · obtain ⟨v', K, h1, h2, h3, h4, h5⟩ := h.append hok hx hm hz hb
    refine ⟨v', K, h1, h2, h3, h4, by rw [h5]; exact Nat.le_refl _, ?_⟩
    obtain ⟨_, ⟨rfl | ⟨id, rfl⟩, _⟩ | ⟨id, kc, rest, rfl, _⟩⟩ := h2 <;> rfl
  · have : more = [] := List.length_eq_zero_iff.1 (by omega)
    subst this
    refine ⟨v, H, ?_, by rw [List.append_nil]; exact h, .refl _ _, fun i hi => .inl hi, ?_, ?_⟩
    · have hf := hx.first
      obtain ⟨he, ⟨rfl | ⟨id, rfl⟩, rfl⟩ | ⟨id, kc, rest, rfl, hk, hkr, hg⟩⟩ := h <;> simp [appendA, appendX, hf]
    · generalize sown v = l
      have : ∀ (l : List Nat) (a : Nat), l.foldl min a ≤ a := by
        intro l
        induction l with
        | nil => intro a; exact Nat.le_refl _
        | cons b l ih => intro a; exact Nat.le_trans (ih _) (Nat.min_le_left _ _)
      exact this l _
    · obtain ⟨_, ⟨rfl | ⟨id, rfl⟩, _⟩ | ⟨id, kc, rest, rfl, _⟩⟩ := h <;> rfl

/-! ## Loops -/
section
variable {T : FuncId → Option FnDef}
def prS (ks ls : List Nat) (s : St) : St := { env := prune ks s.env, loc := prune ls s.loc, H := s.H }

/-- It comes to something, and P holds of that. -/
def OkR {α : Type} (r : Option α) (P : α → Prop) : Prop := ∃ x, r = some x ∧ P x
theorem okR_some {α : Type} (x : α) (P : α → Prop) : OkR (some x) P ↔ P x := ⟨fun ⟨_, h, hp⟩ => by cases h; exact hp, fun h => ⟨x, rfl, h⟩⟩
theorem OkR.mono {α : Type} {r : Option α} {P Q : α → Prop} (h : OkR r P) (hq : ∀ x, P x → Q x) : OkR r Q := by
  obtain ⟨x, e, hp⟩ := h; exact ⟨x, e, hq x hp⟩

/-- A loop, with what stands at its head: each round leaves it, or stands at the head again with less to go. -/
theorem loop_inv {ks ls : List Nat} {b : IC} (I : Nat → St → Prop) (Q : AExit → St → Prop)
    (step : ∀ n s, I n s → ∀ P : AExit × St → Prop, (∀ e l H m, m < n → I m ⟨prune ks e, prune ls l, H⟩ → P (.normal, ⟨e, l, H⟩)) → (∀ j s', Q (.exit j) s' → P (.exit j, s')) → (∀ s', Q .ret s' → P (.ret, s')) → OkR (den T b s) P) :
    ∀ n s, I n (prS ks ls s) → ∃ x s', den T (.loop (.keep ks ls b)) s = some (x, s') ∧ Q x s' := by
  intro n
  induction n using Nat.strongRecOn with
  | ind n ih =>
    intro s hs
    obtain ⟨⟨x, s'⟩, h1, h2⟩ := step n _ hs (fun r => match r with
      | (.normal, s') => ∃ m, m < n ∧ I m (prS ks ls s')
      | (x, s') => Q x s') (fun e l H m hm hi => ⟨m, hm, hi⟩) (fun j s' h => h) (fun s' h => h)
    rw [den_loop, den_keep]
    have e : den T b { env := prune ks s.env, loc := prune ls s.loc, H := s.H } = some (x, s') := h1
    rw [e, Option.bind_some]
    cases x with
    | normal => obtain ⟨m, hm, hi⟩ := h2; exact ih m hm s' hi
    | exit j => exact ⟨_, _, rfl, h2⟩
    | ret => exact ⟨_, _, rfl, h2⟩
end

/-! ## For reckoning -/
def guardB (g : Option AV) (want : Bool) (x y : Option St) : Option St :=
  match g with
  | some (.bool b) => if b = want then x else y
  | some _ => y
  | none => none
theorem guardB_bool (b want : Bool) (x y : Option St) : guardB (some (.bool b)) want x y = if b = want then x else y := rfl
theorem st_guard (C : CallF) (dst : Option Nat) (op : IOp) (g : Nat) (want : Bool) (s : St) : stepOp C ⟨dst, op, some (g, want)⟩ s = guardB (look g s.env) want (stepOp C ⟨dst, op, none⟩ s) (some (s.put dst undefA)) := by
  have h : ∀ b, wantedA s (some (g, want)) = some b → stepOp C ⟨dst, op, some (g, want)⟩ s = if b = true then stepOp C ⟨dst, op, none⟩ s else some (s.put dst undefA) := by
    intro b hb
    cases b with
    | false => simp only [stepOp, hb]; rfl
    | true => simp only [stepOp, hb]; rfl
  cases hl : look g s.env with
  | none => simp only [stepOp, wantedA, hl, guardB]
  | some v =>
    cases v with
    | bool b => rw [h (b == want) (by simp only [wantedA, hl])]; simp only [guardB, beq_iff_eq]
    | _ => rw [h false (by simp only [wantedA, hl])]; rfl
def condB {α : Type} (c : Option AV) (x y : Option α) : Option α :=
  match c with
  | some (.bool b) => if b = true then x else y
  | _ => none
theorem condB_bool {α : Type} (b : Bool) (x y : Option α) : condB (some (.bool b)) x y = if b = true then x else y := rfl
theorem den_condB {T : FuncId → Option FnDef} (c : Opd) (a b : IC) (s : St) : den T (.cond c a b) s = condB (c.ev s.env) (den T a s) (den T b s) := by
  rw [den_cond]
  cases c.ev s.env with
  | none => rfl
  | some v =>
    cases v with
    | bool b => cases b <;> rfl
    | _ => rfl
def pickB (c a b : Option AV) (s : St) : Option (AV × St) :=
  match c with
  | some (.bool p) => (if p = true then a else b).map fun v => (v, s)
  | _ => none
theorem ev_pick (dst : Option Nat) (c a b : Opd) (s : St) : evOp dst s (.pick c a b) = pickB (c.ev s.env) (a.ev s.env) (b.ev s.env) s := by
  simp only [evOp]
  cases c.ev s.env with
  | none => rfl
  | some v =>
    cases v with
    | bool b => cases b <;> rfl
    | _ => rfl
theorem pickB_bool (p : Bool) (a b : Option AV) (s : St) : pickB (some (.bool p)) a b s = (if p = true then a else b).map fun v => (v, s) := rfl
theorem readOk_not (o : IOper) (s s' : St) (k : St → Option St) (h : isRead o.op = false) : goR o s k s' = k s' := by
  unfold goR readOk; rw [h]; rfl
end Go.Wam
