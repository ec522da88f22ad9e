/- The abstract machine: how what a call is handed reads as rows that are only read. No condition. -/
import Derived.Test.YtpdmmpajjdaebaaGreatAmM
import Derived.Test.YtpdmmpajjdaebaaGreatAmN
import Derived.ChangeArms
import Derived.ChangeOld
import Derived.DataReads
import Derived.OpenShut
import Derived.WideShapes
import GoSem.ClaimJoined
set_option linter.unusedVariables false
set_option linter.unusedSimpArgs false
namespace Go.Wam

/-- The form of a value's cells. -/
inductive Sh where
  | unit
  | pair (a b : Sh)
  | bool
  | int (k : IntKind)
  | str
  | slice (sz bytes : Nat) (e : Sh)

/-- A slice that is only read, and its elements' cells. -/
def IsSl (H : AHeap) (sz : Nat) (v : AV) (rows : List (List AV)) : Prop :=
  (v = .nils ∧ rows = []) ∨ (∃ b o s, v = .xslice b o s ∧ rows = []) ∨
  ∃ id cap, v = .slice id 0 rows.length cap ∧ rows.length ≤ cap ∧ H.get id = some (.row true sz rows.flatten) ∧ ∀ r ∈ rows, r.length = sz

def IsC (H : AHeap) : Sh → List AV → Prop
  | .unit, l => l = []
  | .pair a b, l => ∃ x y, l = x ++ y ∧ IsC H a x ∧ IsC H b y
  | .bool, l => ∃ b, l = [.bool b]
  | .int k, l => ∃ n, l = [.int k n] ∧ (Lit.int k n).wf = true
  | .str, l => ∃ s, l = [.str s] ∧ s.length ≤ reachBytes
  | .slice sz bytes e, l => ∃ v rows, l = [v] ∧ IsSl H sz v rows ∧ rows.length * bytes ≤ reachBytes ∧ rows.length ≤ maxLen ∧ ∀ r ∈ rows, IsC H e r

def shFields (P : Program) (g : TypeId → Option Sh) (tot : Nat) : Nat → List Field → Option Sh
  | off, [] => if off = tot then some .unit else none
  | off, f :: r => if f.offset = off then opt2 (g f.type) (shFields P g tot (off + P.cellsOf f.type) r) fun a b => some (.pair a b) else none

def shN : Nat → Sh → Sh
  | 0, _ => .unit
  | n + 1, e => .pair e (shN n e)

/-- A type's form. -/
def shT (P : Program) : Nat → TypeId → Option Sh
  | 0, _ => none
  | k + 1, t => match P.underlying t with
    | some .bool => some .bool
    | some (.int i) => some (.int i)
    | some .string => some .str
    | some (.slice e) => if P.cellsOf e = 0 then none else (shT P k e).map (.slice (P.cellsOf e) (P.bytesOf e))
    | some (.struct fs) => shFields P (shT P k) (P.cellsOf t) 0 fs.toList
    | some (.array n e) => if n * P.cellsOf e = P.cellsOf t then (shT P k e).map (shN n) else none
    | _ => none

/-- A heap of rows that are only read, against a world. -/
structure RoSim (m : Nat → Loc) (H : AHeap) (w : World) : Prop where
  wf : H.wf
  obj : ∀ id o, H.get id = some o → ∃ sz cells, o = .row true sz cells ∧ RoAt m ml0 w (m id) cells ∧ AV.okPL (good m H.n) cells ∧ cells.all AV.one = true

theorem RoSim.sim {P : Program} {m : Nat → Loc} {H : AHeap} {w : World} (S : RoSim m H w) : Sim P m ml0 [] H w where
  wf := S.wf
  obj := fun id o h => by obtain ⟨sz, cells, rfl, h1, _⟩ := S.obj id o h; exact h1
  ok := fun id o h => by obtain ⟨sz, cells, rfl, _, h2, h3⟩ := S.obj id o h; exact ⟨h2, h3⟩
  inj := fun i j ⟨o, h, ho⟩ _ _ => by obtain ⟨sz, cells, rfl, _⟩ := S.obj i o h; simp [AObj.owned] at ho
  sep := fun i j ⟨o, h, ho⟩ _ => by obtain ⟨sz, cells, rfl, _⟩ := S.obj i o h; simp [AObj.owned] at ho
  locs := fun t c h => by simp [look] at h
  locok := fun t c h => by simp [look] at h
  locinj := fun t u c d h => by simp [look] at h
  locsep := fun t c i h => by simp [look] at h

theorem RoSim.noOwned {m : Nat → Loc} {H : AHeap} {w : World} (S : RoSim m H w) (id : Nat) : ¬ Owned H id :=
  fun ⟨o, h, ho⟩ => by obtain ⟨sz, cells, rfl, _⟩ := S.obj id o h; simp [AObj.owned] at ho

structure Ext (m : Nat → Loc) (H : AHeap) (m' : Nat → Loc) (H' : AHeap) : Prop where
  le : H.n ≤ H'.n
  agree : ∀ id, id < H.n → m' id = m id
  get : ∀ id, id < H.n → H'.get id = H.get id
  low : H'.low = H.low

theorem Ext.refl (m : Nat → Loc) (H : AHeap) : Ext m H m H := ⟨Nat.le_refl _, fun _ _ => rfl, fun _ _ => rfl, rfl⟩
theorem Ext.trans {m m1 m2 : Nat → Loc} {H H1 H2 : AHeap} (a : Ext m H m1 H1) (b : Ext m1 H1 m2 H2) : Ext m H m2 H2 :=
  ⟨Nat.le_trans a.le b.le, fun id h => (b.agree id (Nat.lt_of_lt_of_le h a.le)).trans (a.agree id h), fun id h => (b.get id (Nat.lt_of_lt_of_le h a.le)).trans (a.get id h), b.low.trans a.low⟩

theorem IsSl.ext {m m' : Nat → Loc} {H H' : AHeap} (hw : H.wf) (E : Ext m H m' H') {sz : Nat} {v : AV} {rows : List (List AV)} (h : IsSl H sz v rows) : IsSl H' sz v rows := by
  rcases h with h | h | ⟨id, cap, h1, h2, h3, h4⟩
  · exact .inl h
  · exact .inr (.inl h)
  · exact .inr (.inr ⟨id, cap, h1, h2, by rw [E.get id (AHeap.get_lt h3 hw)]; exact h3, h4⟩)

theorem IsC.ext {m m' : Nat → Loc} {H H' : AHeap} (hw : H.wf) (E : Ext m H m' H') : ∀ {sh : Sh} {l : List AV}, IsC H sh l → IsC H' sh l := by
  intro sh
  induction sh with
  | unit | bool | int | str => intro l h; exact h
  | pair a b iha ihb => rintro l ⟨x, y, rfl, h1, h2⟩; exact ⟨x, y, rfl, iha h1, ihb h2⟩
  | slice sz bytes e ih => rintro l ⟨v, rows, rfl, h1, h2, h3, h4⟩; exact ⟨v, rows, rfl, h1.ext hw E, h2, h3, fun r hr => ih (h4 r hr)⟩

theorem Ext.okPL {m m' : Nat → Loc} {H H' : AHeap} (E : Ext m H m' H') {l : List AV} (h : AV.okPL (good m H.n) l) : AV.okPL (good m' H'.n) l :=
  okPL_mono (fun i k hi => ⟨Nat.lt_of_lt_of_le hi.1 E.le, by rw [E.agree i hi.1]; exact hi.2⟩) _ h
theorem Ext.conc {m m' : Nat → Loc} {H H' : AHeap} (E : Ext m H m' H') {l : List AV} (h : AV.okPL (good m H.n) l) : concL m' ml0 l = concL m ml0 l :=
  concL_congr ml0 ml0 (fun i k hi => E.agree i hi.1) _ h

theorem flatten_get {α : Type} {sz : Nat} (hz : 0 < sz) : ∀ {rows : List (List α)}, (∀ r ∈ rows, r.length = sz) → ∀ i, rows.flatten[i]? = (rows[i / sz]?).bind (·[i % sz]?) := by
  intro rows
  induction rows with
  | nil => intro _ i; simp
  | cons r rows ih =>
    intro h i
    have hr := h r (by simp)
    simp only [List.flatten_cons]
    by_cases hi : i < sz
    · rw [List.getElem?_append_left (by omega), Nat.div_eq_of_lt hi, Nat.mod_eq_of_lt hi]; simp
    · rw [List.getElem?_append_right (by omega), ih (fun r hr => h r (by simp [hr]))]
      have e1 : i / sz = (i - r.length) / sz + 1 := by
        rw [hr, Nat.div_eq_sub_div hz (by omega)]
      have e2 : (i - r.length) % sz = i % sz := by rw [hr]; exact (Nat.mod_eq_sub_mod (by omega)).symm
      rw [e1, e2]; simp

theorem flatten_len {α : Type} {sz : Nat} : ∀ {rows : List (List α)}, (∀ r ∈ rows, r.length = sz) → rows.flatten.length = rows.length * sz := by
  intro rows
  induction rows with
  | nil => intro _; simp
  | cons r rows ih =>
    intro h
    simp only [List.flatten_cons, List.length_append, List.length_cons, ih (fun r hr => h r (by simp [hr])), h r (by simp)]
    rw [Nat.add_mul]; omega

theorem concL_append (m : Nat → Loc) (ml : Nat → Nat) (a b : List AV) : concL m ml (a ++ b) = concL m ml a ++ concL m ml b := by simp [concL_eq]

theorem okPL_append {p : Nat → Nat → Prop} {a b : List AV} (ha : AV.okPL p a) (hb : AV.okPL p b) : AV.okPL p (a ++ b) :=
  (okPL_iff _ _).2 fun v hv => (List.mem_append.1 hv).elim ((okPL_iff _ _).1 ha v) ((okPL_iff _ _).1 hb v)

section
variable {H0 : Type} {enc : TypeId × Value → H0} {P : Program} {W : World}

/-- What stands for some cells. -/
def Opens (P : Program) (W : World) (sh : Sh) (cs : List Value) : Prop :=
  ∀ (m : Nat → Loc) (H : AHeap), RoSim m H W → ∃ m' H' l, RoSim m' H' W ∧ Ext m H m' H' ∧ concL m' ml0 l = cs ∧ IsC H' sh l ∧ AV.okPL (good m' H'.n) l ∧ l.all AV.one = true

theorem opens_leaf {sh : Sh} {cs : List Value} (l : List AV) (h1 : ∀ m, concL m ml0 l = cs) (h2 : ∀ H, IsC H sh l) (h3 : ∀ p, AV.okPL p l) (h4 : l.all AV.one = true) : Opens P W sh cs :=
  fun m H S => ⟨m, H, l, S, .refl .., h1 m, h2 H, h3 _, h4⟩

theorem opens_pair {a b : Sh} {x y : List Value} (ha : Opens P W a x) (hb : Opens P W b y) : Opens P W (.pair a b) (x ++ y) := by
  intro m H S
  obtain ⟨m1, H1, l1, S1, E1, c1, i1, o1, n1⟩ := ha m H S
  obtain ⟨m2, H2, l2, S2, E2, c2, i2, o2, n2⟩ := hb m1 H1 S1
  refine ⟨m2, H2, l1 ++ l2, S2, E1.trans E2, ?_, ⟨l1, l2, rfl, i1.ext S1.wf E2, i2⟩, okPL_append (E2.okPL o1) o2, by simp [n1, n2]⟩
  rw [concL_append, E2.conc o1, c1, c2]

theorem opens_fields {g : TypeId → Option Sh} {tot : Nat} {cs : List Value} (hcs : cs.length = tot) : ∀ (fl : List Field) (off : Nat) (sh : Sh), shFields P g tot off fl = some sh →
    (∀ f ∈ fl, ∀ s, g f.type = some s → Opens P W s ((cs.drop f.offset).take (P.cellsOf f.type))) → Opens P W sh (cs.drop off) := by
  intro fl
  induction fl with
  | nil =>
    intro off sh h _
    simp only [shFields] at h
    split at h
    · rename_i e
      cases h
      have : cs.drop off = [] := List.drop_eq_nil_of_le (by omega)
      rw [this]
      exact opens_leaf [] (fun _ => rfl) (fun _ => rfl) (fun _ => trivial) rfl
    · cases h
  | cons f fl ih =>
    intro off sh h hf
    simp only [shFields] at h
    split at h
    · rename_i e
      obtain ⟨a, b, h1, h2, h3⟩ := opt2_some h
      cases h3
      have k1 := hf f (by simp) a h1
      have k2 := ih _ b h2 (fun f' hf' => hf f' (by simp [hf']))
      have : cs.drop off = (cs.drop f.offset).take (P.cellsOf f.type) ++ cs.drop (off + P.cellsOf f.type) := by
        rw [e, ← List.drop_drop, List.take_append_drop]
      rw [this]
      exact opens_pair k1 k2
    · cases h

theorem opens_array {e : Sh} {sz : Nat} {cs : List Value} : ∀ (n off : Nat), cs.length = off + n * sz → (∀ i, i < n → Opens P W e ((cs.drop (off + i * sz)).take sz)) → Opens P W (shN n e) (cs.drop off) := by
  intro n
  induction n with
  | zero =>
    intro off h _
    have : cs.drop off = [] := List.drop_eq_nil_of_le (by omega)
    rw [this]
    exact opens_leaf [] (fun _ => rfl) (fun _ => rfl) (fun _ => trivial) rfl
  | succ n ih =>
    intro off h hf
    have k1 := hf 0 (by omega)
    simp only [Nat.zero_mul, Nat.add_zero] at k1
    have k2 := ih (off + sz) (by rw [h, Nat.add_mul]; omega) (fun i hi => by
      have := hf (i + 1) (by omega)
      rw [show off + (i + 1) * sz = off + sz + i * sz by rw [Nat.add_mul]; omega] at this
      exact this)
    have : cs.drop off = (cs.drop off).take sz ++ cs.drop (off + sz) := by
      rw [← List.drop_drop, List.take_append_drop]
    rw [this]
    exact opens_pair k1 k2

/-- The elements of a slice. -/
theorem opens_rows {e : Sh} : ∀ (css : List (List Value)), (∀ c ∈ css, Opens P W e c) → ∀ (m : Nat → Loc) (H : AHeap), RoSim m H W →
    ∃ (m' : Nat → Loc) (H' : AHeap) (rows : List (List AV)), RoSim m' H' W ∧ Ext m H m' H' ∧ rows.map (concL m' ml0) = css ∧ ∀ r ∈ rows, IsC H' e r ∧ AV.okPL (good m' H'.n) r ∧ r.all AV.one = true := by
  intro css
  induction css with
  | nil => intro _ m H S; exact ⟨m, H, [], S, .refl .., rfl, fun r hr => by cases hr⟩
  | cons c css ih =>
    intro h m H S
    obtain ⟨m1, H1, l1, S1, E1, c1, i1, o1, n1⟩ := h c (by simp) m H S
    obtain ⟨m2, H2, rows, S2, E2, c2, i2⟩ := ih (fun c hc => h c (by simp [hc])) m1 H1 S1
    refine ⟨m2, H2, l1 :: rows, S2, E1.trans E2, by simp [E2.conc o1, c1, c2], fun r hr => ?_⟩
    rcases List.mem_cons.1 hr with rfl | hr
    · exact ⟨i1.ext S1.wf E2, E2.okPL o1, n1⟩
    · exact i2 r hr

theorem opens_slice {e : Sh} {sz bytes : Nat} (hz : 0 < sz) {a : Addr} {len cap : Nat} (hl : len ≤ cap) (hb : len * bytes ≤ reachBytes) (hm : len ≤ maxLen) (css : List (List Value)) (hlen : css.length = len) (h : ∀ c ∈ css, Opens P W e c)
    (hc : ∀ i c, css[i]? = some c → W.cells? 0 (a.add (i * sz)) sz = some c) (h0 : 0 < cap → a.spot = none ∧ ∃ o, W.heap[a.block]? = some o) : Opens P W (.slice sz bytes e) [.slice (some a) len cap] := by
  intro m H S
  by_cases hcap : cap = 0
  · subst hcap
    obtain rfl : len = 0 := by omega
    obtain ⟨b, o, s⟩ := a
    exact ⟨m, H, [.xslice b o s], S, .refl .., by simp [concL, conc], ⟨_, [], rfl, .inr (.inl ⟨b, o, s, rfl, rfl⟩), by simp, Nat.zero_le _, fun r hr => by cases hr⟩, by simp [AV.okPL, AV.okP], rfl⟩
  · obtain ⟨hs, ho⟩ := h0 (by omega)
    obtain ⟨m1, H1, rows, S1, E1, c1, i1⟩ := opens_rows css h m H S
    have hrl : rows.length = len := by rw [← hlen, ← c1]; simp
    have hrow : ∀ i r, rows[i]? = some r → W.cells? 0 (a.add (i * sz)) sz = some (concL m1 ml0 r) := by
      intro i r hr
      refine hc i _ ?_
      rw [← c1, List.getElem?_map, hr]; rfl
    have hsz : ∀ r ∈ rows, r.length = sz := by
      intro r hr
      obtain ⟨i, hi⟩ := List.getElem?_of_mem hr
      have := (World.cells?_some (hrow i r hi)).2.1
      simpa [concL_eq] using this
    have okc : AV.okPL (good m1 H1.n) rows.flatten := (okPL_iff _ _).2 fun v hv => by
      obtain ⟨r, hr, hv⟩ := List.mem_flatten.1 hv
      exact (okPL_iff _ _).1 (i1 r hr).2.1 v hv
    have onec : rows.flatten.all AV.one = true := List.all_eq_true.2 fun v hv => by
      obtain ⟨r, hr, hv⟩ := List.mem_flatten.1 hv
      exact List.all_eq_true.1 (i1 r hr).2.2 v hv
    have hm' : ∀ id, id < H1.n → upd m1 H1.n ⟨a.block, a.off, cap * sz⟩ id = m1 id := fun id h => upd_ne _ _ (by omega)
    have E2 : Ext m1 H1 (upd m1 H1.n ⟨a.block, a.off, cap * sz⟩) (H1.alloc (.row true sz rows.flatten)) :=
      ⟨Nat.le_succ _, hm', fun id h => by rw [AHeap.get_alloc, if_neg (by omega)], rfl⟩
    have hget : (H1.alloc (.row true sz rows.flatten)).get H1.n = some (.row true sz rows.flatten) := by rw [AHeap.get_alloc, if_pos rfl]
    have hro : RoAt m1 ml0 W ⟨a.block, a.off, cap * sz⟩ rows.flatten := by
      refine ⟨?_, ho, fun i v hi => ?_⟩
      · rw [flatten_len hsz, hrl]; exact Nat.mul_le_mul_right _ hl
      · rw [flatten_get hz hsz] at hi
        cases hr : rows[i / sz]? with
        | none => simp [hr] at hi
        | some r =>
          simp [hr] at hi
          have h1 := (World.cells?_some (hrow _ r hr)).2.2 (i % sz) (Nat.mod_lt _ hz)
          have ha : (a.add (i / sz * sz)).add (i % sz) = Loc.at ⟨a.block, a.off, cap * sz⟩ i := by
            have hd : i / sz * sz + i % sz = i := by rw [Nat.mul_comm]; exact Nat.div_add_mod i sz
            obtain ⟨b, o, s⟩ := a
            simp only at hs
            subst hs
            simp only [Addr.add, Loc.at]
            split <;> split <;> simp_all <;> omega
          rw [← ha, h1, concL_eq, List.getElem?_map, hi]; rfl
    refine ⟨upd m1 H1.n ⟨a.block, a.off, cap * sz⟩, H1.alloc (.row true sz rows.flatten), [.slice H1.n 0 len cap], ⟨AHeap.wf_alloc S1.wf, fun id o h => ?_⟩, E1.trans E2, ?_, ⟨_, rows, rfl, .inr (.inr ⟨H1.n, cap, by rw [hrl], by omega, hget, hsz⟩), by rw [hrl]; exact hb, by rw [hrl]; exact hm, fun r hr => (i1 r hr).1.ext S1.wf E2⟩, ?_, rfl⟩
    · rw [AHeap.get_alloc] at h
      split at h
      · rename_i e; subst e; cases h
        refine ⟨sz, rows.flatten, rfl, ?_, E2.okPL okc, onec⟩
        rw [upd_same]
        exact ⟨hro.1, hro.2.1, fun i v hi => by rw [hro.2.2 i v hi]; exact congrArg some (conc_congr ml0 ml0 (fun i k hi => E2.agree i hi.1) v ((okPL_iff _ _).1 okc v (List.mem_of_getElem? hi))).symm⟩
      · rename_i e
        obtain ⟨sz', cells, rfl, r1, r2, r3⟩ := S1.obj id o h
        have hlt := AHeap.get_lt h S1.wf
        refine ⟨sz', cells, rfl, ?_, E2.okPL r2, r3⟩
        rw [E2.agree id hlt]
        exact ⟨r1.1, r1.2.1, fun i v hi => by rw [r1.2.2 i v hi]; exact congrArg some (conc_congr ml0 ml0 (fun i k hi => E2.agree i hi.1) v ((okPL_iff _ _).1 r2 v (List.mem_of_getElem? hi))).symm⟩
    · simp only [concL, conc, upd_same, Loc.at, Nat.add_zero]
      obtain ⟨b, o, s⟩ := a
      simp only at hs
      subst hs; rfl
    · simp only [AV.okPL, AV.okP, good, upd_same]
      exact ⟨⟨Nat.lt_succ_self _, Nat.zero_le _⟩, trivial⟩

theorem weights_all {e : TypeId} {l : List (DataW H0)} (h : ∀ n ∈ DataW.weightsAll P e l, n ≤ reachBytes) {d : DataW H0} (hd : d ∈ l) : ∀ n ∈ d.weights P e, n ≤ reachBytes := by
  induction l with
  | nil => cases hd
  | cons x l ih =>
    simp only [DataW.weightsAll, List.mem_append] at h
    rcases List.mem_cons.1 hd with rfl | hd
    · exact fun n hn => h n (.inl hn)
    · exact ih (fun n hn => h n (.inr hn)) hd

theorem weights_each {ts : List TypeId} {l : List (DataW H0)} (h : ∀ n ∈ DataW.weightsEach P ts l, n ≤ reachBytes) {i : Nat} {t : TypeId} {d : DataW H0} (ht : ts[i]? = some t) (hd : l[i]? = some d) : ∀ n ∈ d.weights P t, n ≤ reachBytes := by
  induction ts generalizing l i with
  | nil => simp at ht
  | cons u ts ih =>
    cases l with
    | nil => simp at hd
    | cons x l =>
      simp only [DataW.weightsEach, List.mem_append] at h
      cases i with
      | zero => simp at ht hd; subst ht; subst hd; exact fun n hn => h n (.inl hn)
      | succ i => exact ih (fun n hn => h n (.inr hn)) (by simpa using ht) (by simpa using hd)

theorem trod_array' {w : World} {base : Nat} {spare : Nat → Bool} {held : Bool} {fuel : Nat} {t : TypeId} {cs : List Value} {x : DataW H0 × List MemPlace} {n : Nat} {e : TypeId} (ht : P.underlying t = some (.array n e)) (h : DataW.trod enc P w base spare held fuel t cs = some x) :
    ∃ (xs : List (DataW H0 × List MemPlace)) (k : Nat), x.1 = .agg (xs.map (·.1)) ∧ cs.length = P.cellsOf t ∧ ∀ i, i < n → ∃ y, xs[i]? = some y ∧ DataW.trod enc P w base spare held k e ((cs.drop (i * P.cellsOf e)).take (P.cellsOf e)) = some y := by
  cases fuel with
  | zero => simp [DataW.trod] at h
  | succ k =>
    unfold DataW.trod at h
    rw [ht] at h
    simp only at h
    split at h
    · rename_i hl
      rw [Option.map_eq_some_iff] at h
      obtain ⟨xs, h1, rfl⟩ := h
      refine ⟨xs, k, rfl, hl, fun i hi => ?_⟩
      have hlen := mapM_some_length h1
      simp only [List.length_range] at hlen
      have := mapM_some_get h1 i i (by simp [hi])
      refine ⟨xs[i], List.getElem?_eq_getElem (by omega), ?_⟩
      rw [this, List.getElem?_eq_getElem (by omega)]
    · cases h

theorem opens_sh : ∀ (k : Nat) (t : TypeId) (sh : Sh), shT P k t = some sh → ∀ (fuel : Nat) (cs : List Value) (x : DataW H0 × List MemPlace), DataW.trod enc P W 0 (fun _ => true) true fuel t cs = some x →
    (∀ n ∈ x.1.weights P t, n ≤ reachBytes) → Opens P W sh cs := by
  intro k
  induction k with
  | zero => intro t sh h; cases h
  | succ k ih =>
    intro t sh h fuel cs x hx hwt
    simp only [shT] at h
    split at h
    · rename_i hu
      cases h
      obtain ⟨b, rfl, rfl⟩ := DataW.trod_bool hu hx
      exact opens_leaf [.bool b] (fun _ => rfl) (fun _ => ⟨b, rfl⟩) (fun _ => ⟨trivial, trivial⟩) rfl
    · rename_i i hu
      cases h
      obtain ⟨n, rfl, rfl, hn⟩ := DataW.trod_int hu hx
      exact opens_leaf [.int i n] (fun _ => rfl) (fun _ => ⟨n, rfl, hn⟩) (fun _ => ⟨trivial, trivial⟩) rfl
    · rename_i hu
      cases h
      obtain ⟨s, rfl, rfl, hn⟩ := DataW.trod_string hu hx
      exact opens_leaf [.str s.data.toList] (fun _ => rfl) (fun _ => ⟨_, rfl, hwt _ (by simp [DataW.weights])⟩) (fun _ => ⟨trivial, trivial⟩) rfl
    · rename_i e hu
      split at h
      · cases h
      · rename_i hz
        cases hs : shT P k e with
        | none => simp [hs] at h
        | some se =>
          simp [hs] at h
          subst h
          rcases DataW.trod_slice hu hx with ⟨rfl, rfl⟩ | ⟨a, len, cap, elems, rest, n, rfl, rfl, rfl, _, hl, hm, hel, hge, hrest, _⟩
          · exact opens_leaf [.nils] (fun _ => rfl) (fun _ => ⟨_, [], rfl, .inl ⟨rfl, rfl⟩, by simp, Nat.zero_le _, fun r hr => by cases hr⟩) (fun _ => ⟨trivial, trivial⟩) rfl
          · obtain ⟨hrl, hre⟩ := hrest rfl
            simp only [DataW.weights, hu] at hwt
            have hw1 := hwt _ (List.mem_cons_self ..)
            have hw2 : ∀ n ∈ DataW.weightsAll P e (elems.map (·.1)), n ≤ reachBytes := fun n hn => hwt n (by simp [hn])
            have heach : ∀ i, i < len → ∃ c y, W.cells? 0 (a.add (i * P.cellsOf e)) (P.cellsOf e) = some c ∧ elems[i]? = some y ∧ DataW.trod enc P W 0 (fun _ => true) true n e c = some y := by
              intro i hi
              have h1 := hge i hi
              rw [List.getElem?_eq_getElem (by omega), Option.bind_eq_some_iff] at h1
              obtain ⟨c, h2, h3⟩ := h1
              exact ⟨c, _, h2, List.getElem?_eq_getElem (by omega), h3⟩
            refine opens_slice (by omega) hl ?_ (by omega) ((List.range len).map fun i => (W.cells? 0 (a.add (i * P.cellsOf e)) (P.cellsOf e)).getD []) (by simp) ?_ ?_ ?_
            · refine Nat.le_trans ?_ hw1
              simp only [List.length_map]
              exact Nat.mul_le_mul_right _ (by omega)
            · intro c hc
              obtain ⟨i, hi, rfl⟩ := List.mem_map.1 hc
              obtain ⟨c, y, h2, h3, h4⟩ := heach i (List.mem_range.1 hi)
              rw [h2]
              exact ih e se hs n c y h4 (weights_all hw2 (List.mem_map.2 ⟨y, List.mem_of_getElem? h3, rfl⟩))
            · intro i c hc
              have hi : i < len := by have := (List.getElem?_eq_some_iff.1 hc).1; simpa using this
              obtain ⟨c', y, h2, _⟩ := heach i hi
              simp [hi, h2] at hc
              subst hc; exact h2
            · intro hcap
              have hfirst : ∃ c, W.cells? 0 (a.add (0 * P.cellsOf e)) (P.cellsOf e) = some c := by
                by_cases hlen : 0 < len
                · obtain ⟨c, y, h2, _⟩ := heach 0 hlen; exact ⟨c, h2⟩
                · have := hre 0 (by omega)
                  rw [show len + 0 = 0 by omega, List.getElem?_eq_getElem (by omega), Option.bind_eq_some_iff] at this
                  obtain ⟨c, h2, _⟩ := this
                  exact ⟨c, h2⟩
              obtain ⟨c, hc⟩ := hfirst
              obtain ⟨_, hcl, hcc⟩ := World.cells?_some hc
              have h1 := hcc 0 (by omega)
              have e0 : (a.add (0 * P.cellsOf e)).add 0 = a := by simp [Addr.add]
              rw [e0, List.getElem?_eq_getElem (by omega)] at h1
              unfold World.cell? at h1
              split at h1
              · rename_i o _ _ ho
                split at h1
                · cases h1
                · rename_i hs; exact ⟨by simpa using hs, _, ho⟩
              · cases h1
    · rename_i fs hu
      obtain ⟨xs, n, rfl, rfl, hl, hxl, hxs⟩ := DataW.trod_struct hu hx
      simp only [DataW.weights, hu] at hwt
      have := opens_fields hl fs.toList 0 sh h (W := W) (fun f hf s hs => by
        obtain ⟨i, hi⟩ := List.getElem?_of_mem hf
        have hi' : fs[i]? = some f := by simpa using hi
        have h1 := hxs i f hi'
        have hlt : i < xs.length := by rw [hxl]; exact (Array.getElem?_eq_some_iff.1 hi').1
        rw [List.getElem?_eq_getElem hlt] at h1
        exact ih f.type s hs n _ _ h1 (weights_each hwt (by rw [List.getElem?_map, hi]; rfl) (by rw [List.getElem?_map, List.getElem?_eq_getElem hlt]; rfl)))
      simpa using this
    · rename_i n e hu
      split at h
      · rename_i htot
        cases hs : shT P k e with
        | none => simp [hs] at h
        | some se =>
          simp [hs] at h
          subst h
          obtain ⟨xs, k', hx1, hl, hxs⟩ := trod_array' hu hx
          rw [hx1] at hwt
          simp only [DataW.weights, hu] at hwt
          have := opens_array (W := W) (P := P) (e := se) n 0 (by rw [hl, ← htot, Nat.zero_add] : cs.length = 0 + n * P.cellsOf e) (fun i hi => by
            obtain ⟨y, h1, h2⟩ := hxs i hi
            rw [Nat.zero_add]
            exact ih e se hs k' _ y h2 (weights_all hwt (List.mem_map.2 ⟨y, List.mem_of_getElem? h1, rfl⟩)))
          simpa using this
      · cases h
    · cases h

end
end Go.Wam
