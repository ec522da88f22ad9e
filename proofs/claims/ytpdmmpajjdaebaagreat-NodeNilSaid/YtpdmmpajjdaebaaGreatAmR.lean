/- The abstract machine: a statement's row, from what the statement's function tells in our machine. No condition. -/
import Derived.Test.YtpdmmpajjdaebaaGreatAmQ
import Derived.Test.YtpdmmpajjdaebaaGreatAmMy
import Derived.Carry
import Derived.SizedLaws
import Derived.ChangeAt
import Derived.WideShapes4
set_option linter.unusedVariables false
set_option linter.unusedSimpArgs false
namespace Go.Wam
open Go.ChangeShapes Go.WideShapes Go.RowKit

/-- An argument, of its cells. -/
def Sh.arg : Sh → List AV → AV
  | .unit, l => .agg l
  | .pair .., l => .agg l
  | _, l => l.headD .nilp

def IsArgs (H : AHeap) : List Sh → List (List AV) → Prop
  | [], [] => True
  | s :: ss, l :: ls => IsC H s l ∧ IsArgs H ss ls
  | _, _ => False

def argsOf : List Sh → List (List AV) → List AV
  | s :: ss, l :: ls => s.arg l :: argsOf ss ls
  | _, _ => []

def shTs (P : Program) (k : Nat) : List TypeId → Option (List Sh)
  | [] => some []
  | t :: ts => match shT P k t, shTs P k ts with
    | some s, some ss => some (s :: ss)
    | _, _ => none

theorem IsArgs.ext {m m' : Nat → Loc} {H H' : AHeap} (hw : H.wf) (E : Ext m H m' H') : ∀ {ss : List Sh} {ls : List (List AV)}, IsArgs H ss ls → IsArgs H' ss ls
  | [], [], _ => trivial
  | [], _ :: _, h => h
  | _ :: _, [], h => h
  | _ :: _, _ :: _, h => ⟨h.1.ext hw E, IsArgs.ext hw E h.2⟩

theorem shFields_agg {P : Program} {g : TypeId → Option Sh} {tot : Nat} : ∀ {fl : List Field} {off : Nat} {sh : Sh}, shFields P g tot off fl = some sh → ∀ l, sh.arg l = .agg l := by
  intro fl off sh h l
  cases fl with
  | nil => simp only [shFields] at h; split at h <;> cases h; rfl
  | cons f fl =>
    simp only [shFields] at h
    split at h
    · obtain ⟨a, b, _, _, h3⟩ := opt2_some h; cases h3; rfl
    · cases h

section
variable {H0 : Type} {enc : TypeId × Value → H0} {P : Program} {W : World}

theorem arg_conc {k : Nat} {t : TypeId} {sh : Sh} (h : shT P k t = some sh) {b : Nat} {v : Value} (hv : Value.okWide P W .any b t v) {m : Nat → Loc} {l : List AV} (hl : concL m ml0 l = v.cells.toList) {H : AHeap} (hc : IsC H sh l)
    {p : Nat → Nat → Prop} (hok : AV.okPL p l) (h1 : l.all AV.one = true) : conc m ml0 (sh.arg l) = v ∧ (sh.arg l).okP p := by
  cases k with
  | zero => cases h
  | succ k =>
    have agg : (∀ l, sh.arg l = .agg l) → (∃ cs, v = .agg cs) → conc m ml0 (sh.arg l) = v ∧ (sh.arg l).okP p := by
      rintro ha ⟨cs, rfl⟩
      rw [ha]
      refine ⟨?_, hok, h1⟩
      simp only [conc, hl, Value.cells]
    have one : ∀ x, l = [x] → sh.arg l = x → v.cells = #[v] → conc m ml0 (sh.arg l) = v ∧ (sh.arg l).okP p := by
      rintro x rfl ha hvc
      rw [ha]
      refine ⟨?_, hok.1⟩
      rw [hvc] at hl
      simpa [concL] using hl
    simp only [shT] at h
    split at h
    · rename_i hu; cases h
      obtain ⟨c, rfl⟩ := okWide_bool hu hv
      obtain ⟨b, rfl⟩ := hc
      exact one _ rfl rfl rfl
    · rename_i i hu; cases h
      obtain ⟨c, rfl⟩ := okWide_int hu hv
      obtain ⟨b, rfl, _⟩ := hc
      exact one _ rfl rfl rfl
    · rename_i hu; cases h
      obtain ⟨c, rfl⟩ := okWide_string hu hv
      obtain ⟨b, rfl, _⟩ := hc
      exact one _ rfl rfl rfl
    · rename_i e hu
      split at h
      · cases h
      · cases hs : shT P k e with
        | none => simp [hs] at h
        | some se =>
          simp [hs] at h; subst h
          obtain ⟨a, len, cap, rfl⟩ := okWide_slice hu hv
          obtain ⟨b, rows, rfl, _⟩ := hc
          exact one _ rfl rfl rfl
    · rename_i fs hu
      refine agg (shFields_agg h) ?_
      unfold Value.okWide at hv
      rw [hu] at hv
      obtain ⟨cs, h, _⟩ := hv
      exact ⟨cs, h⟩
    · rename_i n e hu
      split at h
      · cases hs : shT P k e with
        | none => simp [hs] at h
        | some se =>
          simp [hs] at h; subst h
          refine agg (fun l => by cases n <;> rfl) ?_
          unfold Value.okWide at hv
          rw [hu] at hv
          obtain ⟨cs, h, _⟩ := hv
          exact ⟨cs, h⟩
      · cases h
    · cases h

theorem open_args {k : Nat} {b : Nat} : ∀ (ts : List TypeId) (vs : List Value) (ds : List (DataW H0)) (ps : List MemPlace) (ss : List Sh), DataW.TrodAll enc P W 0 (fun _ => true) true ts vs ds ps → shTs P k ts = some ss →
    (∀ (j : Nat) t v, ts[j]? = some t → vs[j]? = some v → Value.okWide P W .any b t v) → (∀ n ∈ DataW.weightsEach P ts ds, n ≤ reachBytes) → ∀ (m : Nat → Loc) (H : AHeap), RoSim m H W →
    ∃ (m' : Nat → Loc) (H' : AHeap) (ls : List (List AV)), RoSim m' H' W ∧ Ext m H m' H' ∧ concL m' ml0 (argsOf ss ls) = vs ∧ IsArgs H' ss ls ∧ AV.okPL (good m' H'.n) (argsOf ss ls) := by
  intro ts
  induction ts with
  | nil =>
    intro vs ds ps ss h hs _ _ m H S
    simp [shTs] at hs; subst hs
    obtain ⟨rfl, rfl, rfl⟩ := trodAll_nil h
    exact ⟨m, H, [], S, .refl .., rfl, trivial, trivial⟩
  | cons t ts ih =>
    intro vs ds ps ss h hs hok hwt m H S
    simp only [shTs] at hs
    split at hs
    · rename_i s ss' h1 h2
      cases hs
      obtain ⟨v, vs', d, ds', p, q, rfl, rfl, rfl, ⟨fuel, hd⟩, hr⟩ := trodAll_cons h
      have w1 : ∀ n ∈ d.weights P t, n ≤ reachBytes := fun n hn => hwt n (by simp [DataW.weightsEach, hn])
      obtain ⟨m1, H1, l, S1, E1, c1, i1, o1, n1⟩ := opens_sh k t s h1 fuel v.cells.toList _ hd w1 m H S
      obtain ⟨m2, H2, ls, S2, E2, c2, i2, o2⟩ := ih vs' ds' q ss' hr h2 (fun j t v hj hv => hok (j + 1) t v (by simpa using hj) (by simpa using hv)) (fun n hn => hwt n (by simp [DataW.weightsEach, hn])) m1 H1 S1
      have a1 := arg_conc h1 (hok 0 t v rfl rfl) (by rw [E2.conc o1, c1] : concL m2 ml0 l = v.cells.toList) (i1.ext S1.wf E2) (E2.okPL o1) n1
      exact ⟨m2, H2, l :: ls, S2, E1.trans E2, by simp [argsOf, concL, a1.1, c2], ⟨i1.ext S1.wf E2, i2⟩, ⟨a1.2, o2⟩⟩
    · cases hs

theorem below_of_grow {m m' : Nat → Loc} {H H' : AHeap} {W W' : World} (S : RoSim m H W) (G : Grow m ml0 [] H W m' ml0 [] H' W') : Below W.heap.size W W' :=
  ⟨G.os, G.tape, G.output, G.size, fun b hb => G.keep b hb (fun id hid => absurd hid (S.noOwned id)) (fun t c h => by simp [look] at h)⟩

theorem call_trip {T : FuncId → Option FnDef} (hm : P.follows .mixedOrders = true) (hT : TableOk P T) {f : FuncId} {F : FnIR} (hf : f < yieldF) (hF : T f = some (.ir F)) {args : List AV} {H H' : AHeap} {v : AV} (h : call T f args H = some (v, H')) : ATrip P f args H v H' := by
  obtain ⟨n, hn⟩ := call_iff.1 h
  cases n with
  | zero => simp [evF] at hn
  | succ n =>
    have hd : ¬ deferF ≤ f := fun h => absurd (Nat.lt_of_lt_of_le hf (Nat.le_trans (show yieldF ≤ deferF by decide) h)) (Nat.lt_irrefl _)
    rw [evF] at hn
    simp only [if_neg (Nat.ne_of_lt hf), if_neg hd, hF] at hn
    exact runF_sound hm (evF_sound hm hT n) (hT f _ hF) hn

def noH : AHeap := { t := .leaf, n := 0, low := 0 }

/-- What a statement's function has to tell in our machine. -/
def Law (T : FuncId → Option FnDef) (f : FuncId) (ss : List Sh) : Prop := ∀ (H : AHeap) (ls : List (List AV)), H.wf → H.low = 0 → IsArgs H ss ls → ∃ H', call T f (argsOf ss ls) H = some (.bool true, H')

/-- The same, by what the call comes to. -/
def LawP (P : Program) (f : FuncId) (ss : List Sh) : Prop := ∀ (H : AHeap) (ls : List (List AV)), H.wf → H.low = 0 → IsArgs H ss ls → ∃ H', ATrip P f (argsOf ss ls) H (.bool true) H'
theorem Law.trip {T : FuncId → Option FnDef} (hm : P.follows .mixedOrders = true) (hT : TableOk P T) {f : FuncId} {F : FnIR} (hf : f < yieldF) (hF : T f = some (.ir F)) {ss : List Sh} (law : Law T f ss) : LawP P f ss := fun H ls h1 h2 h3 => by
  obtain ⟨H', h⟩ := law H ls h1 h2 h3
  exact ⟨H', call_trip hm hT hf hF h⟩

theorem law_calls {f : FuncId} {ss : List Sh} (law : LawP P f ss) {k b : Nat} {ts : List TypeId} (hs : shTs P k ts = some ss)
    {args : Array Value} {ds : List (DataW H0)} {ps : List MemPlace} (hA : DataW.TrodAll enc P W 0 (fun _ => true) true ts args.toList ds ps) (hval : ∀ (j : Nat) t v, ts[j]? = some t → args[j]? = some v → Value.okWide P W .any b t v)
    (hwt : ∀ n ∈ DataW.weightsEach P ts ds, n ≤ reachBytes) : Calls P f args W fun e W' => e = .returned (.bool true) ∧ Below W.heap.size W W' := by
  obtain ⟨m, H, ls, S, E, c, i, o⟩ := open_args ts args.toList ds ps ss hA hs (fun j t v hj hv => hval j t v hj (by simpa using hv)) hwt (fun _ => ⟨0, 0, 0⟩) noH ⟨fun i => by simp [AHeap.get, noH, getP_nil_leaf, path], fun id o h => by simp [AHeap.get, noH, getP_nil_leaf] at h⟩
  obtain ⟨H', hH⟩ := law H ls S.wf E.low i
  obtain ⟨_, _, hc⟩ := hH
  have := hc m W S.sim (fun v hv => (okPL_iff _ _).1 o v hv)
  rw [c] at this
  refine (this.mono ?_)
  rintro e W' ⟨u, rfl, m', rfl, _, G, _⟩
  exact ⟨by simp [conc], below_of_grow S G⟩

theorem trodAll_below (hl : laidOutB P = true) {W' : World} (hb : Below W.heap.size W W') : ∀ {ts : List TypeId} {vs : List Value} {ds : List (DataW H0)} {ps : List MemPlace}, (ts.all fun t => P.readableRec t && decide (t < P.types.size)) = true →
    DataW.TrodAll enc P W 0 (fun _ => true) true ts vs ds ps → (∀ x ∈ ps, x.block < W.heap.size) → DataW.TrodAll enc P W' 0 (fun b => decide (b < W.heap.size)) true ts vs ds ps
  | [], [], [], _, _, h, _ => h
  | [], _ :: _, _, _, _, h, _ => h.elim
  | [], [], _ :: _, _, _, h, _ => h.elim
  | _ :: _, [], _, _, _, h, _ => h.elim
  | _ :: _, _ :: _, [], _, _, h, _ => h.elim
  | t :: ts, v :: vs, d :: ds, ps, hr, ⟨p, q, h, hs, e⟩, hlt => by
    subst e
    simp only [List.all_cons, Bool.and_eq_true, decide_eq_true_eq] at hr
    exact ⟨p, q, Below.trod hl hr.1.1 hr.1.2 h hb (fun x hx => hlt x (by simp [hx])), trodAll_below hl hb hr.2 hs (fun x hx => hlt x (by simp [hx])), rfl⟩

theorem law_contractP {C : Checked} {f : FuncId} {fn : Func} {ss : List Sh} (law : LawP C.prog f ss) {k : Nat} (hs : shTs C.prog k fn.params.toList = some ss)
    (laid : laidOutB C.prog = true) (hr : (fn.params.toList.all fun t => C.prog.readableRec t && decide (t < C.prog.types.size)) = true) {rt : TypeId} (hrt : fn.resultTypes = #[rt]) (hru : C.prog.underlying rt = some .bool) {s : ChangeSpec} (hvars : s.vars = [])
    (hvt : s.plain.varTypes C.prog = []) (hspec : ∀ ds : List (DataW H0), ds.length = fn.params.size → s.fn H0 ds = { results := [.lit (.bool true)], args := ds }) {conds : List PathCond} {a : Assume} :
    ∀ (W : World) (base : Nat) (args : Array Value) (ds gs : List (DataW H0)) (before : List MemPlace),
      (∀ (j : Nat) t v, fn.params[j]? = some t → args[j]? = some v → Value.okWide C.prog W .any base t v) →
      DataW.Whole enc C.prog fn.params.toList s.vars false W args.toList ds gs before →
      conds.all (PathCond.test C.prog ⟨fn.params.toList, ds, s.plain.varTypes C.prog, gs⟩) = true →
      (DataW.weightsEach C.prog (fn.params.toList ++ s.plain.varTypes C.prog) (ds ++ gs)).all (· ≤ reachBytes) = true →
      a.holds C.prog (lone (Frame.enter C.prog f args .normal) [] W) →
      Calls C.prog f args W fun e W' => ∃ v, e = .returned v ∧ s.post enc C.prog fn false true false false W args v W' := by
  intro W base args ds gs before hval hW _ hsz _
  have hW' := hW
  obtain ⟨p, q, hA, hV, rfl, hfz, hnd⟩ := hW
  rw [hvars] at hV
  obtain ⟨rfl, rfl⟩ := trodVars_none hV
  rw [hvt, List.append_nil, List.append_nil] at hsz
  refine (law_calls law hs hA (fun j t v hj hv => hval j t v (by simpa using hj) hv) (fun n hn => by simpa using List.all_eq_true.1 hsz n hn)).mono ?_
  rintro e W' ⟨rfl, bel⟩
  have hlen : ds.length = fn.params.size := by
    have : ∀ {ts : List TypeId} {vs : List Value} {ds : List (DataW H0)} {ps : List MemPlace}, DataW.TrodAll enc C.prog W 0 (fun _ => true) true ts vs ds ps → ds.length = ts.length := by
      intro ts
      induction ts with
      | nil => intro vs ds ps h; obtain ⟨_, rfl, _⟩ := trodAll_nil h; rfl
      | cons t ts ih => intro vs ds ps h; obtain ⟨v, vs', d, ds', p, q, rfl, rfl, rfl, _, hr⟩ := trodAll_cons h; simp [ih hr]
    simpa using this hA
  have hsp := hspec ds hlen
  refine ⟨_, rfl, ds, [], _, [], p, [], hW', ?_, ?_, ?_, bel.frame _, fun h => by cases h⟩
  · rw [List.append_nil, hsp, hrt]
    exact trodAll_mk1 (shut_bool hru _)
  · rw [List.append_nil, hsp]
    exact trodAll_below laid bel hr hA hA.lt
  · rw [List.append_nil, hsp, hvars]
    rfl

end
theorem args1 {H : AHeap} {a : Sh} {ls : List (List AV)} (h : IsArgs H [a] ls) : ∃ x, ls = [x] ∧ IsC H a x := by
  match ls, h with
  | [x], ⟨h1, _⟩ => exact ⟨x, rfl, h1⟩
theorem args2 {H : AHeap} {a b : Sh} {ls : List (List AV)} (h : IsArgs H [a, b] ls) : ∃ x y, ls = [x, y] ∧ IsC H a x ∧ IsC H b y := by
  match ls, h with
  | [x, y], ⟨h1, h2, _⟩ => exact ⟨x, y, rfl, h1, h2⟩
theorem args3 {H : AHeap} {a b c : Sh} {ls : List (List AV)} (h : IsArgs H [a, b, c] ls) : ∃ x y z, ls = [x, y, z] ∧ IsC H a x ∧ IsC H b y ∧ IsC H c z := by
  match ls, h with
  | [x, y, z], ⟨h1, h2, h3, _⟩ => exact ⟨x, y, z, rfl, h1, h2, h3⟩

/-! ## Tables -/
def FitsD (P : Program) (f : FuncId) : FnDef → Prop
  | .ir F => FnFits P f F
  | .prim g => ∀ args H v H', g args H = some (v, H') → ATrip P f args H v H'
  | .ext g => ∀ args H v H', g args H = some (v, H') → ETrip P f args H v H'
def AllFit (P : Program) : List (Nat × FnDef) → Prop
  | [] => True
  | e :: r => FitsD P e.1 e.2 ∧ AllFit P r
theorem tableOk {P : Program} {t : List (Nat × FnDef)} (h : AllFit P t) : TableOk P (fun f => look f t) := by
  intro f d hd
  induction t with
  | nil => cases hd
  | cons e t ih =>
    obtain ⟨k, x⟩ := e
    simp only [look] at hd
    split at hd
    · rename_i e; subst e; cases hd
      have := h.1
      cases d <;> exact this
    · exact ih h.2 hd

end Go.Wam
