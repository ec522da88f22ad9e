/- Maps: what the model does with a key. No condition. -/
import Derived.Test.YtpdmmpajjdaebaaGreatAmH
import Derived.MapKept
import Derived.ChangeKeysEq
import Derived.Laws.BytesString
set_option linter.unusedVariables false
set_option linter.unusedSimpArgs false
namespace Go.Wam
open Go Go.MapKept

theorem intsEq_iff : ∀ (a b : List Int), intsEq a b = true ↔ a = b
  | [], [] => by simp [intsEq]
  | [], _ :: _ => by simp [intsEq]
  | _ :: _, [] => by simp [intsEq]
  | a :: x, b :: y => by simp [intsEq, intsEq_iff x y]

theorem ints_spec {q : IntKind} : ∀ {cs : List AV} {x : List Int}, ints q cs = some x → cs = x.map (.int q)
  | [], x, h => by simp [ints] at h; subst h; rfl
  | c :: cs, x, h => by
    cases c <;> simp only [ints] at h <;> try (cases h; done)
    split at h
    · rename_i hq; subst hq
      rw [Option.map_eq_some_iff] at h
      obtain ⟨y, hy, rfl⟩ := h
      simp [ints_spec hy]
    · cases h

theorem keyEq_symm (t : KeyT) (a b : AV) : keyEq t a b = keyEq t b a := by
  unfold keyEq
  cases t <;> cases a <;> cases b <;> simp only [] <;> (try rfl)
  · rename_i k _ x _ y; simp [eq_comm]
  · rename_i x y; simp [eq_comm]
  · rename_i k n x y
    cases ints k x <;> cases ints k y <;> simp only [] <;> (try rfl)
    rename_i u v
    rw [Bool.eq_iff_iff, intsEq_iff, intsEq_iff]; exact eq_comm

section
variable {P : Program} {m : Nat → Loc} {ml : Nat → Nat}

theorem bytes_inj {a b : List UInt8} (h : (⟨a.toArray⟩ : ByteArray) = ⟨b.toArray⟩) : a = b := by
  have := congrArg (fun x : ByteArray => x.data.toList) h
  simpa using this

theorem conc_key {t : KeyT} {k k' : AV} (h : isK t k = true) (h' : isK t k' = true) : conc m ml k = conc m ml k' ↔ keyEq t k k' = true := by
  cases t
  · cases k <;> simp [isK] at h
    cases k' <;> simp [isK] at h'
    subst h h'; simp [conc, keyEq]
  · cases k <;> simp [isK] at h
    cases k' <;> simp [isK] at h'
    simp only [conc, keyEq, Value.string.injEq, decide_eq_true_eq]
    exact ⟨bytes_inj, fun e => by rw [e]⟩
  · rename_i q n
    cases k <;> simp [isK] at h
    cases k' <;> simp [isK] at h'
    rename_i x y
    obtain ⟨a, ha⟩ := Option.isSome_iff_exists.1 h.1
    obtain ⟨b, hb⟩ := Option.isSome_iff_exists.1 h'.1
    have inj : ∀ (a b : List Int), a.map (conc m ml ∘ AV.int q) = b.map (conc m ml ∘ AV.int q) → a = b := by
      intro a
      induction a with
      | nil => intro b h; cases b <;> simp_all
      | cons u a ih => intro b h; cases b with
        | nil => simp at h
        | cons v b => simp only [List.map_cons, List.cons.injEq, Function.comp, conc, Value.int.injEq, true_and] at h; rw [h.1, ih b h.2]
    have e1 : keyEq (.arr q n) (.agg x) (.agg y) = true ↔ a = b := by simp only [keyEq, ha, hb, intsEq_iff]
    rw [e1, ints_spec ha, ints_spec hb]
    simp only [conc, Value.agg.injEq, concL_eq, List.map_map]
    constructor
    · intro e
      have := congrArg Array.toList e
      exact inj _ _ (by simpa using this)
    · rintro rfl; rfl

/-- What the model does with a key of a kind. -/
structure KeyRun (P : Program) (m : Nat → Loc) (ml : Nat → Nat) (kt : TypeId) (t : KeyT) : Prop where
  ck : ∀ k, isK t k = true → ∀ em w, (Instr.checkKey em 10000 kt (conc m ml k)).run P w = .ok () w
  fk : ∀ k, isK t k = true → ∀ (ces : List MapEntry), (∀ c ∈ ces, ∃ k', isK t k' = true ∧ c.key = conc m ml k') → ∀ w, ∃ r, (Instr.findKey kt (conc m ml k) ces).run P w = .ok r w ∧
    ((r = none ∧ ∀ c ∈ ces, c.key ≠ conc m ml k) ∨ ∃ i c, r = some (i, c.val) ∧ ces[i]? = some c ∧ c.key = conc m ml k)
  ks : ∀ k, isK t k = true → ∀ w, (Instr.keyThatStays (conc m ml k) (conc m ml k)).run P w = .ok (conc m ml k) w

theorem findNow_run {d : TypeDesc} {K : Value} : ∀ (ces : List MapEntry) (n : Nat), (∀ c ∈ ces, ∃ b, Instr.sameNow d K c.key = some b ∧ (b = true ↔ c.key = K)) →
    ∃ r, Instr.findNow d K ces n = some r ∧ ((r = none ∧ ∀ c ∈ ces, c.key ≠ K) ∨ ∃ i c, r = some (n + i, c.val) ∧ ces[i]? = some c ∧ c.key = K)
  | [], n, _ => ⟨none, rfl, .inl ⟨rfl, by simp⟩⟩
  | c :: cs, n, h => by
    obtain ⟨b, hb1, hb2⟩ := h c (by simp)
    cases b with
    | true => exact ⟨some (n, c.val), by simp [Instr.findNow, hb1], .inr ⟨0, c, rfl, rfl, hb2.1 rfl⟩⟩
    | false =>
      obtain ⟨r, h1, h2⟩ := findNow_run cs (n + 1) fun x hx => h x (by simp [hx])
      refine ⟨r, by simp [Instr.findNow, hb1, h1], ?_⟩
      rcases h2 with ⟨rfl, h2⟩ | ⟨i, x, rfl, h3, h4⟩
      · refine .inl ⟨rfl, fun x hx => ?_⟩
        rcases List.mem_cons.1 hx with rfl | hx
        · exact fun e => by have := hb2.2 e; cases this
        · exact h2 x hx
      · exact .inr ⟨i + 1, x, by simp [Nat.add_assoc, Nat.add_comm 1 i], by simpa using h3, h4⟩

theorem findAsk_run {kt : TypeId} {K : Value} {w : World} : ∀ (ces : List MapEntry) (n : Nat), (∀ c ∈ ces, ∃ b, (Op.equal kt K c.key).run P w = .ok b w ∧ (b = true ↔ c.key = K)) →
    ∃ r, (Instr.findAsking kt K ces n).run P w = .ok r w ∧ ((r = none ∧ ∀ c ∈ ces, c.key ≠ K) ∨ ∃ i c, r = some (n + i, c.val) ∧ ces[i]? = some c ∧ c.key = K)
  | [], n, _ => ⟨none, by simp [Instr.findAsking], .inl ⟨rfl, by simp⟩⟩
  | c :: cs, n, h => by
    obtain ⟨b, hb1, hb2⟩ := h c (by simp)
    cases b with
    | true => exact ⟨some (n, c.val), by simp [Instr.findAsking, hb1, Result.andThen], .inr ⟨0, c, rfl, rfl, hb2.1 rfl⟩⟩
    | false =>
      obtain ⟨r, h1, h2⟩ := findAsk_run cs (n + 1) fun x hx => h x (by simp [hx])
      refine ⟨r, by simp [Instr.findAsking, hb1, h1, Result.andThen], ?_⟩
      rcases h2 with ⟨rfl, h2⟩ | ⟨i, x, rfl, h3, h4⟩
      · refine .inl ⟨rfl, fun x hx => ?_⟩
        rcases List.mem_cons.1 hx with rfl | hx
        · exact fun e => by have := hb2.2 e; cases this
        · exact h2 x hx
      · exact .inr ⟨i + 1, x, by simp [Nat.add_assoc, Nat.add_comm 1 i], by simpa using h3, h4⟩

theorem sameBits_ints : ∀ (l : List Value), (∀ v ∈ l, ∃ k n, v = .int k n) → ∀ n, (l.zip l).all (fun (x, y) => Instr.sameBits n x y) = true
  | [], _, n => rfl
  | v :: l, h, n => by
    obtain ⟨k, x, rfl⟩ := h v (by simp)
    have := sameBits_ints l (fun u hu => h u (by simp [hu])) n
    cases n <;> simp_all [Instr.sameBits]

theorem part_int {e : TypeId} {q : IntKind} (he : P.underlying e = some (.int q)) {cs : Array Value} {i : Nat} {v : Value} (h : cs[i]? = some v) (w : World) : (part e cs i).run P w = .ok v w := by
  unfold part
  simp [isAgg, run_underlying he, Result.andThen, h]

theorem keyRun {kt : TypeId} {t : KeyT} (h : keyT P kt = some t) : KeyRun P m ml kt t := by
  unfold keyT at h
  split at h
  · rename_i q hu
    cases h
    refine ⟨fun k hk em w => ?_, fun k hk ces hc w => ?_, fun k hk w => ?_⟩
    · cases k <;> simp [isK] at hk
      exact MapKept.run_checkKey hu (by simp [conc, IsKey, hk]) em 9999
    · cases k <;> simp [isK] at hk
      rename_i q' x; subst hk
      obtain ⟨r, h1, h2⟩ := findNow_run (d := .int q') (K := .int q' x) ces 0 fun c hcm => by
        obtain ⟨k', hk', e⟩ := hc c hcm
        cases k' <;> simp [isK] at hk'
        rename_i q2 y; subst hk'
        rw [e]
        exact ⟨decide (x = y), by simp [conc, Instr.sameNow]; rw [Bool.eq_iff_iff]; simp, by simp [conc]; exact eq_comm⟩
      exact ⟨r, MapKept.run_findKey hu (by simpa [conc] using h1), by simpa [conc] using h2⟩
    · cases k <;> simp [isK] at hk
      simp [conc, Instr.keyThatStays, Instr.sameBits]
  · rename_i hu
    cases h
    refine ⟨fun k hk em w => ?_, fun k hk ces hc w => ?_, fun k hk w => ?_⟩
    · cases k <;> simp [isK] at hk
      exact MapKept.run_checkKey hu (by simp [conc, IsKey]) em 9999
    · cases k <;> simp [isK] at hk
      rename_i x
      obtain ⟨r, h1, h2⟩ := findNow_run (d := .string) (K := .string ⟨x.toArray⟩) ces 0 fun c hcm => by
        obtain ⟨k', hk', e⟩ := hc c hcm
        cases k' <;> simp [isK] at hk'
        rename_i y
        rw [e]
        refine ⟨decide (x = y), ?_, by simp only [conc, Value.string.injEq, decide_eq_true_eq]; exact ⟨fun e => by rw [e], fun e => (bytes_inj e).symm⟩⟩
        simp only [conc, Instr.sameNow, Option.some.injEq]
        by_cases hxy : x = y
        · subst hxy; simp [bytes_beq]
        · have : ¬ ((⟨x.toArray⟩ : ByteArray) == ⟨y.toArray⟩) = true := by rw [bytes_beq]; exact fun e => hxy (bytes_inj e)
          simp [hxy, this]
      exact ⟨r, MapKept.run_findKey hu (by simpa [conc] using h1), by simpa [conc] using h2⟩
    · cases k <;> simp [isK] at hk
      rename_i x
      have : ((⟨x.toArray⟩ : ByteArray) == ⟨x.toArray⟩) = true := by rw [bytes_beq]
      simp only [conc, Instr.keyThatStays, Instr.sameBits, this, if_true, Sem.run_pure]
  · rename_i n e hu
    split at h
    · rename_i q he hs1
      cases h
      have hc1 : P.cellsOf e = 1 := by simp only [Program.cellsOf]; simp only [szT] at hs1; rw [hs1]; rfl
      have form : ∀ k, isK (.arr q n) k = true → ∃ x : List Int, x.length = n ∧ conc m ml k = .agg (x.map (Value.int q)).toArray := by
        intro k hk
        cases k <;> simp [isK] at hk
        obtain ⟨x, hx⟩ := Option.isSome_iff_exists.1 hk.1
        have e := ints_spec hx
        subst e
        refine ⟨x, by simpa using hk.2, ?_⟩
        simp only [conc, concL_eq, List.map_map]
        congr 2
      obtain ⟨i, hi⟩ := info_of_underlying he
      have hcell : ∀ (x : List Int) (j : Nat), j < x.length → ((x.map (Value.int q)).toArray)[j]? = some (.int q (x.getD j 0)) := by
        intro x j hj
        simp [hj, List.getD_eq_getElem?_getD]
      refine ⟨fun k hk em w => ?_, fun k hk ces hc w => ?_, fun k hk w => ?_⟩
      · obtain ⟨x, hx, ex⟩ := form k hk
        rw [ex]
        show (Instr.checkKey em (9998 + 1 + 1) kt _).run P w = _
        rw [Instr.checkKey]
        simp only [Sem.run_bind, run_underlying hu, Result.andThen_ok]
        simp only [Std.Legacy.Range.forIn_eq_forIn_range', Std.Legacy.Range.size, Nat.sub_zero, Nat.add_one_sub_one, Nat.div_one]
        have key : ∀ (is : List Nat), (∀ j ∈ is, j < x.length) → (forIn is PUnit.unit (fun j (_ : PUnit) => do
            Instr.checkKey em (9998 + 1) e (← part e (x.map (Value.int q)).toArray (j * (← sizeOf e)))
            pure (ForInStep.yield PUnit.unit)) : Sem PUnit).run P w = .ok PUnit.unit w := by
          intro is
          induction is with
          | nil => intro _; simp
          | cons j is ih =>
            intro hj
            have hp : (part e (x.map (Value.int q)).toArray (j * P.cellsOf e)).run P w = .ok (.int q (x.getD j 0)) w := by
              rw [hc1, Nat.mul_one]; exact part_int he (hcell x j (hj j (by simp))) w
            simp only [List.forIn_cons, Sem.run_bind, run_sizeOf w hi, Result.andThen_ok, hp, MapKept.run_checkKey he (show IsKey (.int q) (.int q (x.getD j 0)) by simp [IsKey]) em 9998, Sem.run_pure]
            exact ih fun j hj' => hj j (by simp [hj'])
        have := key (List.range' 0 n 1) (fun j hj => by rw [hx]; simpa using hj)
        refine (congrArg (fun r : Result PUnit => Result.andThen r (fun (_ : PUnit) w' => Sem.run P (pure ()) w')) this).trans ?_
        simp
      · obtain ⟨x, hx, ex⟩ := form k hk
        have items : ∀ (y : List Int), y.length = n → ∀ (is : List Nat), (∀ j ∈ is, j < n) → (Op.eqItems 9999 e (P.cellsOf e) (x.map (Value.int q)).toArray (y.map (Value.int q)).toArray is).run P w = .ok (is.all fun j => decide (x.getD j 0 = y.getD j 0)) w := by
          intro y hy is
          induction is with
          | nil => intro _; simp [Op.eqItems]
          | cons j is ih =>
            intro hj
            have hjn := hj j (by simp)
            have p1 : (part e (x.map (Value.int q)).toArray (j * P.cellsOf e)).run P w = .ok (.int q (x.getD j 0)) w := by
              rw [hc1, Nat.mul_one]; exact part_int he (hcell x j (by omega)) w
            have p2 : (part e (y.map (Value.int q)).toArray (j * P.cellsOf e)).run P w = .ok (.int q (y.getD j 0)) w := by
              rw [hc1, Nat.mul_one]; exact part_int he (hcell y j (by omega)) w
            have p3 := run_equalIn_int (P := P) w 9998 e q q (x.getD j 0) (y.getD j 0) he
            simp only [Op.eqItems, Sem.run_bind, p1, p2, p3, Result.andThen_ok, List.all_cons]
            by_cases hxy : x.getD j 0 = y.getD j 0
            · simp only [hxy, beq_self_eq_true, Bool.not_true, Bool.false_eq_true, if_false, decide_true, Bool.true_and]
              exact ih fun j' hj' => hj j' (by simp [hj'])
            · have h1 : (x.getD j 0 == y.getD j 0) = false := by simpa using hxy
              simp only [h1, Bool.not_false, if_true, Sem.run_pure, hxy, decide_false, Bool.false_and]
        have eq1 : ∀ (y : List Int), y.length = n → ∃ b, (Op.equal kt (.agg (x.map (Value.int q)).toArray) (.agg (y.map (Value.int q)).toArray)).run P w = .ok b w ∧ (b = true ↔ y = x) := by
          intro y hy
          refine ⟨(List.range n).all fun j => decide (x.getD j 0 = y.getD j 0), ?_, ?_⟩
          · show (Op.equalIn (9999 + 1) kt _ _).run P w = _
            rw [run_equalIn_array w 9999 _ _ hu hi]
            exact items y hy (List.range n) (fun j hj => by simpa using hj)
          · rw [List.all_eq_true]
            constructor
            · intro h
              apply List.ext_getElem (by omega)
              intro j h1 h2
              have := h j (by simp; omega)
              simp only [decide_eq_true_eq, List.getD_eq_getElem?_getD, List.getElem?_eq_getElem h1, List.getElem?_eq_getElem h2, Option.getD_some] at this
              exact this.symm
            · rintro rfl j _; simp
        cases ces with
        | nil => exact ⟨none, by simp [Instr.findKey, run_underlying hu, Instr.findNow, Result.andThen], .inl ⟨rfl, by simp⟩⟩
        | cons c cs =>
          obtain ⟨r, h1, h2⟩ := findAsk_run (P := P) (kt := kt) (K := .agg (x.map (Value.int q)).toArray) (w := w) (c :: cs) 0 fun c' hc' => by
            obtain ⟨k', hk', e'⟩ := hc c' hc'
            obtain ⟨y, hy, ey⟩ := form k' hk'
            obtain ⟨b, b1, b2⟩ := eq1 y hy
            rw [e', ey]
            refine ⟨b, b1, b2.trans ?_⟩
            constructor
            · rintro rfl; rfl
            · intro e
              simp only [Value.agg.injEq] at e
              have := congrArg Array.toList e
              have inj : ∀ (a b : List Int), a.map (Value.int q) = b.map (Value.int q) → a = b := by
                intro a
                induction a with
                | nil => intro b h; cases b <;> simp_all
                | cons u a ih => intro b h; cases b with
                  | nil => simp at h
                  | cons v b => simp only [List.map_cons, List.cons.injEq, Value.int.injEq, true_and] at h; rw [h.1, ih b h.2]
              exact inj _ _ (by simpa using this)
          refine ⟨r, ?_, by rw [ex]; simpa using h2⟩
          rw [ex]
          have hn : Instr.findNow (.array n e) (.agg (x.map (Value.int q)).toArray) (c :: cs) 0 = none := by simp [Instr.findNow, Instr.sameNow]
          simp only [Instr.findKey, Sem.run_bind, run_underlying hu, Result.andThen_ok, hn]
          exact h1
      · obtain ⟨x, hx, ex⟩ := form k hk
        rw [ex]
        have hsb : Instr.sameBits 10000 (Value.agg (x.map (Value.int q)).toArray) (Value.agg (x.map (Value.int q)).toArray) = true := by
          show (_ && _) = true
          rw [Bool.and_eq_true]
          refine ⟨by simp, ?_⟩
          have := sameBits_ints (x.map (Value.int q)) (fun v hv => by obtain ⟨y, _, rfl⟩ := List.mem_map.1 hv; exact ⟨_, _, rfl⟩) 9999
          simpa using this
        simp only [Instr.keyThatStays, hsb, if_true, Sem.run_pure]
    · cases h
  · cases h
end
end Go.Wam
