/- The abstract machine: operations that only compute are what the model makes of them. No condition. -/
import Derived.Test.YtpdmmpajjdaebaaGreatAmB
import Derived.Test.YtpdmmpajjdaebaaGreatAmC
import Derived.Laws.StructEq
set_option linter.unusedVariables false
set_option linter.unusedSimpArgs false
namespace Go.Wam

/-- A value whose ids are good, or a pointer to a local variable that is. -/
def vOk (p : Nat → Nat → Prop) (L : Nat → Prop) (v : AV) : Prop := v.okP p ∨ ∃ t off, v = .lptr t off ∧ L t

/-- Any local variable. -/
def LT : Nat → Prop := fun _ => True

theorem vOk.of {p : Nat → Nat → Prop} {L : Nat → Prop} {v : AV} (h : v.okP p) : vOk p L v := .inl h
theorem vOk.noL {p : Nat → Nat → Prop} {L : Nat → Prop} {v : AV} (h : vOk p L v) (hl : v.noL = true) : v.okP p := by
  rcases h with h | ⟨t, o, rfl, _⟩
  · exact h
  · simp [AV.noL] at hl
theorem vOk.isL {p : Nat → Nat → Prop} {L : Nat → Prop} {t o : Nat} (h : vOk p L (.lptr t o)) : L t := by
  rcases h with h | ⟨t', o', h, hl⟩
  · simp [AV.okP] at h
  · cases h; exact hl
theorem vOk.mono {p q : Nat → Nat → Prop} {L L' : Nat → Prop} {v : AV} (h : vOk p L v) (hpq : ∀ i k, p i k → q i k) (hL : ∀ t, L t → L' t) : vOk q L' v :=
  h.imp (okP_mono hpq v) fun ⟨t, o, e, hl⟩ => ⟨t, o, e, hL t hl⟩

/-- An operand of the model against ours. -/
def OpR (ρ : Operand → Value) (env : List (Nat × AV)) (m : Nat → Loc) (ml : Nat → Nat) (p : Nat → Nat → Prop) (L : Nat → Prop) (x : Operand) : Prop :=
  ∀ y v, opd x = some y → y.ev env = some v → ρ x = conc m ml v ∧ vOk p L v

theorem leaf_conc {v : Value} {a : AV} (h : leafV v = some a) (m : Nat → Loc) (ml : Nat → Nat) (p : Nat → Nat → Prop) : conc m ml a = v ∧ a.okP p ∧ a.one = true ∧ a.noL = true := by
  unfold leafV at h
  split at h <;> first | (cases h; simp [conc, AV.okP, AV.one, AV.noL]; done) | cases h

theorem leafs_conc {vs : List Value} {as : List AV} (h : leafs vs = some as) (m : Nat → Loc) (ml : Nat → Nat) (p : Nat → Nat → Prop) : concL m ml as = vs ∧ AV.okPL p as ∧ as.all AV.one = true := by
  induction vs generalizing as with
  | nil => simp [leafs] at h; subst h; simp [concL, AV.okPL]
  | cons v vs ih =>
    simp only [leafs] at h
    cases h1 : leafV v with
    | none => simp [h1] at h
    | some a =>
      cases h2 : leafs vs with
      | none => simp [h1, h2] at h
      | some r =>
        simp only [h1, h2, Option.some.injEq] at h
        subst h
        obtain ⟨e1, e2, e3, _⟩ := leaf_conc h1 m ml p
        obtain ⟨f1, f2, f3⟩ := ih h2
        simp [concL, AV.okPL, e1, e2, e3, f1, f2, f3]

theorem toAV_conc {v : Value} {a : AV} (h : toAV v = some a) (m : Nat → Loc) (ml : Nat → Nat) (p : Nat → Nat → Prop) : conc m ml a = v ∧ a.okP p := by
  unfold toAV at h
  split at h
  · rename_i cs
    cases h1 : leafs cs.toList with
    | none => simp [h1] at h
    | some r =>
      simp [h1] at h
      subst h
      obtain ⟨f1, f2, f3⟩ := leafs_conc h1 m ml p
      simp [conc, AV.okP, f1, f2]
      simpa using f3
  · obtain ⟨e1, e2, _⟩ := leaf_conc h m ml p
    exact ⟨e1, e2⟩

/-- An operand that is no slot. -/
theorem OpR.of_act (a : Act) {env : List (Nat × AV)} {m : Nat → Loc} {ml : Nat → Nat} {p : Nat → Nat → Prop} {L : Nat → Prop} (x : Operand)
    (h : ∀ t v, x = .tmp t → look t env = some v → a.tmps.getD t undef = conc m ml v ∧ vOk p L v) : OpR a.eval env m ml p L x := by
  intro y v hy hv
  cases x with
  | tmp t => simp [opd] at hy; subst hy; exact h t v rfl hv
  | const c =>
    simp only [opd] at hy
    cases hc : toAV c with
    | none => simp [hc] at hy
    | some u =>
      simp [hc] at hy; subst hy
      simp [Opd.ev] at hv; subst hv
      obtain ⟨e1, e2⟩ := toAV_conc hc m ml p
      exact ⟨e1.symm, .of e2⟩
  | global g => simp [opd] at hy
  | func f =>
    simp [opd] at hy; subst hy
    simp [Opd.ev] at hv; subst hv
    exact ⟨by simp [Act.eval, conc, concL], .of (by simp [AV.okP, AV.okPL])⟩

theorem aggT_run {P : Program} {t : TypeId} {g : Bool} (h : aggT P t = some g) (w : World) : (isAgg t).run P w = .ok g w := by
  unfold aggT at h
  unfold isAgg
  split at h
  · rename_i fs hu; cases h; simp [run_underlying hu]
  · rename_i n e hu; cases h; simp [run_underlying hu]
  · rename_i d h1 h2 hu
    cases h
    simp only [Sem.run_bind, run_underlying hu, Result.andThen_ok]
    cases d <;> first | rfl | (exact absurd hu (h1 _)) | (exact absurd hu (h2 _ _))
  · cases h

theorem info_run {P : Program} {t : TypeId} {i : TypeInfo} (h : P.info? t = some i) (w : World) : (typeInfo t).run P w = .ok i w := by
  simp [typeInfo, h]

theorem szT_run {P : Program} {t : TypeId} {s : Nat} (h : szT P t = some s) (w : World) : (sizeOf t).run P w = .ok s w := by
  unfold szT at h
  cases hi : P.info? t with
  | none => simp [hi] at h
  | some i => simp [hi] at h; simp [sizeOf, info_run hi, h]

theorem pszT_szT {P : Program} {t : TypeId} {s : Nat} (h : pszT P t = some s) : szT P t = some s ∧ s ≠ 0 := by
  unfold pszT at h
  split at h
  · cases h
  · rename_i hz
    refine ⟨h, ?_⟩
    rintro rfl
    exact hz h

theorem zeroT_run {P : Program} {t : TypeId} {z : List AV} (h : zeroT P t = some z) (m : Nat → Loc) (ml : Nat → Nat) (p : Nat → Nat → Prop) :
    (∃ v : Value, (∀ w, (zeroValue t).run P w = .ok v w) ∧ v.cells.toList = concL m ml z) ∧ AV.okPL p z ∧ z.all AV.one = true := by
  unfold zeroT at h
  cases hi : P.info? t with
  | none => simp [hi] at h
  | some i =>
    cases hz : i.zero with
    | none => simp [hi, hz] at h
    | some v =>
      simp only [hi, hz, Option.bind_some] at h
      obtain ⟨f1, f2, f3⟩ := leafs_conc h m ml p
      exact ⟨⟨v, fun w => by simp [zeroValue, info_run hi, hz], f1.symm⟩, f2, f3⟩

theorem rd_part {P : Program} {t : TypeId} {g : Bool} {s off : Nat} {cs : List AV} {v : AV} (hg : aggT P t = some g) (hs : szT P t = some s)
    (h : rd g s off cs = some v) (m : Nat → Loc) (ml : Nat → Nat) (w : World) : (part t (concL m ml cs).toArray off).run P w = .ok (conc m ml v) w := by
  unfold rd at h
  unfold part
  simp only [Sem.run_bind, aggT_run hg, Result.andThen_ok]
  cases g
  · simp only [Bool.false_eq_true, if_false] at h ⊢
    have : (concL m ml cs).toArray[off]? = some (conc m ml v) := by simp [concL_eq, h]
    simp [this]
  · simp only [if_true] at h ⊢
    split at h
    · rename_i hl
      cases h
      simp only [Sem.run_bind, szT_run hs, Result.andThen_ok, Sem.run_pure, conc]
      congr 2
      simp only [concL_eq, List.extract_toArray, List.map_take, List.map_drop]
      congr 1
      simp [List.extract_eq_take_drop]
    · cases h

theorem rd_ok {g : Bool} {s off : Nat} {cs : List AV} {v : AV} (h : rd g s off cs = some v) {p : Nat → Nat → Prop} (hok : AV.okPL p cs) (h1 : cs.all AV.one = true) : v.okP p := by
  unfold rd at h
  split at h
  · split at h
    · cases h
      simp only [AV.okP]
      refine ⟨(okPL_iff p _).2 fun v hv => (okPL_iff p _).1 hok v (List.mem_of_mem_drop (List.mem_of_mem_take hv)), ?_⟩
      rw [List.all_eq_true] at *
      exact fun x hx => h1 x (List.mem_of_mem_drop (List.mem_of_mem_take hx))
    · cases h
  · exact (okPL_iff p _).1 hok v (List.mem_of_getElem? h)

theorem eqFields_cons {d : Nat} {xs ys : Array Value} {f : Field} {fs : List Field} (hn : f.name ≠ "_") :
    Op.eqFields d xs ys (f :: fs) = (do
      let a ← part f.type xs f.offset
      let b ← part f.type ys f.offset
      let r ← Op.equalIn d f.type a b
      if (!r) = true then pure false else Op.eqFields d xs ys fs) := by
  simp only [Op.eqFields]
  rw [if_pos hn]

theorem bytes_eq (a b : List UInt8) : ((⟨a.toArray⟩ : ByteArray).toList == (⟨b.toArray⟩ : ByteArray).toList) = (a == b) := by
  rw [ByteArray.toList_eq, ByteArray.toList_eq]

theorem toList_mk (a : List UInt8) : (⟨a.toArray⟩ : ByteArray).toList = a := by
  rw [ByteArray.toList_eq]

section
variable {P : Program} (w : World) (d : Nat) {t e k : TypeId} {ps rs : Array TypeId} {vr : Bool}
theorem eqR_bool (a b : Bool) (h : P.underlying t = some .bool) : (Op.equalIn (d + 1) t (.bool a) (.bool b)).run P w = .ok (a == b) w := by simp [Op.equalIn, run_underlying h]
theorem eqR_str (a b : List UInt8) (h : P.underlying t = some .string) : (Op.equalIn (d + 1) t (.string ⟨a.toArray⟩) (.string ⟨b.toArray⟩)).run P w = .ok (a == b) w := by
  rw [run_equalIn_string w d t _ _ h, bytes_eq]
theorem eqR_ptrL (b : Option Addr) (h : P.underlying t = some (.pointer e)) : (Op.equalIn (d + 1) t (.pointer none) (.pointer b)).run P w = .ok b.isNone w := by simp [Op.equalIn, run_underlying h]
theorem eqR_ptrR (b : Addr) (h : P.underlying t = some (.pointer e)) : (Op.equalIn (d + 1) t (.pointer (some b)) (.pointer none)).run P w = .ok false w := by simp [Op.equalIn, run_underlying h]
theorem eqR_slL (b : Option Addr) (n c n' c' : Nat) (h : P.underlying t = some (.slice e)) : (Op.equalIn (d + 1) t (.slice none n' c') (.slice b n c)).run P w = .ok b.isNone w := by simp [Op.equalIn, run_underlying h]
theorem eqR_slR (b : Addr) (n c n' c' : Nat) (h : P.underlying t = some (.slice e)) : (Op.equalIn (d + 1) t (.slice (some b) n c) (.slice none n' c')).run P w = .ok false w := by simp [Op.equalIn, run_underlying h]
theorem eqR_mapL (b : Option Nat) (h : P.underlying t = some (.map k e)) : (Op.equalIn (d + 1) t (.map none) (.map b)).run P w = .ok b.isNone w := by simp [Op.equalIn, run_underlying h]
theorem eqR_mapR (b : Nat) (h : P.underlying t = some (.map k e)) : (Op.equalIn (d + 1) t (.map (some b)) (.map none)).run P w = .ok false w := by simp [Op.equalIn, run_underlying h]
theorem eqR_fn0 (h : P.underlying t = some (.func ps rs vr)) : (Op.equalIn (d + 1) t .nilFunc .nilFunc).run P w = .ok true w := by simp [Op.equalIn, run_underlying h]
theorem eqR_fnL (f : Fn) (a b : Array Value) (h : P.underlying t = some (.func ps rs vr)) : (Op.equalIn (d + 1) t .nilFunc (.func f a b)).run P w = .ok false w := by simp [Op.equalIn, run_underlying h]
theorem eqR_fnR (f : Fn) (a b : Array Value) (h : P.underlying t = some (.func ps rs vr)) : (Op.equalIn (d + 1) t (.func f a b) .nilFunc).run P w = .ok false w := by simp [Op.equalIn, run_underlying h]
end

theorem aeq_all {P : Program} (n : Nat) : ∀ (t : TypeId) (e : EqT) (x y : AV) (b : Bool) (d : Nat), eqTs P n t = some e → aeq e x y = some b → n ≤ d →
    ∀ (m : Nat → Loc) (ml : Nat → Nat) (w : World), (Op.equalIn d t (conc m ml x) (conc m ml y)).run P w = .ok b w := by
  induction n with
  | zero => intro t e x y b d he; simp [eqTs] at he
  | succ n ih =>
    intro t e x y b d he h hd m ml w
    obtain ⟨d, rfl⟩ : ∃ k, d = k + 1 := ⟨d - 1, by omega⟩
    have goS : ∀ (fs : List Field) (es : List (Nat × Bool × Nat × EqT)) (xs ys : List AV) (b : Bool), eqFs P (eqTs P n) fs = some es → aeqF es xs ys = some b →
        (Op.eqFields d (concL m ml xs).toArray (concL m ml ys).toArray fs).run P w = .ok b w := by
      intro fs
      induction fs with
      | nil => intro es xs ys b he h; simp [eqFs] at he; subst he; simp [aeqF] at h; subst h; simp [Op.eqFields]
      | cons f fs ihf =>
        intro es xs ys b he h
        simp only [eqFs] at he
        cases hr : eqFs P (eqTs P n) fs with
        | none => simp [hr] at he
        | some r =>
          simp only [hr] at he
          split at he
          · rename_i hn
            cases he
            simp only [Op.eqFields, hn, ne_eq, not_true_eq_false, if_false]
            exact ihf _ _ _ _ hr h
          · rename_i hn
            rw [eqFields_cons hn]
            split at he
            · rename_i g s e h1 h2 h3
              cases he
              simp only [aeqF] at h
              split at h
              · rename_i x y hx hy
                simp only [Sem.run_bind, rd_part h1 h2 hx, rd_part h1 h2 hy, Result.andThen_ok]
                split at h
                · rename_i hb
                  rw [ih _ _ _ _ _ d h3 hb (by omega)]
                  simp only [Result.andThen_ok, Bool.not_true, Bool.false_eq_true, if_false]
                  exact ihf _ _ _ _ hr h
                · rename_i hb
                  cases h
                  rw [ih _ _ _ _ _ d h3 hb (by omega)]
                  simp
                · cases h
              · cases h
            · cases he
    simp only [eqTs] at he
    split at he
    case h_8 fs hu =>
      split at he
      · cases he
      · rename_i hst
        cases hg : eqFs P (eqTs P n) fs.toList with
        | none => simp [hg] at he
        | some es =>
          simp [hg] at he; subst he
          cases x <;> cases y <;> simp [aeq] at h
          simp only [conc]
          rw [run_equalIn_struct w d t _ _ (by simp [Program.fieldsOf, hu]) (by simpa using hst)]
          simp only [Program.fieldsOf, hu]
          exact goS _ _ _ _ _ hg h
    case h_9 => cases he
    all_goals
      rename_i hu
      cases he
      cases x <;> cases y <;> simp [aeq] at h
    all_goals try (subst h)
    case h_1 => simp only [conc]; exact eqR_bool w d _ _ hu
    case h_2 => obtain ⟨rfl, rfl⟩ := h; simp only [conc]; exact run_equalIn_int w d t _ _ _ _ hu
    case h_3 => simp only [conc]; exact eqR_str w d _ _ hu
    all_goals first
      | (simp only [conc]; exact eqR_ptrL w d _ hu)
      | (simp only [conc]; exact eqR_ptrR w d _ hu)
      | (simp only [conc]; exact eqR_mapL w d _ hu)
      | (simp only [conc]; exact eqR_mapR w d _ hu)
      | (simp only [conc]; exact eqR_fn0 w d hu)
      | (simp only [conc]; exact eqR_fnL w d _ _ _ hu)
      | (simp only [conc]; exact eqR_fnR w d _ _ _ hu)
      | (simp only [conc]; exact eqR_slL w d _ _ _ _ _ hu)
      | (simp only [conc]; exact eqR_slR w d _ _ _ _ _ hu)



/-! ## The operations -/
section
variable {P : Program} {ρ : Operand → Value} {s : St} {m : Nat → Loc} {ml : Nat → Nat} {p : Nat → Nat → Prop} {L : Nat → Prop}

theorem OpR.ev {x : Operand} {y : Opd} {v : AV} (h : OpR ρ s.env m ml p L x) (hy : opd x = some y) (hv : y.ev s.env = some v) : ρ x = conc m ml v ∧ vOk p L v := h y v hy hv

theorem opds_conc {xs : List Operand} {ys : List Opd} {vs : List AV} (h : opds xs = some ys) (hv : evs s.env ys = some vs) (hρ : ∀ x ∈ xs, OpR ρ s.env m ml p L x) :
    xs.map ρ = concL m ml vs ∧ ∀ v ∈ vs, vOk p L v := by
  induction xs generalizing ys vs with
  | nil => simp [opds] at h; subst h; simp [evs] at hv; subst hv; simp [concL]
  | cons x xs ih =>
    simp only [opds] at h
    split at h
    · rename_i a as h1 h2
      cases h
      simp only [evs] at hv
      split at hv
      · rename_i u us h3 h4
        cases hv
        obtain ⟨e1, e2⟩ := hρ x (by simp) _ _ h1 h3
        obtain ⟨f1, f2⟩ := ih h2 h4 (fun y hy => hρ y (by simp [hy]))
        refine ⟨by simp [concL, e1, f1], fun v hv => ?_⟩
        rcases List.mem_cons.1 hv with rfl | hv
        · exact e2
        · exact f2 v hv
      · cases hv
    · cases h

theorem opt2_some {α β γ : Type} {a : Option α} {b : Option β} {f : α → β → Option γ} {c : γ} (h : opt2 a b f = some c) : ∃ x y, a = some x ∧ b = some y ∧ f x y = some c := by
  unfold opt2 at h
  split at h
  · exact ⟨_, _, rfl, rfl, h⟩
  · cases h

theorem intOp_run {op : BinOp} {k : IntKind} {a b : Int} {v : AV} (h : intOp op k a b = some v) (t : TypeId) (w : World) :
    (binOp op t (.int k a) (.int k b)).run P w = .ok (conc m ml v) w ∧ v.okP p := by
  cases op <;> simp only [intOp] at h
  case quo | rem =>
    split at h
    · cases h
    · rename_i hb
      cases h
      simp [binOp, Op.intDiv, hb, conc, AV.okP]
  case shl | shr => cases h
  case and | or | xor | andNot =>
    simp only [bitsOp] at h
    cases h
    simp [binOp, Op.intBits, conc, AV.okP]
  all_goals
    cases h
    simp [binOp, Op.intArith, Op.intCmp, conc, AV.okP]

theorem bytesLess_eq (x y : List UInt8) : Op.bytesLess x y = bytesLess x y := by
  induction x generalizing y with
  | nil => cases y <;> simp [Op.bytesLess, bytesLess]
  | cons a x ih => cases y <;> simp [Op.bytesLess, bytesLess, ih]

theorem append_mk (a b : List UInt8) : (⟨a.toArray⟩ : ByteArray) ++ ⟨b.toArray⟩ = ⟨(a ++ b).toArray⟩ := by
  apply ByteArray.ext
  simp [ByteArray.data_append]

theorem strOp_run {op : BinOp} {a b : List UInt8} {v : AV} (h : strOp op a b = some v) (t : TypeId) (w : World) :
    (binOp op t (.string ⟨a.toArray⟩) (.string ⟨b.toArray⟩)).run P w = .ok (conc m ml v) w ∧ v.okP p := by
  cases op <;> simp only [strOp] at h
  case add =>
    split at h
    · rename_i hl
      cases h
      have : ¬ (((⟨a.toArray⟩ : ByteArray).size + (⟨b.toArray⟩ : ByteArray).size : Nat) : Int) > IntKind.i64.max := by
        simp only [IntKind.max_i64, ByteArray.size, List.size_toArray]; omega
      simp only [binOp, Op.stringOp, if_neg this, conc, append_mk]
      exact ⟨rfl, by simp [AV.okP]⟩
    · cases h
  all_goals first
    | cases h; done
    | (cases h
       simp only [binOp, Op.stringOp, toList_mk, bytesLess_eq, conc, AV.okP]
       exact ⟨rfl, trivial⟩)

theorem binOp_eql_of (t : TypeId) (x y : Value) (h : ∀ k a k' b, ¬ (x = .int k a ∧ y = .int k' b)) (hf : ∀ k a k' b, ¬ (x = .float k a ∧ y = .float k' b)) (hc : ∀ k a c k' b d, ¬ (x = .complex k a c ∧ y = .complex k' b d))
    (hs : ∀ a b, ¬ (x = .string a ∧ y = .string b)) : binOp .eql t x y = (do pure (.bool (← Op.equal t x y))) := by
  unfold binOp
  split <;> first | rfl | exact absurd ⟨rfl, rfl⟩ (h _ _ _ _) | exact absurd ⟨rfl, rfl⟩ (hf _ _ _ _) | exact absurd ⟨rfl, rfl⟩ (hc _ _ _ _ _ _) | exact absurd ⟨rfl, rfl⟩ (hs _ _) | (simp_all; done)
theorem binOp_neq_of (t : TypeId) (x y : Value) (h : ∀ k a k' b, ¬ (x = .int k a ∧ y = .int k' b)) (hf : ∀ k a k' b, ¬ (x = .float k a ∧ y = .float k' b)) (hc : ∀ k a c k' b d, ¬ (x = .complex k a c ∧ y = .complex k' b d))
    (hs : ∀ a b, ¬ (x = .string a ∧ y = .string b)) : binOp .neq t x y = (do pure (.bool (!(← Op.equal t x y)))) := by
  unfold binOp
  split <;> first | rfl | exact absurd ⟨rfl, rfl⟩ (h _ _ _ _) | exact absurd ⟨rfl, rfl⟩ (hf _ _ _ _) | exact absurd ⟨rfl, rfl⟩ (hc _ _ _ _ _ _) | exact absurd ⟨rfl, rfl⟩ (hs _ _) | (simp_all; done)


theorem eq_run {e : EqT} {a b : AV} {r : Bool} {t : TypeId} (he : eqTs P 20 t = some e) (hg : P.eqGuardType P.depth t = false) (h : aeq e a b = some r)
    (hi : ∀ k n k' n', ¬ (a = .int k n ∧ b = .int k' n')) (hs : ∀ x y, ¬ (a = .str x ∧ b = .str y)) (x y : Operand) (w : World) :
    (do eqGuard .eql t x y (conc m ml a) (conc m ml b); binOp .eql t (conc m ml a) (conc m ml b) : Sem Value).run P w = .ok (.bool r) w ∧
    (do eqGuard .neq t x y (conc m ml a) (conc m ml b); binOp .neq t (conc m ml a) (conc m ml b) : Sem Value).run P w = .ok (.bool !r) w := by
  have key := aeq_all (P := P) 20 t e a b r 10000 he h (by omega) m ml w
  have g : ∀ op, (eqGuard op t x y (conc m ml a) (conc m ml b)).run P w = .ok () w := by
    intro op
    unfold aeq at h
    split at h
    all_goals first
      | (cases h; done)
      | (simp only [conc, eqGuard_at_bool, eqGuard_at_int, eqGuard_at_string, eqGuard_at_pointer, eqGuard_at_slice, eqGuard_at_map, eqGuard_at_func, eqGuard_at_nilFunc, Sem.run_pure]; done)
      | (rename_i c; cases c <;> simp only [conc, eqGuard_at_slice, Sem.run_pure]; done)
      | (simp only [conc]; exact run_eqGuard_agg w op t x y _ _ hg)
  have n1 : (∀ k a' k' b', ¬ (conc m ml a = .int k a' ∧ conc m ml b = .int k' b')) ∧ (∀ k a' k' b', ¬ (conc m ml a = .float k a' ∧ conc m ml b = .float k' b')) ∧
      (∀ k a' c k' b' d, ¬ (conc m ml a = .complex k a' c ∧ conc m ml b = .complex k' b' d)) ∧ (∀ a' b', ¬ (conc m ml a = .string a' ∧ conc m ml b = .string b')) := by
    unfold aeq at h
    split at h
    case h_1 => exact absurd ⟨rfl, rfl⟩ (hi _ _ _ _)
    case h_3 => exact absurd ⟨rfl, rfl⟩ (hs _ _)
    all_goals first
      | (cases h; done)
      | (simp [conc]; done)
      | (rename_i c; cases c <;> simp [conc]; done)
  obtain ⟨n1, n2, n3, n4⟩ := n1
  constructor
  · simp only [Sem.run_bind, g, Result.andThen_ok]
    rw [binOp_eql_of _ _ _ n1 n2 n3 n4]
    simp only [Op.equal, Op.maxDepth, Sem.run_bind, key, Result.andThen_ok, Sem.run_pure]
  · simp only [Sem.run_bind, g, Result.andThen_ok]
    rw [binOp_neq_of _ _ _ n1 n2 n3 n4]
    simp only [Op.equal, Op.maxDepth, Sem.run_bind, key, Result.andThen_ok, Sem.run_pure]

theorem guard_other {op : BinOp} (h1 : op ≠ .eql) (h2 : op ≠ .neq) (t : TypeId) (x y : Operand) (a b : Value) : eqGuard op t x y a b = pure () := by
  cases op <;> first | rfl | exact absurd rfl h1 | exact absurd rfl h2

theorem bin_run {op : BinOp} {e : EqT} {a b v : AV} {t : TypeId} (he : op = .eql ∨ op = .neq → eqTs P 20 t = some e ∧ P.eqGuardType P.depth t = false) (h : binA op e a b = some v) (x y : Operand) (w : World) :
    (do eqGuard op t x y (conc m ml a) (conc m ml b); binOp op t (conc m ml a) (conc m ml b) : Sem Value).run P w = .ok (conc m ml v) w ∧ v.okP p := by
  unfold binA at h
  split at h
  · simp only [conc, eqGuard_at_int, pure_bind, binOp_shl, shiftOp] at h ⊢
    split at h
    · cases h
    · rename_i hb; cases h; simp [Op.shift, hb, conc, AV.okP]
  · simp only [conc, eqGuard_at_int, pure_bind, binOp_shr, shiftOp] at h ⊢
    split at h
    · cases h
    · rename_i hb; cases h; simp [Op.shift, hb, conc, AV.okP]
  · split at h
    · rename_i hk
      subst hk
      simp only [conc, eqGuard_at_int, pure_bind]
      exact intOp_run h t w
    · cases h
  · simp only [conc, eqGuard_at_string, pure_bind]
    exact strOp_run h t w
  · rename_i hni hns
    cases hr : aeq e a b with
    | none => simp [hr] at h
    | some r =>
      simp [hr] at h
      subst h
      obtain ⟨h1, h2⟩ := he (.inl rfl)
      exact ⟨by simpa only [conc] using (eq_run h1 h2 hr (fun k n k' n' ⟨e1, e2⟩ => hni _ _ _ _ e1 e2) (fun _ _ ⟨e1, e2⟩ => hns _ _ e1 e2) x y w).1, by simp [AV.okP]⟩
  · rename_i hni hns
    cases hr : aeq e a b with
    | none => simp [hr] at h
    | some r =>
      simp [hr] at h
      subst h
      obtain ⟨h1, h2⟩ := he (.inr rfl)
      exact ⟨by simpa only [conc] using (eq_run h1 h2 hr (fun k n k' n' ⟨e1, e2⟩ => hni _ _ _ _ e1 e2) (fun _ _ ⟨e1, e2⟩ => hns _ _ e1 e2) x y w).2, by simp [AV.okP]⟩
  · cases h

end
end Go.Wam
