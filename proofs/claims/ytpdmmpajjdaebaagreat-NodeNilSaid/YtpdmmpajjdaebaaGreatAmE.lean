/- The abstract machine: operations that only compute, all of them. No condition. -/
import Derived.Test.YtpdmmpajjdaebaaGreatAmD
set_option linter.unusedVariables false
set_option linter.unusedSimpArgs false
namespace Go.Wam

inductive All2 {α β : Type} (R : α → β → Prop) : List α → List β → Prop
  | nil : All2 R [] []
  | cons {a b as bs} (h : R a b) (t : All2 R as bs) : All2 R (a :: as) (b :: bs)

section
variable {P : Program} {ρ : Operand → Value} {s : St} {m : Nat → Loc} {ml : Nat → Nat} {p : Nat → Nat → Prop} {L : Nat → Prop}

theorem wr_length {α : Type} (off : Nat) (vs cells : List α) (h : off + vs.length ≤ cells.length) : (wr off vs cells).length = cells.length := by
  simp [wr]; omega

theorem wr_map {α β : Type} (f : α → β) (off : Nat) (vs cells : List α) : (wr off vs cells).map f = wr off (vs.map f) (cells.map f) := by
  simp [wr]

theorem concL_wr (off : Nat) (vs cells : List AV) : concL m ml (wr off vs cells) = wr off (concL m ml vs) (concL m ml cells) := by
  simp [concL_eq, wr_map]

theorem wr_get {α : Type} (off : Nat) (vs cells : List α) (h : off + vs.length ≤ cells.length) (i : Nat) :
    (wr off vs cells)[i]? = if i < off then cells[i]? else if i < off + vs.length then vs[i - off]? else cells[i]? := by
  simp only [wr]
  rw [List.getElem?_append]
  have h1 : (List.take off cells).length = off := by simp; omega
  rw [h1]
  by_cases ha : i < off
  · simp [ha]
  · simp only [ha, if_false]
    rw [List.getElem?_append]
    by_cases hb : i - off < vs.length
    · have : i < off + vs.length := by omega
      simp [hb, this]
    · have : ¬ i < off + vs.length := by omega
      simp only [hb, this, if_false, List.getElem?_drop]
      congr 1; omega

theorem wr_okPL {off : Nat} {vs cells : List AV} (hv : AV.okPL p vs) (hc : AV.okPL p cells) : AV.okPL p (wr off vs cells) := by
  rw [okPL_iff] at *
  intro v h
  simp only [wr, List.mem_append] at h
  rcases h with h | h | h
  · exact hc v (List.mem_of_mem_take h)
  · exact hv v h
  · exact hc v (List.mem_of_mem_drop h)

theorem wr_one {off : Nat} {vs cells : List AV} (hv : vs.all AV.one = true) (hc : cells.all AV.one = true) : (wr off vs cells).all AV.one = true := by
  rw [List.all_eq_true] at *
  intro v h
  simp only [wr, List.mem_append] at h
  rcases h with h | h | h
  · exact hc v (List.mem_of_mem_take h)
  · exact hv v h
  · exact hc v (List.mem_of_mem_drop h)

theorem conc_cells (v : AV) : (conc m ml v).cells.toList = concL m ml v.cells := by
  cases v <;> simp [conc, Value.cells, AV.cells, concL]

theorem cells_ok {v : AV} (h : v.okP p) (hl : v.noL = true) : AV.okPL p v.cells ∧ v.cells.all AV.one = true := by
  cases v <;> simp_all [AV.cells, AV.okPL, AV.okP, AV.one, AV.noL]

theorem foldl_set (vs : List Value) : ∀ (k off : Nat) (cs : Array Value), off + k + vs.length ≤ cs.size →
    ((vs.zipIdx k).foldl (fun (cs : Array Value) (x : Value × Nat) => cs.setIfInBounds (off + x.2) x.1) cs).toList = wr (off + k) vs cs.toList := by
  induction vs with
  | nil => intro k off cs h; simp [wr]
  | cons v vs ih =>
    intro k off cs h
    simp only [List.zipIdx_cons, List.foldl_cons]
    simp only [List.length_cons] at h
    rw [ih (k + 1) off _ (by simp; omega)]
    apply List.ext_getElem?
    intro i
    rw [wr_get _ _ _ (by simp; omega), wr_get _ _ _ (by simp; omega)]
    simp only [Array.toList_setIfInBounds, List.getElem?_set, List.length_cons]
    by_cases h1 : i < off + k
    · have h2 : i < off + (k + 1) := by omega
      have h3 : ¬ off + k = i := by omega
      simp [h1, h2, h3]
    · by_cases h2 : i = off + k
      · subst h2
        have : off + k < off + (k + 1) := by omega
        simp [this]; omega
      · have h3 : ¬ i < off + (k + 1) := by omega
        have h4 : ¬ off + k = i := by omega
        simp only [h1, h3, h4, if_false]
        have e : i - (off + k) = (i - (off + (k + 1))) + 1 := by omega
        rw [e, List.getElem?_cons_succ]
        have : (i < off + (k + 1) + vs.length) = (i < off + k + (vs.length + 1)) := by rw [eq_iff_iff]; omega
        simp [this]

theorem fill_conc {place : Nat → Option (Nat × Nat)} {env : List (Nat × AV)} : ∀ (cps : List (Nat × Operand)) (q : List (Nat × Nat × Opd)) (cells r : List AV),
    (∀ i x, (i, x) ∈ cps → OpR ρ env m ml p L x) →
    (All2 (fun (c : Nat × Operand) (a : Nat × Nat × Opd) => place c.1 = some (a.1, a.2.1) ∧ opd c.2 = some a.2.2) cps q) →
    fillA env q cells = some r → AV.okPL p cells → cells.all AV.one = true →
    Instr.fill place (concL m ml cells).toArray (cps.map fun c => (c.1, ρ c.2)) = some (concL m ml r).toArray ∧ AV.okPL p r ∧ r.all AV.one = true := by
  intro cps
  induction cps with
  | nil =>
    intro q cells r hρ hf h hok h1
    cases hf
    simp [fillA] at h; subst h
    simp [Instr.fill, hok, h1]
  | cons c cps ih =>
    intro q cells r hρ hf h hok h1
    cases hf with
    | cons ha hr =>
      rename_i a q'
      obtain ⟨i, x⟩ := c
      obtain ⟨off, sz, y⟩ := a
      obtain ⟨hp, hy⟩ := ha
      simp only at hp hy
      simp only [fillA] at h
      split at h
      · rename_i v hv
        split at h
        · rename_i hc
          simp only [Bool.and_eq_true, decide_eq_true_eq] at hc
          obtain ⟨⟨hl, hsz⟩, hle⟩ := hc
          obtain ⟨e1, e2⟩ := hρ i x (by simp) y v hy hv
          obtain ⟨o1, o2⟩ := cells_ok (e2.noL hl) hl
          have hcs : (conc m ml v).cells.size = sz := by rw [← Array.length_toList, conc_cells, concL_eq, List.length_map, hsz]
          simp only [List.map_cons, Instr.fill, hp, e1]
          rw [if_neg (by simp [hcs, concL_eq]; omega)]
          have hset : (conc m ml v).cells.zipIdx.foldl (fun (cs : Array Value) (x : Value × Nat) => cs.setIfInBounds (off + x.2) x.1) (concL m ml cells).toArray = (concL m ml (wr off v.cells cells)).toArray := by
            apply Array.ext'
            rw [← Array.foldl_toList, Array.toList_zipIdx, conc_cells]
            have := foldl_set (concL m ml v.cells) 0 off (concL m ml cells).toArray (by simp [concL_eq, hsz]; omega)
            simp only [Nat.add_zero] at this
            rw [this, concL_wr]
          have := ih q' (wr off v.cells cells) r (fun j z hz => hρ j z (by simp [hz])) hr h (wr_okPL o1 hok) (wr_one o2 h1)
          rw [← hset] at this
          exact this
        · cases h
      · cases h

theorem partsA_spec {sz : Nat} : ∀ (cps : List (Nat × Operand)) (q : List (Nat × Nat × Opd)), partsA sz cps = some q →
    All2 (fun (c : Nat × Operand) (a : Nat × Nat × Opd) => (fun i => some (i * sz, sz)) c.1 = some (a.1, a.2.1) ∧ opd c.2 = some a.2.2) cps q := by
  intro cps
  induction cps with
  | nil => intro q h; simp [partsA] at h; subst h; exact .nil
  | cons c cps ih =>
    intro q h
    obtain ⟨i, x⟩ := c
    simp only [partsA] at h
    split at h
    · rename_i y r h1 h2
      cases h
      exact .cons ⟨rfl, h1⟩ (ih _ h2)
    · cases h

theorem partsS_spec {ps : List (Nat × Nat)} : ∀ (cps : List (Nat × Operand)) (q : List (Nat × Nat × Opd)), partsS ps cps = some q →
    All2 (fun (c : Nat × Operand) (a : Nat × Nat × Opd) => (fun (i : Nat) => ps.toArray[i]?) c.1 = some (a.1, a.2.1) ∧ opd c.2 = some a.2.2) cps q := by
  intro cps
  induction cps with
  | nil => intro q h; simp [partsS] at h; subst h; exact .nil
  | cons c cps ih =>
    intro q h
    obtain ⟨i, x⟩ := c
    simp only [partsS] at h
    split at h
    · rename_i off s y r h1 h2 h3
      cases h
      exact .cons ⟨by simp [h1], h2⟩ (ih _ h3)
    · cases h

theorem places_run : ∀ (fs : List Field) (ps : List (Nat × Nat)), places P fs = some ps → ∀ w,
    (fs.mapM fun f => do pure (f.offset, ← sizeOf f.type) : Sem (List (Nat × Nat))).run P w = .ok ps w := by
  intro fs
  induction fs with
  | nil => intro ps h w; simp [places] at h; subst h; simp
  | cons f fs ih =>
    intro ps h w
    simp only [places] at h
    split at h
    · rename_i s r h1 h2
      cases h
      simp only [List.mapM_cons, Sem.run_bind, szT_run h1, Result.andThen_ok, Sem.run_pure, ih _ h2]
    · cases h

theorem build_run {t : TypeId} {cps : Array (Nat × Operand)} {z : List AV} {q : List (Nat × Nat × Opd)} {r : List AV} (hρ : ∀ x ∈ (Op.build t cps).operands, OpR ρ s.env m ml p L x)
    (hc : compOp P [] none (.build t cps) = some (.build z q)) (h : fillA s.env q z = some r) (w : World) :
    (Instr.build t (cps.map fun c => (c.1, ρ c.2))).run P w = .ok (.agg (concL m ml r).toArray) w ∧ AV.okPL p r ∧ r.all AV.one = true := by
  have hρ' : ∀ i x, (i, x) ∈ cps.toList → OpR ρ s.env m ml p L x := fun i x hx => hρ x (by simp [Op.operands]; exact ⟨i, by simpa using hx⟩)
  simp only [compOp] at hc
  split at hc
  · rename_i fs hu
    split at hc
    · rename_i ps hps
      obtain ⟨z', q', hz, hq, he⟩ := opt2_some hc
      cases he
      obtain ⟨⟨zv, hz1, hz2⟩, hz3, hz4⟩ := zeroT_run hz m ml p
      obtain ⟨f1, f2, f3⟩ := fill_conc (place := fun i => ps.toArray[i]?) cps.toList q z r hρ' (partsS_spec _ _ hq) h hz3 hz4
      refine ⟨?_, f2, f3⟩
      have hm : (fs.mapM fun f => do pure (f.offset, ← sizeOf f.type) : Sem (Array (Nat × Nat))).run P w = .ok ps.toArray w := by
        rw [Array.mapM_eq_mapM_toList]
        simp only [Sem.run_map, places_run _ _ hps, Result.andThen_ok]
      have hzc : zv.cells = (concL m ml z).toArray := by apply Array.ext'; simpa using hz2
      simp only [Instr.build, Sem.run_bind, hz1, Result.andThen_ok, run_underlying hu, hm, Array.toList_map, hzc]
      rw [f1]
      rfl
    · cases hc
  · rename_i n e hu
    split at hc
    · rename_i sz hs
      obtain ⟨z', q', hz, hq, he⟩ := opt2_some hc
      cases he
      obtain ⟨⟨zv, hz1, hz2⟩, hz3, hz4⟩ := zeroT_run hz m ml p
      obtain ⟨f1, f2, f3⟩ := fill_conc (place := fun i => some (i * sz, sz)) cps.toList q z r hρ' (partsA_spec _ _ hq) h hz3 hz4
      refine ⟨?_, f2, f3⟩
      have hzc : zv.cells = (concL m ml z).toArray := by apply Array.ext'; simpa using hz2
      simp only [Instr.build, Sem.run_bind, hz1, Result.andThen_ok, run_underlying hu, szT_run hs, Array.toList_map, hzc]
      rw [f1]
      rfl
    · cases hc
  · cases hc


theorem un_run {op : UnOp} {a v : AV} (h : unA op a = some v) (w : World) : (Op.unary op (conc m ml a)).run P w = .ok (conc m ml v) w ∧ v.okP p := by
  unfold unA at h
  split at h
  · simp only [intOp] at h; cases h; simp [Op.unary, conc, Op.intArith, AV.okP]
  · simp only [bitsOp] at h; cases h; simp [Op.unary, conc, Op.intBits, AV.okP]
  · cases h; simp [Op.unary, conc, AV.okP]
  · cases h

theorem bound_run {k : IntKind} {n : Int} {y : Nat} (c : BoundsCode) (h0 : 0 ≤ n) (h : n.toNat ≤ y) (w : World) : (Instr.sliceBound (.int k n) y c).run P w = .ok n.toNat w := by
  simp only [Instr.sliceBound, asIntOf, pure_bind]
  rw [if_pos ⟨h0, by omega⟩]
  rfl

/-- A bound that is there, or its default. -/
theorem optInt_run {env : List (Nat × AV)} {x : Operand} {y : Opd} {d n : Nat} (hy : opd x = some y) (h : optInt env d (some y) = some n) (hρ : OpR ρ env m ml p L x) :
    ∃ k, ∃ i : Int, ρ x = .int k i ∧ 0 ≤ i ∧ i.toNat = n := by
  simp only [optInt] at h
  split at h
  · rename_i k i hv
    split at h
    · rename_i h0
      cases h
      exact ⟨k, i, by simpa [conc] using (hρ _ _ hy hv).1, h0, rfl⟩
    · cases h
  · cases h

def optVal (ρ : Operand → Value) : Option Operand → Option Value := fun x => x.map ρ

/-- Bounds of a slice expression, as the model checks them. -/
theorem bounds_run {env : List (Nat × AV)} {lo hi mx : Option Operand} {l' h' m' : Option Opd} {l : Nat} {h mm : Option Nat} (hl : opdO lo = some l') (hh : opdO hi = some h') (hm : opdO mx = some m')
    (e1 : optInt env 0 l' = some l)
    (e2 : optIntO env h' = some h)
    (e3 : optIntO env m' = some mm)
    (r1 : ∀ x, lo = some x → OpR ρ env m ml p L x) (r2 : ∀ x, hi = some x → OpR ρ env m ml p L x) (r3 : ∀ x, mx = some x → OpR ρ env m ml p L x)
    (b : Bool) (len cap : Nat) (c : inB len cap l h mm = true) (w : World) :
    (Instr.sliceBounds b len cap (lo.map ρ) (hi.map ρ) (mx.map ρ)).run P w = .ok (l, h.getD len, mm.getD cap) w := by
  have hmx : (mx.map ρ = none ∧ mm = none) ∨ ∃ k, ∃ i : Int, mx.map ρ = some (.int k i) ∧ 0 ≤ i ∧ mm = some i.toNat := by
    cases mx with
    | none => simp [opdO] at hm; subst hm; simp [optIntO] at e3; exact .inl ⟨rfl, e3.symm⟩
    | some x =>
      cases hx : opd x with
      | none => simp [opdO, hx] at hm
      | some y =>
        simp [opdO, hx] at hm; subst hm
        cases ho : optInt env 0 (some y) with
        | none => simp [optIntO, ho] at e3
        | some n =>
          simp [optIntO, ho] at e3
          obtain ⟨k, i, a, b, c⟩ := optInt_run hx ho (r3 x rfl)
          exact .inr ⟨k, i, by simp [a], b, by rw [c]; exact e3.symm⟩
  have hhi : (hi.map ρ = none ∧ h = none) ∨ ∃ k, ∃ i : Int, hi.map ρ = some (.int k i) ∧ 0 ≤ i ∧ h = some i.toNat := by
    cases hi with
    | none => simp [opdO] at hh; subst hh; simp [optIntO] at e2; exact .inl ⟨rfl, e2.symm⟩
    | some x =>
      cases hx : opd x with
      | none => simp [opdO, hx] at hh
      | some y =>
        simp [opdO, hx] at hh; subst hh
        cases ho : optInt env 0 (some y) with
        | none => simp [optIntO, ho] at e2
        | some n =>
          simp [optIntO, ho] at e2
          obtain ⟨k, i, a, b, c⟩ := optInt_run hx ho (r2 x rfl)
          exact .inr ⟨k, i, by simp [a], b, by rw [c]; exact e2.symm⟩
  have hlo : (lo.map ρ = none ∧ l = 0) ∨ ∃ k, ∃ i : Int, lo.map ρ = some (.int k i) ∧ 0 ≤ i ∧ l = i.toNat := by
    cases lo with
    | none => simp [opdO] at hl; subst hl; simp [optInt] at e1; exact .inl ⟨rfl, e1.symm⟩
    | some x =>
      cases hx : opd x with
      | none => simp [opdO, hx] at hl
      | some y =>
        simp [opdO, hx] at hl; subst hl
        obtain ⟨k, i, a, b, c⟩ := optInt_run hx e1 (r1 x rfl)
        exact .inr ⟨k, i, by simp [a], b, c.symm⟩
  simp only [inB, Bool.and_eq_true, decide_eq_true_eq, Bool.or_eq_true, Bool.not_eq_true'] at c
  obtain ⟨c1, c2, c3, c4⟩ := c
  rcases hmx with ⟨a1, rfl⟩ | ⟨km, im, a1, a2, rfl⟩ <;> rcases hhi with ⟨b1, rfl⟩ | ⟨kh, ih, b1, b2, rfl⟩ <;> rcases hlo with ⟨d1, rfl⟩ | ⟨kl, il, d1, d2, rfl⟩
  all_goals (try (simp at c4; done))
  all_goals simp only [Option.getD_some, Option.getD_none] at *
  all_goals rw [a1, b1, d1]
  all_goals simp only [Instr.sliceBounds, Sem.run_bind, Sem.run_pure, Result.andThen_ok]
  all_goals first
    | rfl
    | rw [bound_run _ (by assumption) (by assumption)]
  all_goals simp only [Result.andThen_ok]
  all_goals first
    | rfl
    | rw [bound_run _ (by assumption) (by assumption)]
  all_goals simp only [Result.andThen_ok]
  all_goals first
    | rfl
    | rw [bound_run _ (by assumption) (by assumption)]
  all_goals simp only [Result.andThen_ok]


theorem Loc.at_add (l : Loc) (off n : Nat) : (l.at off).add n = l.at (off + n) := by
  unfold Addr.add Loc.at
  split
  · subst_vars; simp
  · simp; omega

theorem bsize (l : List UInt8) : (⟨l.toArray⟩ : ByteArray).size = l.length := rfl

theorem extract_mk (a : List UInt8) (l h : Nat) : (⟨a.toArray⟩ : ByteArray).extract l h = ⟨((a.drop l).take (h - l)).toArray⟩ := by
  apply ByteArray.ext
  simp [ByteArray.data_extract, List.extract_eq_take_drop]

theorem inB_le {len cap cap' l : Nat} {h mm : Option Nat} (hc : cap ≤ cap') (hm : mm.isSome = true) (hb : inB len cap l h mm = true) : inB len cap' l h mm = true := by
  cases mm with
  | none => simp at hm
  | some m => simp [inB] at hb ⊢; exact ⟨by omega, hb.2.1, hb.2.2.1, hb.2.2.2⟩

theorem inB_le' {len cap cap' l : Nat} {h : Option Nat} (hc : cap ≤ cap') (hb : inB len cap l h none = true) : inB len cap' l h none = true := by
  simp [inB] at hb ⊢; omega

theorem sliceA_run {t : TypeId} {k : SlKind} {env : List (Nat × AV)} {lo hi mx : Option Operand} {l' h' m' : Option Opd} {x v : AV} {l : Nat} {h mm : Option Nat} (hk : slKind P t = some k)
    (hl : opdO lo = some l') (hh : opdO hi = some h') (hm : opdO mx = some m')
    (e1 : optInt env 0 l' = some l) (e2 : optIntO env h' = some h) (e3 : optIntO env m' = some mm)
    (r1 : ∀ x, lo = some x → OpR ρ env m ml p L x) (r2 : ∀ x, hi = some x → OpR ρ env m ml p L x) (r3 : ∀ x, mx = some x → OpR ρ env m ml p L x)
    (hp : ∀ i k, p i k → k ≤ (m i).room ∧ ∀ j, j ≤ (m i).room → p i j) (hx : vOk p L x) (hs : sliceA k x l h mm = some v) (w : World) :
    (Instr.sliceAt t (conc m ml x) (lo.map ρ) (hi.map ρ) (mx.map ρ)).run P w = .ok (conc m ml v) w ∧ vOk p L v := by
  have B := fun b len cap c => bounds_run (ρ := ρ) (P := P) (m := m) (ml := ml) (p := p) (L := L) hl hh hm e1 e2 e3 r1 r2 r3 b len cap c w
  cases k with
  | str =>
    have hu : P.underlying t = some .string := by
      unfold slKind at hk
      split at hk
      · assumption
      · rename_i e he; cases hq : pszT P e <;> simp [hq] at hk
      · rename_i n e he; cases hq : pszT P e <;> simp [hq] at hk
      · cases hk
    cases x <;> simp only [sliceA] at hs <;> try (cases hs; done)
    rename_i s
    split at hs
    · rename_i hc
      cases hs
      simp only [Bool.and_eq_true, Bool.not_eq_true', Option.isSome_eq_false_iff, Option.isNone_iff_eq_none] at hc
      obtain ⟨rfl, hc⟩ := hc
      have hmx : mx = none := by
        cases mx with
        | none => rfl
        | some x =>
          cases hx : opd x with
          | none => simp [opdO, hx] at hm
          | some y =>
            simp [opdO, hx] at hm; subst hm
            cases ho : optInt env 0 (some y) <;> simp [optIntO, ho] at e3
      subst hmx
      have := B false s.length s.length hc
      simp only [Option.map_none, Option.getD_none] at this
      simp only [Instr.sliceAt, Instr.slice, Sem.run_bind, run_underlying hu, Result.andThen_ok, conc, Option.map_none, Option.isSome_none, Bool.false_eq_true, if_false, pure_bind, Sem.run_pure, ByteArray.size, List.size_toArray, this, extract_mk]
      exact ⟨trivial, .of (by simp [AV.okP])⟩
    · cases hs
  | slice sz =>
    obtain ⟨e, hu, hsz⟩ : ∃ e, P.underlying t = some (.slice e) ∧ pszT P e = some sz := by
      unfold slKind at hk
      split at hk
      · cases hk
      · rename_i e he; cases hq : pszT P e <;> simp [hq] at hk; exact ⟨e, he, by rw [hq, hk]⟩
      · rename_i n e he; cases hq : pszT P e <;> simp [hq] at hk
      · cases hk
    obtain ⟨hsz, hnz⟩ := pszT_szT hsz
    have R : ∀ (a : Option Addr) (len cap : Nat), inB len cap l h mm = true → (Instr.sliceAt t (.slice a len cap) (lo.map ρ) (hi.map ρ) (mx.map ρ)).run P w =
        .ok (.slice (if mm.getD cap = l then a else a.map (·.add (l * sz))) (h.getD len - l) (mm.getD cap - l)) w := by
      intro a len cap hb
      simp only [Instr.sliceAt, Instr.slice, Sem.run_bind, run_underlying hu, Result.andThen_ok, B _ _ _ hb, szT_run hsz, Sem.run_pure]
    cases x <;> simp only [sliceA] at hs <;> try (cases hs; done)
    · -- nil
      split at hs
      · rename_i hc
        cases hs
        simp only [conc]
        rw [R none 0 0 hc]
        simp only [inB, Bool.and_eq_true, decide_eq_true_eq] at hc
        refine ⟨?_, .of (by simp [AV.okP])⟩
        have h1 : h.getD 0 - l = 0 := by omega
        have h2 : mm.getD 0 - l = 0 := by omega
        simp [h1, h2]
      · cases hs
    · -- exact
      rename_i id off len c
      split at hs
      · rename_i hc
        cases hs
        simp only [conc]
        rw [R _ len c hc]
        refine ⟨?_, ?_⟩
        · split <;> simp [Loc.at_add]
        · have := hx.noL rfl; exact .of (by simp only [AV.okP] at this ⊢; exact this)
      · cases hs
    · -- open
      rename_i id off len kc z
      split at hs
      · cases hs
      · rename_i hz
        simp only [ne_eq, Decidable.not_not] at hz
        subst hz
        have hg := hx.noL rfl
        simp only [AV.okP] at hg
        obtain ⟨hr, hg'⟩ := hp _ _ hg
        have hmx : kc * z ≤ max len kc * z := Nat.mul_le_mul_right _ (Nat.le_max_right _ _)
        have hle : kc ≤ ((m id).room - off) / z := (Nat.le_div_iff_mul_le (by omega)).2 (by omega)
        split at hs
        · rename_i mv
          split at hs
          · rename_i hc
            cases hs
            simp only [conc]
            rw [R _ len _ (inB_le hle rfl hc)]
            refine ⟨?_, .of (by simp only [AV.okP]; exact hg' 0 (Nat.zero_le _))⟩
            simp only [Option.getD_some]
            split <;> simp [Loc.at_add]
          · cases hs
        · split at hs
          · rename_i hc
            simp only [conc]
            rw [R _ len _ (inB_le' hle hc)]
            simp only [inB, Bool.and_eq_true, decide_eq_true_eq, Option.getD_none] at hc
            split at hs
            · rename_i hlt
              cases hs
              have hle2 : l * z ≤ kc * z := Nat.mul_le_mul_right _ (by omega)
              have hadd : l * z + (max (h.getD len - l) (kc - l)) * z = kc * z := by rw [← Nat.add_mul]; congr 1; omega
              refine ⟨?_, .of (by simp only [AV.okP]; exact hg' _ (by omega))⟩
              rw [if_neg (by simp only [Option.getD_none]; omega)]
              simp only [Option.map_some, Loc.at_add, conc, Option.getD_none]
              congr 2
              rw [Nat.sub_add_eq, Nat.mul_comm l z, Nat.sub_mul_div]
            · rename_i hlt
              cases hs
              have hl1 : l = kc := by omega
              subst hl1
              refine ⟨?_, .of (by simp only [AV.okP]; exact hg' _ (by omega))⟩
              have h0 : h.getD len - l = 0 := by omega
              simp only [conc, Option.getD_none, h0]
              split <;> simp [Loc.at_add]
          · cases hs
    · -- empty
      rename_i id off l0 z
      split at hs
      · rename_i hc
        cases hs
        simp only [Bool.and_eq_true, Bool.not_eq_true', Option.isSome_eq_false_iff, Option.isNone_iff_eq_none] at hc
        obtain ⟨rfl, hc⟩ := hc
        simp only [conc]
        rw [R _ 0 _ (inB_le' (Nat.zero_le _) hc)]
        simp only [inB, Bool.and_eq_true, decide_eq_true_eq, Option.getD_none] at hc
        have hl0 : l = 0 := by omega
        have h0 : h.getD 0 - l = 0 := by omega
        subst hl0
        refine ⟨?_, hx⟩
        simp [Addr.add, h0]
      · cases hs
    · -- told
      split at hs
      · rename_i hc
        cases hs
        simp only [conc]
        rw [R _ 0 0 hc]
        simp only [inB, Bool.and_eq_true, decide_eq_true_eq] at hc
        refine ⟨?_, hx⟩
        have h1 : h.getD 0 - l = 0 := by omega
        have h2 : mm.getD 0 - l = 0 := by omega
        rw [if_pos (by omega), h1, h2]
      · cases hs
  | arr n sz =>
    obtain ⟨e, hu, hsz⟩ : ∃ e, P.underlying t = some (.array n e) ∧ pszT P e = some sz := by
      unfold slKind at hk
      split at hk
      · cases hk
      · rename_i e he; cases hq : pszT P e <;> simp [hq] at hk
      · rename_i n' e he; cases hq : pszT P e <;> simp [hq] at hk; obtain ⟨rfl, rfl⟩ := hk; exact ⟨e, he, hq⟩
      · cases hk
    obtain ⟨hsz, hnz⟩ := pszT_szT hsz
    cases x <;> simp only [sliceA] at hs <;> try (cases hs; done)
    rename_i id off
    split at hs
    · rename_i hc
      cases hs
      simp only [Instr.sliceAt, Sem.run_bind, run_underlying hu, Result.andThen_ok, conc, Instr.sureAddr, Sem.run_pure, B _ _ _ hc, szT_run hsz]
      refine ⟨?_, ?_⟩
      · split <;> simp [Loc.at_add]
      · have := hx.noL rfl; exact .of (by simp only [AV.okP] at this ⊢; exact this)
    · cases hs


theorem max2_run {a b v : AV} (h : max2A a b = some v) (w : World) : (Builtin.max2 (conc m ml a) (conc m ml b)).run P w = .ok (conc m ml v) w ∧ v.okP p := by
  unfold max2A at h
  split at h
  · cases h; simp [Builtin.max2, conc, AV.okP]
  · cases h
    simp only [conc, Builtin.max2, Op.stringOp, toList_mk, bytesLess_eq, asBool, pure_bind, AV.okP]
    exact ⟨by split <;> simp_all, trivial⟩
  · cases h
theorem min2_run {a b v : AV} (h : min2A a b = some v) (w : World) : (Builtin.min2 (conc m ml a) (conc m ml b)).run P w = .ok (conc m ml v) w ∧ v.okP p := by
  unfold min2A at h
  split at h
  · cases h; simp [Builtin.min2, conc, AV.okP]
  · cases h
    simp only [conc, Builtin.min2, Op.stringOp, toList_mk, bytesLess_eq, asBool, pure_bind, AV.okP]
    exact ⟨by split <;> simp_all, trivial⟩
  · cases h

theorem fold_run {f : AV → AV → Option AV} {g : Value → Value → Sem Value} (hf : ∀ a b v, f a b = some v → ∀ w, (g (conc m ml a) (conc m ml b)).run P w = .ok (conc m ml v) w ∧ v.okP p) :
    ∀ (vs : List AV) (x v : AV), vOk p L x → foldA f x vs = some v → ∀ w, ((concL m ml vs).foldlM g (conc m ml x)).run P w = .ok (conc m ml v) w ∧ vOk p L v := by
  intro vs
  induction vs with
  | nil => intro x v hx h w; simp [foldA] at h; subst h; simp [concL, hx]
  | cons y vs ih =>
    intro x v hx h w
    simp only [foldA] at h
    split at h
    · rename_i z hz
      obtain ⟨h1, h2⟩ := hf _ _ _ hz w
      simp only [concL, List.foldlM_cons, Sem.run_bind, h1, Result.andThen_ok]
      exact ih z v (.of h2) h w
    · cases h

/-- An interface's value against nil. -/
theorem nilI_run {t : TypeId} {ms : _} (hu : P.underlying t = some (.interface ms)) (x : Operand) (A : Value) (r : Bool) (hA : (A = .nilIface ∧ r = true) ∨ (∃ u v, A = .iface u v ∧ r = false)) (w : World) :
    (do eqGuard .eql t x (.const .nilIface) A .nilIface; binOp .eql t A .nilIface : Sem Value).run P w = .ok (.bool r) w ∧
    (do eqGuard .neq t x (.const .nilIface) A .nilIface; binOp .neq t A .nilIface : Sem Value).run P w = .ok (.bool !r) w := by
  have key : (Op.equal t A .nilIface).run P w = .ok r w := by
    have d : Op.maxDepth = 9999 + 1 := rfl
    unfold Op.equal
    rw [d]
    generalize 9999 = d
    rcases hA with ⟨rfl, rfl⟩ | ⟨u, v, rfl, rfl⟩ <;> simp only [Op.equalIn, Sem.run_bind, run_underlying hu, Result.andThen_ok, Sem.run_pure]
  have g : ∀ op, (eqGuard op t x (.const .nilIface) A .nilIface).run P w = .ok () w := by
    intro op
    rcases hA with ⟨rfl, _⟩ | ⟨u, v, rfl, _⟩ <;> cases op <;> simp [eqGuard]
  have n : (∀ k a k' b, ¬ (A = .int k a ∧ Value.nilIface = .int k' b)) ∧ (∀ k a k' b, ¬ (A = .float k a ∧ Value.nilIface = .float k' b)) ∧ (∀ k a c k' b d, ¬ (A = .complex k a c ∧ Value.nilIface = .complex k' b d)) ∧ (∀ a b, ¬ (A = .string a ∧ Value.nilIface = .string b)) := by simp
  constructor
  · simp only [Sem.run_bind, g, Result.andThen_ok]
    rw [binOp_eql_of _ _ _ n.1 n.2.1 n.2.2.1 n.2.2.2]
    simp only [Sem.run_bind, key, Result.andThen_ok, Sem.run_pure]
  · simp only [Sem.run_bind, g, Result.andThen_ok]
    rw [binOp_neq_of _ _ _ n.1 n.2.1 n.2.2.1 n.2.2.2]
    simp only [Sem.run_bind, key, Result.andThen_ok, Sem.run_pure]

/-- What an operation of two operands is made into. -/
theorem comp_bin {locals : List Nat} {dst : Option Nat} {op : BinOp} {t yt : TypeId} {x y : Operand} {io : IOp} (hc : compOp P locals dst (.binOp op t x y yt) = some io) :
    (∃ e a b, io = .bin op e a b ∧ opd x = some a ∧ opd y = some b ∧ (op = .eql ∨ op = .neq → eqTs P 20 t = some e ∧ P.eqGuardType P.depth t = false)) ∨
    (∃ neg a, io = .isNilI neg a ∧ opd x = some a ∧ y = .const .nilIface ∧ ∃ ms, P.underlying t = some (.interface ms) ∧ ((op = .eql ∧ neg = false) ∨ (op = .neq ∧ neg = true))) ∨
    (∃ neg a b, io = .ptrEq neg (.tmp a) (.tmp b) ∧ opd x = some (.tmp a) ∧ opd y = some (.tmp b) ∧ ∃ e, P.underlying t = some (.pointer e) ∧ (∃ k, szT P e = some (k + 1)) ∧ ((op = .eql ∧ neg = false) ∨ (op = .neq ∧ neg = true))) := by
  simp only [compOp] at hc
  split at hc
  · split at hc
    · rename_i ms hu
      rw [Option.map_eq_some_iff] at hc
      obtain ⟨a, h1, rfl⟩ := hc
      exact .inr (.inl ⟨_, a, rfl, h1, rfl, ms, hu, .inl ⟨rfl, rfl⟩⟩)
    · rename_i e a b hu
      split at hc
      · rename_i k hk; cases hc; exact .inr (.inr ⟨_, a, b, rfl, rfl, rfl, e, hu, ⟨k, hk⟩, .inl ⟨rfl, rfl⟩⟩)
      · cases hc
    · split at hc
      · cases hc
      · rename_i hg
        split at hc
        · rename_i e a b h1 h2 h3; cases hc; exact .inl ⟨e, a, b, rfl, h2, h3, fun _ => ⟨h1, by simpa using hg⟩⟩
        · cases hc
  · split at hc
    · rename_i ms hu
      rw [Option.map_eq_some_iff] at hc
      obtain ⟨a, h1, rfl⟩ := hc
      exact .inr (.inl ⟨_, a, rfl, h1, rfl, ms, hu, .inr ⟨rfl, rfl⟩⟩)
    · rename_i e a b hu
      split at hc
      · rename_i k hk; cases hc; exact .inr (.inr ⟨_, a, b, rfl, rfl, rfl, e, hu, ⟨k, hk⟩, .inr ⟨rfl, rfl⟩⟩)
      · cases hc
    · split at hc
      · cases hc
      · rename_i hg
        split at hc
        · rename_i e a b h1 h2 h3; cases hc; exact .inl ⟨e, a, b, rfl, h2, h3, fun _ => ⟨h1, by simpa using hg⟩⟩
        · cases hc
  · rename_i n1 n2
    obtain ⟨a, b, h1, h2, h3⟩ := opt2_some hc
    cases h3
    exact .inl ⟨.none, a, b, rfl, h1, h2, fun h => by rcases h with h | h; exact absurd h n1; exact absurd h n2⟩

/-- What a pure operation comes to, in the model. -/
theorem run_pure {locals : List Nat} {dst : Option Nat} {o : Oper} {io : IOp} (hc : compOp P locals dst o.op = some io) (hcls : io.cls = .pure) {s' : St} {v : AV} (he : evOp dst s io = some (v, s'))
    (hρ : ∀ x ∈ o.op.operands, OpR ρ s.env m ml p L x) (hp : ∀ i k, p i k → k ≤ (m i).room ∧ ∀ j, j ≤ (m i).room → p i j) (w : World) :
    s' = s ∧ (execOp ρ o).run P w = .ok (.value (conc m ml v)) w ∧ vOk p L v := by
  obtain ⟨dst', op, type, pos, after, guard⟩ := o
  simp only at hc hρ
  cases op
  case move x | assign x =>
    simp only [compOp] at hc
    cases hx : opd x with
    | none => simp [hx] at hc
    | some y =>
      simp [hx] at hc; subst hc
      simp only [evOp] at he
      cases hv : y.ev s.env with
      | none => simp [hv] at he
      | some u =>
        simp [hv] at he; obtain ⟨rfl, rfl⟩ := he
        obtain ⟨e1, e2⟩ := hρ x (by simp [Op.operands]) _ _ hx hv
        exact ⟨rfl, by simp [execOp, e1], e2⟩
  case pick c a b =>
    simp only [compOp] at hc
    split at hc
    · rename_i c' a' b' hx ha hb
      cases hc
      simp only [evOp] at he
      split at he
      · rename_i hv
        obtain ⟨e1, e2⟩ := hρ c (by simp [Op.operands]) _ _ hx hv
        cases hu : a'.ev s.env with
        | none => simp [hu] at he
        | some u =>
          simp [hu] at he; obtain ⟨rfl, rfl⟩ := he
          obtain ⟨f1, f2⟩ := hρ a (by simp [Op.operands]) _ _ ha hu
          exact ⟨rfl, by simp [execOp, e1, conc, asBool, f1], f2⟩
      · rename_i hv
        obtain ⟨e1, e2⟩ := hρ c (by simp [Op.operands]) _ _ hx hv
        cases hu : b'.ev s.env with
        | none => simp [hu] at he
        | some u =>
          simp [hu] at he; obtain ⟨rfl, rfl⟩ := he
          obtain ⟨f1, f2⟩ := hρ b (by simp [Op.operands]) _ _ hb hu
          exact ⟨rfl, by simp [execOp, e1, conc, asBool, f1], f2⟩
      · cases he
    · cases hc
  case build t parts =>
    obtain ⟨z, q, rfl⟩ : ∃ z q, io = .build z q := by
      simp only [compOp] at hc
      split at hc
      · split at hc
        · obtain ⟨_, _, _, _, h⟩ := opt2_some hc; cases h; exact ⟨_, _, rfl⟩
        · cases hc
      · split at hc
        · obtain ⟨_, _, _, _, h⟩ := opt2_some hc; cases h; exact ⟨_, _, rfl⟩
        · cases hc
      · cases hc
    simp only [evOp] at he
    cases hf : fillA s.env q z with
    | none => simp [hf] at he
    | some r =>
      simp [hf] at he; obtain ⟨rfl, rfl⟩ := he
      obtain ⟨h1, h2, h3⟩ := build_run (P := P) (s := s) (ρ := ρ) (m := m) (ml := ml) (p := p) (L := L) hρ (by simpa [compOp] using hc) hf w
      refine ⟨rfl, ?_, .of ⟨h2, h3⟩⟩
      simp only [execOp, Sem.run_bind, h1, Result.andThen_ok, Sem.run_pure, conc]
  case nilCheck x =>
    simp only [compOp] at hc
    cases hx : opd x with
    | none => simp [hx] at hc
    | some y =>
      simp [hx] at hc; subst hc
      simp only [evOp] at he
      split at he <;> try (cases he; done)
      rename_i u n1 n2 n3 n4 hv
      cases he
      obtain ⟨e1, e2⟩ := hρ x (by simp [Op.operands]) _ _ hx hv
      refine ⟨rfl, ?_, e2⟩
      simp only [execOp, e1]
      cases v <;> simp_all [conc]
  case binOp op t x y yt =>
    rcases comp_bin hc with key | ⟨neg, a, rfl, h1, rfl, ms, hu, hop⟩ | ⟨neg, a, b, rfl, _⟩
    case inr.inr => simp [IOp.cls] at hcls
    case inr.inl =>
      simp only [evOp] at he
      obtain ⟨f1, _⟩ := hρ (.const .nilIface) (by simp [Op.operands]) (.const .nilIface) .nilIface rfl rfl
      simp only [conc] at f1
      split at he
      · rename_i hv
        cases he
        obtain ⟨e1, _⟩ := hρ x (by simp [Op.operands]) _ _ h1 hv
        obtain ⟨k1, k2⟩ := nilI_run (P := P) hu x .nilIface true (.inl ⟨rfl, rfl⟩) w
        refine ⟨rfl, ?_, .of (by simp [AV.okP])⟩
        simp only [conc] at e1 ⊢
        rcases hop with ⟨rfl, rfl⟩ | ⟨rfl, rfl⟩
        · simp only [execOp, e1, f1]; rw [Sem.run_bind, k1]; simp
        · simp only [execOp, e1, f1]; rw [Sem.run_bind, k2]; simp
      · rename_i tt u hv
        cases he
        obtain ⟨e1, _⟩ := hρ x (by simp [Op.operands]) _ _ h1 hv
        obtain ⟨k1, k2⟩ := nilI_run (P := P) hu x (conc m ml (.iface tt u)) false (.inr ⟨_, _, rfl, rfl⟩) w
        refine ⟨rfl, ?_, .of (by simp [AV.okP])⟩
        simp only [conc] at e1 k1 k2 ⊢
        rcases hop with ⟨rfl, rfl⟩ | ⟨rfl, rfl⟩
        · simp only [execOp, e1, f1]; rw [Sem.run_bind, k1]; simp
        · simp only [execOp, e1, f1]; rw [Sem.run_bind, k2]; simp
      · cases he
    obtain ⟨e, a, b, rfl, h1, h2, h3⟩ := key
    simp only [evOp] at he
    split at he
    · rename_i u v' hu hv
      cases hb : binA op e u v' with
      | none => simp [hb] at he
      | some r =>
        simp [hb] at he; obtain ⟨rfl, rfl⟩ := he
        obtain ⟨e1, _⟩ := hρ x (by simp [Op.operands]) _ _ h1 hu
        obtain ⟨f1, _⟩ := hρ y (by simp [Op.operands]) _ _ h2 hv
        obtain ⟨r1, r2⟩ := bin_run (P := P) (m := m) (ml := ml) (p := p) h3 hb x y w
        refine ⟨rfl, ?_, .of r2⟩
        simp only [execOp, e1, f1]
        rw [Sem.run_bind, r1]
        simp
    · cases he
  case unOp op t x =>
    simp only [compOp] at hc
    cases hx : opd x with
    | none => simp [hx] at hc
    | some y =>
      simp [hx] at hc; subst hc
      simp only [evOp] at he
      split at he
      · rename_i a hv
        cases hb : unA op a with
        | none => simp [hb] at he
        | some r =>
          simp [hb] at he; obtain ⟨rfl, rfl⟩ := he
          obtain ⟨e1, _⟩ := hρ x (by simp [Op.operands]) _ _ hx hv
          obtain ⟨r1, r2⟩ := un_run (P := P) (m := m) (ml := ml) (p := p) hb w
          exact ⟨rfl, by simp [execOp, e1, r1], .of r2⟩
      · cases he
  case convert sr d x =>
    simp only [compOp] at hc
    split at hc
    · rename_i k0 k y h1 h2 hx
      cases hc
      simp only [evOp] at he
      split at he <;> rename_i hq hv <;> first | (cases hq; done) | (cases he; done) | skip
      cases hq; cases he
      obtain ⟨e1, _⟩ := hρ x (by simp [Op.operands]) _ _ hx hv
      refine ⟨rfl, ?_, .of (by simp [AV.okP])⟩
      simp [execOp, e1, convert, run_underlying h1, run_underlying h2, conc, Conv.intToInt]
    · rename_i y h1 h2 hx
      cases hc
      simp only [evOp] at he
      split at he <;> rename_i hq hv <;> first | (cases hq; done) | (cases he; done) | skip
      cases he
      obtain ⟨e1, e2⟩ := hρ x (by simp [Op.operands]) _ _ hx hv
      refine ⟨rfl, ?_, e2⟩
      simp [execOp, e1, convert, run_underlying h1, run_underlying h2, conc]
    · split at hc <;> cases hc
      simp [IOp.cls] at hcls
    · split at hc <;> cases hc
      simp [IOp.cls] at hcls
    · split at hc <;> cases hc
      simp [IOp.cls] at hcls
    · cases hc
  case makeInterface t x =>
    simp only [compOp] at hc
    split at hc
    · cases hc
    · rename_i d y hn h1 hx
      cases hc
      simp only [evOp] at he
      split at he
      · rename_i u hv
        split at he
        · rename_i hl
          cases he
          obtain ⟨e1, e2⟩ := hρ x (by simp [Op.operands]) _ _ hx hv
          refine ⟨rfl, ?_, .of (by simp only [AV.okP]; exact e2.noL hl)⟩
          simp only [execOp, e1, Instr.makeInterface, Sem.run_bind, run_underlying h1, Result.andThen_ok, conc]
          cases d <;> simp_all
        · cases he
      · cases he
    · cases hc
  case makeFunc fn first captured =>
    simp only [compOp] at hc
    obtain ⟨a, b, h1, h2, h3⟩ := opt2_some hc
    cases h3
    simp only [evOp] at he
    split at he
    · rename_i va vb hva hvb
      split at he
      · rename_i hl
        cases he
        simp only [Bool.and_eq_true, allNoL, List.all_eq_true] at hl
        obtain ⟨e1, e2⟩ := opds_conc (m := m) (ml := ml) (p := p) (L := L) h1 hva (fun x hx => hρ x (by simp [Op.operands] at *; exact .inl hx))
        obtain ⟨f1, f2⟩ := opds_conc (m := m) (ml := ml) (p := p) (L := L) h2 hvb (fun x hx => hρ x (by simp [Op.operands] at *; exact .inr hx))
        refine ⟨rfl, ?_, .of ⟨(okPL_iff _ _).2 fun v hv => (e2 v hv).noL (hl.1 v hv), (okPL_iff _ _).2 fun v hv => (f2 v hv).noL (hl.2 v hv)⟩⟩
        have ea : first.map ρ = (concL m ml va).toArray := by apply Array.ext'; simp [e1]
        have eb : captured.map ρ = (concL m ml vb).toArray := by apply Array.ext'; simp [f1]
        simp only [execOp, Instr.makeFunc, conc, ea, eb, pure_bind, Sem.run_pure]
      · cases he
    · cases he
  case slice t x lo hi mx =>
    simp only [compOp] at hc
    split at hc
    · rename_i k y l' h' m' h1 hx hl hh hm
      cases hc
      simp only [evOp] at he
      split at he
      · rename_i u l hv e1
        split at he
        · rename_i h mm e2 e3
          cases hs : sliceA k u l h mm with
          | none => simp [hs] at he
          | some r =>
            simp [hs] at he; obtain ⟨rfl, rfl⟩ := he
            obtain ⟨f1, f2⟩ := hρ x (by simp [Op.operands]) _ _ hx hv
            obtain ⟨g1, g2⟩ := sliceA_run (P := P) h1 hl hh hm e1 e2 e3 (fun z hz => hρ z (by simp [Op.operands, hz])) (fun z hz => hρ z (by simp [Op.operands, hz])) (fun z hz => hρ z (by simp [Op.operands, hz])) hp f2 hs w
            exact ⟨rfl, by simp only [execOp, f1, Sem.run_bind, g1, Result.andThen_ok, Sem.run_pure], g2⟩
        · cases he
      · cases he
    · cases hc
  case fieldAddr t x f =>
    simp only [compOp] at hc
    split at hc
    · rename_i fs hu
      split at hc
      · rename_i fd hf
        obtain ⟨sz, y, h1, hx, h3⟩ := opt2_some hc
        cases h3
        obtain ⟨hsz, hnz⟩ := pszT_szT h1
        have run : ∀ a : Addr, (Instr.fieldAt t (.pointer (some a)) f).run P w = .ok (.pointer (some (a.add fd.offset))) w := by
          intro a
          simp only [Instr.fieldAt, Sem.run_bind, run_underlying hu, Result.andThen_ok, hf, Instr.sureAddr, Sem.run_pure, fieldPlace, szT_run hsz, if_neg hnz]
        simp only [evOp] at he
        split at he
        · rename_i id o hv
          cases he
          obtain ⟨e1, e2⟩ := hρ x (by simp [Op.operands]) _ _ hx hv
          refine ⟨rfl, ?_, ?_⟩
          · simp only [execOp, e1, conc, Sem.run_bind, run, Result.andThen_ok, Sem.run_pure, Loc.at_add]
          · have := e2.noL rfl; exact .of (by simp only [AV.okP] at this ⊢; exact this)
        · rename_i t' o hv
          cases he
          obtain ⟨e1, e2⟩ := hρ x (by simp [Op.operands]) _ _ hx hv
          refine ⟨rfl, ?_, .inr ⟨_, _, rfl, e2.isL⟩⟩
          simp only [execOp, e1, conc, Sem.run_bind, run, Result.andThen_ok, Sem.run_pure]
          unfold Addr.add; split <;> simp_all
        · cases he
      · cases hc
    · cases hc
  case field t x f =>
    simp only [compOp] at hc
    split at hc
    · rename_i fs hu
      split at hc
      · rename_i fd hf
        split at hc
        · rename_i g sz y h1 h2 hx
          cases hc
          simp only [evOp] at he
          split at he
          · rename_i cs hv
            cases hr : rd g sz fd.offset cs with
            | none => simp [hr] at he
            | some r =>
              simp [hr] at he; obtain ⟨rfl, rfl⟩ := he
              obtain ⟨e1, e2⟩ := hρ x (by simp [Op.operands]) _ _ hx hv
              have hok := e2.noL rfl
              simp only [AV.okP] at hok
              refine ⟨rfl, ?_, .of (rd_ok hr hok.1 hok.2)⟩
              simp only [execOp, e1, Instr.field, Sem.run_bind, run_underlying hu, Result.andThen_ok, hf, conc, asAgg, Sem.run_pure, rd_part h1 h2 hr]
          · cases he
        · cases hc
      · cases hc
    · cases hc
  case indexAddr t x i =>
    simp only [compOp] at hc
    split at hc
    · rename_i e hu
      split at hc
      · rename_i sz y j h1 hx hi
        cases hc
        obtain ⟨hsz, hnz⟩ := pszT_szT h1
        have run : ∀ (a : Addr) (len cap : Nat) (k : IntKind) (n : Int), 0 ≤ n → n < len → (Instr.indexAt t (.slice (some a) len cap) (.int k n)).run P w = .ok (.pointer (some (a.add (n.toNat * sz)))) w := by
          intro a len cap k n h0 hl
          simp only [Instr.indexAt, asIntOf, pure_bind, Sem.run_bind, run_underlying hu, Result.andThen_ok, Sem.run_pure]
          rw [if_pos ⟨h0, hl⟩]
          simp only [Sem.run_bind, szT_run hsz, Result.andThen_ok, Sem.run_pure]
        simp only [evOp] at he
        split at he
        · rename_i id off len c k n hv hn
          split at he
          · rename_i hlt
            cases he
            obtain ⟨e1, e2⟩ := hρ x (by simp [Op.operands]) _ _ hx hv
            obtain ⟨f1, _⟩ := hρ i (by simp [Op.operands]) _ _ hi hn
            refine ⟨rfl, ?_, ?_⟩
            · simp only [execOp, e1, f1, conc, Sem.run_bind, run _ _ _ _ _ hlt.1 hlt.2, Result.andThen_ok, Sem.run_pure, Loc.at_add]
            · have := e2.noL rfl; exact .of (by simp only [AV.okP] at this ⊢; exact this)
          · cases he
        · rename_i id off len c k n hv hn
          split at he
          · rename_i hlt
            cases he
            obtain ⟨e1, e2⟩ := hρ x (by simp [Op.operands]) _ _ hx hv
            obtain ⟨f1, _⟩ := hρ i (by simp [Op.operands]) _ _ hi hn
            refine ⟨rfl, ?_, ?_⟩
            · simp only [execOp, e1, f1, conc, Sem.run_bind, run _ _ _ _ _ hlt.1 hlt.2, Result.andThen_ok, Sem.run_pure, Loc.at_add]
            · have := e2.noL rfl; simp only [AV.okP] at this; exact .of (by simp only [AV.okP]; exact (hp _ _ this).2 0 (Nat.zero_le _))
          · cases he
        · cases he
      · cases hc
    · rename_i len e hu
      split at hc
      · rename_i sz y j h1 hx hi
        cases hc
        obtain ⟨hsz, hnz⟩ := pszT_szT h1
        have run : ∀ (a : Addr) (k : IntKind) (n : Int), 0 ≤ n → n < len → (Instr.indexAt t (.pointer (some a)) (.int k n)).run P w = .ok (.pointer (some (a.add (n.toNat * sz)))) w := by
          intro a k n h0 hl
          simp only [Instr.indexAt, asIntOf, pure_bind, Sem.run_bind, run_underlying hu, Result.andThen_ok, Sem.run_pure, Instr.sureAddr]
          rw [if_pos ⟨h0, hl⟩]
          simp only [Sem.run_bind, szT_run hsz, Result.andThen_ok, Sem.run_pure]
        simp only [evOp] at he
        split at he
        · rename_i id off k n hv hn
          split at he
          · rename_i hlt
            cases he
            obtain ⟨e1, e2⟩ := hρ x (by simp [Op.operands]) _ _ hx hv
            obtain ⟨f1, _⟩ := hρ i (by simp [Op.operands]) _ _ hi hn
            refine ⟨rfl, ?_, ?_⟩
            · simp only [execOp, e1, f1, conc, Sem.run_bind, run _ _ _ hlt.1 hlt.2, Result.andThen_ok, Sem.run_pure, Loc.at_add]
            · have := e2.noL rfl; exact .of (by simp only [AV.okP] at this ⊢; exact this)
          · cases he
        · rename_i t' off k n hv hn
          split at he
          · rename_i hlt
            cases he
            obtain ⟨e1, e2⟩ := hρ x (by simp [Op.operands]) _ _ hx hv
            obtain ⟨f1, _⟩ := hρ i (by simp [Op.operands]) _ _ hi hn
            refine ⟨rfl, ?_, .inr ⟨_, _, rfl, e2.isL⟩⟩
            simp only [execOp, e1, f1, conc, Sem.run_bind, run _ _ _ hlt.1 hlt.2, Result.andThen_ok, Sem.run_pure]
            unfold Addr.add; split <;> simp_all
          · cases he
        · cases he
      · cases hc
    · cases hc
  case index t x i =>
    simp only [compOp] at hc
    split at hc
    · rename_i hu
      obtain ⟨y, j, hx, hi, h3⟩ := opt2_some hc
      cases h3
      simp only [evOp] at he
      split at he
      · rename_i l k n hv hn
        split at he
        · rename_i h0
          cases hb : l[n.toNat]? with
          | none => simp [hb] at he
          | some b =>
            simp [hb] at he; obtain ⟨rfl, rfl⟩ := he
            obtain ⟨e1, _⟩ := hρ x (by simp [Op.operands]) _ _ hx hv
            obtain ⟨f1, _⟩ := hρ i (by simp [Op.operands]) _ _ hi hn
            refine ⟨rfl, ?_, .of (by simp [AV.okP])⟩
            have hg : (⟨l.toArray⟩ : ByteArray)[n.toNat]? = some b := by
              have hlt : n.toNat < l.length := (List.getElem?_eq_some_iff.1 hb).1
              have : n.toNat < (⟨l.toArray⟩ : ByteArray).size := by simpa [ByteArray.size] using hlt
              rw [getElem?_pos (⟨l.toArray⟩ : ByteArray) n.toNat this]
              congr 1
              exact (List.getElem?_eq_some_iff.1 hb).2
            simp only [execOp, e1, f1, conc, Instr.index, asIntOf, pure_bind, Sem.run_bind, run_underlying hu, Result.andThen_ok, if_pos h0, hg, Sem.run_pure]
        · cases he
      · cases he
    · rename_i n e hu
      split at hc
      · rename_i g sz y j h1 h2 h3
        cases hc
        obtain ⟨y', j', hx, hi, h4⟩ := opt2_some h3
        cases h4
        simp only [evOp] at he
        split at he
        · rename_i cs k i0 hv hn
          split at he
          · rename_i hlt
            cases hr : rd g sz (i0.toNat * sz) cs with
            | none => simp [hr] at he
            | some r =>
              simp [hr] at he; obtain ⟨rfl, rfl⟩ := he
              obtain ⟨e1, e2⟩ := hρ x (by simp [Op.operands]) _ _ hx hv
              obtain ⟨f1, _⟩ := hρ i (by simp [Op.operands]) _ _ hi hn
              have hok := e2.noL rfl
              simp only [AV.okP] at hok
              refine ⟨rfl, ?_, .of (rd_ok hr hok.1 hok.2)⟩
              simp only [execOp, e1, f1, conc, Instr.index, asIntOf, pure_bind, Sem.run_bind, run_underlying hu, Result.andThen_ok]
              rw [if_pos hlt]
              simp only [Sem.run_bind, szT_run h2, Result.andThen_ok, rd_part h1 h2 hr, Sem.run_pure]
          · cases he
        · cases he
      · cases hc
    · cases hc
  case extract x i =>
    simp only [compOp] at hc
    cases hx : opd x with
    | none => simp [hx] at hc
    | some y =>
      simp [hx] at hc; subst hc
      simp only [evOp] at he
      split at he
      · rename_i vs hv
        cases hb : vs[i]? with
        | none => simp [hb] at he
        | some r =>
          simp [hb] at he; obtain ⟨rfl, rfl⟩ := he
          obtain ⟨e1, e2⟩ := hρ x (by simp [Op.operands]) _ _ hx hv
          rcases e2 with e2 | ⟨_, _, e2, _⟩
          · simp only [AV.okP, okPL_iff] at e2
            refine ⟨rfl, ?_, .of (e2 _ (List.mem_of_getElem? hb))⟩
            simp [execOp, e1, conc, Instr.extract, concL_eq, hb]
          · cases e2
      · cases he
  case call c =>
    obtain ⟨callee, args, argTypes⟩ := c
    cases callee with
    | value f =>
      simp only [compOp] at hc
      obtain ⟨_, _, _, _, h3⟩ := opt2_some hc
      cases h3
      simp [IOp.cls] at hcls
    | invoke r n => simp [compOp] at hc
    | builtin b =>
      simp only [compOp, compBuiltin] at hc
      split at hc
      · rename_i t x ha hx1
        have ha' : argTypes = #[t] := by apply Array.ext'; simpa using ha
        have hx' : args = #[x] := by apply Array.ext'; simpa using hx1
        subst ha' hx'
        have L : ∀ (y : Opd) (u : AV), opd x = some y → y.ev s.env = some u → ρ x = conc m ml u := fun y u h1 h2 => (hρ x (by simp [Op.operands, Call.operands]) _ _ h1 h2).1
        split at hc
        · rename_i y hu hx
          cases hc
          simp only [evOp] at he
          split at he <;> rename_i hq hv <;> first | (cases hq; done) | (cases he; done) | skip
          cases he
          refine ⟨rfl, ?_, .of (by simp [AV.okP])⟩
          simp [execOp, resolve, invoke, builtin, Builtin.len_, run_underlying hu, L _ _ hx hv, conc, goInt, bsize]
        · rename_i e y hu hx
          cases hc
          simp only [evOp] at he
          split at he <;> rename_i hq hv <;> first | (cases hq; done) | (cases he; done) | skip
          all_goals cases he
          all_goals refine ⟨rfl, ?_, .of (by simp [AV.okP])⟩
          all_goals simp [execOp, resolve, invoke, builtin, Builtin.len_, run_underlying hu, L _ _ hx hv, conc, goInt]
        · rename_i n e y hu hx
          cases hc
          simp only [evOp] at he
          split at he <;> rename_i hq hv <;> first | (cases hq; done) | (cases he; done) | skip
          cases hq
          cases he
          refine ⟨rfl, ?_, .of (by simp [AV.okP])⟩
          simp [execOp, resolve, invoke, builtin, Builtin.len_, run_underlying hu, goInt, conc]
        · cases hc; simp [IOp.cls] at hcls
        · cases hc
      · split at hc
        · split at hc
          · split at hc
            · cases hc
            · split at hc
              · split at hc
                · obtain ⟨_, _, _, _, h3⟩ := opt2_some hc; cases h3; simp [IOp.cls] at hcls
                · cases hc
              · obtain ⟨_, _, _, _, h3⟩ := opt2_some hc; cases h3; simp [IOp.cls] at hcls
          · cases hc
        · cases hc
      · split at hc
        · split at hc
          · split at hc
            · cases hc; simp [IOp.cls] at hcls
            · cases hc
          · cases hc
        · cases hc
      · rename_i t x ha hx1
        have ha' : argTypes = #[t] := by apply Array.ext'; simpa using ha
        have hx' : args = #[x] := by apply Array.ext'; simpa using hx1
        subst ha' hx'
        split at hc
        · rename_i e y hu hx
          cases hc
          simp only [evOp] at he
          split at he <;> (try (cases he; done))
          all_goals rename_i hv
          all_goals cases he
          all_goals obtain ⟨e1, _⟩ := hρ x (by simp [Op.operands, Call.operands]) _ _ hx hv
          all_goals refine ⟨rfl, ?_, .of (by simp [AV.okP])⟩
          all_goals simp [execOp, resolve, invoke, builtin, Builtin.cap_, run_underlying hu, e1, conc, goInt]
        · cases hc
      · split at hc
        · split at hc
          · obtain ⟨_, _, _, _, h3⟩ := opt2_some hc; cases h3; simp [IOp.cls] at hcls
          · cases hc
        · cases hc
      · rename_i x r hx1
        obtain ⟨a, b, h1, h2, h3⟩ := opt2_some hc
        cases h3
        have hx' : args = (x :: r).toArray := by apply Array.ext'; simpa using hx1
        subst hx'
        simp only [evOp] at he
        split at he
        · rename_i u us hu hus
          cases hb : foldA max2A u us with
          | none => simp [hb] at he
          | some z =>
            simp [hb] at he; obtain ⟨rfl, rfl⟩ := he
            obtain ⟨e1, e2⟩ := hρ x (by simp [Op.operands, Call.operands]) _ _ h1 hu
            obtain ⟨f1, _⟩ := opds_conc (m := m) (ml := ml) (p := p) (L := L) h2 hus (fun y hy => hρ y (by simp [Op.operands, Call.operands, hy]))
            obtain ⟨g1, g2⟩ := fold_run (P := P) (m := m) (ml := ml) (p := p) (L := L) (g := Builtin.max2) (fun a b v h w => max2_run h w) us u _ e2 hb w
            refine ⟨rfl, ?_, g2⟩
            simp only [execOp, resolve, List.map_toArray, List.map_cons, e1, f1, invoke, builtin, Builtin.max_, pure_bind, Sem.run_bind, g1, Result.andThen_ok, Sem.run_pure]
        · cases he
      · rename_i x r hx1
        obtain ⟨a, b, h1, h2, h3⟩ := opt2_some hc
        cases h3
        have hx' : args = (x :: r).toArray := by apply Array.ext'; simpa using hx1
        subst hx'
        simp only [evOp] at he
        split at he
        · rename_i u us hu hus
          cases hb : foldA min2A u us with
          | none => simp [hb] at he
          | some z =>
            simp [hb] at he; obtain ⟨rfl, rfl⟩ := he
            obtain ⟨e1, e2⟩ := hρ x (by simp [Op.operands, Call.operands]) _ _ h1 hu
            obtain ⟨f1, _⟩ := opds_conc (m := m) (ml := ml) (p := p) (L := L) h2 hus (fun y hy => hρ y (by simp [Op.operands, Call.operands, hy]))
            obtain ⟨g1, g2⟩ := fold_run (P := P) (m := m) (ml := ml) (p := p) (L := L) (g := Builtin.min2) (fun a b v h w => min2_run h w) us u _ e2 hb w
            refine ⟨rfl, ?_, g2⟩
            simp only [execOp, resolve, List.map_toArray, List.map_cons, e1, f1, invoke, builtin, Builtin.min_, pure_bind, Sem.run_bind, g1, Result.andThen_ok, Sem.run_pure]
        · cases he
      · (repeat' (split at hc)) <;> cases hc
        simp [IOp.cls] at hcls
      · cases hc
  case alloc e =>
    simp only [compOp] at hc
    obtain ⟨_, _, _, _, h⟩ := opt2_some hc; cases h; simp [IOp.cls] at hcls
  case box e x =>
    simp only [compOp] at hc
    obtain ⟨_, _, _, _, h⟩ := opt2_some hc; cases h; simp [IOp.cls] at hcls
  case buildSlice t n parts =>
    simp only [compOp] at hc
    split at hc
    · split at hc
      · split at hc
        · cases hc
        · split at hc
          · obtain ⟨_, _, _, _, h⟩ := opt2_some hc; cases h; simp [IOp.cls] at hcls
          · cases hc
      · cases hc
    · cases hc
  case load t a =>
    simp only [compOp] at hc
    split at hc
    · cases hc; simp [IOp.cls] at hcls
    · cases hc
  case store t a x =>
    simp only [compOp] at hc
    split at hc
    · cases hc; simp [IOp.cls] at hcls
    · cases hc
  case makeMap t r =>
    cases r <;> simp only [compOp] at hc <;> cases hc
    simp [IOp.cls] at hcls
  case makeSlice t a b =>
    simp only [compOp] at hc
    split at hc
    · split at hc
      · split at hc
        · obtain ⟨_, _, _, _, h⟩ := opt2_some hc; cases h; simp [IOp.cls] at hcls
        · cases hc
      · cases hc
    · cases hc
  case range t x =>
    simp only [compOp] at hc
    split at hc
    · rw [Option.map_eq_some_iff] at hc; obtain ⟨_, _, rfl⟩ := hc; simp [IOp.cls] at hcls
    · rw [Option.map_eq_some_iff] at hc; obtain ⟨_, _, rfl⟩ := hc; simp [IOp.cls] at hcls
    · cases hc
  case next x b =>
    cases b <;> simp only [compOp] at hc
    · rw [Option.map_eq_some_iff] at hc; obtain ⟨_, _, rfl⟩ := hc; simp [IOp.cls] at hcls
    · rw [Option.map_eq_some_iff] at hc; obtain ⟨_, _, rfl⟩ := hc; simp [IOp.cls] at hcls
  case entry x =>
    simp only [compOp] at hc
    rw [Option.map_eq_some_iff] at hc; obtain ⟨_, _, rfl⟩ := hc; simp [IOp.cls] at hcls
  case mapEntry t x k =>
    simp only [compOp] at hc
    (repeat' (split at hc)) <;> cases hc
    simp [IOp.cls] at hcls
  case entryStore t x k v =>
    simp only [compOp] at hc
    (repeat' (split at hc)) <;> cases hc
    simp [IOp.cls] at hcls
  case defer c =>
    obtain ⟨callee, args, argTypes⟩ := c
    cases callee <;> simp only [compOp] at hc <;> first | (cases hc; done) | (obtain ⟨_, _, _, _, h3⟩ := opt2_some hc; cases h3; simp [IOp.cls] at hcls)
  case lookup t x k ok =>
    simp only [compOp] at hc
    (repeat' (split at hc)) <;> cases hc
    simp [IOp.cls] at hcls
  case mapUpdate t x k v | insert t x k v =>
    simp only [compOp] at hc
    (repeat' (split at hc)) <;> cases hc
    simp [IOp.cls] at hcls
  case panic x => simp only [compOp] at hc; cases hc; simp [IOp.cls] at hcls
  all_goals (simp only [compOp] at hc; cases hc; done)

end
end Go.Wam
