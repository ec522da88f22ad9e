/- The abstract machine: its meaning without a bound on rounds, and the equations that hold of it. No condition. -/
import Derived.Test.YtpdmmpajjdaebaaGreatAmA
set_option linter.unusedVariables false
set_option linter.unusedSimpArgs false
namespace Go.Wam

def Mono {α : Type} (g : Nat → Option α) : Prop := ∀ n r, g n = some r → g (n + 1) = some r

theorem Mono.le {α : Type} {g : Nat → Option α} (h : Mono g) {n k : Nat} (hk : n ≤ k) {r : α} (hr : g n = some r) : g k = some r := by
  induction hk with
  | refl => exact hr
  | step _ ih => exact h _ _ ih

open Classical in
noncomputable def lim {α : Type} (g : Nat → Option α) : Option α := if h : ∃ n r, g n = some r then g h.choose else none

theorem lim_iff {α : Type} {g : Nat → Option α} (hg : Mono g) {r : α} : lim g = some r ↔ ∃ n, g n = some r := by
  unfold lim
  constructor
  · intro h
    split at h
    · exact ⟨_, h⟩
    · cases h
  · rintro ⟨n, hn⟩
    have hex : ∃ n r, g n = some r := ⟨n, r, hn⟩
    rw [dif_pos hex]
    obtain ⟨r', hr'⟩ := hex.choose_spec
    rw [hr']
    have h1 := hg.le (Nat.le_max_left n hex.choose) hn
    have h2 := hg.le (Nat.le_max_right n hex.choose) hr'
    rw [h1] at h2
    exact h2.symm

theorem lim_ext {α : Type} {a b : Option α} (h : ∀ r, a = some r ↔ b = some r) : a = b := by
  cases a with
  | none =>
    cases b with
    | none => rfl
    | some y => exact absurd ((h y).2 rfl) (by simp)
  | some x => exact ((h x).1 rfl).symm

theorem lim_const {α : Type} (a : Option α) : lim (fun _ => a) = a := by
  apply lim_ext; intro r
  rw [lim_iff (g := fun _ => a) (fun _ _ h => h)]
  exact ⟨fun ⟨_, h⟩ => h, fun h => ⟨0, h⟩⟩

theorem Mono.bind {α β : Type} {g : Nat → Option α} {f : Nat → α → Option β} (hg : Mono g) (hf : ∀ a, Mono fun n => f n a) : Mono fun n => (g n).bind (f n) := by
  intro n r h
  simp only at h ⊢
  cases hn : g n with
  | none => simp [hn] at h
  | some a => rw [hn] at h; rw [hg n a hn]; exact hf a n r h

theorem lim_bind {α β : Type} {g : Nat → Option α} {f : Nat → α → Option β} (hg : Mono g) (hf : ∀ a, Mono fun n => f n a) : lim (fun n => (g n).bind (f n)) = (lim g).bind fun a => lim fun n => f n a := by
  apply lim_ext; intro r
  rw [lim_iff (hg.bind hf)]
  constructor
  · rintro ⟨n, h⟩
    cases hn : g n with
    | none => simp [hn] at h
    | some a =>
      simp only [hn, Option.bind_some] at h
      rw [(lim_iff hg).2 ⟨n, hn⟩]
      exact (lim_iff (hf a)).2 ⟨n, h⟩
  · intro h
    cases hl : lim g with
    | none => simp [hl] at h
    | some a =>
      rw [hl] at h
      obtain ⟨n, hn⟩ := (lim_iff hg).1 hl
      obtain ⟨k, hk⟩ := (lim_iff (hf a)).1 h
      refine ⟨max n k, ?_⟩
      rw [hg.le (Nat.le_max_left n k) hn]
      exact (hf a).le (Nat.le_max_right n k) hk

theorem Mono.const {α : Type} (a : Option α) : Mono fun _ => a := fun _ _ h => h

theorem lim_bindC {α β : Type} {g : Nat → Option α} (k : α → Option β) (hg : Mono g) : lim (fun n => (g n).bind k) = (lim g).bind k := by
  rw [lim_bind (f := fun _ a => k a) hg (fun a => .const _)]
  congr 1
  funext a
  exact lim_const _

/-- C' tells all that C tells. -/
def CLe (C C' : CallF) : Prop := ∀ g args H r, C g args H = some r → C' g args H = some r

theorem callR_mono {C C' : CallF} (h : CLe C C') {f : AV} {vs : List AV} {H : AHeap} {r : AV × AHeap} (hr : callR C f vs H = some r) : callR C' f vs H = some r := by
  unfold callR at *
  split at hr
  · split at hr
    · rename_i hl; rw [if_pos hl]; exact h _ _ _ _ hr
    · cases hr
  · split at hr
    · rename_i hl; rw [if_pos hl]; exact h _ _ _ _ hr
    · cases hr
  · cases hr

theorem stepOp_le {C C' : CallF} (h : CLe C C') {o : IOper} {s r : St} (hr : stepOp C o s = some r) : stepOp C' o s = some r := by
  unfold stepOp at *
  split at hr
  · cases hr
  · exact hr
  · split at hr
    · split at hr
      · simp only [Option.map_eq_some_iff] at hr ⊢
        obtain ⟨x, h1, h2⟩ := hr
        exact ⟨x, callR_mono h h1, h2⟩
      · cases hr
    · exact hr

theorem stepOps_le {C C' : CallF} (h : CLe C C') : ∀ {os : List IOper} {s r : St}, stepOps C os s = some r → stepOps C' os s = some r := by
  intro os
  induction os with
  | nil => intro s r hr; exact hr
  | cons o os ih =>
    intro s r hr
    simp only [stepOps] at hr ⊢
    cases ho : stepOp C o s with
    | none => simp [ho] at hr
    | some s1 => rw [ho] at hr; rw [stepOp_le h ho]; exact ih hr

theorem trace_le {C C' : CallF} (h : CLe C C') : ∀ {os : List IOper} {s : St} {r : List St}, trace C os s = some r → trace C' os s = some r := by
  intro os
  induction os with
  | nil => intro s r hr; exact hr
  | cons o os ih =>
    intro s r hr
    simp only [trace] at hr ⊢
    cases ho : stepOp C o s with
    | none => simp [ho] at hr
    | some s1 =>
      rw [ho] at hr; rw [stepOp_le h ho]
      simp only [Option.map_eq_some_iff] at hr ⊢
      obtain ⟨x, h1, h2⟩ := hr
      exact ⟨x, ih h1, h2⟩

theorem runD_le {C C' : CallF} (h : CLe C C') {os : List IOper} {cs : List (Nat × Nat)} {s r : St} (hr : runD C os cs s = some r) : runD C' os cs s = some r := by
  unfold runD at *
  cases ht : trace C os s with
  | none => simp [ht] at hr
  | some tr => rw [ht] at hr; rw [trace_le h ht]; exact hr

theorem iter_le {f f' : St → Option (AExit × St)} (h : ∀ s r, f s = some r → f' s = some r) : ∀ {n n' : Nat} {s : St} {r : AExit × St}, n ≤ n' → iter f n s = some r → iter f' n' s = some r := by
  intro n
  induction n with
  | zero => intro n' s r _ hr; simp [iter] at hr
  | succ n ih =>
    intro n' s r hle hr
    obtain ⟨k, rfl⟩ : ∃ k, n' = k + 1 := ⟨n' - 1, by omega⟩
    simp only [iter] at hr ⊢
    split at hr
    · rename_i s1 hs
      rw [h _ _ hs]
      exact ih (by omega) hr
    · rename_i hne
      cases hs : f s with
      | none => rw [hs] at hr; cases hr
      | some q =>
        rw [h _ _ hs]
        rw [hs] at hr
        obtain ⟨x, s1⟩ := q
        cases x with
        | normal => exact absurd hs (hne s1)
        | exit id => exact hr
        | ret => exact hr

theorem mapLoop_le {d0 d1 b : Nat} {it : Opd} {ks ls : List Nat} {f f' : St → Option (AExit × St)} (h : ∀ s r, f s = some r → f' s = some r) : ∀ {n n' : Nat} {s : St} {r : AExit × St}, n ≤ n' → mapLoop d0 d1 it b ks ls f n s = some r → mapLoop d0 d1 it b ks ls f' n' s = some r := by
  intro n
  induction n with
  | zero => intro n' s r _ hr; simp [mapLoop] at hr
  | succ n ih =>
    intro n' s r hle hr
    obtain ⟨k, rfl⟩ : ∃ k, n' = k + 1 := ⟨n' - 1, by omega⟩
    simp only [mapLoop] at hr ⊢
    split at hr
    · rename_i rr hit
      (try simp only [hit])
      split at hr
      · rename_i hg; (try simp only [hg]); exact hr
      · rename_i id since seen last hg
        (try simp only [hg])
        split at hr
        · rename_i es c hid
          (try simp only [hid])
          split at hr
          · rename_i hcs
            rw [if_pos hcs]
            split at hr
            · rename_i hnil; (try simp only [hnil]); exact hr
            · rename_i e0 rest hne
              (try simp only [hne])
              have key : ∀ (e : ME) (q : AExit × St), (match f { s with H := s.H.set rr (.miter (some id) since (e.2.2 :: seen) since), env := (d1, .bool true) :: (d0, .tuple [.bool true, e.1, e.2.1]) :: s.env } with
                  | some (.normal, s') => mapLoop d0 d1 it b ks ls f n s'
                  | some (x, s') => cleanA ks ls rr (if x = .exit b then .normal else x) s'
                  | none => none) = some q → (match f' { s with H := s.H.set rr (.miter (some id) since (e.2.2 :: seen) since), env := (d1, .bool true) :: (d0, .tuple [.bool true, e.1, e.2.1]) :: s.env } with
                  | some (.normal, s') => mapLoop d0 d1 it b ks ls f' k s'
                  | some (x, s') => cleanA ks ls rr (if x = .exit b then .normal else x) s'
                  | none => none) = some q := by
                intro e q hq
                cases hf : f { s with H := s.H.set rr (.miter (some id) since (e.2.2 :: seen) since), env := (d1, .bool true) :: (d0, .tuple [.bool true, e.1, e.2.1]) :: s.env } with
                | none => rw [hf] at hq; cases hq
                | some p =>
                  rw [h _ _ hf]
                  rw [hf] at hq
                  obtain ⟨x, s1⟩ := p
                  cases x with
                  | normal => exact ih (by omega) hq
                  | exit j => exact hq
                  | ret => exact hq
              obtain ⟨one', ho⟩ : ∃ one' : ME → Option (AExit × St), one' = fun (e : ME) => (match f' { s with H := s.H.set rr (.miter (some id) since (e.2.2 :: seen) since), env := (d1, .bool true) :: (d0, .tuple [.bool true, e.1, e.2.1]) :: s.env } with
                  | some (.normal, s') => mapLoop d0 d1 it b ks ls f' k s'
                  | some (x, s') => cleanA ks ls rr (if x = .exit b then .normal else x) s'
                  | none => none : Option (AExit × St)) := ⟨_, rfl⟩
              suffices hs : (match one' e0 with
                | some q => if rest.all (fun e' => match one' e' with | some q' => beqRes q q' | none => false) then some q else none
                | none => none) = some r by rw [ho] at hs; exact hs
              have key' : ∀ e q, _ → one' e = some q := fun e q hq => by rw [ho]; exact key e q hq
              split at hr
              · rename_i q hq
                rw [key' e0 q hq]
                simp only
                split at hr
                · rename_i hall
                  rw [if_pos]
                  · exact hr
                  · rw [List.all_eq_true] at hall ⊢
                    intro e he
                    have := hall e he
                    split at this
                    · rename_i q' hq'
                      rw [key' e q' hq']; exact this
                    · cases this
                · cases hr
              · cases hr
          · cases hr
        · cases hr
      · cases hr
    · cases hr

theorem evC_le {C C' : CallF} (h : CLe C C') : ∀ (ic : IC) {n n' : Nat} {s : St} {r : AExit × St}, n ≤ n' → evC C n ic s = some r → evC C' n' ic s = some r := by
  intro ic
  induction ic with
  | skip => intro n n' s r _ hr; exact hr
  | region os =>
    intro n n' s r _ hr
    simp only [evC, Option.map_eq_some_iff] at hr ⊢
    obtain ⟨x, h1, h2⟩ := hr
    exact ⟨x, stepOps_le h h1, h2⟩
  | regionD os cs =>
    intro n n' s r _ hr
    simp only [evC, Option.map_eq_some_iff] at hr ⊢
    obtain ⟨x, h1, h2⟩ := hr
    exact ⟨x, runD_le h h1, h2⟩
  | seq a b iha ihb =>
    intro n n' s r hle hr
    simp only [evC] at hr ⊢
    cases ha : evC C n a s with
    | none => rw [ha] at hr; cases hr
    | some q =>
      rw [iha hle ha]
      rw [ha] at hr
      obtain ⟨x, s1⟩ := q
      cases x with
      | normal => exact ihb hle hr
      | exit id => exact hr
      | ret => exact hr
  | cond c a b iha ihb =>
    intro n n' s r hle hr
    simp only [evC] at hr ⊢
    split at hr
    · exact iha hle hr
    · exact ihb hle hr
    · cases hr
  | block id b ih =>
    intro n n' s r hle hr
    simp only [evC] at hr ⊢
    cases hb : evC C n b s with
    | none => rw [hb] at hr; cases hr
    | some q => rw [ih hle hb]; rw [hb] at hr; exact hr
  | loop b ih =>
    intro n n' s r hle hr
    simp only [evC] at hr ⊢
    exact iter_le (fun s r hs => ih hle hs) hle hr
  | exit id => intro n n' s r _ hr; exact hr
  | ret => intro n n' s r _ hr; exact hr
  | rangeF f ps ia ib iha ihb =>
    intro n n' s r _ hr
    simp only [evC] at hr ⊢
    split at hr
    · rename_i g captured hev
      (try simp only [hev])
      split at hr
      · cases hr
      · rename_i hg
        rw [if_neg hg]
        rw [Option.bind_eq_some_iff] at hr ⊢
        obtain ⟨q, h1, h2⟩ := hr
        exact ⟨q, h _ _ _ _ h1, h2⟩
    · cases hr
  | mapR d0 d1 it b ks ls body ih =>
    intro n n' s r hle hr
    simp only [evC] at hr ⊢
    exact mapLoop_le (fun s r hs => ih hle hs) hle hr
  | stuck => intro n n' s r _ hr; simp [evC] at hr
  | keep ks ls c ih => intro n n' s r hle hr; exact ih hle hr

theorem runDfs_le {C C' : CallF} (h : CLe C C') : ∀ {ds : List Dfr} {H r : AHeap}, runDfs C ds H = some r → runDfs C' ds H = some r := by
  intro ds
  induction ds with
  | nil => intro H r hr; exact hr
  | cons d ds ih =>
    intro H r hr
    cases d with
    | mark id =>
      simp only [runDfs] at hr ⊢
      split at hr
      · rename_i hg; (try simp only [hg]); exact ih hr
      · cases hr
    | call g args captured =>
      simp only [runDfs] at hr ⊢
      rw [Option.bind_eq_some_iff] at hr ⊢
      obtain ⟨q, h1, h2⟩ := hr
      exact ⟨q, h _ _ _ _ h1, ih h2⟩

theorem leaveA_le {C C' : CallF} (h : CLe C C') {F : FnIR} {H0 : AHeap} {q : AExit × St} {r : AV × AHeap} (hr : leaveA C F H0 q = some r) : leaveA C' F H0 q = some r := by
  unfold leaveA at *
  split at hr
  · cases hr
  · rename_i x s hx
    simp only
    rw [Option.bind_eq_some_iff] at hr ⊢
    obtain ⟨q, h1, h2⟩ := hr
    exact ⟨q, runDfs_le h h1, h2⟩

theorem runY_le {C C' : CallF} (h : CLe C C') {n n' : Nat} (hle : n ≤ n') {args : List AV} {H : AHeap} {r : AV × AHeap} (hr : runY C n args H = some r) : runY C' n' args H = some r := by
  unfold runY at *
  split at hr
  · split at hr
    · rename_i hg
      (try simp only [hg])
      split at hr
      · rename_i hl
        rw [if_pos hl]
        split at hr
        · rename_i s1 h1
          rw [evC_le h _ hle h1]
          simp only
          split at hr
          · rename_i hg1
            (try simp only [hg1])
            rw [Option.bind_eq_some_iff] at hr ⊢
            obtain ⟨q, h2, h3⟩ := hr
            exact ⟨q, evC_le h _ hle h2, h3⟩
          · cases hr
        · cases hr
      · cases hr
    · cases hr
  · cases hr

theorem runF_le {C C' : CallF} (h : CLe C C') {n n' : Nat} (hle : n ≤ n') {F : FnIR} {args : List AV} {H : AHeap} {r : AV × AHeap} (hr : runF C n F args H = some r) : runF C' n' F args H = some r := by
  unfold runF at *
  split at hr
  · rename_i hl
    rw [if_pos hl]
    rw [Option.bind_eq_some_iff] at hr ⊢
    obtain ⟨q, h1, h2⟩ := hr
    exact ⟨q, evC_le h _ hle h1, leaveA_le h h2⟩
  · cases hr
theorem runFD_le {C C' : CallF} (h : CLe C C') {n n' : Nat} (hle : n ≤ n') {F : FnIR} {args : List AV} {H : AHeap} {r : AV × AHeap} (hr : runFD C n F args H = some r) : runFD C' n' F args H = some r := by
  unfold runFD at *
  split at hr
  · rename_i hl
    rw [if_pos hl]
    rw [Option.bind_eq_some_iff] at hr ⊢
    obtain ⟨q, h1, h2⟩ := hr
    exact ⟨q, evC_le h _ hle h1, h2⟩
  · cases hr

section
variable {T : FuncId → Option FnDef}

theorem evF_le : ∀ n, CLe (evF T n) (evF T (n + 1)) := by
  intro n
  induction n with
  | zero => intro g args H r h; simp [evF] at h
  | succ n ih =>
    intro g args H r h
    rw [evF] at h
    rw [evF]
    simp only at h ⊢
    split at h
    · rename_i hg; rw [if_pos hg]; exact runY_le ih (Nat.le_succ n) h
    · rename_i hg
      rw [if_neg hg]
      split at h
      · rename_i hd
        rw [if_pos hd]
        split at h
        · rename_i F hF; exact runFD_le ih (Nat.le_succ n) h
        · cases h
      · rename_i hd
        rw [if_neg hd]
        split at h
        · exact runF_le ih (Nat.le_succ n) h
        · exact h
        · exact h
        · cases h

noncomputable def call (T : FuncId → Option FnDef) : CallF := fun f args H => lim fun n => evF T n f args H
noncomputable def den (T : FuncId → Option FnDef) (ic : IC) (s : St) : Option (AExit × St) := lim fun n => evC (evF T n) n ic s
noncomputable def sop (T : FuncId → Option FnDef) (o : IOper) (s : St) : Option St := lim fun n => stepOp (evF T n) o s
noncomputable def sops (T : FuncId → Option FnDef) (os : List IOper) (s : St) : Option St := lim fun n => stepOps (evF T n) os s
noncomputable def traceT (T : FuncId → Option FnDef) (os : List IOper) (s : St) : Option (List St) := lim fun n => trace (evF T n) os s

theorem mono_call (f : FuncId) (args : List AV) (H : AHeap) : Mono fun n => evF T n f args H := fun n r h => evF_le n _ _ _ _ h
theorem mono_den (ic : IC) (s : St) : Mono fun n => evC (evF T n) n ic s := fun n r h => evC_le (evF_le n) ic (Nat.le_succ n) h
theorem mono_sop (o : IOper) (s : St) : Mono fun n => stepOp (evF T n) o s := fun n r h => stepOp_le (evF_le n) h
theorem mono_sops (os : List IOper) (s : St) : Mono fun n => stepOps (evF T n) os s := fun n r h => stepOps_le (evF_le n) h
theorem mono_trace (os : List IOper) (s : St) : Mono fun n => trace (evF T n) os s := fun n r h => trace_le (evF_le n) h
theorem call_iff {f : FuncId} {args : List AV} {H : AHeap} {r : AV × AHeap} : call T f args H = some r ↔ ∃ n, evF T n f args H = some r := lim_iff (mono_call f args H)
theorem den_iff {ic : IC} {s : St} {r : AExit × St} : den T ic s = some r ↔ ∃ n, evC (evF T n) n ic s = some r := lim_iff (mono_den ic s)

theorem lim_succ {α : Type} {g : Nat → Option α} (hg : Mono g) : lim (fun n => g (n + 1)) = lim g := by
  apply lim_ext; intro r
  rw [lim_iff (g := fun n => g (n + 1)) (fun n r h => hg _ _ h), lim_iff hg]
  exact ⟨fun ⟨n, h⟩ => ⟨n + 1, h⟩, fun ⟨n, h⟩ => ⟨n, hg _ _ h⟩⟩

/-- What a frame leaves. -/
noncomputable def leaveT (T : FuncId → Option FnDef) (F : FnIR) (H0 : AHeap) (r : AExit × St) : Option (AV × AHeap) := lim fun n => leaveA (evF T n) F H0 r
def leave0 (F : FnIR) (H0 : AHeap) (r : AExit × St) : Option (AV × AHeap) :=
  match r with
  | (.exit _, _) => none
  | (_, s) => match rvs s F.results with
    | some vs => if allNoL vs then some (packA vs, fin H0 (packA vs) s.H) else none
    | none => none
theorem leaveT_0 {F : FnIR} {H0 : AHeap} {r : AExit × St} (h : r.2.H.dfs = []) : leaveT T F H0 r = leave0 F H0 r := by
  obtain ⟨x, s⟩ := r
  obtain ⟨e, l, H⟩ := s
  obtain ⟨t, n, low, dfs⟩ := H
  simp only at h
  subst h
  unfold leaveT
  have : (fun k => leaveA (evF T k) F H0 (x, ⟨e, l, ⟨t, n, low, []⟩⟩)) = fun _ => leave0 F H0 (x, ⟨e, l, ⟨t, n, low, []⟩⟩) := by
    funext k
    cases x <;> rfl
  rw [this, lim_const]

theorem call_ir {f : FuncId} {F : FnIR} (hF : T f = some (.ir F)) (hf : f < yieldF) (args : List AV) (H : AHeap) : call T f args H = if args.length = F.nargs then (den T F.body (enterA args H)).bind (leaveT T F H) else none := by
  unfold call
  rw [← lim_succ (mono_call f args H)]
  have hd : ¬ deferF ≤ f := fun h => absurd (Nat.lt_of_lt_of_le hf (Nat.le_trans (show yieldF ≤ deferF by decide) h)) (Nat.lt_irrefl _)
  have : (fun n => evF T (n + 1) f args H) = fun n => if args.length = F.nargs then (evC (evF T n) n F.body (enterA args H)).bind (leaveA (evF T n) F H) else none := by
    funext n
    rw [evF]
    simp only [hF, runF]
    rw [if_neg (Nat.ne_of_lt hf), if_neg hd]
  rw [this]
  split
  · exact lim_bind (f := fun n r => leaveA (evF T n) F H r) (mono_den F.body _) (fun a n r h => leaveA_le (evF_le n) h)
  · exact lim_const none

theorem call_prim {f : FuncId} {g : List AV → AHeap → Option (AV × AHeap)} (hF : T f = some (.prim g)) (hf : f < yieldF) (args : List AV) (H : AHeap) : call T f args H = keepD (g args H) H := by
  unfold call
  rw [← lim_succ (mono_call f args H)]
  have hd : ¬ deferF ≤ f := fun h => absurd (Nat.lt_of_lt_of_le hf (Nat.le_trans (show yieldF ≤ deferF by decide) h)) (Nat.lt_irrefl _)
  have : (fun n => evF T (n + 1) f args H) = fun n => keepD (g args H) H := by
    funext n
    rw [evF]
    simp only [hF]
    rw [if_neg (Nat.ne_of_lt hf), if_neg hd]
  rw [this, lim_const]

theorem callR_lim (f : AV) (vs : List AV) (H : AHeap) : (lim fun n => callR (evF T n) f vs H) = callR (call T) f vs H := by
  unfold callR
  split
  · split
    · rfl
    · exact lim_const none
  · split
    · rfl
    · exact lim_const none
  · exact lim_const none

/-- An operation. -/
theorem sop_eq (o : IOper) (s : St) : sop T o s = stepOp (call T) o s := by
  unfold sop
  obtain ⟨dst, op, g⟩ := o
  unfold stepOp
  cases hw : wantedA s g with
  | none => simp only [lim_const]
  | some b =>
    cases b
    · simp only [lim_const]
    · simp only
      cases op
      case call f args =>
        simp only
        split
        · rename_i k vs h1 h2
          have hm : Mono fun n => callR (evF T n) k vs s.H := fun n r h => callR_mono (evF_le n) h
          have := lim_bind (g := fun n => callR (evF T n) k vs s.H) (f := fun _ (r : AV × AHeap) => some (({ s with H := r.2 } : St).put dst r.1)) hm (fun _ => .const _)
          simp only [lim_const] at this
          simp only [Option.map_eq_bind, Function.comp_def]
          rw [← callR_lim]
          exact this
        · exact lim_const none
      all_goals exact lim_const _

theorem sops_nil (s : St) : sops T [] s = some s := lim_const _
theorem sops_cons (o : IOper) (os : List IOper) (s : St) : sops T (o :: os) s = (stepOp (call T) o s).bind (sops T os) := by
  rw [← sop_eq]
  exact lim_bind (mono_sop o s) (fun a => mono_sops os a)

theorem trace_nil (s : St) : traceT T [] s = some [s] := lim_const _
theorem trace_cons (o : IOper) (os : List IOper) (s : St) : traceT T (o :: os) s = (stepOp (call T) o s).bind fun s' => (traceT T os s').map (s :: ·) := by
  rw [← sop_eq]
  have : (fun n => trace (evF T n) (o :: os) s) = fun n => (stepOp (evF T n) o s).bind fun s' => (trace (evF T n) os s').bind fun l => some (s :: l) := by
    funext n
    simp only [trace]
    cases stepOp (evF T n) o s with
    | none => rfl
    | some s' => simp [Option.map_eq_bind, Function.comp_def]
  unfold traceT
  rw [this, lim_bind (f := fun n s' => (trace (evF T n) os s').bind fun l => some (s :: l)) (mono_sop o s) (fun a => (mono_trace os a).bind fun _ => .const _)]
  unfold sop
  congr 1
  funext s'
  rw [lim_bindC _ (mono_trace os s')]
  simp only [Option.map_eq_bind, Function.comp_def]

theorem den_skip (s : St) : den T .skip s = some (.normal, s) := lim_const _
theorem den_exit (id : Nat) (s : St) : den T (.exit id) s = some (.exit id, s) := lim_const _
theorem den_ret (s : St) : den T .ret s = some (.ret, s) := lim_const _
theorem den_keep (ks ls : List Nat) (c : IC) (s : St) : den T (.keep ks ls c) s = den T c { s with env := prune ks s.env, loc := prune ls s.loc } := rfl

theorem den_region (os : List IOper) (s : St) : den T (.region os) s = (sops T os s).map fun s' => (.normal, s') := by
  have := lim_bind (g := fun n => stepOps (evF T n) os s) (f := fun _ (r : St) => some (AExit.normal, r)) (mono_sops _ _) (fun _ => .const _)
  simp only [lim_const] at this
  unfold den sops
  simp only [evC, Option.map_eq_bind, Function.comp_def]
  exact this

theorem den_regionD (os : List IOper) (cs : List (Nat × Nat)) (s : St) :
    den T (.regionD os cs) s = (traceT T os s).bind fun tr => if drawCond os cs s tr then (tr.getLast?).map fun s' => (.normal, s') else none := by
  have : (fun n => evC (evF T n) n (.regionD os cs) s) = fun n => (trace (evF T n) os s).bind fun tr => if drawCond os cs s tr then (tr.getLast?).map fun s' => (AExit.normal, s') else none := by
    funext n
    simp only [evC, runD]
    cases trace (evF T n) os s with
    | none => rfl
    | some tr => simp only [Option.bind_some]; split <;> simp_all
  unfold den
  rw [this, lim_bindC _ (mono_trace os s)]
  rfl

def goOn (r : AExit × St) (k : St → Option (AExit × St)) : Option (AExit × St) :=
  match r with
  | (.normal, s) => k s
  | r => some r

theorem den_seq (a b : IC) (s : St) : den T (.seq a b) s = (den T a s).bind fun r => goOn r (den T b) := by
  have : (fun n => evC (evF T n) n (.seq a b) s) = fun n => (evC (evF T n) n a s).bind fun r => goOn r (evC (evF T n) n b) := by
    funext n
    simp only [evC]
    cases evC (evF T n) n a s with
    | none => rfl
    | some r =>
      obtain ⟨x, s1⟩ := r
      cases x <;> rfl
  unfold den
  rw [this]
  have hm : ∀ r : AExit × St, Mono fun n => goOn r (evC (evF T n) n b) := by
    rintro ⟨x, s1⟩
    cases x
    · exact mono_den b s1
    · exact .const _
    · exact .const _
  rw [lim_bind (f := fun n r => goOn r (evC (evF T n) n b)) (mono_den a s) hm]
  congr 1
  funext r
  obtain ⟨x, s1⟩ := r
  cases x
  · rfl
  · exact lim_const _
  · exact lim_const _

theorem den_cond (c : Opd) (a b : IC) (s : St) : den T (.cond c a b) s = match c.ev s.env with
    | some (.bool true) => den T a s
    | some (.bool false) => den T b s
    | _ => none := by
  unfold den
  simp only [evC]
  cases c.ev s.env with
  | none => exact lim_const none
  | some v =>
    cases v with
    | bool b => cases b <;> rfl
    | _ => exact lim_const none

def outBlock (id : Nat) (r : AExit × St) : AExit × St :=
  match r with
  | (.exit j, s) => if j = id then (.normal, s) else (.exit j, s)
  | r => r

theorem den_block (id : Nat) (b : IC) (s : St) : den T (.block id b) s = (den T b s).map (outBlock id) := by
  have : (fun n => evC (evF T n) n (.block id b) s) = fun n => (evC (evF T n) n b s).bind fun r => some (outBlock id r) := by
    funext n
    simp only [evC]
    cases evC (evF T n) n b s with
    | none => rfl
    | some r =>
      obtain ⟨x, s1⟩ := r
      cases x
      · rfl
      · simp only [Option.bind_some, outBlock]; split <;> rfl
      · rfl
  unfold den
  rw [this, lim_bindC _ (mono_den b s)]
  simp only [Option.map_eq_bind, Function.comp_def]

/-- A loop: a round, then the loop again. -/
theorem den_loop (b : IC) (s : St) : den T (.loop b) s = (den T b s).bind fun r => goOn r (den T (.loop b)) := by
  apply lim_ext; intro r
  constructor
  · intro h
    obtain ⟨n, hn⟩ := den_iff.1 h
    simp only [evC] at hn
    cases n with
    | zero => simp [iter] at hn
    | succ n =>
      simp only [iter] at hn
      cases hb : evC (evF T (n + 1)) (n + 1) b s with
      | none => rw [hb] at hn; cases hn
      | some q =>
        rw [hb] at hn
        rw [den_iff.2 ⟨n + 1, hb⟩]
        obtain ⟨x, s1⟩ := q
        cases x with
        | normal =>
          simp only [Option.bind_some, goOn]
          refine den_iff.2 ⟨n + 1, ?_⟩
          simp only [evC]
          exact iter_le (fun _ _ h => h) (Nat.le_succ n) hn
        | exit id => exact hn
        | ret => exact hn
  · intro h
    cases hb : den T b s with
    | none => simp [hb] at h
    | some q =>
      rw [hb] at h
      obtain ⟨n, hn⟩ := den_iff.1 hb
      obtain ⟨x, s1⟩ := q
      cases x with
      | normal =>
        simp only [Option.bind_some, goOn] at h
        obtain ⟨k, hk⟩ := den_iff.1 h
        refine den_iff.2 ⟨max n k + 1, ?_⟩
        simp only [evC] at hk ⊢
        have h1 : evC (evF T (max n k + 1)) (max n k + 1) b s = some (.normal, s1) := (mono_den b s).le (by omega) hn
        simp only [iter, h1]
        refine iter_le (fun s' r' hs => ?_) (Nat.le_max_right n k) hk
        exact (mono_den b s').le (by omega) hs
      | exit id =>
        refine den_iff.2 ⟨n + 1, ?_⟩
        have h1 : evC (evF T (n + 1)) (n + 1) b s = some (.exit id, s1) := (mono_den b s).le (by omega) hn
        simp only [evC, iter, h1]
        exact h
      | ret =>
        refine den_iff.2 ⟨n + 1, ?_⟩
        have h1 : evC (evF T (n + 1)) (n + 1) b s = some (.ret, s1) := (mono_den b s).le (by omega) hn
        simp only [evC, iter, h1]
        exact h

end
end Go.Wam
