/- What latches' claims tell of one another. No condition. -/
import Derived.Test.YtglfchdpcididaaC11S05
import Derived.Test.YtglfchdpcididaaAmV
set_option linter.unusedVariables false
set_option linter.unusedSimpArgs false
namespace Go.Proofs.Ytglfchdpcididaa
open Go.Wam

attribute [local simp] den_seq den_region den_regionD0 den_regionD1 den_condB condB_bool den_block den_keep den_ret den_skip den_exit sops_cons sops_nil sopsR_cons sopsR_nil goR_eq readOk trace_cons trace_nil Opd.ev evs Go.Wam.look St.put enterA zipI leaveR_ret leaveR_normal rvs RV.ev
  st_guard guardB_bool st_move st_pick pickB_bool st_allocL st_alloc st_boxL st_box st_build st_buildSlice st_load st_store st_nilCheck nilC st_bin st_un st_convI convI st_convS convS st_convB convB st_mkIface st_mkFunc st_mkMap st_mkSlice mkSl st_slice st_fieldAddr fldA st_field fldV st_idx idxS_slice idxS_oslice st_idxArr idxArr st_idxStr idxStr st_idxAgg idxAgg st_extract extA st_call callA_func st_len st_lenStr lenStr st_lenArr st_lenMap st_append st_clear clearV st_maxs st_mins
  load_ptr load_lptr storeA rd wr goOn_normal goOn_exit goOn_ret outBlock_normal outBlock_exit outBlock_ret prune freeL_nil freeL_cons frV_lptr frV_tuple frV_noL fillA allNoL packA unA checkAt ev_load wantedA beq_same beqL_same AV.beq AV.beqL drawCond freshD readsOk isRead undefA optInt optIntO
  strOp aeqF_nil aeqF_cons andA_some i_add i_sub i_mul i_lss i_leq i_gtr i_geq i_quo i_rem i_eql i_neq s_eql s_neq s_lss
  s_leq s_gtr s_geq s_add e_bool n_bool e_nilp n_nilp e_ptr n_ptr e_lptr n_lptr e_agg n_agg
  e_nils n_nils e_slice n_slice e_oslice n_oslice e_eslice n_eslice e_xslice n_xslice e_nilm n_nilm e_map n_map
  e_nilFunc n_nilFunc e_func n_func q_int q_bool q_str q_struct q_ptr0 q_ptrL0 q_ptrR0 q_ptrL1 q_ptrR1 q_slice0
  q_sliceL0 q_sliceR0 q_sliceL1 q_sliceR1 q_sliceL2 q_sliceR2 q_sliceL3 q_sliceR3 q_map0 q_mapL0 q_mapR0 q_func0 q_funcL0 q_funcR0
  okR_some guardB_tuple get_alloc_eq rdAt_alloc_eq set_alloc_eq set_alloc_ne get_alloc_ne rdAt_alloc_ne
abbrev Sp := List UInt8 × List UInt8
def rowSp (s : Sp) : List AV := [.str s.1, .str s.2]
def spOf : List AV → Sp
  | [.str f, .str t] => (f, t)
  | _ => ([], [])
theorem spOf_row (s : Sp) : spOf (rowSp s) = s := rfl
def SmallS (s : Sp) : Prop := Small s.1 ∧ Small s.2
def meetS (a b : Sp) : Bool := meetB a.1 a.2 b.1 b.2
/-- Do two claims collide? -/
def collB (x : List Sp) (w : Bool) (y : List Sp) (w' : Bool) : Bool := (w || w') && x.any fun a => y.any (meetS a)
def maxL : Nat := 9223372036854775807

/-- A list of spans, as it stands. -/
structure Sps (H : AHeap) (v : AV) (x : List Sp) : Prop where
  view : View H 2 v (x.map rowSp)
  small : ∀ s ∈ x, SmallS s
  len : x.length < maxL

theorem Sps.chg {F : List Nat} {H K : AHeap} {v : AV} {x : List Sp} (hw : H.wf) (h : Sps H v x) (c : Chg F H K) (hf : 0 < x.length → sid v ∉ F) : Sps K v x :=
  ⟨h.view.chg hw c (by simpa using hf), h.small, h.len⟩
theorem Sps.alloc {H : AHeap} {v : AV} {x : List Sp} (hw : H.wf) (h : Sps H v x) (o : AObj) : Sps (H.alloc o) v x := ⟨h.view.alloc hw o, h.small, h.len⟩
theorem Sps.top {H : AHeap} {v : AV} {x : List Sp} (h : Sps H v x) : Sps H.top v x := ⟨h.view.top, h.small, h.len⟩

/-- ContainsFunc over spans. -/
theorem sContains {H : AHeap} {v : AV} {x : List Sp} (h : Sps H v x) {g : FuncId} {fs cap : List AV} (p : Sp → Bool) (hp : ∀ s ∈ x, call T g (fs ++ (.agg (rowSp s) :: cap)) H.top = some (.bool (p s), H.top)) :
    call T 54 [v, .func (.func g) fs cap] H = some (.bool (x.any p), H) := by
  have e := containsFunc (T := T) (agg := true) (p := fun r => p (spOf r)) T54 T68 (by omega) (by simp) h.view (by have := h.len; simp only [maxL] at this; rw [List.length_map]; exact this) (g := g) (fs := fs) (cap := cap) (H := H)
    (fun r hr => by
      obtain ⟨s, hs, rfl⟩ := List.mem_map.1 hr
      rw [spOf_row]; exact hp s hs) (fun r hr => rfl) h.view.noL
  rw [e, List.any_map]
  rfl

theorem s71 {H : AHeap} {a : Nat} {s t : Sp} (hs : SmallS s) (ht : SmallS t) (ha : H.get a = some (.row false 2 (rowSp s))) :
    call T 71 [.agg (rowSp t), .ptr a 0] H = some (.bool (meetS s t), H) := by
  rw [call_at (show T 71 = some (.ir ⟨_, _, _, _, _⟩) from T71)]
  have e := sMeet hs.1 hs.2 ht.1 ht.2
  simp -implicitDefEqProofs [rowSp, rdAt_row ha, e, fin_pure, meetS]

def clObj (n : Int) (xv : AV) (w : Bool) (ah : Int) : AObj := .row false 4 [.int .i64 n, xv, .bool w, .int .i64 ah]

theorem s70 {H : AHeap} (hok : H.ok) {b o : Nat} {s : Sp} {n ah : Int} {yv : AV} {w : Bool} {y : List Sp} (hs : SmallS s) (hb : H.get b = some (.row false 1 [.ptr o 0])) (ho : H.get o = some (clObj n yv w ah)) (hy : Sps H yv y) :
    call T 70 [.agg (rowSp s), .ptr b 0] H = some (.bool (y.any (meetS s)), H) := by
  rw [call_at (show T 70 = some (.ir ⟨_, _, _, _, _⟩) from T70)]
  have hw : H.top.wf := hok.1
  have e := sContains (hy.top.alloc hw (.row false 2 (rowSp s))) (g := 71) (fs := []) (cap := [.ptr H.n 0]) (meetS s) (fun t ht => s71 hs (hy.small t ht) (get_alloc_same H.top _))
  have hb' := rdAt_alloc_of (H := H.top) (x := .row false 2 (rowSp s)) hw hb
  have ho' := rdAt_alloc_of (H := H.top) (x := .row false 2 (rowSp s)) hw ho
  have hn := hy.view.noL
  simp only [rowSp] at e hb' ho' ⊢
  simp -implicitDefEqProofs [e, hb', ho', hn, fin_drop]

theorem sCollide {H : AHeap} (hok : H.ok) {c o : Nat} {n ah n' ah' : Int} {xv yv : AV} {w w' : Bool} {x y : List Sp} (hc : H.get c = some (clObj n xv w ah)) (hx : Sps H xv x) (ho : H.get o = some (clObj n' yv w' ah')) (hy : Sps H yv y) :
    call T 58 [.ptr c 0, .ptr o 0] H = some (.bool (collB x w y w'), H) := by
  rw [call_at (show T 58 = some (.ir ⟨_, _, _, _, _⟩) from T58)]
  have hw : H.top.wf := hok.1
  have hok' : (H.top.alloc (.row false 1 [.ptr o 0])).top.ok := AHeap.ok.top (AHeap.wf_alloc hw)
  have e := sContains (hx.top.alloc hw (.row false 1 [.ptr o 0])) (g := 70) (fs := []) (cap := [.ptr H.n 0]) (fun a => y.any (meetS a))
    (fun t ht => s70 hok' (hx.small t ht) (get_alloc_same H.top _) (get_alloc_of (H := H.top) hw ho) (hy.top.alloc hw _).top)
  have hc' := rdAt_alloc_of (H := H.top) (x := .row false 1 [.ptr o 0]) hw hc
  have ho' := rdAt_alloc_of (H := H.top) (x := .row false 1 [.ptr o 0]) hw ho
  have hn := hx.view.noL
  cases w with
  | true => simp -implicitDefEqProofs [e, hc', ho', hn, fin_drop, collB]
  | false =>
    cases w' with
    | true => simp -implicitDefEqProofs [e, hc', ho', hn, fin_drop, collB]
    | false => simp -implicitDefEqProofs [e, hc', ho', hn, fin_drop, collB]
end Go.Proofs.Ytglfchdpcididaa
