/- The abstract machine: slices.Sort at texts, by what it answers. No condition. -/
import Derived.Test.YtdnnpgmekbnlbaaAmV
import Derived.Sort.Grow
import Derived.Sort.EncStr
set_option linter.unusedVariables false
set_option linter.unusedSimpArgs false
namespace Go.Wam

def strs : List AV → Option (List (List UInt8))
  | [] => some []
  | .str s :: r => (strs r).map (s :: ·)
  | _ => none
theorem strs_eq : ∀ {l : List AV} {ss : List (List UInt8)}, strs l = some ss → l = ss.map AV.str
  | [], ss, h => by cases h; rfl
  | .str s :: r, ss, h => by
    simp only [strs, Option.map_eq_some_iff] at h
    obtain ⟨t, h1, rfl⟩ := h
    rw [strs_eq h1]; rfl
  | .bool _ :: _, _, h | .int .. :: _, _, h | .nilp :: _, _, h | .ptr .. :: _, _, h | .lptr .. :: _, _, h | .nils :: _, _, h | .slice .. :: _, _, h | .oslice .. :: _, _, h | .eslice .. :: _, _, h | .xslice .. :: _, _, h
  | .nilm :: _, _, h | .map _ :: _, _, h | .func .. :: _, _, h | .nilFunc :: _, _, h | .iface .. :: _, _, h | .nilIface :: _, _, h | .agg _ :: _, _, h | .tuple _ :: _, _, h => by simp [strs] at h
theorem strs_map (ss : List (List UInt8)) : strs (ss.map AV.str) = some ss := by
  induction ss with
  | nil => rfl
  | cons s ss ih => simp [strs, ih]

/-- In order. -/
def srt (ss : List (List UInt8)) : List (List UInt8) := ss.mergeSort fun x y => decide (x ≤ y)
theorem srt_len (ss : List (List UInt8)) : (srt ss).length = ss.length := by unfold srt; exact List.length_mergeSort _

/-- What slices.Sort does. -/
def sortG : List AV → AHeap → Option (AV × AHeap)
  | [.nils], H => some (.tuple [], H)
  | [.slice _ _ len _], H => if len = 0 then some (.tuple [], H) else none
  | [.oslice id off len kc sz], H =>
    if len = 0 then some (.tuple [], H) else
    if off = 0 ∧ sz = 1 ∧ len < 4611686018427387904 then
      match H.get id with
      | some (.row false e cells) => if len ≤ cells.length then (strs (cells.take len)).map fun ss => (.tuple [], H.set id (.row false e ((srt ss).map AV.str ++ cells.drop len))) else none
      | _ => none
    else none
  | _, _ => none

def SortSome (P : Program) (f : FuncId) : Prop := ∀ (blk off cap : Nat) (ss : List (List UInt8)) (w : World), Go.Sort.Holds Go.Proofs.encStr w blk off ss.toArray → blk < w.heap.size → ss.length < 4611686018427387904 →
  Calls P f #[.slice (some ⟨blk, off, none⟩) ss.length cap] w fun e w' => e = .returned (.tuple #[]) ∧ ∃ n os, w' = Go.Sort.grow (Go.Sort.putRow Go.Proofs.encStr (Go.Sort.ahead w n) blk off (ss.mergeSort fun x y => decide (x ≤ y)).toArray) os
def SortNone (P : Program) (f : FuncId) : Prop := ∀ (p : Option Addr) (cap : Nat) (w : World), Calls P f #[.slice p 0 cap] w fun e w' => e = .returned (.tuple #[]) ∧ w' = w

section
variable {P : Program} {f : FuncId} {m : Nat → Loc} {ml : Nat → Nat} {loc : List (Nat × List AV)} {H : AHeap} {w : World}

theorem Sim.grow (S : Sim m ml loc H w) (os : Array Obj) : Sim m ml loc H (Go.Sort.grow w os) ∧ Grow m ml loc H w m ml loc H (Go.Sort.grow w os) := by
  have hk : ∀ b, b < w.heap.size → (Go.Sort.grow w os).heap[b]? = w.heap[b]? := fun b hb => by
    show (w.heap ++ os)[b]? = _
    rw [Array.getElem?_append_left hb]
  refine ⟨S.frame fun b hb => hk b (S.used_lt hb), ⟨Nat.le_refl _, fun _ _ => rfl, ?_, rfl, rfl, rfl, fun b hb _ _ => hk b hb, fun id h => .inl ⟨id, h, rfl⟩, fun t c h => .inl ⟨c, h, rfl⟩, Nat.le_refl _, fun _ _ _ => rfl, fun _ h => h⟩⟩
  show w.heap.size ≤ (w.heap ++ os).size
  rw [Array.size_append]; omega

theorem put_wrote {blk off n : Nat} {d : Array (List UInt8)} {arr : Array Value} (h : Unfrozen w blk arr) :
    Wrote w (Go.Sort.putRow Go.Proofs.encStr (Go.Sort.ahead w n) blk off d) blk ∧ Unfrozen (Go.Sort.putRow Go.Proofs.encStr (Go.Sort.ahead w n) blk off d) blk (Go.Sort.putCells Go.Proofs.encStr off d arr) := by
  obtain ⟨ty, fr, h1, h2⟩ := h
  refine ⟨⟨fun x hx => ?_, by simp [Go.Sort.putRow, Go.Sort.mapBlock, Go.Sort.ahead], rfl, rfl, rfl⟩, ty, fr, ?_, ?_⟩
  · simp [Go.Sort.putRow, Go.Sort.mapBlock, Go.Sort.ahead, Array.getElem?_modify, Ne.symm hx]
  · simp [Go.Sort.putRow, Go.Sort.mapBlock, Go.Sort.ahead, Array.getElem?_modify, h1, Go.Sort.onCells]
  · intro i hi
    refine h2 i ?_
    simpa [Go.Sort.putCells] using hi

theorem sort_trip (hF : FOk P f) (hs : SortSome P f) (hn : SortNone P f) : ∀ args H v H', sortG args H = some (v, H') → ATrip P f args H v H' := by
  intro args H v H' h
  have same : ∀ a : AV, args = [a] → v = .tuple [] → H' = H → (∀ m : Nat → Loc, ∃ p cap, conc m ml0 a = .slice p 0 cap) → ATrip P f args H v H' := by
    rintro a rfl rfl rfl hc
    refine ⟨hF, Nat.le_refl _, fun m w S _ => ?_⟩
    obtain ⟨p, cap, e⟩ := hc m
    have : (concL m ml0 [a]).toArray = #[.slice p 0 cap] := by simp only [concL, e]
    rw [this]
    refine (hn p cap w).mono ?_
    rintro _ _ ⟨rfl, rfl⟩
    exact ⟨m, rfl, S, .refl _ _ _ _ _, trivial⟩
  match args, h with
  | [.nils], h => cases h; exact same _ rfl rfl rfl fun m => ⟨none, 0, rfl⟩
  | [.slice id off len c], h =>
    simp only [sortG] at h
    split at h
    · rename_i h0; subst h0; cases h; exact same _ rfl rfl rfl fun m => ⟨_, _, rfl⟩
    · cases h
  | [.oslice id off len kc sz], h =>
    simp only [sortG] at h
    split at h
    · rename_i h0; subst h0; cases h; exact same _ rfl rfl rfl fun m => ⟨_, _, rfl⟩
    · split at h
      · rename_i hc
        obtain ⟨rfl, rfl, hlen⟩ := hc
        split at h
        · rename_i e cells hg
          split at h
          · rename_i hle
            rw [Option.map_eq_some_iff] at h
            obtain ⟨ss, h1, h2⟩ := h
            cases h2
            have hss := strs_eq h1
            have hsl : ss.length = len := by
              have := congrArg List.length hss
              rw [List.length_take, List.length_map] at this; omega
            refine ⟨hF, Nat.le_refl _, fun m w S _ => ?_⟩
            obtain ⟨arr, u1, u2, u3, u4⟩ := S.obj id _ hg
            have hcell : ∀ j, j < len → cells[j]? = (ss[j]?).map AV.str := fun j hj => by
              have := congrArg (fun l => l[j]?) hss
              simp only [List.getElem?_take, hj, if_true, List.getElem?_map] at this
              exact this
            have hH : Go.Sort.Holds Go.Proofs.encStr w (m id).block (m id).base ss.toArray := by
              intro j hj
              have hj' : j < ss.length := by simpa using hj
              have hc := hcell j (by omega)
              rw [List.getElem?_eq_getElem hj'] at hc
              refine ⟨?_, ?_⟩
              · rw [u1.cell, u4 j _ hc]
                simp [conc, Go.Proofs.encStr, hj']
              · obtain ⟨ty, fr, f1, f2⟩ := u1
                have hlt : (m id).base + j < arr.size := by omega
                have := f2 _ hlt
                simp [World.frozen?, f1]
                omega
            have hargs : (concL m ml0 [.oslice id 0 len kc 1]).toArray = #[.slice (some ⟨(m id).block, (m id).base, none⟩) ss.length (((m id).room - 0) / 1)] := by
              simp [concL, conc, Loc.at, hsl]
            rw [hargs]
            refine (hs _ _ _ ss w hH u1.lt (by omega)).mono ?_
            rintro _ _ ⟨rfl, n, os, rfl⟩
            obtain ⟨w1, w2⟩ := put_wrote (n := n) (off := (m id).base) (d := (srt ss).toArray) u1
            have hsz := srt_len ss
            have hrow : RowAt m ml0 (Go.Sort.putRow Go.Proofs.encStr (Go.Sort.ahead w n) (m id).block (m id).base (srt ss).toArray) (m id) ((srt ss).map AV.str ++ cells.drop len) := by
              refine ⟨_, w2, by simpa [Go.Sort.putCells] using u2, ?_, fun i v hv => ?_⟩
              · rw [List.length_append, List.length_map, List.length_drop]; omega
              · have hpc : ∀ k, (Go.Sort.putCells Go.Proofs.encStr (m id).base (srt ss).toArray arr)[k]? = (arr[k]?).map fun x => if (m id).base ≤ k ∧ k < (m id).base + (srt ss).toArray.size then Go.Proofs.encStr (srt ss).toArray[k - (m id).base]! else x := fun k => by
                  simp [Go.Sort.putCells]
                rw [hpc]
                by_cases hi : i < len
                · have hi2 : i < (srt ss).length := by omega
                  rw [List.getElem?_append_left (by rw [List.length_map]; omega), List.getElem?_map, List.getElem?_eq_getElem hi2] at hv
                  cases hv
                  have ha : (m id).base + i < arr.size := by omega
                  rw [Array.getElem?_eq_getElem ha, Option.map_some, if_pos ⟨by omega, by simp; omega⟩]
                  simp [conc, Go.Proofs.encStr, hi2]
                · rw [List.getElem?_append_right (by rw [List.length_map]; omega), List.length_map, List.getElem?_drop, show len + (i - (srt ss).length) = i by omega] at hv
                  rw [u4 i v hv, Option.map_some, if_neg (by simp; omega)]
            have S1 := S.set_obj (o' := .row false e ((srt ss).map AV.str ++ cells.drop len)) hg rfl hrow ?_ rfl w1.other
            · have G1 := Grow.of_set (ml := ml0) (loc := []) (o' := .row false e ((srt ss).map AV.str ++ cells.drop len)) S.wf hg rfl rfl w1
              obtain ⟨S2, G2⟩ := S1.grow os
              exact ⟨m, rfl, S2, G1.trans G2, trivial⟩
            · obtain ⟨k1, k2⟩ := S.ok id _ hg
              rw [okPL_iff] at k1
              rw [List.all_eq_true] at k2
              refine ⟨(okPL_iff _ _).2 fun v hv => ?_, List.all_eq_true.2 fun v hv => ?_⟩
              · rcases List.mem_append.1 hv with hv | hv
                · obtain ⟨s, _, rfl⟩ := List.mem_map.1 hv; trivial
                · exact k1 v (List.mem_of_mem_drop hv)
              · rcases List.mem_append.1 hv with hv | hv
                · obtain ⟨s, _, rfl⟩ := List.mem_map.1 hv; rfl
                · exact k2 v (List.mem_of_mem_drop hv)
          · cases h
        · cases h
      · cases h
  | [], h | _ :: _ :: _, h | [.bool _], h | [.int ..], h | [.str _], h | [.nilp], h | [.ptr ..], h | [.lptr ..], h | [.eslice ..], h | [.xslice ..], h | [.nilm], h | [.map _], h | [.func ..], h | [.nilFunc], h | [.iface ..], h | [.nilIface], h | [.agg _], h | [.tuple _], h => simp [sortG] at h
end
end Go.Wam
