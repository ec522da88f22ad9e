/- What is asked of the program as a whole: its types. No condition. -/
import Derived.Test.YtpdmmpajjdaebaaGreatAmFacts
import Derived.Test.YtpdmmpajjdaebaaGreatRows
import Derived.KernelRfl
set_option linter.unusedVariables false
set_option maxRecDepth 100000
namespace Go.Proofs.YtpdmmpajjdaebaaGreat
open Go.Wam
theorem laidN : Tryz.prog.types.size = 709 := by kernel_rfl
theorem laid0 : (List.range' (60 * 0) 60).all (fun t => decide (709 ≤ t) || rowFine Tryz.prog t) = true := by kernel_rfl
theorem laid1 : (List.range' (60 * 1) 60).all (fun t => decide (709 ≤ t) || rowFine Tryz.prog t) = true := by kernel_rfl
theorem laid2 : (List.range' (60 * 2) 60).all (fun t => decide (709 ≤ t) || rowFine Tryz.prog t) = true := by kernel_rfl
theorem laid3 : (List.range' (60 * 3) 60).all (fun t => decide (709 ≤ t) || rowFine Tryz.prog t) = true := by kernel_rfl
theorem laid4 : (List.range' (60 * 4) 60).all (fun t => decide (709 ≤ t) || rowFine Tryz.prog t) = true := by kernel_rfl
theorem laid5 : (List.range' (60 * 5) 60).all (fun t => decide (709 ≤ t) || rowFine Tryz.prog t) = true := by kernel_rfl
theorem laid6 : (List.range' (60 * 6) 60).all (fun t => decide (709 ≤ t) || rowFine Tryz.prog t) = true := by kernel_rfl
theorem laid7 : (List.range' (60 * 7) 60).all (fun t => decide (709 ≤ t) || rowFine Tryz.prog t) = true := by kernel_rfl
theorem laid8 : (List.range' (60 * 8) 60).all (fun t => decide (709 ≤ t) || rowFine Tryz.prog t) = true := by kernel_rfl
theorem laid9 : (List.range' (60 * 9) 60).all (fun t => decide (709 ≤ t) || rowFine Tryz.prog t) = true := by kernel_rfl
theorem laid10 : (List.range' (60 * 10) 60).all (fun t => decide (709 ≤ t) || rowFine Tryz.prog t) = true := by kernel_rfl
theorem laid11 : (List.range' (60 * 11) 60).all (fun t => decide (709 ≤ t) || rowFine Tryz.prog t) = true := by kernel_rfl
theorem laidG : Tryz.prog.globals.all (fun g => decide (g.type < 709)) = true := by kernel_rfl
theorem laidF : Tryz.prog.funcs.all (fun f => f.params.all fun t => decide (t < 709)) = true := by kernel_rfl
theorem laidOut : laidOutB Tryz.prog = true := laid_parts (n := 709) (k := 60) (m := 12) laidN (by decide) (fun j hj => match j, hj with
  | 0, _ => laid0
  | 1, _ => laid1
  | 2, _ => laid2
  | 3, _ => laid3
  | 4, _ => laid4
  | 5, _ => laid5
  | 6, _ => laid6
  | 7, _ => laid7
  | 8, _ => laid8
  | 9, _ => laid9
  | 10, _ => laid10
  | 11, _ => laid11
  | j + 12, h => absurd h (by omega)) laidG laidF
theorem own : ownKnob Tryz.prog.godebug = none := by kernel_rfl
theorem mixed : Tryz.prog.follows .mixedOrders = true := by kernel_rfl
theorem maps0 : (List.range' (60 * 0) 60).all (fun t => match Tryz.prog.underlying t with | some (.map _ e) => decide (e < 709) | _ => true) = true := by kernel_rfl
theorem maps1 : (List.range' (60 * 1) 60).all (fun t => match Tryz.prog.underlying t with | some (.map _ e) => decide (e < 709) | _ => true) = true := by kernel_rfl
theorem maps2 : (List.range' (60 * 2) 60).all (fun t => match Tryz.prog.underlying t with | some (.map _ e) => decide (e < 709) | _ => true) = true := by kernel_rfl
theorem maps3 : (List.range' (60 * 3) 60).all (fun t => match Tryz.prog.underlying t with | some (.map _ e) => decide (e < 709) | _ => true) = true := by kernel_rfl
theorem maps4 : (List.range' (60 * 4) 60).all (fun t => match Tryz.prog.underlying t with | some (.map _ e) => decide (e < 709) | _ => true) = true := by kernel_rfl
theorem maps5 : (List.range' (60 * 5) 60).all (fun t => match Tryz.prog.underlying t with | some (.map _ e) => decide (e < 709) | _ => true) = true := by kernel_rfl
theorem maps6 : (List.range' (60 * 6) 60).all (fun t => match Tryz.prog.underlying t with | some (.map _ e) => decide (e < 709) | _ => true) = true := by kernel_rfl
theorem maps7 : (List.range' (60 * 7) 60).all (fun t => match Tryz.prog.underlying t with | some (.map _ e) => decide (e < 709) | _ => true) = true := by kernel_rfl
theorem maps8 : (List.range' (60 * 8) 60).all (fun t => match Tryz.prog.underlying t with | some (.map _ e) => decide (e < 709) | _ => true) = true := by kernel_rfl
theorem maps9 : (List.range' (60 * 9) 60).all (fun t => match Tryz.prog.underlying t with | some (.map _ e) => decide (e < 709) | _ => true) = true := by kernel_rfl
theorem maps10 : (List.range' (60 * 10) 60).all (fun t => match Tryz.prog.underlying t with | some (.map _ e) => decide (e < 709) | _ => true) = true := by kernel_rfl
theorem maps11 : (List.range' (60 * 11) 60).all (fun t => match Tryz.prog.underlying t with | some (.map _ e) => decide (e < 709) | _ => true) = true := by kernel_rfl
theorem mapsAll : mapsRowed Tryz.prog = true := mapsRowed_parts (n := 709) (k := 60) (m := 12) laidN (by decide) (fun j hj => match j, hj with
  | 0, _ => maps0
  | 1, _ => maps1
  | 2, _ => maps2
  | 3, _ => maps3
  | 4, _ => maps4
  | 5, _ => maps5
  | 6, _ => maps6
  | 7, _ => maps7
  | 8, _ => maps8
  | 9, _ => maps9
  | 10, _ => maps10
  | 11, _ => maps11
  | j + 12, h => absurd h (by omega))
end Go.Proofs.YtpdmmpajjdaebaaGreat
