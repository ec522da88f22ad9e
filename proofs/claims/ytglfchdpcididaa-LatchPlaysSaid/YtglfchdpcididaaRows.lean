/-
  No cell of these rows narrows 'for every input' (looked for: loops, veiled, ifaces, maps, wideKeys, modest, calm, conditions, laid).
  DERIVED. THE GIVEN ROWS OF THIS SEAT. 11 by the template 'for every input the law returns true; each argument reads behind the call as it read before'; 0 by the template 'total and deterministic' (their statements: YtglfchdpcididaaTotals.lean).
  GIVEN WITH THE SEED: the statements are not yours to turn. If you find one false, say at which input.
  Laid BY PROGRAM, IN A SANDBOX (cutbox-rows.mjs): the forced cells as the released guide's own fill.sh prints them over the translation f4c02939427d3800… (all of the seat's roots in one cut). By AI agents, Wed Nov 11 2026. No macro, syntax, notation, axiom, sorry.
-/
import Derived.Test.YtglfchdpcididaaChecked
import GoSem.Claim
import GoSem.ClaimJoined
import GoSem.ClaimMapViews
import Derived.JoinedTies
import Derived.KernelRfl
namespace Go.Proofs.Ytglfchdpcididaa
/- THE CELL 'sum', in the pinned program and in every row, IS THE sha256 OF THE DUMP (.gsa) THAT YtglfchdpcididaaProg.lean LOADS. Nothing in Lean hashes anything: it is a label: what it is worth is what the hold of that sum in a sandbox is worth. -/
noncomputable def Try.pinned : Pinned := { name := "ytglfchdpcididaa", sum := "f4c02939427d38004323d4adbbdb12862b3b92d252abaf7b32bf03451938ccea", checked := Try.checked }
namespace Rows
def none {H : Type} : Left H := { results := [], args := [] }

/-- 'wampumlaw04.ClockPlays': WHATEVER THE INPUT: true; the input reads as it did. -/
def clockPlaysSpec : ChangeSpec := { name := "clockPlays", fn := fun _ => fun
  | [d1, d2] => { results := [.lit (.bool true)], args := [d1, d2] }
  | _ => none }
def clockPlaysRow : OpenClaim := { program := "ytglfchdpcididaa", sum := "f4c02939427d38004323d4adbbdb12862b3b92d252abaf7b32bf03451938ccea", func := "wampum/wampumlaw04.ClockPlays", spec := "clockPlays", apart := false }
def ClockPlaysSaid : Prop := clockPlaysRow.holds Try.pinned (OpenSpec.ofChange clockPlaysSpec)

/-- ITS FALSE NEIGHBOUR: 'it returns false'. Refute it at one input. -/
def clockPlaysWrong : ChangeSpec := { name := "clockPlays", fn := fun _ => fun
  | [d1, d2] => { results := [.lit (.bool false)], args := [d1, d2] }
  | _ => none }
def ClockPlaysWrongFalsely : Prop := clockPlaysRow.holds Try.pinned (OpenSpec.ofChange clockPlaysWrong)

/-- 'wampumlaw04.ClockRises': WHATEVER THE INPUT: true; the input reads as it did. -/
def clockRisesSpec : ChangeSpec := { name := "clockRises", fn := fun _ => fun
  | [d1, d2] => { results := [.lit (.bool true)], args := [d1, d2] }
  | _ => none }
def clockRisesRow : OpenClaim := { program := "ytglfchdpcididaa", sum := "f4c02939427d38004323d4adbbdb12862b3b92d252abaf7b32bf03451938ccea", func := "wampum/wampumlaw04.ClockRises", spec := "clockRises", apart := false }
def ClockRisesSaid : Prop := clockRisesRow.holds Try.pinned (OpenSpec.ofChange clockRisesSpec)

/-- ITS FALSE NEIGHBOUR: 'it returns false'. Refute it at one input. -/
def clockRisesWrong : ChangeSpec := { name := "clockRises", fn := fun _ => fun
  | [d1, d2] => { results := [.lit (.bool false)], args := [d1, d2] }
  | _ => none }
def ClockRisesWrongFalsely : Prop := clockRisesRow.holds Try.pinned (OpenSpec.ofChange clockRisesWrong)

/-- 'wampumlaw04.ClockHears': WHATEVER THE INPUT: true; the input reads as it did. -/
def clockHearsSpec : ChangeSpec := { name := "clockHears", fn := fun _ => fun
  | [d1, d2, d3] => { results := [.lit (.bool true)], args := [d1, d2, d3] }
  | _ => none }
def clockHearsRow : OpenClaim := { program := "ytglfchdpcididaa", sum := "f4c02939427d38004323d4adbbdb12862b3b92d252abaf7b32bf03451938ccea", func := "wampum/wampumlaw04.ClockHears", spec := "clockHears", apart := false }
def ClockHearsSaid : Prop := clockHearsRow.holds Try.pinned (OpenSpec.ofChange clockHearsSpec)

/-- ITS FALSE NEIGHBOUR: 'it returns false'. Refute it at one input. -/
def clockHearsWrong : ChangeSpec := { name := "clockHears", fn := fun _ => fun
  | [d1, d2, d3] => { results := [.lit (.bool false)], args := [d1, d2, d3] }
  | _ => none }
def ClockHearsWrongFalsely : Prop := clockHearsRow.holds Try.pinned (OpenSpec.ofChange clockHearsWrong)

/-- 'wampumlaw11.LatchTwo': WHATEVER THE INPUT: true; the input reads as it did. -/
def latchTwoSpec : ChangeSpec := { name := "latchTwo", fn := fun _ => fun
  | [d] => { results := [.lit (.bool true)], args := [d] }
  | _ => none }
def latchTwoRow : OpenClaim := { program := "ytglfchdpcididaa", sum := "f4c02939427d38004323d4adbbdb12862b3b92d252abaf7b32bf03451938ccea", func := "wampum/wampumlaw11.LatchTwo", spec := "latchTwo", unfollowed := true, recurses := true, apart := false }
def LatchTwoSaid : Prop := latchTwoRow.holds Try.pinned (OpenSpec.ofChange latchTwoSpec)

/-- ITS FALSE NEIGHBOUR: 'it returns false'. Refute it at one input. -/
def latchTwoWrong : ChangeSpec := { name := "latchTwo", fn := fun _ => fun
  | [d] => { results := [.lit (.bool false)], args := [d] }
  | _ => none }
def LatchTwoWrongFalsely : Prop := latchTwoRow.holds Try.pinned (OpenSpec.ofChange latchTwoWrong)

/-- 'wampumlaw04.ClockCopies': WHATEVER THE INPUT: true; the input reads as it did. -/
def clockCopiesSpec : ChangeSpec := { name := "clockCopies", fn := fun _ => fun
  | [d1, d2, d3] => { results := [.lit (.bool true)], args := [d1, d2, d3] }
  | _ => none }
def clockCopiesRow : OpenClaim := { program := "ytglfchdpcididaa", sum := "f4c02939427d38004323d4adbbdb12862b3b92d252abaf7b32bf03451938ccea", func := "wampum/wampumlaw04.ClockCopies", spec := "clockCopies", apart := false }
def ClockCopiesSaid : Prop := clockCopiesRow.holds Try.pinned (OpenSpec.ofChange clockCopiesSpec)

/-- ITS FALSE NEIGHBOUR: 'it returns false'. Refute it at one input. -/
def clockCopiesWrong : ChangeSpec := { name := "clockCopies", fn := fun _ => fun
  | [d1, d2, d3] => { results := [.lit (.bool false)], args := [d1, d2, d3] }
  | _ => none }
def ClockCopiesWrongFalsely : Prop := clockCopiesRow.holds Try.pinned (OpenSpec.ofChange clockCopiesWrong)

/-- 'wampumlaw04.ClockNil': WHATEVER THE INPUT: true; the input reads as it did. -/
def clockNilSpec : ChangeSpec := { name := "clockNil", fn := fun _ => fun
  | [d] => { results := [.lit (.bool true)], args := [d] }
  | _ => none }
def clockNilRow : OpenClaim := { program := "ytglfchdpcididaa", sum := "f4c02939427d38004323d4adbbdb12862b3b92d252abaf7b32bf03451938ccea", func := "wampum/wampumlaw04.ClockNil", spec := "clockNil", apart := false }
def ClockNilSaid : Prop := clockNilRow.holds Try.pinned (OpenSpec.ofChange clockNilSpec)

/-- ITS FALSE NEIGHBOUR: 'it returns false'. Refute it at one input. -/
def clockNilWrong : ChangeSpec := { name := "clockNil", fn := fun _ => fun
  | [d] => { results := [.lit (.bool false)], args := [d] }
  | _ => none }
def ClockNilWrongFalsely : Prop := clockNilRow.holds Try.pinned (OpenSpec.ofChange clockNilWrong)

/-- 'wampumlaw11.LatchPlays': WHATEVER THE INPUT: true; the input reads as it did. -/
def latchPlaysSpec : ChangeSpec := { name := "latchPlays", fn := fun _ => fun
  | [d] => { results := [.lit (.bool true)], args := [d] }
  | _ => none }
def latchPlaysRow : OpenClaim := { program := "ytglfchdpcididaa", sum := "f4c02939427d38004323d4adbbdb12862b3b92d252abaf7b32bf03451938ccea", func := "wampum/wampumlaw11.LatchPlays", spec := "latchPlays", unfollowed := true, recurses := true, apart := false }
def LatchPlaysSaid : Prop := latchPlaysRow.holds Try.pinned (OpenSpec.ofChange latchPlaysSpec)

/-- ITS FALSE NEIGHBOUR: 'it returns false'. Refute it at one input. -/
def latchPlaysWrong : ChangeSpec := { name := "latchPlays", fn := fun _ => fun
  | [d] => { results := [.lit (.bool false)], args := [d] }
  | _ => none }
def LatchPlaysWrongFalsely : Prop := latchPlaysRow.holds Try.pinned (OpenSpec.ofChange latchPlaysWrong)

/-- 'wampumlaw11.LatchEnds': WHATEVER THE INPUT: true; the input reads as it did. -/
def latchEndsSpec : ChangeSpec := { name := "latchEnds", fn := fun _ => fun
  | [d1, d2] => { results := [.lit (.bool true)], args := [d1, d2] }
  | _ => none }
def latchEndsRow : OpenClaim := { program := "ytglfchdpcididaa", sum := "f4c02939427d38004323d4adbbdb12862b3b92d252abaf7b32bf03451938ccea", func := "wampum/wampumlaw11.LatchEnds", spec := "latchEnds", unfollowed := true, recurses := true, apart := false }
def LatchEndsSaid : Prop := latchEndsRow.holds Try.pinned (OpenSpec.ofChange latchEndsSpec)

/-- ITS FALSE NEIGHBOUR: 'it returns false'. Refute it at one input. -/
def latchEndsWrong : ChangeSpec := { name := "latchEnds", fn := fun _ => fun
  | [d1, d2] => { results := [.lit (.bool false)], args := [d1, d2] }
  | _ => none }
def LatchEndsWrongFalsely : Prop := latchEndsRow.holds Try.pinned (OpenSpec.ofChange latchEndsWrong)

/-- 'wampumlaw11.LatchNil': WHATEVER THE INPUT: true; the input reads as it did. -/
def latchNilSpec : ChangeSpec := { name := "latchNil", fn := fun _ => fun
  | [d] => { results := [.lit (.bool true)], args := [d] }
  | _ => none }
def latchNilRow : OpenClaim := { program := "ytglfchdpcididaa", sum := "f4c02939427d38004323d4adbbdb12862b3b92d252abaf7b32bf03451938ccea", func := "wampum/wampumlaw11.LatchNil", spec := "latchNil", unfollowed := true, recurses := true, apart := false }
def LatchNilSaid : Prop := latchNilRow.holds Try.pinned (OpenSpec.ofChange latchNilSpec)

/-- ITS FALSE NEIGHBOUR: 'it returns false'. Refute it at one input. -/
def latchNilWrong : ChangeSpec := { name := "latchNil", fn := fun _ => fun
  | [d] => { results := [.lit (.bool false)], args := [d] }
  | _ => none }
def LatchNilWrongFalsely : Prop := latchNilRow.holds Try.pinned (OpenSpec.ofChange latchNilWrong)

/-- 'wampumlaw11.LatchReads': WHATEVER THE INPUT: true; the input reads as it did. -/
def latchReadsSpec : ChangeSpec := { name := "latchReads", fn := fun _ => fun
  | [d1, d2] => { results := [.lit (.bool true)], args := [d1, d2] }
  | _ => none }
def latchReadsRow : OpenClaim := { program := "ytglfchdpcididaa", sum := "f4c02939427d38004323d4adbbdb12862b3b92d252abaf7b32bf03451938ccea", func := "wampum/wampumlaw11.LatchReads", spec := "latchReads", unfollowed := true, recurses := true, apart := false }
def LatchReadsSaid : Prop := latchReadsRow.holds Try.pinned (OpenSpec.ofChange latchReadsSpec)

/-- ITS FALSE NEIGHBOUR: 'it returns false'. Refute it at one input. -/
def latchReadsWrong : ChangeSpec := { name := "latchReads", fn := fun _ => fun
  | [d1, d2] => { results := [.lit (.bool false)], args := [d1, d2] }
  | _ => none }
def LatchReadsWrongFalsely : Prop := latchReadsRow.holds Try.pinned (OpenSpec.ofChange latchReadsWrong)

/-- 'wampumlaw11.LatchOrder': WHATEVER THE INPUT: true; the input reads as it did. -/
def latchOrderSpec : ChangeSpec := { name := "latchOrder", fn := fun _ => fun
  | [d1, d2] => { results := [.lit (.bool true)], args := [d1, d2] }
  | _ => none }
def latchOrderRow : OpenClaim := { program := "ytglfchdpcididaa", sum := "f4c02939427d38004323d4adbbdb12862b3b92d252abaf7b32bf03451938ccea", func := "wampum/wampumlaw11.LatchOrder", spec := "latchOrder", unfollowed := true, recurses := true, apart := false }
def LatchOrderSaid : Prop := latchOrderRow.holds Try.pinned (OpenSpec.ofChange latchOrderSpec)

/-- ITS FALSE NEIGHBOUR: 'it returns false'. Refute it at one input. -/
def latchOrderWrong : ChangeSpec := { name := "latchOrder", fn := fun _ => fun
  | [d1, d2] => { results := [.lit (.bool false)], args := [d1, d2] }
  | _ => none }
def LatchOrderWrongFalsely : Prop := latchOrderRow.holds Try.pinned (OpenSpec.ofChange latchOrderWrong)

/- THE SECOND FORM. 'bulk': how many values and letters a reading holds, each counted each time it is reached (what is shared counts as often as it is met; a slice's spare places count too). A statement '..UptoSaid' is the law's where the arguments, and the package variables that the reading takes, are together of bulk at most 1048576: NARROWER than '..Said'. Prove '..Said' where nothing that the law and all that it calls make is longer than what came in: it says more and counts as full. Else prove '..UptoSaid'. A law counts once. -/
mutual
def uptoBulk {H : Type} : DataW H → Nat
  | .lit (.string bytes) => bytes.length + 1
  | .lit _ => 1
  | .nil => 1
  | .ptr d => uptoBulk d + 1
  | .slice elems spare => uptoBulkAll elems + uptoBulkAll spare + 1
  | .agg parts => uptoBulkAll parts + 1
  | .iface _ d => uptoBulk d + 1
  | .map entries => uptoBulkEntries entries + 1
  | .held _ => 1
def uptoBulkAll {H : Type} : List (DataW H) → Nat
  | [] => 0
  | d :: r => uptoBulk d + uptoBulkAll r
def uptoBulkEntries {H : Type} : List (Lit × DataW H) → Nat
  | [] => 0
  | x :: r => uptoBulkEntry x + uptoBulkEntries r
def uptoBulkEntry {H : Type} : Lit × DataW H → Nat
  | (.string bytes, d) => bytes.length + uptoBulk d + 1
  | (_, d) => uptoBulk d + 1
 end
def uptoSmall : (H : Type) → List (DataW H) → Bool := fun _ ds => decide (uptoBulkAll ds ≤ 1048576)
def OpenSpec.upto (s : _root_.Go.ChangeSpec) : _root_.Go.OpenSpec := { _root_.Go.OpenSpec.ofChange s with cond := some uptoSmall }

/-- 'wampumlaw04.ClockPlays', WHERE WHAT IT READS IS OF BULK AT MOST 1048576: true; the input reads as it did. -/
def clockPlaysUptoRow : OpenClaim := { program := "ytglfchdpcididaa", sum := "f4c02939427d38004323d4adbbdb12862b3b92d252abaf7b32bf03451938ccea", func := "wampum/wampumlaw04.ClockPlays", spec := "clockPlays", apart := false, narrowed := true }
def ClockPlaysUptoSaid : Prop := clockPlaysUptoRow.holds Try.pinned (OpenSpec.upto clockPlaysSpec)

/-- 'wampumlaw04.ClockRises', WHERE WHAT IT READS IS OF BULK AT MOST 1048576: true; the input reads as it did. -/
def clockRisesUptoRow : OpenClaim := { program := "ytglfchdpcididaa", sum := "f4c02939427d38004323d4adbbdb12862b3b92d252abaf7b32bf03451938ccea", func := "wampum/wampumlaw04.ClockRises", spec := "clockRises", apart := false, narrowed := true }
def ClockRisesUptoSaid : Prop := clockRisesUptoRow.holds Try.pinned (OpenSpec.upto clockRisesSpec)

/-- 'wampumlaw04.ClockHears', WHERE WHAT IT READS IS OF BULK AT MOST 1048576: true; the input reads as it did. -/
def clockHearsUptoRow : OpenClaim := { program := "ytglfchdpcididaa", sum := "f4c02939427d38004323d4adbbdb12862b3b92d252abaf7b32bf03451938ccea", func := "wampum/wampumlaw04.ClockHears", spec := "clockHears", apart := false, narrowed := true }
def ClockHearsUptoSaid : Prop := clockHearsUptoRow.holds Try.pinned (OpenSpec.upto clockHearsSpec)

/-- 'wampumlaw11.LatchTwo', WHERE WHAT IT READS IS OF BULK AT MOST 1048576: true; the input reads as it did. -/
def latchTwoUptoRow : OpenClaim := { program := "ytglfchdpcididaa", sum := "f4c02939427d38004323d4adbbdb12862b3b92d252abaf7b32bf03451938ccea", func := "wampum/wampumlaw11.LatchTwo", spec := "latchTwo", unfollowed := true, recurses := true, apart := false, narrowed := true }
def LatchTwoUptoSaid : Prop := latchTwoUptoRow.holds Try.pinned (OpenSpec.upto latchTwoSpec)

/-- 'wampumlaw04.ClockCopies', WHERE WHAT IT READS IS OF BULK AT MOST 1048576: true; the input reads as it did. -/
def clockCopiesUptoRow : OpenClaim := { program := "ytglfchdpcididaa", sum := "f4c02939427d38004323d4adbbdb12862b3b92d252abaf7b32bf03451938ccea", func := "wampum/wampumlaw04.ClockCopies", spec := "clockCopies", apart := false, narrowed := true }
def ClockCopiesUptoSaid : Prop := clockCopiesUptoRow.holds Try.pinned (OpenSpec.upto clockCopiesSpec)

/-- 'wampumlaw04.ClockNil', WHERE WHAT IT READS IS OF BULK AT MOST 1048576: true; the input reads as it did. -/
def clockNilUptoRow : OpenClaim := { program := "ytglfchdpcididaa", sum := "f4c02939427d38004323d4adbbdb12862b3b92d252abaf7b32bf03451938ccea", func := "wampum/wampumlaw04.ClockNil", spec := "clockNil", apart := false, narrowed := true }
def ClockNilUptoSaid : Prop := clockNilUptoRow.holds Try.pinned (OpenSpec.upto clockNilSpec)

/-- 'wampumlaw11.LatchPlays', WHERE WHAT IT READS IS OF BULK AT MOST 1048576: true; the input reads as it did. -/
def latchPlaysUptoRow : OpenClaim := { program := "ytglfchdpcididaa", sum := "f4c02939427d38004323d4adbbdb12862b3b92d252abaf7b32bf03451938ccea", func := "wampum/wampumlaw11.LatchPlays", spec := "latchPlays", unfollowed := true, recurses := true, apart := false, narrowed := true }
def LatchPlaysUptoSaid : Prop := latchPlaysUptoRow.holds Try.pinned (OpenSpec.upto latchPlaysSpec)

/-- 'wampumlaw11.LatchEnds', WHERE WHAT IT READS IS OF BULK AT MOST 1048576: true; the input reads as it did. -/
def latchEndsUptoRow : OpenClaim := { program := "ytglfchdpcididaa", sum := "f4c02939427d38004323d4adbbdb12862b3b92d252abaf7b32bf03451938ccea", func := "wampum/wampumlaw11.LatchEnds", spec := "latchEnds", unfollowed := true, recurses := true, apart := false, narrowed := true }
def LatchEndsUptoSaid : Prop := latchEndsUptoRow.holds Try.pinned (OpenSpec.upto latchEndsSpec)

/-- 'wampumlaw11.LatchNil', WHERE WHAT IT READS IS OF BULK AT MOST 1048576: true; the input reads as it did. -/
def latchNilUptoRow : OpenClaim := { program := "ytglfchdpcididaa", sum := "f4c02939427d38004323d4adbbdb12862b3b92d252abaf7b32bf03451938ccea", func := "wampum/wampumlaw11.LatchNil", spec := "latchNil", unfollowed := true, recurses := true, apart := false, narrowed := true }
def LatchNilUptoSaid : Prop := latchNilUptoRow.holds Try.pinned (OpenSpec.upto latchNilSpec)

/-- 'wampumlaw11.LatchReads', WHERE WHAT IT READS IS OF BULK AT MOST 1048576: true; the input reads as it did. -/
def latchReadsUptoRow : OpenClaim := { program := "ytglfchdpcididaa", sum := "f4c02939427d38004323d4adbbdb12862b3b92d252abaf7b32bf03451938ccea", func := "wampum/wampumlaw11.LatchReads", spec := "latchReads", unfollowed := true, recurses := true, apart := false, narrowed := true }
def LatchReadsUptoSaid : Prop := latchReadsUptoRow.holds Try.pinned (OpenSpec.upto latchReadsSpec)

/-- 'wampumlaw11.LatchOrder', WHERE WHAT IT READS IS OF BULK AT MOST 1048576: true; the input reads as it did. -/
def latchOrderUptoRow : OpenClaim := { program := "ytglfchdpcididaa", sum := "f4c02939427d38004323d4adbbdb12862b3b92d252abaf7b32bf03451938ccea", func := "wampum/wampumlaw11.LatchOrder", spec := "latchOrder", unfollowed := true, recurses := true, apart := false, narrowed := true }
def LatchOrderUptoSaid : Prop := latchOrderUptoRow.holds Try.pinned (OpenSpec.upto latchOrderSpec)

end Rows
end Go.Proofs.Ytglfchdpcididaa
