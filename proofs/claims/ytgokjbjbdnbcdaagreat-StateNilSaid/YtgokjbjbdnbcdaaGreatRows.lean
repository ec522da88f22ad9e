/-
  No cell of these rows narrows 'for every input' (looked for: loops, veiled, ifaces, maps, wideKeys, modest, calm, conditions, laid).
  DERIVED. THE GIVEN ROWS OF THIS SEAT. 8 by the template 'for every input the law returns true; each argument reads behind the call as it read before'; 0 by the template 'total and deterministic' (their statements: YtgokjbjbdnbcdaaGreatTotals.lean).
  GIVEN WITH THE SEED: the statements are not yours to turn. If you find one false, say at which input.
  Laid BY PROGRAM, IN A SANDBOX (cutbox-rows.mjs): the forced cells as the released guide's own fill.sh prints them over the translation 832da26240fb99d7… (all of the seat's roots in one cut). By AI agents, Wed Nov 11 2026. No macro, syntax, notation, axiom, sorry.
-/
import Derived.Test.YtgokjbjbdnbcdaaGreatChecked
import GoSem.Claim
import GoSem.ClaimJoined
import GoSem.ClaimMapViews
import Derived.JoinedTies
import Derived.KernelRfl
namespace Go.Proofs.YtgokjbjbdnbcdaaGreat
/- THE CELL 'sum', in the pinned program and in every row, IS THE sha256 OF THE DUMP (.gsa) THAT YtgokjbjbdnbcdaaGreatProg.lean LOADS. Nothing in Lean hashes anything: it is a label: what it is worth is what the hold of that sum in a sandbox is worth. -/
noncomputable def Tryz.pinned : Pinned := { name := "ytgokjbjbdnbcdaagreat", sum := "832da26240fb99d7910d11e7bd4a0d768bf709aafb5f318f0ab11189aa32ff7e", checked := Tryz.checked }
namespace Rows
def none {H : Type} : Left H := { results := [], args := [] }

/-- 'wampumlaw09.StoreParses': WHATEVER THE INPUT: true; the input reads as it did. -/
def storeParsesSpec : ChangeSpec := { name := "storeParses", fn := fun _ => fun
  | [d] => { results := [.lit (.bool true)], args := [d] }
  | _ => none }
def storeParsesRow : OpenClaim := { program := "ytgokjbjbdnbcdaagreat", sum := "832da26240fb99d7910d11e7bd4a0d768bf709aafb5f318f0ab11189aa32ff7e", func := "wampum/wampumlaw09.StoreParses", spec := "storeParses", unfollowed := true, recurses := true, apart := false }
def StoreParsesSaid : Prop := storeParsesRow.holds Tryz.pinned (OpenSpec.ofChange storeParsesSpec)

/-- ITS FALSE NEIGHBOUR: 'it returns false'. Refute it at one input. -/
def storeParsesWrong : ChangeSpec := { name := "storeParses", fn := fun _ => fun
  | [d] => { results := [.lit (.bool false)], args := [d] }
  | _ => none }
def StoreParsesWrongFalsely : Prop := storeParsesRow.holds Tryz.pinned (OpenSpec.ofChange storeParsesWrong)

/-- 'wampumlaw14.StateReads': WHATEVER THE INPUT: true; the input reads as it did. -/
def stateReadsSpec : ChangeSpec := { name := "stateReads", fn := fun _ => fun
  | [d1, d2, d3] => { results := [.lit (.bool true)], args := [d1, d2, d3] }
  | _ => none }
def stateReadsRow : OpenClaim := { program := "ytgokjbjbdnbcdaagreat", sum := "832da26240fb99d7910d11e7bd4a0d768bf709aafb5f318f0ab11189aa32ff7e", func := "wampum/wampumlaw14.StateReads", spec := "stateReads", unfollowed := true, recurses := true, apart := false }
def StateReadsSaid : Prop := stateReadsRow.holds Tryz.pinned (OpenSpec.ofChange stateReadsSpec)

/-- ITS FALSE NEIGHBOUR: 'it returns false'. Refute it at one input. -/
def stateReadsWrong : ChangeSpec := { name := "stateReads", fn := fun _ => fun
  | [d1, d2, d3] => { results := [.lit (.bool false)], args := [d1, d2, d3] }
  | _ => none }
def StateReadsWrongFalsely : Prop := stateReadsRow.holds Tryz.pinned (OpenSpec.ofChange stateReadsWrong)

/-- 'wampumlaw14.StateOver': WHATEVER THE INPUT: true; the input reads as it did. -/
def stateOverSpec : ChangeSpec := { name := "stateOver", fn := fun _ => fun
  | [d1, d2] => { results := [.lit (.bool true)], args := [d1, d2] }
  | _ => none }
def stateOverRow : OpenClaim := { program := "ytgokjbjbdnbcdaagreat", sum := "832da26240fb99d7910d11e7bd4a0d768bf709aafb5f318f0ab11189aa32ff7e", func := "wampum/wampumlaw14.StateOver", spec := "stateOver", inPlace := ["maps.clone"], unfollowed := true, recurses := true, apart := false }
def StateOverSaid : Prop := stateOverRow.holds Tryz.pinned (OpenSpec.ofChange stateOverSpec)

/-- ITS FALSE NEIGHBOUR: 'it returns false'. Refute it at one input. -/
def stateOverWrong : ChangeSpec := { name := "stateOver", fn := fun _ => fun
  | [d1, d2] => { results := [.lit (.bool false)], args := [d1, d2] }
  | _ => none }
def StateOverWrongFalsely : Prop := stateOverRow.holds Tryz.pinned (OpenSpec.ofChange stateOverWrong)

/-- 'wampumlaw14.StateLeased': WHATEVER THE INPUT: true; the input reads as it did. -/
def stateLeasedSpec : ChangeSpec := { name := "stateLeased", fn := fun _ => fun
  | [d1, d2] => { results := [.lit (.bool true)], args := [d1, d2] }
  | _ => none }
def stateLeasedRow : OpenClaim := { program := "ytgokjbjbdnbcdaagreat", sum := "832da26240fb99d7910d11e7bd4a0d768bf709aafb5f318f0ab11189aa32ff7e", func := "wampum/wampumlaw14.StateLeased", spec := "stateLeased", unfollowed := true, recurses := true, apart := false }
def StateLeasedSaid : Prop := stateLeasedRow.holds Tryz.pinned (OpenSpec.ofChange stateLeasedSpec)

/-- ITS FALSE NEIGHBOUR: 'it returns false'. Refute it at one input. -/
def stateLeasedWrong : ChangeSpec := { name := "stateLeased", fn := fun _ => fun
  | [d1, d2] => { results := [.lit (.bool false)], args := [d1, d2] }
  | _ => none }
def StateLeasedWrongFalsely : Prop := stateLeasedRow.holds Tryz.pinned (OpenSpec.ofChange stateLeasedWrong)

/-- 'wampumlaw14.StateTwice': WHATEVER THE INPUT: true; the input reads as it did. -/
def stateTwiceSpec : ChangeSpec := { name := "stateTwice", fn := fun _ => fun
  | [d1, d2] => { results := [.lit (.bool true)], args := [d1, d2] }
  | _ => none }
def stateTwiceRow : OpenClaim := { program := "ytgokjbjbdnbcdaagreat", sum := "832da26240fb99d7910d11e7bd4a0d768bf709aafb5f318f0ab11189aa32ff7e", func := "wampum/wampumlaw14.StateTwice", spec := "stateTwice", unfollowed := true, recurses := true, apart := false }
def StateTwiceSaid : Prop := stateTwiceRow.holds Tryz.pinned (OpenSpec.ofChange stateTwiceSpec)

/-- ITS FALSE NEIGHBOUR: 'it returns false'. Refute it at one input. -/
def stateTwiceWrong : ChangeSpec := { name := "stateTwice", fn := fun _ => fun
  | [d1, d2] => { results := [.lit (.bool false)], args := [d1, d2] }
  | _ => none }
def StateTwiceWrongFalsely : Prop := stateTwiceRow.holds Tryz.pinned (OpenSpec.ofChange stateTwiceWrong)

/-- 'wampumlaw14.StatePlays': WHATEVER THE INPUT: true; the input reads as it did. -/
def statePlaysSpec : ChangeSpec := { name := "statePlays", fn := fun _ => fun
  | [d1, d2] => { results := [.lit (.bool true)], args := [d1, d2] }
  | _ => none }
def statePlaysRow : OpenClaim := { program := "ytgokjbjbdnbcdaagreat", sum := "832da26240fb99d7910d11e7bd4a0d768bf709aafb5f318f0ab11189aa32ff7e", func := "wampum/wampumlaw14.StatePlays", spec := "statePlays", unfollowed := true, recurses := true, apart := false }
def StatePlaysSaid : Prop := statePlaysRow.holds Tryz.pinned (OpenSpec.ofChange statePlaysSpec)

/-- ITS FALSE NEIGHBOUR: 'it returns false'. Refute it at one input. -/
def statePlaysWrong : ChangeSpec := { name := "statePlays", fn := fun _ => fun
  | [d1, d2] => { results := [.lit (.bool false)], args := [d1, d2] }
  | _ => none }
def StatePlaysWrongFalsely : Prop := statePlaysRow.holds Tryz.pinned (OpenSpec.ofChange statePlaysWrong)

/-- 'wampumlaw14.StateNil': WHATEVER THE INPUT: true; the input reads as it did. -/
def stateNilSpec : ChangeSpec := { name := "stateNil", fn := fun _ => fun
  | [d] => { results := [.lit (.bool true)], args := [d] }
  | _ => none }
def stateNilRow : OpenClaim := { program := "ytgokjbjbdnbcdaagreat", sum := "832da26240fb99d7910d11e7bd4a0d768bf709aafb5f318f0ab11189aa32ff7e", func := "wampum/wampumlaw14.StateNil", spec := "stateNil", inPlace := ["maps.clone"], unfollowed := true, recurses := true, apart := false }
def StateNilSaid : Prop := stateNilRow.holds Tryz.pinned (OpenSpec.ofChange stateNilSpec)

/-- ITS FALSE NEIGHBOUR: 'it returns false'. Refute it at one input. -/
def stateNilWrong : ChangeSpec := { name := "stateNil", fn := fun _ => fun
  | [d] => { results := [.lit (.bool false)], args := [d] }
  | _ => none }
def StateNilWrongFalsely : Prop := stateNilRow.holds Tryz.pinned (OpenSpec.ofChange stateNilWrong)

/-- 'wampumlaw14.StateParses': WHATEVER THE INPUT: true; the input reads as it did. -/
def stateParsesSpec : ChangeSpec := { name := "stateParses", fn := fun _ => fun
  | [d] => { results := [.lit (.bool true)], args := [d] }
  | _ => none }
def stateParsesRow : OpenClaim := { program := "ytgokjbjbdnbcdaagreat", sum := "832da26240fb99d7910d11e7bd4a0d768bf709aafb5f318f0ab11189aa32ff7e", func := "wampum/wampumlaw14.StateParses", spec := "stateParses", unfollowed := true, recurses := true, apart := false }
def StateParsesSaid : Prop := stateParsesRow.holds Tryz.pinned (OpenSpec.ofChange stateParsesSpec)

/-- ITS FALSE NEIGHBOUR: 'it returns false'. Refute it at one input. -/
def stateParsesWrong : ChangeSpec := { name := "stateParses", fn := fun _ => fun
  | [d] => { results := [.lit (.bool false)], args := [d] }
  | _ => none }
def StateParsesWrongFalsely : Prop := stateParsesRow.holds Tryz.pinned (OpenSpec.ofChange stateParsesWrong)

/- THE SECOND FORM. 'bulk': how many values and letters a reading holds, each counted each time it is reached (what is shared counts as often as it is met; a slice's spare places count too). A statement '..UptoSaid' is the law's where the arguments, and the package variables that the reading takes, are together of bulk at most 1048576: NARROWER than '..Said'. Prove '..Said' where nothing that the law and all that it calls make is longer than what came in: it says more and counts as full. Else prove '..UptoSaid'. A law counts once. -/
mutual
def uptoBulk {H : Type} : DataW H → Nat
  | .lit (.string bytes) => bytes.length + 1
  | .lit _ => 1
  | .nil => 1
  | .ptr d => uptoBulk d + 1
  | .slice elems spare => uptoBulkAll elems + uptoBulkAll spare + 1
  | .agg parts => uptoBulkAll parts + 1
  | .iface _ d => uptoBulk d + 1
  | .map entries => uptoBulkEntries entries + 1
  | .held _ => 1
def uptoBulkAll {H : Type} : List (DataW H) → Nat
  | [] => 0
  | d :: r => uptoBulk d + uptoBulkAll r
def uptoBulkEntries {H : Type} : List (Lit × DataW H) → Nat
  | [] => 0
  | x :: r => uptoBulkEntry x + uptoBulkEntries r
def uptoBulkEntry {H : Type} : Lit × DataW H → Nat
  | (.string bytes, d) => bytes.length + uptoBulk d + 1
  | (_, d) => uptoBulk d + 1
 end
def uptoSmall : (H : Type) → List (DataW H) → Bool := fun _ ds => decide (uptoBulkAll ds ≤ 1048576)
def OpenSpec.upto (s : _root_.Go.ChangeSpec) : _root_.Go.OpenSpec := { _root_.Go.OpenSpec.ofChange s with cond := some uptoSmall }

/-- 'wampumlaw09.StoreParses', WHERE WHAT IT READS IS OF BULK AT MOST 1048576: true; the input reads as it did. -/
def storeParsesUptoRow : OpenClaim := { program := "ytgokjbjbdnbcdaagreat", sum := "832da26240fb99d7910d11e7bd4a0d768bf709aafb5f318f0ab11189aa32ff7e", func := "wampum/wampumlaw09.StoreParses", spec := "storeParses", unfollowed := true, recurses := true, apart := false, narrowed := true }
def StoreParsesUptoSaid : Prop := storeParsesUptoRow.holds Tryz.pinned (OpenSpec.upto storeParsesSpec)

/-- 'wampumlaw14.StateReads', WHERE WHAT IT READS IS OF BULK AT MOST 1048576: true; the input reads as it did. -/
def stateReadsUptoRow : OpenClaim := { program := "ytgokjbjbdnbcdaagreat", sum := "832da26240fb99d7910d11e7bd4a0d768bf709aafb5f318f0ab11189aa32ff7e", func := "wampum/wampumlaw14.StateReads", spec := "stateReads", unfollowed := true, recurses := true, apart := false, narrowed := true }
def StateReadsUptoSaid : Prop := stateReadsUptoRow.holds Tryz.pinned (OpenSpec.upto stateReadsSpec)

/-- 'wampumlaw14.StateOver', WHERE WHAT IT READS IS OF BULK AT MOST 1048576: true; the input reads as it did. -/
def stateOverUptoRow : OpenClaim := { program := "ytgokjbjbdnbcdaagreat", sum := "832da26240fb99d7910d11e7bd4a0d768bf709aafb5f318f0ab11189aa32ff7e", func := "wampum/wampumlaw14.StateOver", spec := "stateOver", inPlace := ["maps.clone"], unfollowed := true, recurses := true, apart := false, narrowed := true }
def StateOverUptoSaid : Prop := stateOverUptoRow.holds Tryz.pinned (OpenSpec.upto stateOverSpec)

/-- 'wampumlaw14.StateLeased', WHERE WHAT IT READS IS OF BULK AT MOST 1048576: true; the input reads as it did. -/
def stateLeasedUptoRow : OpenClaim := { program := "ytgokjbjbdnbcdaagreat", sum := "832da26240fb99d7910d11e7bd4a0d768bf709aafb5f318f0ab11189aa32ff7e", func := "wampum/wampumlaw14.StateLeased", spec := "stateLeased", unfollowed := true, recurses := true, apart := false, narrowed := true }
def StateLeasedUptoSaid : Prop := stateLeasedUptoRow.holds Tryz.pinned (OpenSpec.upto stateLeasedSpec)

/-- 'wampumlaw14.StateTwice', WHERE WHAT IT READS IS OF BULK AT MOST 1048576: true; the input reads as it did. -/
def stateTwiceUptoRow : OpenClaim := { program := "ytgokjbjbdnbcdaagreat", sum := "832da26240fb99d7910d11e7bd4a0d768bf709aafb5f318f0ab11189aa32ff7e", func := "wampum/wampumlaw14.StateTwice", spec := "stateTwice", unfollowed := true, recurses := true, apart := false, narrowed := true }
def StateTwiceUptoSaid : Prop := stateTwiceUptoRow.holds Tryz.pinned (OpenSpec.upto stateTwiceSpec)

/-- 'wampumlaw14.StatePlays', WHERE WHAT IT READS IS OF BULK AT MOST 1048576: true; the input reads as it did. -/
def statePlaysUptoRow : OpenClaim := { program := "ytgokjbjbdnbcdaagreat", sum := "832da26240fb99d7910d11e7bd4a0d768bf709aafb5f318f0ab11189aa32ff7e", func := "wampum/wampumlaw14.StatePlays", spec := "statePlays", unfollowed := true, recurses := true, apart := false, narrowed := true }
def StatePlaysUptoSaid : Prop := statePlaysUptoRow.holds Tryz.pinned (OpenSpec.upto statePlaysSpec)

/-- 'wampumlaw14.StateNil', WHERE WHAT IT READS IS OF BULK AT MOST 1048576: true; the input reads as it did. -/
def stateNilUptoRow : OpenClaim := { program := "ytgokjbjbdnbcdaagreat", sum := "832da26240fb99d7910d11e7bd4a0d768bf709aafb5f318f0ab11189aa32ff7e", func := "wampum/wampumlaw14.StateNil", spec := "stateNil", inPlace := ["maps.clone"], unfollowed := true, recurses := true, apart := false, narrowed := true }
def StateNilUptoSaid : Prop := stateNilUptoRow.holds Tryz.pinned (OpenSpec.upto stateNilSpec)

/-- 'wampumlaw14.StateParses', WHERE WHAT IT READS IS OF BULK AT MOST 1048576: true; the input reads as it did. -/
def stateParsesUptoRow : OpenClaim := { program := "ytgokjbjbdnbcdaagreat", sum := "832da26240fb99d7910d11e7bd4a0d768bf709aafb5f318f0ab11189aa32ff7e", func := "wampum/wampumlaw14.StateParses", spec := "stateParses", unfollowed := true, recurses := true, apart := false, narrowed := true }
def StateParsesUptoSaid : Prop := stateParsesUptoRow.holds Tryz.pinned (OpenSpec.upto stateParsesSpec)

end Rows
end Go.Proofs.YtgokjbjbdnbcdaaGreat
