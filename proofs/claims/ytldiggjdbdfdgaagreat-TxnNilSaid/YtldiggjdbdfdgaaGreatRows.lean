/-
  No cell of these rows narrows 'for every input' (looked for: loops, veiled, ifaces, maps, wideKeys, modest, calm, conditions, laid).
  DERIVED. THE GIVEN ROWS OF THIS SEAT. 5 by the template 'for every input the law returns true; each argument reads behind the call as it read before'; 0 by the template 'total and deterministic' (their statements: YtldiggjdbdfdgaaGreatTotals.lean).
  GIVEN WITH THE SEED: the statements are not yours to turn. If you find one false, say at which input.
  Laid BY PROGRAM, IN A SANDBOX (cutbox-rows.mjs): the forced cells as the released guide's own fill.sh prints them over the translation e5b105ec02758c4f… (all of the seat's roots in one cut). By AI agents, Wed Nov 11 2026. No macro, syntax, notation, axiom, sorry.
-/
import Derived.Test.YtldiggjdbdfdgaaGreatChecked
import GoSem.Claim
import GoSem.ClaimJoined
import GoSem.ClaimMapViews
import Derived.JoinedTies
import Derived.KernelRfl
namespace Go.Proofs.YtldiggjdbdfdgaaGreat
/- THE CELL 'sum', in the pinned program and in every row, IS THE sha256 OF THE DUMP (.gsa) THAT YtldiggjdbdfdgaaGreatProg.lean LOADS. Nothing in Lean hashes anything: it is a label: what it is worth is what the hold of that sum in a sandbox is worth. -/
noncomputable def Tryz.pinned : Pinned := { name := "ytldiggjdbdfdgaagreat", sum := "e5b105ec02758c4f6d9945eb4626071659f15713bb95c4bbc446e58745bb1e4d", checked := Tryz.checked }
namespace Rows
def none {H : Type} : Left H := { results := [], args := [] }

/-- 'wampumlaw22.TxnSerial': WHATEVER THE INPUT: true; the input reads as it did. -/
def txnSerialSpec : ChangeSpec := { name := "txnSerial", fn := fun _ => fun
  | [d1, d2] => { results := [.lit (.bool true)], args := [d1, d2] }
  | _ => none }
def txnSerialRow : OpenClaim := { program := "ytldiggjdbdfdgaagreat", sum := "e5b105ec02758c4f6d9945eb4626071659f15713bb95c4bbc446e58745bb1e4d", func := "wampum/wampumlaw22.TxnSerial", spec := "txnSerial", unfollowed := true, recurses := true, apart := false }
def TxnSerialSaid : Prop := txnSerialRow.holds Tryz.pinned (OpenSpec.ofChange txnSerialSpec)

/-- ITS FALSE NEIGHBOUR: 'it returns false'. Refute it at one input. -/
def txnSerialWrong : ChangeSpec := { name := "txnSerial", fn := fun _ => fun
  | [d1, d2] => { results := [.lit (.bool false)], args := [d1, d2] }
  | _ => none }
def TxnSerialWrongFalsely : Prop := txnSerialRow.holds Tryz.pinned (OpenSpec.ofChange txnSerialWrong)

/-- 'wampumlaw22.TxnWaits': WHATEVER THE INPUT: true; the input reads as it did. -/
def txnWaitsSpec : ChangeSpec := { name := "txnWaits", fn := fun _ => fun
  | [d1, d2, d3] => { results := [.lit (.bool true)], args := [d1, d2, d3] }
  | _ => none }
def txnWaitsRow : OpenClaim := { program := "ytldiggjdbdfdgaagreat", sum := "e5b105ec02758c4f6d9945eb4626071659f15713bb95c4bbc446e58745bb1e4d", func := "wampum/wampumlaw22.TxnWaits", spec := "txnWaits", unfollowed := true, recurses := true, apart := false }
def TxnWaitsSaid : Prop := txnWaitsRow.holds Tryz.pinned (OpenSpec.ofChange txnWaitsSpec)

/-- ITS FALSE NEIGHBOUR: 'it returns false'. Refute it at one input. -/
def txnWaitsWrong : ChangeSpec := { name := "txnWaits", fn := fun _ => fun
  | [d1, d2, d3] => { results := [.lit (.bool false)], args := [d1, d2, d3] }
  | _ => none }
def TxnWaitsWrongFalsely : Prop := txnWaitsRow.holds Tryz.pinned (OpenSpec.ofChange txnWaitsWrong)

/-- 'wampumlaw22.TxnAlone': WHATEVER THE INPUT: true; the input reads as it did. -/
def txnAloneSpec : ChangeSpec := { name := "txnAlone", fn := fun _ => fun
  | [d1, d2] => { results := [.lit (.bool true)], args := [d1, d2] }
  | _ => none }
def txnAloneRow : OpenClaim := { program := "ytldiggjdbdfdgaagreat", sum := "e5b105ec02758c4f6d9945eb4626071659f15713bb95c4bbc446e58745bb1e4d", func := "wampum/wampumlaw22.TxnAlone", spec := "txnAlone", unfollowed := true, recurses := true, apart := false }
def TxnAloneSaid : Prop := txnAloneRow.holds Tryz.pinned (OpenSpec.ofChange txnAloneSpec)

/-- ITS FALSE NEIGHBOUR: 'it returns false'. Refute it at one input. -/
def txnAloneWrong : ChangeSpec := { name := "txnAlone", fn := fun _ => fun
  | [d1, d2] => { results := [.lit (.bool false)], args := [d1, d2] }
  | _ => none }
def TxnAloneWrongFalsely : Prop := txnAloneRow.holds Tryz.pinned (OpenSpec.ofChange txnAloneWrong)

/-- 'wampumlaw22.TxnNil': WHATEVER THE INPUT: true; the input reads as it did. -/
def txnNilSpec : ChangeSpec := { name := "txnNil", fn := fun _ => fun
  | [d1, d2] => { results := [.lit (.bool true)], args := [d1, d2] }
  | _ => none }
def txnNilRow : OpenClaim := { program := "ytldiggjdbdfdgaagreat", sum := "e5b105ec02758c4f6d9945eb4626071659f15713bb95c4bbc446e58745bb1e4d", func := "wampum/wampumlaw22.TxnNil", spec := "txnNil", unfollowed := true, recurses := true, apart := false }
def TxnNilSaid : Prop := txnNilRow.holds Tryz.pinned (OpenSpec.ofChange txnNilSpec)

/-- ITS FALSE NEIGHBOUR: 'it returns false'. Refute it at one input. -/
def txnNilWrong : ChangeSpec := { name := "txnNil", fn := fun _ => fun
  | [d1, d2] => { results := [.lit (.bool false)], args := [d1, d2] }
  | _ => none }
def TxnNilWrongFalsely : Prop := txnNilRow.holds Tryz.pinned (OpenSpec.ofChange txnNilWrong)

/-- 'wampumlaw22.TxnRolled': WHATEVER THE INPUT: true; the input reads as it did. -/
def txnRolledSpec : ChangeSpec := { name := "txnRolled", fn := fun _ => fun
  | [d1, d2] => { results := [.lit (.bool true)], args := [d1, d2] }
  | _ => none }
def txnRolledRow : OpenClaim := { program := "ytldiggjdbdfdgaagreat", sum := "e5b105ec02758c4f6d9945eb4626071659f15713bb95c4bbc446e58745bb1e4d", func := "wampum/wampumlaw22.TxnRolled", spec := "txnRolled", unfollowed := true, recurses := true, apart := false }
def TxnRolledSaid : Prop := txnRolledRow.holds Tryz.pinned (OpenSpec.ofChange txnRolledSpec)

/-- ITS FALSE NEIGHBOUR: 'it returns false'. Refute it at one input. -/
def txnRolledWrong : ChangeSpec := { name := "txnRolled", fn := fun _ => fun
  | [d1, d2] => { results := [.lit (.bool false)], args := [d1, d2] }
  | _ => none }
def TxnRolledWrongFalsely : Prop := txnRolledRow.holds Tryz.pinned (OpenSpec.ofChange txnRolledWrong)

/- THE SECOND FORM. 'bulk': how many values and letters a reading holds, each counted each time it is reached (what is shared counts as often as it is met; a slice's spare places count too). A statement '..UptoSaid' is the law's where the arguments, and the package variables that the reading takes, are together of bulk at most 1048576: NARROWER than '..Said'. Prove '..Said' where nothing that the law and all that it calls make is longer than what came in: it says more and counts as full. Else prove '..UptoSaid'. A law counts once. -/
mutual
def uptoBulk {H : Type} : DataW H → Nat
  | .lit (.string bytes) => bytes.length + 1
  | .lit _ => 1
  | .nil => 1
  | .ptr d => uptoBulk d + 1
  | .slice elems spare => uptoBulkAll elems + uptoBulkAll spare + 1
  | .agg parts => uptoBulkAll parts + 1
  | .iface _ d => uptoBulk d + 1
  | .map entries => uptoBulkEntries entries + 1
  | .held _ => 1
def uptoBulkAll {H : Type} : List (DataW H) → Nat
  | [] => 0
  | d :: r => uptoBulk d + uptoBulkAll r
def uptoBulkEntries {H : Type} : List (Lit × DataW H) → Nat
  | [] => 0
  | x :: r => uptoBulkEntry x + uptoBulkEntries r
def uptoBulkEntry {H : Type} : Lit × DataW H → Nat
  | (.string bytes, d) => bytes.length + uptoBulk d + 1
  | (_, d) => uptoBulk d + 1
 end
def uptoSmall : (H : Type) → List (DataW H) → Bool := fun _ ds => decide (uptoBulkAll ds ≤ 1048576)
def OpenSpec.upto (s : _root_.Go.ChangeSpec) : _root_.Go.OpenSpec := { _root_.Go.OpenSpec.ofChange s with cond := some uptoSmall }

/-- 'wampumlaw22.TxnSerial', WHERE WHAT IT READS IS OF BULK AT MOST 1048576: true; the input reads as it did. -/
def txnSerialUptoRow : OpenClaim := { program := "ytldiggjdbdfdgaagreat", sum := "e5b105ec02758c4f6d9945eb4626071659f15713bb95c4bbc446e58745bb1e4d", func := "wampum/wampumlaw22.TxnSerial", spec := "txnSerial", unfollowed := true, recurses := true, apart := false, narrowed := true }
def TxnSerialUptoSaid : Prop := txnSerialUptoRow.holds Tryz.pinned (OpenSpec.upto txnSerialSpec)

/-- 'wampumlaw22.TxnWaits', WHERE WHAT IT READS IS OF BULK AT MOST 1048576: true; the input reads as it did. -/
def txnWaitsUptoRow : OpenClaim := { program := "ytldiggjdbdfdgaagreat", sum := "e5b105ec02758c4f6d9945eb4626071659f15713bb95c4bbc446e58745bb1e4d", func := "wampum/wampumlaw22.TxnWaits", spec := "txnWaits", unfollowed := true, recurses := true, apart := false, narrowed := true }
def TxnWaitsUptoSaid : Prop := txnWaitsUptoRow.holds Tryz.pinned (OpenSpec.upto txnWaitsSpec)

/-- 'wampumlaw22.TxnAlone', WHERE WHAT IT READS IS OF BULK AT MOST 1048576: true; the input reads as it did. -/
def txnAloneUptoRow : OpenClaim := { program := "ytldiggjdbdfdgaagreat", sum := "e5b105ec02758c4f6d9945eb4626071659f15713bb95c4bbc446e58745bb1e4d", func := "wampum/wampumlaw22.TxnAlone", spec := "txnAlone", unfollowed := true, recurses := true, apart := false, narrowed := true }
def TxnAloneUptoSaid : Prop := txnAloneUptoRow.holds Tryz.pinned (OpenSpec.upto txnAloneSpec)

/-- 'wampumlaw22.TxnNil', WHERE WHAT IT READS IS OF BULK AT MOST 1048576: true; the input reads as it did. -/
def txnNilUptoRow : OpenClaim := { program := "ytldiggjdbdfdgaagreat", sum := "e5b105ec02758c4f6d9945eb4626071659f15713bb95c4bbc446e58745bb1e4d", func := "wampum/wampumlaw22.TxnNil", spec := "txnNil", unfollowed := true, recurses := true, apart := false, narrowed := true }
def TxnNilUptoSaid : Prop := txnNilUptoRow.holds Tryz.pinned (OpenSpec.upto txnNilSpec)

/-- 'wampumlaw22.TxnRolled', WHERE WHAT IT READS IS OF BULK AT MOST 1048576: true; the input reads as it did. -/
def txnRolledUptoRow : OpenClaim := { program := "ytldiggjdbdfdgaagreat", sum := "e5b105ec02758c4f6d9945eb4626071659f15713bb95c4bbc446e58745bb1e4d", func := "wampum/wampumlaw22.TxnRolled", spec := "txnRolled", unfollowed := true, recurses := true, apart := false, narrowed := true }
def TxnRolledUptoSaid : Prop := txnRolledUptoRow.holds Tryz.pinned (OpenSpec.upto txnRolledSpec)

end Rows
end Go.Proofs.YtldiggjdbdfdgaaGreat
