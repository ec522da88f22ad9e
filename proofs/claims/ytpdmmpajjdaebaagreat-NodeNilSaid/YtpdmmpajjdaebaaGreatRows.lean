/-
  No cell of these rows narrows 'for every input' (looked for: loops, veiled, ifaces, maps, wideKeys, modest, calm, conditions, laid).
  DERIVED. THE GIVEN ROWS OF THIS SEAT. 3 by the template 'for every input the law returns true; each argument reads behind the call as it read before'; 0 by the template 'total and deterministic' (their statements: YtpdmmpajjdaebaaGreatTotals.lean).
  GIVEN WITH THE SEED: the statements are not yours to turn. If you find one false, say at which input.
  Laid BY PROGRAM, IN A SANDBOX (cutbox-rows.mjs): the forced cells as the released guide's own fill.sh prints them over the translation ff40d8477639a4d9… (all of the seat's roots in one cut). By AI agents, Wed Nov 11 2026. No macro, syntax, notation, axiom, sorry.
-/
import Derived.Test.YtpdmmpajjdaebaaGreatChecked
import GoSem.Claim
import GoSem.ClaimJoined
import GoSem.ClaimMapViews
import Derived.JoinedTies
import Derived.KernelRfl
namespace Go.Proofs.YtpdmmpajjdaebaaGreat
/- THE CELL 'sum', in the pinned program and in every row, IS THE sha256 OF THE DUMP (.gsa) THAT YtpdmmpajjdaebaaGreatProg.lean LOADS. Nothing in Lean hashes anything: it is a label: what it is worth is what the hold of that sum in a sandbox is worth. -/
noncomputable def Tryz.pinned : Pinned := { name := "ytpdmmpajjdaebaagreat", sum := "ff40d8477639a4d99a71802eb5c38d49d4ffc1fd58a585fe67bc5bcbc36fba15", checked := Tryz.checked }
namespace Rows
def none {H : Type} : Left H := { results := [], args := [] }

/-- 'wampumlaw17.ReplicaNil': WHATEVER THE INPUT: true; the input reads as it did. -/
def replicaNilSpec : ChangeSpec := { name := "replicaNil", fn := fun _ => fun
  | [d] => { results := [.lit (.bool true)], args := [d] }
  | _ => none }
def replicaNilRow : OpenClaim := { program := "ytpdmmpajjdaebaagreat", sum := "ff40d8477639a4d99a71802eb5c38d49d4ffc1fd58a585fe67bc5bcbc36fba15", func := "wampum/wampumlaw17.ReplicaNil", spec := "replicaNil", unfollowed := true, recurses := true, plainKeys := false, apart := false }
def ReplicaNilSaid : Prop := replicaNilRow.holds Tryz.pinned (OpenSpec.ofChange replicaNilSpec)

/-- ITS FALSE NEIGHBOUR: 'it returns false'. Refute it at one input. -/
def replicaNilWrong : ChangeSpec := { name := "replicaNil", fn := fun _ => fun
  | [d] => { results := [.lit (.bool false)], args := [d] }
  | _ => none }
def ReplicaNilWrongFalsely : Prop := replicaNilRow.holds Tryz.pinned (OpenSpec.ofChange replicaNilWrong)

/-- 'wampumlaw20.ServerNil': WHATEVER THE INPUT: true; the input reads as it did. -/
def serverNilSpec : ChangeSpec := { name := "serverNil", fn := fun _ => fun
  | [d] => { results := [.lit (.bool true)], args := [d] }
  | _ => none }
def serverNilRow : OpenClaim := { program := "ytpdmmpajjdaebaagreat", sum := "ff40d8477639a4d99a71802eb5c38d49d4ffc1fd58a585fe67bc5bcbc36fba15", func := "wampum/wampumlaw20.ServerNil", spec := "serverNil", unfollowed := true, recurses := true, plainKeys := false, apart := false }
def ServerNilSaid : Prop := serverNilRow.holds Tryz.pinned (OpenSpec.ofChange serverNilSpec)

/-- ITS FALSE NEIGHBOUR: 'it returns false'. Refute it at one input. -/
def serverNilWrong : ChangeSpec := { name := "serverNil", fn := fun _ => fun
  | [d] => { results := [.lit (.bool false)], args := [d] }
  | _ => none }
def ServerNilWrongFalsely : Prop := serverNilRow.holds Tryz.pinned (OpenSpec.ofChange serverNilWrong)

/-- 'wampumlaw23.NodeNil': WHATEVER THE INPUT: true; the input reads as it did. -/
def nodeNilSpec : ChangeSpec := { name := "nodeNil", fn := fun _ => fun
  | [d] => { results := [.lit (.bool true)], args := [d] }
  | _ => none }
def nodeNilRow : OpenClaim := { program := "ytpdmmpajjdaebaagreat", sum := "ff40d8477639a4d99a71802eb5c38d49d4ffc1fd58a585fe67bc5bcbc36fba15", func := "wampum/wampumlaw23.NodeNil", spec := "nodeNil", inPlace := ["sync/atomic.StoreInt64", "sync/atomic.AddInt64", "sync/atomic.LoadInt64"], unfollowed := true, recurses := true, plainKeys := false, apart := false }
def NodeNilSaid : Prop := nodeNilRow.holds Tryz.pinned (OpenSpec.ofChange nodeNilSpec)

/-- ITS FALSE NEIGHBOUR: 'it returns false'. Refute it at one input. -/
def nodeNilWrong : ChangeSpec := { name := "nodeNil", fn := fun _ => fun
  | [d] => { results := [.lit (.bool false)], args := [d] }
  | _ => none }
def NodeNilWrongFalsely : Prop := nodeNilRow.holds Tryz.pinned (OpenSpec.ofChange nodeNilWrong)

/- THE SECOND FORM. 'bulk': how many values and letters a reading holds, each counted each time it is reached (what is shared counts as often as it is met; a slice's spare places count too). A statement '..UptoSaid' is the law's where the arguments, and the package variables that the reading takes, are together of bulk at most 1048576: NARROWER than '..Said'. Prove '..Said' where nothing that the law and all that it calls make is longer than what came in: it says more and counts as full. Else prove '..UptoSaid'. A law counts once. -/
mutual
def uptoBulk {H : Type} : DataW H → Nat
  | .lit (.string bytes) => bytes.length + 1
  | .lit _ => 1
  | .nil => 1
  | .ptr d => uptoBulk d + 1
  | .slice elems spare => uptoBulkAll elems + uptoBulkAll spare + 1
  | .agg parts => uptoBulkAll parts + 1
  | .iface _ d => uptoBulk d + 1
  | .map entries => uptoBulkEntries entries + 1
  | .held _ => 1
def uptoBulkAll {H : Type} : List (DataW H) → Nat
  | [] => 0
  | d :: r => uptoBulk d + uptoBulkAll r
def uptoBulkEntries {H : Type} : List (Lit × DataW H) → Nat
  | [] => 0
  | x :: r => uptoBulkEntry x + uptoBulkEntries r
def uptoBulkEntry {H : Type} : Lit × DataW H → Nat
  | (.string bytes, d) => bytes.length + uptoBulk d + 1
  | (_, d) => uptoBulk d + 1
 end
def uptoSmall : (H : Type) → List (DataW H) → Bool := fun _ ds => decide (uptoBulkAll ds ≤ 1048576)
def OpenSpec.upto (s : _root_.Go.ChangeSpec) : _root_.Go.OpenSpec := { _root_.Go.OpenSpec.ofChange s with cond := some uptoSmall }

/-- 'wampumlaw17.ReplicaNil', WHERE WHAT IT READS IS OF BULK AT MOST 1048576: true; the input reads as it did. -/
def replicaNilUptoRow : OpenClaim := { program := "ytpdmmpajjdaebaagreat", sum := "ff40d8477639a4d99a71802eb5c38d49d4ffc1fd58a585fe67bc5bcbc36fba15", func := "wampum/wampumlaw17.ReplicaNil", spec := "replicaNil", unfollowed := true, recurses := true, plainKeys := false, apart := false, narrowed := true }
def ReplicaNilUptoSaid : Prop := replicaNilUptoRow.holds Tryz.pinned (OpenSpec.upto replicaNilSpec)

/-- 'wampumlaw20.ServerNil', WHERE WHAT IT READS IS OF BULK AT MOST 1048576: true; the input reads as it did. -/
def serverNilUptoRow : OpenClaim := { program := "ytpdmmpajjdaebaagreat", sum := "ff40d8477639a4d99a71802eb5c38d49d4ffc1fd58a585fe67bc5bcbc36fba15", func := "wampum/wampumlaw20.ServerNil", spec := "serverNil", unfollowed := true, recurses := true, plainKeys := false, apart := false, narrowed := true }
def ServerNilUptoSaid : Prop := serverNilUptoRow.holds Tryz.pinned (OpenSpec.upto serverNilSpec)

/-- 'wampumlaw23.NodeNil', WHERE WHAT IT READS IS OF BULK AT MOST 1048576: true; the input reads as it did. -/
def nodeNilUptoRow : OpenClaim := { program := "ytpdmmpajjdaebaagreat", sum := "ff40d8477639a4d99a71802eb5c38d49d4ffc1fd58a585fe67bc5bcbc36fba15", func := "wampum/wampumlaw23.NodeNil", spec := "nodeNil", inPlace := ["sync/atomic.StoreInt64", "sync/atomic.AddInt64", "sync/atomic.LoadInt64"], unfollowed := true, recurses := true, plainKeys := false, apart := false, narrowed := true }
def NodeNilUptoSaid : Prop := nodeNilUptoRow.holds Tryz.pinned (OpenSpec.upto nodeNilSpec)

end Rows
end Go.Proofs.YtpdmmpajjdaebaaGreat
