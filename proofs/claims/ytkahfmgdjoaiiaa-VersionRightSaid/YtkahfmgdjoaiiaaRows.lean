/-
  No cell of these rows narrows 'for every input' (looked for: loops, veiled, ifaces, maps, wideKeys, modest, calm, conditions, laid).
  DERIVED. THE GIVEN ROWS OF THIS SEAT. 8 by the template 'for every input the law returns true; each argument reads behind the call as it read before'; 0 by the template 'total and deterministic' (their statements: YtkahfmgdjoaiiaaTotals.lean).
  GIVEN WITH THE SEED: the statements are not yours to turn. If you find one false, say at which input.
  Laid BY PROGRAM, IN A SANDBOX (cutbox-rows.mjs): the forced cells as the released guide's own fill.sh prints them over the translation bc5742919b129beb… (all of the seat's roots in one cut). By AI agents, Wed Nov 11 2026. No macro, syntax, notation, axiom, sorry.
-/
import Derived.Test.YtkahfmgdjoaiiaaChecked
import GoSem.Claim
import GoSem.ClaimJoined
import GoSem.ClaimMapViews
import Derived.JoinedTies
import Derived.KernelRfl
namespace Go.Proofs.Ytkahfmgdjoaiiaa
/- THE CELL 'sum', in the pinned program and in every row, IS THE sha256 OF THE DUMP (.gsa) THAT YtkahfmgdjoaiiaaProg.lean LOADS. Nothing in Lean hashes anything: it is a label: what it is worth is what the hold of that sum in a sandbox is worth. -/
noncomputable def Try.pinned : Pinned := { name := "ytkahfmgdjoaiiaa", sum := "bc5742919b129bebacee8b399498b78d1ebbbce6656927c75d94e1c6e9a95666", checked := Try.checked }
namespace Rows
def none {H : Type} : Left H := { results := [], args := [] }

/-- 'wampumlaw08.VersionWrites': WHATEVER THE INPUT: true; the input reads as it did. -/
def versionWritesSpec : ChangeSpec := { name := "versionWrites", fn := fun _ => fun
  | [d1, d2] => { results := [.lit (.bool true)], args := [d1, d2] }
  | _ => none }
def versionWritesRow : OpenClaim := { program := "ytkahfmgdjoaiiaa", sum := "bc5742919b129bebacee8b399498b78d1ebbbce6656927c75d94e1c6e9a95666", func := "wampum/wampumlaw08.VersionWrites", spec := "versionWrites", unfollowed := true, recurses := true, apart := false }
def VersionWritesSaid : Prop := versionWritesRow.holds Try.pinned (OpenSpec.ofChange versionWritesSpec)

/-- ITS FALSE NEIGHBOUR: 'it returns false'. Refute it at one input. -/
def versionWritesWrong : ChangeSpec := { name := "versionWrites", fn := fun _ => fun
  | [d1, d2] => { results := [.lit (.bool false)], args := [d1, d2] }
  | _ => none }
def VersionWritesWrongFalsely : Prop := versionWritesRow.holds Try.pinned (OpenSpec.ofChange versionWritesWrong)

/-- 'wampumlaw08.VersionStays': WHATEVER THE INPUT: true; the input reads as it did. -/
def versionStaysSpec : ChangeSpec := { name := "versionStays", fn := fun _ => fun
  | [d1, d2, d3] => { results := [.lit (.bool true)], args := [d1, d2, d3] }
  | _ => none }
def versionStaysRow : OpenClaim := { program := "ytkahfmgdjoaiiaa", sum := "bc5742919b129bebacee8b399498b78d1ebbbce6656927c75d94e1c6e9a95666", func := "wampum/wampumlaw08.VersionStays", spec := "versionStays", unfollowed := true, recurses := true, apart := false }
def VersionStaysSaid : Prop := versionStaysRow.holds Try.pinned (OpenSpec.ofChange versionStaysSpec)

/-- ITS FALSE NEIGHBOUR: 'it returns false'. Refute it at one input. -/
def versionStaysWrong : ChangeSpec := { name := "versionStays", fn := fun _ => fun
  | [d1, d2, d3] => { results := [.lit (.bool false)], args := [d1, d2, d3] }
  | _ => none }
def VersionStaysWrongFalsely : Prop := versionStaysRow.holds Try.pinned (OpenSpec.ofChange versionStaysWrong)

/-- 'wampumlaw08.VersionRefreshed': WHATEVER THE INPUT: true; the input reads as it did. -/
def versionRefreshedSpec : ChangeSpec := { name := "versionRefreshed", fn := fun _ => fun
  | [d1, d2, d3] => { results := [.lit (.bool true)], args := [d1, d2, d3] }
  | _ => none }
def versionRefreshedRow : OpenClaim := { program := "ytkahfmgdjoaiiaa", sum := "bc5742919b129bebacee8b399498b78d1ebbbce6656927c75d94e1c6e9a95666", func := "wampum/wampumlaw08.VersionRefreshed", spec := "versionRefreshed", unfollowed := true, recurses := true, apart := false }
def VersionRefreshedSaid : Prop := versionRefreshedRow.holds Try.pinned (OpenSpec.ofChange versionRefreshedSpec)

/-- ITS FALSE NEIGHBOUR: 'it returns false'. Refute it at one input. -/
def versionRefreshedWrong : ChangeSpec := { name := "versionRefreshed", fn := fun _ => fun
  | [d1, d2, d3] => { results := [.lit (.bool false)], args := [d1, d2, d3] }
  | _ => none }
def VersionRefreshedWrongFalsely : Prop := versionRefreshedRow.holds Try.pinned (OpenSpec.ofChange versionRefreshedWrong)

/-- 'wampumlaw08.VersionReads': WHATEVER THE INPUT: true; the input reads as it did. -/
def versionReadsSpec : ChangeSpec := { name := "versionReads", fn := fun _ => fun
  | [d1, d2, d3] => { results := [.lit (.bool true)], args := [d1, d2, d3] }
  | _ => none }
def versionReadsRow : OpenClaim := { program := "ytkahfmgdjoaiiaa", sum := "bc5742919b129bebacee8b399498b78d1ebbbce6656927c75d94e1c6e9a95666", func := "wampum/wampumlaw08.VersionReads", spec := "versionReads", unfollowed := true, recurses := true, apart := false }
def VersionReadsSaid : Prop := versionReadsRow.holds Try.pinned (OpenSpec.ofChange versionReadsSpec)

/-- ITS FALSE NEIGHBOUR: 'it returns false'. Refute it at one input. -/
def versionReadsWrong : ChangeSpec := { name := "versionReads", fn := fun _ => fun
  | [d1, d2, d3] => { results := [.lit (.bool false)], args := [d1, d2, d3] }
  | _ => none }
def VersionReadsWrongFalsely : Prop := versionReadsRow.holds Try.pinned (OpenSpec.ofChange versionReadsWrong)

/-- 'wampumlaw08.VersionOnce': WHATEVER THE INPUT: true; the input reads as it did. -/
def versionOnceSpec : ChangeSpec := { name := "versionOnce", fn := fun _ => fun
  | [d1, d2, d3] => { results := [.lit (.bool true)], args := [d1, d2, d3] }
  | _ => none }
def versionOnceRow : OpenClaim := { program := "ytkahfmgdjoaiiaa", sum := "bc5742919b129bebacee8b399498b78d1ebbbce6656927c75d94e1c6e9a95666", func := "wampum/wampumlaw08.VersionOnce", spec := "versionOnce", unfollowed := true, recurses := true, apart := false }
def VersionOnceSaid : Prop := versionOnceRow.holds Try.pinned (OpenSpec.ofChange versionOnceSpec)

/-- ITS FALSE NEIGHBOUR: 'it returns false'. Refute it at one input. -/
def versionOnceWrong : ChangeSpec := { name := "versionOnce", fn := fun _ => fun
  | [d1, d2, d3] => { results := [.lit (.bool false)], args := [d1, d2, d3] }
  | _ => none }
def VersionOnceWrongFalsely : Prop := versionOnceRow.holds Try.pinned (OpenSpec.ofChange versionOnceWrong)

/-- 'wampumlaw08.VersionRight': WHATEVER THE INPUT: true; the input reads as it did. -/
def versionRightSpec : ChangeSpec := { name := "versionRight", fn := fun _ => fun
  | [d] => { results := [.lit (.bool true)], args := [d] }
  | _ => none }
def versionRightRow : OpenClaim := { program := "ytkahfmgdjoaiiaa", sum := "bc5742919b129bebacee8b399498b78d1ebbbce6656927c75d94e1c6e9a95666", func := "wampum/wampumlaw08.VersionRight", spec := "versionRight", unfollowed := true, recurses := true, apart := false }
def VersionRightSaid : Prop := versionRightRow.holds Try.pinned (OpenSpec.ofChange versionRightSpec)

/-- ITS FALSE NEIGHBOUR: 'it returns false'. Refute it at one input. -/
def versionRightWrong : ChangeSpec := { name := "versionRight", fn := fun _ => fun
  | [d] => { results := [.lit (.bool false)], args := [d] }
  | _ => none }
def VersionRightWrongFalsely : Prop := versionRightRow.holds Try.pinned (OpenSpec.ofChange versionRightWrong)

/-- 'wampumlaw08.VersionSees': WHATEVER THE INPUT: true; the input reads as it did. -/
def versionSeesSpec : ChangeSpec := { name := "versionSees", fn := fun _ => fun
  | [d1, d2, d3] => { results := [.lit (.bool true)], args := [d1, d2, d3] }
  | _ => none }
def versionSeesRow : OpenClaim := { program := "ytkahfmgdjoaiiaa", sum := "bc5742919b129bebacee8b399498b78d1ebbbce6656927c75d94e1c6e9a95666", func := "wampum/wampumlaw08.VersionSees", spec := "versionSees", unfollowed := true, recurses := true, apart := false }
def VersionSeesSaid : Prop := versionSeesRow.holds Try.pinned (OpenSpec.ofChange versionSeesSpec)

/-- ITS FALSE NEIGHBOUR: 'it returns false'. Refute it at one input. -/
def versionSeesWrong : ChangeSpec := { name := "versionSees", fn := fun _ => fun
  | [d1, d2, d3] => { results := [.lit (.bool false)], args := [d1, d2, d3] }
  | _ => none }
def VersionSeesWrongFalsely : Prop := versionSeesRow.holds Try.pinned (OpenSpec.ofChange versionSeesWrong)

/-- 'wampumlaw08.VersionTells': WHATEVER THE INPUT: true; the input reads as it did. -/
def versionTellsSpec : ChangeSpec := { name := "versionTells", fn := fun _ => fun
  | [d1, d2] => { results := [.lit (.bool true)], args := [d1, d2] }
  | _ => none }
def versionTellsRow : OpenClaim := { program := "ytkahfmgdjoaiiaa", sum := "bc5742919b129bebacee8b399498b78d1ebbbce6656927c75d94e1c6e9a95666", func := "wampum/wampumlaw08.VersionTells", spec := "versionTells", unfollowed := true, recurses := true, apart := false }
def VersionTellsSaid : Prop := versionTellsRow.holds Try.pinned (OpenSpec.ofChange versionTellsSpec)

/-- ITS FALSE NEIGHBOUR: 'it returns false'. Refute it at one input. -/
def versionTellsWrong : ChangeSpec := { name := "versionTells", fn := fun _ => fun
  | [d1, d2] => { results := [.lit (.bool false)], args := [d1, d2] }
  | _ => none }
def VersionTellsWrongFalsely : Prop := versionTellsRow.holds Try.pinned (OpenSpec.ofChange versionTellsWrong)

/- THE SECOND FORM. 'bulk': how many values and letters a reading holds, each counted each time it is reached (what is shared counts as often as it is met; a slice's spare places count too). A statement '..UptoSaid' is the law's where the arguments, and the package variables that the reading takes, are together of bulk at most 1048576: NARROWER than '..Said'. Prove '..Said' where nothing that the law and all that it calls make is longer than what came in: it says more and counts as full. Else prove '..UptoSaid'. A law counts once. -/
mutual
def uptoBulk {H : Type} : DataW H → Nat
  | .lit (.string bytes) => bytes.length + 1
  | .lit _ => 1
  | .nil => 1
  | .ptr d => uptoBulk d + 1
  | .slice elems spare => uptoBulkAll elems + uptoBulkAll spare + 1
  | .agg parts => uptoBulkAll parts + 1
  | .iface _ d => uptoBulk d + 1
  | .map entries => uptoBulkEntries entries + 1
  | .held _ => 1
def uptoBulkAll {H : Type} : List (DataW H) → Nat
  | [] => 0
  | d :: r => uptoBulk d + uptoBulkAll r
def uptoBulkEntries {H : Type} : List (Lit × DataW H) → Nat
  | [] => 0
  | x :: r => uptoBulkEntry x + uptoBulkEntries r
def uptoBulkEntry {H : Type} : Lit × DataW H → Nat
  | (.string bytes, d) => bytes.length + uptoBulk d + 1
  | (_, d) => uptoBulk d + 1
 end
def uptoSmall : (H : Type) → List (DataW H) → Bool := fun _ ds => decide (uptoBulkAll ds ≤ 1048576)
def OpenSpec.upto (s : _root_.Go.ChangeSpec) : _root_.Go.OpenSpec := { _root_.Go.OpenSpec.ofChange s with cond := some uptoSmall }

/-- 'wampumlaw08.VersionWrites', WHERE WHAT IT READS IS OF BULK AT MOST 1048576: true; the input reads as it did. -/
def versionWritesUptoRow : OpenClaim := { program := "ytkahfmgdjoaiiaa", sum := "bc5742919b129bebacee8b399498b78d1ebbbce6656927c75d94e1c6e9a95666", func := "wampum/wampumlaw08.VersionWrites", spec := "versionWrites", unfollowed := true, recurses := true, apart := false, narrowed := true }
def VersionWritesUptoSaid : Prop := versionWritesUptoRow.holds Try.pinned (OpenSpec.upto versionWritesSpec)

/-- 'wampumlaw08.VersionStays', WHERE WHAT IT READS IS OF BULK AT MOST 1048576: true; the input reads as it did. -/
def versionStaysUptoRow : OpenClaim := { program := "ytkahfmgdjoaiiaa", sum := "bc5742919b129bebacee8b399498b78d1ebbbce6656927c75d94e1c6e9a95666", func := "wampum/wampumlaw08.VersionStays", spec := "versionStays", unfollowed := true, recurses := true, apart := false, narrowed := true }
def VersionStaysUptoSaid : Prop := versionStaysUptoRow.holds Try.pinned (OpenSpec.upto versionStaysSpec)

/-- 'wampumlaw08.VersionRefreshed', WHERE WHAT IT READS IS OF BULK AT MOST 1048576: true; the input reads as it did. -/
def versionRefreshedUptoRow : OpenClaim := { program := "ytkahfmgdjoaiiaa", sum := "bc5742919b129bebacee8b399498b78d1ebbbce6656927c75d94e1c6e9a95666", func := "wampum/wampumlaw08.VersionRefreshed", spec := "versionRefreshed", unfollowed := true, recurses := true, apart := false, narrowed := true }
def VersionRefreshedUptoSaid : Prop := versionRefreshedUptoRow.holds Try.pinned (OpenSpec.upto versionRefreshedSpec)

/-- 'wampumlaw08.VersionReads', WHERE WHAT IT READS IS OF BULK AT MOST 1048576: true; the input reads as it did. -/
def versionReadsUptoRow : OpenClaim := { program := "ytkahfmgdjoaiiaa", sum := "bc5742919b129bebacee8b399498b78d1ebbbce6656927c75d94e1c6e9a95666", func := "wampum/wampumlaw08.VersionReads", spec := "versionReads", unfollowed := true, recurses := true, apart := false, narrowed := true }
def VersionReadsUptoSaid : Prop := versionReadsUptoRow.holds Try.pinned (OpenSpec.upto versionReadsSpec)

/-- 'wampumlaw08.VersionOnce', WHERE WHAT IT READS IS OF BULK AT MOST 1048576: true; the input reads as it did. -/
def versionOnceUptoRow : OpenClaim := { program := "ytkahfmgdjoaiiaa", sum := "bc5742919b129bebacee8b399498b78d1ebbbce6656927c75d94e1c6e9a95666", func := "wampum/wampumlaw08.VersionOnce", spec := "versionOnce", unfollowed := true, recurses := true, apart := false, narrowed := true }
def VersionOnceUptoSaid : Prop := versionOnceUptoRow.holds Try.pinned (OpenSpec.upto versionOnceSpec)

/-- 'wampumlaw08.VersionRight', WHERE WHAT IT READS IS OF BULK AT MOST 1048576: true; the input reads as it did. -/
def versionRightUptoRow : OpenClaim := { program := "ytkahfmgdjoaiiaa", sum := "bc5742919b129bebacee8b399498b78d1ebbbce6656927c75d94e1c6e9a95666", func := "wampum/wampumlaw08.VersionRight", spec := "versionRight", unfollowed := true, recurses := true, apart := false, narrowed := true }
def VersionRightUptoSaid : Prop := versionRightUptoRow.holds Try.pinned (OpenSpec.upto versionRightSpec)

/-- 'wampumlaw08.VersionSees', WHERE WHAT IT READS IS OF BULK AT MOST 1048576: true; the input reads as it did. -/
def versionSeesUptoRow : OpenClaim := { program := "ytkahfmgdjoaiiaa", sum := "bc5742919b129bebacee8b399498b78d1ebbbce6656927c75d94e1c6e9a95666", func := "wampum/wampumlaw08.VersionSees", spec := "versionSees", unfollowed := true, recurses := true, apart := false, narrowed := true }
def VersionSeesUptoSaid : Prop := versionSeesUptoRow.holds Try.pinned (OpenSpec.upto versionSeesSpec)

/-- 'wampumlaw08.VersionTells', WHERE WHAT IT READS IS OF BULK AT MOST 1048576: true; the input reads as it did. -/
def versionTellsUptoRow : OpenClaim := { program := "ytkahfmgdjoaiiaa", sum := "bc5742919b129bebacee8b399498b78d1ebbbce6656927c75d94e1c6e9a95666", func := "wampum/wampumlaw08.VersionTells", spec := "versionTells", unfollowed := true, recurses := true, apart := false, narrowed := true }
def VersionTellsUptoSaid : Prop := versionTellsUptoRow.holds Try.pinned (OpenSpec.upto versionTellsSpec)

end Rows
end Go.Proofs.Ytkahfmgdjoaiiaa
