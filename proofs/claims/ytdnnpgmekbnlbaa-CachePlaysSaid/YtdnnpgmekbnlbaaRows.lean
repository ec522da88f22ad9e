/-
  No cell of these rows narrows 'for every input' (looked for: loops, veiled, ifaces, maps, wideKeys, modest, calm, conditions, laid).
  DERIVED. THE GIVEN ROWS OF THIS SEAT. 10 by the template 'for every input the law returns true; each argument reads behind the call as it read before'; 0 by the template 'total and deterministic' (their statements: YtdnnpgmekbnlbaaTotals.lean).
  GIVEN WITH THE SEED: the statements are not yours to turn. If you find one false, say at which input.
  Laid BY PROGRAM, IN A SANDBOX (cutbox-rows.mjs): the forced cells as the released guide's own fill.sh prints them over the translation 9bcb93bb620fdbaf… (all of the seat's roots in one cut). By AI agents, Wed Nov 11 2026. No macro, syntax, notation, axiom, sorry.
-/
import Derived.Test.YtdnnpgmekbnlbaaChecked
import GoSem.Claim
import GoSem.ClaimJoined
import GoSem.ClaimMapViews
import Derived.JoinedTies
import Derived.KernelRfl
namespace Go.Proofs.Ytdnnpgmekbnlbaa
/- THE CELL 'sum', in the pinned program and in every row, IS THE sha256 OF THE DUMP (.gsa) THAT YtdnnpgmekbnlbaaProg.lean LOADS. Nothing in Lean hashes anything: it is a label: what it is worth is what the hold of that sum in a sandbox is worth. -/
noncomputable def Try.pinned : Pinned := { name := "ytdnnpgmekbnlbaa", sum := "9bcb93bb620fdbaf5ed30ff529d4ce5c957d993f36c8317ecdcd0ec8dfa0a6fd", checked := Try.checked }
namespace Rows
def none {H : Type} : Left H := { results := [], args := [] }

/-- 'wampumlaw10.CacheExact': WHATEVER THE INPUT: true; the input reads as it did. -/
def cacheExactSpec : ChangeSpec := { name := "cacheExact", fn := fun _ => fun
  | [d1, d2, d3] => { results := [.lit (.bool true)], args := [d1, d2, d3] }
  | _ => none }
def cacheExactRow : OpenClaim := { program := "ytdnnpgmekbnlbaa", sum := "9bcb93bb620fdbaf5ed30ff529d4ce5c957d993f36c8317ecdcd0ec8dfa0a6fd", func := "wampum/wampumlaw10.CacheExact", spec := "cacheExact", unfollowed := true, recurses := true, apart := false }
def CacheExactSaid : Prop := cacheExactRow.holds Try.pinned (OpenSpec.ofChange cacheExactSpec)

/-- ITS FALSE NEIGHBOUR: 'it returns false'. Refute it at one input. -/
def cacheExactWrong : ChangeSpec := { name := "cacheExact", fn := fun _ => fun
  | [d1, d2, d3] => { results := [.lit (.bool false)], args := [d1, d2, d3] }
  | _ => none }
def CacheExactWrongFalsely : Prop := cacheExactRow.holds Try.pinned (OpenSpec.ofChange cacheExactWrong)

/-- 'wampumlaw10.CacheMost': WHATEVER THE INPUT: true; the input reads as it did. -/
def cacheMostSpec : ChangeSpec := { name := "cacheMost", fn := fun _ => fun
  | [d1, d2, d3] => { results := [.lit (.bool true)], args := [d1, d2, d3] }
  | _ => none }
def cacheMostRow : OpenClaim := { program := "ytdnnpgmekbnlbaa", sum := "9bcb93bb620fdbaf5ed30ff529d4ce5c957d993f36c8317ecdcd0ec8dfa0a6fd", func := "wampum/wampumlaw10.CacheMost", spec := "cacheMost", unfollowed := true, recurses := true, apart := false }
def CacheMostSaid : Prop := cacheMostRow.holds Try.pinned (OpenSpec.ofChange cacheMostSpec)

/-- ITS FALSE NEIGHBOUR: 'it returns false'. Refute it at one input. -/
def cacheMostWrong : ChangeSpec := { name := "cacheMost", fn := fun _ => fun
  | [d1, d2, d3] => { results := [.lit (.bool false)], args := [d1, d2, d3] }
  | _ => none }
def CacheMostWrongFalsely : Prop := cacheMostRow.holds Try.pinned (OpenSpec.ofChange cacheMostWrong)

/-- 'wampumlaw10.CachePlays': WHATEVER THE INPUT: true; the input reads as it did. -/
def cachePlaysSpec : ChangeSpec := { name := "cachePlays", fn := fun _ => fun
  | [d1, d2] => { results := [.lit (.bool true)], args := [d1, d2] }
  | _ => none }
def cachePlaysRow : OpenClaim := { program := "ytdnnpgmekbnlbaa", sum := "9bcb93bb620fdbaf5ed30ff529d4ce5c957d993f36c8317ecdcd0ec8dfa0a6fd", func := "wampum/wampumlaw10.CachePlays", spec := "cachePlays", unfollowed := true, recurses := true, apart := false }
def CachePlaysSaid : Prop := cachePlaysRow.holds Try.pinned (OpenSpec.ofChange cachePlaysSpec)

/-- ITS FALSE NEIGHBOUR: 'it returns false'. Refute it at one input. -/
def cachePlaysWrong : ChangeSpec := { name := "cachePlays", fn := fun _ => fun
  | [d1, d2] => { results := [.lit (.bool false)], args := [d1, d2] }
  | _ => none }
def CachePlaysWrongFalsely : Prop := cachePlaysRow.holds Try.pinned (OpenSpec.ofChange cachePlaysWrong)

/-- 'wampumlaw10.CacheNil': WHATEVER THE INPUT: true; the input reads as it did. -/
def cacheNilSpec : ChangeSpec := { name := "cacheNil", fn := fun _ => fun
  | [d] => { results := [.lit (.bool true)], args := [d] }
  | _ => none }
def cacheNilRow : OpenClaim := { program := "ytdnnpgmekbnlbaa", sum := "9bcb93bb620fdbaf5ed30ff529d4ce5c957d993f36c8317ecdcd0ec8dfa0a6fd", func := "wampum/wampumlaw10.CacheNil", spec := "cacheNil", unfollowed := true, recurses := true, apart := false }
def CacheNilSaid : Prop := cacheNilRow.holds Try.pinned (OpenSpec.ofChange cacheNilSpec)

/-- ITS FALSE NEIGHBOUR: 'it returns false'. Refute it at one input. -/
def cacheNilWrong : ChangeSpec := { name := "cacheNil", fn := fun _ => fun
  | [d] => { results := [.lit (.bool false)], args := [d] }
  | _ => none }
def CacheNilWrongFalsely : Prop := cacheNilRow.holds Try.pinned (OpenSpec.ofChange cacheNilWrong)

/-- 'wampumlaw05.SpanTells': WHATEVER THE INPUT: true; the input reads as it did. -/
def spanTellsSpec : ChangeSpec := { name := "spanTells", fn := fun _ => fun
  | [d1, d2, d3] => { results := [.lit (.bool true)], args := [d1, d2, d3] }
  | _ => none }
def spanTellsRow : OpenClaim := { program := "ytdnnpgmekbnlbaa", sum := "9bcb93bb620fdbaf5ed30ff529d4ce5c957d993f36c8317ecdcd0ec8dfa0a6fd", func := "wampum/wampumlaw05.SpanTells", spec := "spanTells", unfollowed := true, recurses := true, apart := false }
def SpanTellsSaid : Prop := spanTellsRow.holds Try.pinned (OpenSpec.ofChange spanTellsSpec)

/-- ITS FALSE NEIGHBOUR: 'it returns false'. Refute it at one input. -/
def spanTellsWrong : ChangeSpec := { name := "spanTells", fn := fun _ => fun
  | [d1, d2, d3] => { results := [.lit (.bool false)], args := [d1, d2, d3] }
  | _ => none }
def SpanTellsWrongFalsely : Prop := spanTellsRow.holds Try.pinned (OpenSpec.ofChange spanTellsWrong)

/-- 'wampumlaw05.SpanKeys': WHATEVER THE INPUT: true; the input reads as it did. -/
def spanKeysSpec : ChangeSpec := { name := "spanKeys", fn := fun _ => fun
  | [d1, d2] => { results := [.lit (.bool true)], args := [d1, d2] }
  | _ => none }
def spanKeysRow : OpenClaim := { program := "ytdnnpgmekbnlbaa", sum := "9bcb93bb620fdbaf5ed30ff529d4ce5c957d993f36c8317ecdcd0ec8dfa0a6fd", func := "wampum/wampumlaw05.SpanKeys", spec := "spanKeys", unfollowed := true, recurses := true, apart := false }
def SpanKeysSaid : Prop := spanKeysRow.holds Try.pinned (OpenSpec.ofChange spanKeysSpec)

/-- ITS FALSE NEIGHBOUR: 'it returns false'. Refute it at one input. -/
def spanKeysWrong : ChangeSpec := { name := "spanKeys", fn := fun _ => fun
  | [d1, d2] => { results := [.lit (.bool false)], args := [d1, d2] }
  | _ => none }
def SpanKeysWrongFalsely : Prop := spanKeysRow.holds Try.pinned (OpenSpec.ofChange spanKeysWrong)

/-- 'wampumlaw05.SpanBoth': WHATEVER THE INPUT: true; the input reads as it did. -/
def spanBothSpec : ChangeSpec := { name := "spanBoth", fn := fun _ => fun
  | [d1, d2, d3] => { results := [.lit (.bool true)], args := [d1, d2, d3] }
  | _ => none }
def spanBothRow : OpenClaim := { program := "ytdnnpgmekbnlbaa", sum := "9bcb93bb620fdbaf5ed30ff529d4ce5c957d993f36c8317ecdcd0ec8dfa0a6fd", func := "wampum/wampumlaw05.SpanBoth", spec := "spanBoth", unfollowed := true, recurses := true, apart := false }
def SpanBothSaid : Prop := spanBothRow.holds Try.pinned (OpenSpec.ofChange spanBothSpec)

/-- ITS FALSE NEIGHBOUR: 'it returns false'. Refute it at one input. -/
def spanBothWrong : ChangeSpec := { name := "spanBoth", fn := fun _ => fun
  | [d1, d2, d3] => { results := [.lit (.bool false)], args := [d1, d2, d3] }
  | _ => none }
def SpanBothWrongFalsely : Prop := spanBothRow.holds Try.pinned (OpenSpec.ofChange spanBothWrong)

/-- 'wampumlaw05.SpanParts': WHATEVER THE INPUT: true; the input reads as it did. -/
def spanPartsSpec : ChangeSpec := { name := "spanParts", fn := fun _ => fun
  | [d1, d2, d3] => { results := [.lit (.bool true)], args := [d1, d2, d3] }
  | _ => none }
def spanPartsRow : OpenClaim := { program := "ytdnnpgmekbnlbaa", sum := "9bcb93bb620fdbaf5ed30ff529d4ce5c957d993f36c8317ecdcd0ec8dfa0a6fd", func := "wampum/wampumlaw05.SpanParts", spec := "spanParts", unfollowed := true, recurses := true, apart := false }
def SpanPartsSaid : Prop := spanPartsRow.holds Try.pinned (OpenSpec.ofChange spanPartsSpec)

/-- ITS FALSE NEIGHBOUR: 'it returns false'. Refute it at one input. -/
def spanPartsWrong : ChangeSpec := { name := "spanParts", fn := fun _ => fun
  | [d1, d2, d3] => { results := [.lit (.bool false)], args := [d1, d2, d3] }
  | _ => none }
def SpanPartsWrongFalsely : Prop := spanPartsRow.holds Try.pinned (OpenSpec.ofChange spanPartsWrong)

/-- 'wampumlaw05.SpanMeets': WHATEVER THE INPUT: true; the input reads as it did. -/
def spanMeetsSpec : ChangeSpec := { name := "spanMeets", fn := fun _ => fun
  | [d1, d2, d3] => { results := [.lit (.bool true)], args := [d1, d2, d3] }
  | _ => none }
def spanMeetsRow : OpenClaim := { program := "ytdnnpgmekbnlbaa", sum := "9bcb93bb620fdbaf5ed30ff529d4ce5c957d993f36c8317ecdcd0ec8dfa0a6fd", func := "wampum/wampumlaw05.SpanMeets", spec := "spanMeets", unfollowed := true, recurses := true, apart := false }
def SpanMeetsSaid : Prop := spanMeetsRow.holds Try.pinned (OpenSpec.ofChange spanMeetsSpec)

/-- ITS FALSE NEIGHBOUR: 'it returns false'. Refute it at one input. -/
def spanMeetsWrong : ChangeSpec := { name := "spanMeets", fn := fun _ => fun
  | [d1, d2, d3] => { results := [.lit (.bool false)], args := [d1, d2, d3] }
  | _ => none }
def SpanMeetsWrongFalsely : Prop := spanMeetsRow.holds Try.pinned (OpenSpec.ofChange spanMeetsWrong)

/-- 'wampumlaw05.SpanListed': WHATEVER THE INPUT: true; the input reads as it did. -/
def spanListedSpec : ChangeSpec := { name := "spanListed", fn := fun _ => fun
  | [d1, d2] => { results := [.lit (.bool true)], args := [d1, d2] }
  | _ => none }
def spanListedRow : OpenClaim := { program := "ytdnnpgmekbnlbaa", sum := "9bcb93bb620fdbaf5ed30ff529d4ce5c957d993f36c8317ecdcd0ec8dfa0a6fd", func := "wampum/wampumlaw05.SpanListed", spec := "spanListed", unfollowed := true, recurses := true, apart := false }
def SpanListedSaid : Prop := spanListedRow.holds Try.pinned (OpenSpec.ofChange spanListedSpec)

/-- ITS FALSE NEIGHBOUR: 'it returns false'. Refute it at one input. -/
def spanListedWrong : ChangeSpec := { name := "spanListed", fn := fun _ => fun
  | [d1, d2] => { results := [.lit (.bool false)], args := [d1, d2] }
  | _ => none }
def SpanListedWrongFalsely : Prop := spanListedRow.holds Try.pinned (OpenSpec.ofChange spanListedWrong)

/- THE SECOND FORM. 'bulk': how many values and letters a reading holds, each counted each time it is reached (what is shared counts as often as it is met; a slice's spare places count too). A statement '..UptoSaid' is the law's where the arguments, and the package variables that the reading takes, are together of bulk at most 1048576: NARROWER than '..Said'. Prove '..Said' where nothing that the law and all that it calls make is longer than what came in: it says more and counts as full. Else prove '..UptoSaid'. A law counts once. -/
mutual
def uptoBulk {H : Type} : DataW H → Nat
  | .lit (.string bytes) => bytes.length + 1
  | .lit _ => 1
  | .nil => 1
  | .ptr d => uptoBulk d + 1
  | .slice elems spare => uptoBulkAll elems + uptoBulkAll spare + 1
  | .agg parts => uptoBulkAll parts + 1
  | .iface _ d => uptoBulk d + 1
  | .map entries => uptoBulkEntries entries + 1
  | .held _ => 1
def uptoBulkAll {H : Type} : List (DataW H) → Nat
  | [] => 0
  | d :: r => uptoBulk d + uptoBulkAll r
def uptoBulkEntries {H : Type} : List (Lit × DataW H) → Nat
  | [] => 0
  | x :: r => uptoBulkEntry x + uptoBulkEntries r
def uptoBulkEntry {H : Type} : Lit × DataW H → Nat
  | (.string bytes, d) => bytes.length + uptoBulk d + 1
  | (_, d) => uptoBulk d + 1
 end
def uptoSmall : (H : Type) → List (DataW H) → Bool := fun _ ds => decide (uptoBulkAll ds ≤ 1048576)
def OpenSpec.upto (s : _root_.Go.ChangeSpec) : _root_.Go.OpenSpec := { _root_.Go.OpenSpec.ofChange s with cond := some uptoSmall }

/-- 'wampumlaw10.CacheExact', WHERE WHAT IT READS IS OF BULK AT MOST 1048576: true; the input reads as it did. -/
def cacheExactUptoRow : OpenClaim := { program := "ytdnnpgmekbnlbaa", sum := "9bcb93bb620fdbaf5ed30ff529d4ce5c957d993f36c8317ecdcd0ec8dfa0a6fd", func := "wampum/wampumlaw10.CacheExact", spec := "cacheExact", unfollowed := true, recurses := true, apart := false, narrowed := true }
def CacheExactUptoSaid : Prop := cacheExactUptoRow.holds Try.pinned (OpenSpec.upto cacheExactSpec)

/-- 'wampumlaw10.CacheMost', WHERE WHAT IT READS IS OF BULK AT MOST 1048576: true; the input reads as it did. -/
def cacheMostUptoRow : OpenClaim := { program := "ytdnnpgmekbnlbaa", sum := "9bcb93bb620fdbaf5ed30ff529d4ce5c957d993f36c8317ecdcd0ec8dfa0a6fd", func := "wampum/wampumlaw10.CacheMost", spec := "cacheMost", unfollowed := true, recurses := true, apart := false, narrowed := true }
def CacheMostUptoSaid : Prop := cacheMostUptoRow.holds Try.pinned (OpenSpec.upto cacheMostSpec)

/-- 'wampumlaw10.CachePlays', WHERE WHAT IT READS IS OF BULK AT MOST 1048576: true; the input reads as it did. -/
def cachePlaysUptoRow : OpenClaim := { program := "ytdnnpgmekbnlbaa", sum := "9bcb93bb620fdbaf5ed30ff529d4ce5c957d993f36c8317ecdcd0ec8dfa0a6fd", func := "wampum/wampumlaw10.CachePlays", spec := "cachePlays", unfollowed := true, recurses := true, apart := false, narrowed := true }
def CachePlaysUptoSaid : Prop := cachePlaysUptoRow.holds Try.pinned (OpenSpec.upto cachePlaysSpec)

/-- 'wampumlaw10.CacheNil', WHERE WHAT IT READS IS OF BULK AT MOST 1048576: true; the input reads as it did. -/
def cacheNilUptoRow : OpenClaim := { program := "ytdnnpgmekbnlbaa", sum := "9bcb93bb620fdbaf5ed30ff529d4ce5c957d993f36c8317ecdcd0ec8dfa0a6fd", func := "wampum/wampumlaw10.CacheNil", spec := "cacheNil", unfollowed := true, recurses := true, apart := false, narrowed := true }
def CacheNilUptoSaid : Prop := cacheNilUptoRow.holds Try.pinned (OpenSpec.upto cacheNilSpec)

/-- 'wampumlaw05.SpanTells', WHERE WHAT IT READS IS OF BULK AT MOST 1048576: true; the input reads as it did. -/
def spanTellsUptoRow : OpenClaim := { program := "ytdnnpgmekbnlbaa", sum := "9bcb93bb620fdbaf5ed30ff529d4ce5c957d993f36c8317ecdcd0ec8dfa0a6fd", func := "wampum/wampumlaw05.SpanTells", spec := "spanTells", unfollowed := true, recurses := true, apart := false, narrowed := true }
def SpanTellsUptoSaid : Prop := spanTellsUptoRow.holds Try.pinned (OpenSpec.upto spanTellsSpec)

/-- 'wampumlaw05.SpanKeys', WHERE WHAT IT READS IS OF BULK AT MOST 1048576: true; the input reads as it did. -/
def spanKeysUptoRow : OpenClaim := { program := "ytdnnpgmekbnlbaa", sum := "9bcb93bb620fdbaf5ed30ff529d4ce5c957d993f36c8317ecdcd0ec8dfa0a6fd", func := "wampum/wampumlaw05.SpanKeys", spec := "spanKeys", unfollowed := true, recurses := true, apart := false, narrowed := true }
def SpanKeysUptoSaid : Prop := spanKeysUptoRow.holds Try.pinned (OpenSpec.upto spanKeysSpec)

/-- 'wampumlaw05.SpanBoth', WHERE WHAT IT READS IS OF BULK AT MOST 1048576: true; the input reads as it did. -/
def spanBothUptoRow : OpenClaim := { program := "ytdnnpgmekbnlbaa", sum := "9bcb93bb620fdbaf5ed30ff529d4ce5c957d993f36c8317ecdcd0ec8dfa0a6fd", func := "wampum/wampumlaw05.SpanBoth", spec := "spanBoth", unfollowed := true, recurses := true, apart := false, narrowed := true }
def SpanBothUptoSaid : Prop := spanBothUptoRow.holds Try.pinned (OpenSpec.upto spanBothSpec)

/-- 'wampumlaw05.SpanParts', WHERE WHAT IT READS IS OF BULK AT MOST 1048576: true; the input reads as it did. -/
def spanPartsUptoRow : OpenClaim := { program := "ytdnnpgmekbnlbaa", sum := "9bcb93bb620fdbaf5ed30ff529d4ce5c957d993f36c8317ecdcd0ec8dfa0a6fd", func := "wampum/wampumlaw05.SpanParts", spec := "spanParts", unfollowed := true, recurses := true, apart := false, narrowed := true }
def SpanPartsUptoSaid : Prop := spanPartsUptoRow.holds Try.pinned (OpenSpec.upto spanPartsSpec)

/-- 'wampumlaw05.SpanMeets', WHERE WHAT IT READS IS OF BULK AT MOST 1048576: true; the input reads as it did. -/
def spanMeetsUptoRow : OpenClaim := { program := "ytdnnpgmekbnlbaa", sum := "9bcb93bb620fdbaf5ed30ff529d4ce5c957d993f36c8317ecdcd0ec8dfa0a6fd", func := "wampum/wampumlaw05.SpanMeets", spec := "spanMeets", unfollowed := true, recurses := true, apart := false, narrowed := true }
def SpanMeetsUptoSaid : Prop := spanMeetsUptoRow.holds Try.pinned (OpenSpec.upto spanMeetsSpec)

/-- 'wampumlaw05.SpanListed', WHERE WHAT IT READS IS OF BULK AT MOST 1048576: true; the input reads as it did. -/
def spanListedUptoRow : OpenClaim := { program := "ytdnnpgmekbnlbaa", sum := "9bcb93bb620fdbaf5ed30ff529d4ce5c957d993f36c8317ecdcd0ec8dfa0a6fd", func := "wampum/wampumlaw05.SpanListed", spec := "spanListed", unfollowed := true, recurses := true, apart := false, narrowed := true }
def SpanListedUptoSaid : Prop := spanListedUptoRow.holds Try.pinned (OpenSpec.upto spanListedSpec)

end Rows
end Go.Proofs.Ytdnnpgmekbnlbaa
