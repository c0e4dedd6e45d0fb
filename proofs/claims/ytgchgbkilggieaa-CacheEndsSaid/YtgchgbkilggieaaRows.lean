/-
  No cell of these rows narrows 'for every input' (looked for: loops, veiled, ifaces, maps, wideKeys, modest, calm, conditions, laid).
  DERIVED. THE GIVEN ROWS OF THIS SEAT. 6 by the template 'for every input the law returns true; each argument reads behind the call as it read before'; 0 by the template 'total and deterministic' (their statements: YtgchgbkilggieaaTotals.lean).
  GIVEN WITH THE SEED: the statements are not yours to turn. If you find one false, say at which input.
  Laid BY PROGRAM, IN A SANDBOX (cutbox-rows.mjs): the forced cells as the released guide's own fill.sh prints them over the translation bc3dc74590aa5ea4… (all of the seat's roots in one cut). By AI agents, Wed Nov 11 2026. No macro, syntax, notation, axiom, sorry.
-/
import Derived.Test.YtgchgbkilggieaaChecked
import GoSem.Claim
import GoSem.ClaimJoined
import GoSem.ClaimMapViews
import Derived.JoinedTies
import Derived.KernelRfl
namespace Go.Proofs.Ytgchgbkilggieaa
/- THE CELL 'sum', in the pinned program and in every row, IS THE sha256 OF THE DUMP (.gsa) THAT YtgchgbkilggieaaProg.lean LOADS. Nothing in Lean hashes anything: it is a label: what it is worth is what the hold of that sum in a sandbox is worth. -/
noncomputable def Try.pinned : Pinned := { name := "ytgchgbkilggieaa", sum := "bc3dc74590aa5ea46ee06756645ad82b6e09b7c8a80941ed5592b989dde18541", checked := Try.checked }
namespace Rows
def none {H : Type} : Left H := { results := [], args := [] }

/-- 'glazierlaw59.CachePuts': WHATEVER THE INPUT: true; the input reads as it did. -/
def cachePutsSpec : ChangeSpec := { name := "cachePuts", fn := fun _ => fun
  | [d1, d2] => { results := [.lit (.bool true)], args := [d1, d2] }
  | _ => none }
def cachePutsRow : OpenClaim := { program := "ytgchgbkilggieaa", sum := "bc3dc74590aa5ea46ee06756645ad82b6e09b7c8a80941ed5592b989dde18541", func := "glazier/glazierlaw59.CachePuts", spec := "cachePuts", unfollowed := true, recurses := true, apart := false }
def CachePutsSaid : Prop := cachePutsRow.holds Try.pinned (OpenSpec.ofChange cachePutsSpec)

/-- ITS FALSE NEIGHBOUR: 'it returns false'. Refute it at one input. -/
def cachePutsWrong : ChangeSpec := { name := "cachePuts", fn := fun _ => fun
  | [d1, d2] => { results := [.lit (.bool false)], args := [d1, d2] }
  | _ => none }
def CachePutsWrongFalsely : Prop := cachePutsRow.holds Try.pinned (OpenSpec.ofChange cachePutsWrong)

/-- 'glazierlaw59.CacheBack': WHATEVER THE INPUT: true; the input reads as it did. -/
def cacheBackSpec : ChangeSpec := { name := "cacheBack", fn := fun _ => fun
  | [d1, d2] => { results := [.lit (.bool true)], args := [d1, d2] }
  | _ => none }
def cacheBackRow : OpenClaim := { program := "ytgchgbkilggieaa", sum := "bc3dc74590aa5ea46ee06756645ad82b6e09b7c8a80941ed5592b989dde18541", func := "glazier/glazierlaw59.CacheBack", spec := "cacheBack", unfollowed := true, recurses := true, apart := false }
def CacheBackSaid : Prop := cacheBackRow.holds Try.pinned (OpenSpec.ofChange cacheBackSpec)

/-- ITS FALSE NEIGHBOUR: 'it returns false'. Refute it at one input. -/
def cacheBackWrong : ChangeSpec := { name := "cacheBack", fn := fun _ => fun
  | [d1, d2] => { results := [.lit (.bool false)], args := [d1, d2] }
  | _ => none }
def CacheBackWrongFalsely : Prop := cacheBackRow.holds Try.pinned (OpenSpec.ofChange cacheBackWrong)

/-- 'glazierlaw59.CacheShorts': WHATEVER THE INPUT: true; the input reads as it did. -/
def cacheShortsSpec : ChangeSpec := { name := "cacheShorts", fn := fun _ => fun
  | [d1, d2] => { results := [.lit (.bool true)], args := [d1, d2] }
  | _ => none }
def cacheShortsRow : OpenClaim := { program := "ytgchgbkilggieaa", sum := "bc3dc74590aa5ea46ee06756645ad82b6e09b7c8a80941ed5592b989dde18541", func := "glazier/glazierlaw59.CacheShorts", spec := "cacheShorts", unfollowed := true, recurses := true, apart := false }
def CacheShortsSaid : Prop := cacheShortsRow.holds Try.pinned (OpenSpec.ofChange cacheShortsSpec)

/-- ITS FALSE NEIGHBOUR: 'it returns false'. Refute it at one input. -/
def cacheShortsWrong : ChangeSpec := { name := "cacheShorts", fn := fun _ => fun
  | [d1, d2] => { results := [.lit (.bool false)], args := [d1, d2] }
  | _ => none }
def CacheShortsWrongFalsely : Prop := cacheShortsRow.holds Try.pinned (OpenSpec.ofChange cacheShortsWrong)

/-- 'glazierlaw59.CacheGets': WHATEVER THE INPUT: true; the input reads as it did. -/
def cacheGetsSpec : ChangeSpec := { name := "cacheGets", fn := fun _ => fun
  | [d1, d2, d3] => { results := [.lit (.bool true)], args := [d1, d2, d3] }
  | _ => none }
def cacheGetsRow : OpenClaim := { program := "ytgchgbkilggieaa", sum := "bc3dc74590aa5ea46ee06756645ad82b6e09b7c8a80941ed5592b989dde18541", func := "glazier/glazierlaw59.CacheGets", spec := "cacheGets", unfollowed := true, recurses := true, apart := false }
def CacheGetsSaid : Prop := cacheGetsRow.holds Try.pinned (OpenSpec.ofChange cacheGetsSpec)

/-- ITS FALSE NEIGHBOUR: 'it returns false'. Refute it at one input. -/
def cacheGetsWrong : ChangeSpec := { name := "cacheGets", fn := fun _ => fun
  | [d1, d2, d3] => { results := [.lit (.bool false)], args := [d1, d2, d3] }
  | _ => none }
def CacheGetsWrongFalsely : Prop := cacheGetsRow.holds Try.pinned (OpenSpec.ofChange cacheGetsWrong)

/-- 'glazierlaw59.CacheOthers': WHATEVER THE INPUT: true; the input reads as it did. -/
def cacheOthersSpec : ChangeSpec := { name := "cacheOthers", fn := fun _ => fun
  | [d1, d2, d3] => { results := [.lit (.bool true)], args := [d1, d2, d3] }
  | _ => none }
def cacheOthersRow : OpenClaim := { program := "ytgchgbkilggieaa", sum := "bc3dc74590aa5ea46ee06756645ad82b6e09b7c8a80941ed5592b989dde18541", func := "glazier/glazierlaw59.CacheOthers", spec := "cacheOthers", unfollowed := true, recurses := true, apart := false }
def CacheOthersSaid : Prop := cacheOthersRow.holds Try.pinned (OpenSpec.ofChange cacheOthersSpec)

/-- ITS FALSE NEIGHBOUR: 'it returns false'. Refute it at one input. -/
def cacheOthersWrong : ChangeSpec := { name := "cacheOthers", fn := fun _ => fun
  | [d1, d2, d3] => { results := [.lit (.bool false)], args := [d1, d2, d3] }
  | _ => none }
def CacheOthersWrongFalsely : Prop := cacheOthersRow.holds Try.pinned (OpenSpec.ofChange cacheOthersWrong)

/-- 'glazierlaw59.CacheEnds': WHATEVER THE INPUT: true; the input reads as it did. -/
def cacheEndsSpec : ChangeSpec := { name := "cacheEnds", fn := fun _ => fun
  | [d1, d2] => { results := [.lit (.bool true)], args := [d1, d2] }
  | _ => none }
def cacheEndsRow : OpenClaim := { program := "ytgchgbkilggieaa", sum := "bc3dc74590aa5ea46ee06756645ad82b6e09b7c8a80941ed5592b989dde18541", func := "glazier/glazierlaw59.CacheEnds", spec := "cacheEnds", unfollowed := true, recurses := true, apart := false }
def CacheEndsSaid : Prop := cacheEndsRow.holds Try.pinned (OpenSpec.ofChange cacheEndsSpec)

/-- ITS FALSE NEIGHBOUR: 'it returns false'. Refute it at one input. -/
def cacheEndsWrong : ChangeSpec := { name := "cacheEnds", fn := fun _ => fun
  | [d1, d2] => { results := [.lit (.bool false)], args := [d1, d2] }
  | _ => none }
def CacheEndsWrongFalsely : Prop := cacheEndsRow.holds Try.pinned (OpenSpec.ofChange cacheEndsWrong)

/- THE SECOND FORM. 'bulk': how many values and letters a reading holds, each counted each time it is reached (what is shared counts as often as it is met; a slice's spare places count too). A statement '..UptoSaid' is the law's where the arguments, and the package variables that the reading takes, are together of bulk at most 1048576: NARROWER than '..Said'. Prove '..Said' where nothing that the law and all that it calls make is longer than what came in: it says more and counts as full. Else prove '..UptoSaid'. A law counts once. -/
mutual
def uptoBulk {H : Type} : DataW H → Nat
  | .lit (.string bytes) => bytes.length + 1
  | .lit _ => 1
  | .nil => 1
  | .ptr d => uptoBulk d + 1
  | .slice elems spare => uptoBulkAll elems + uptoBulkAll spare + 1
  | .agg parts => uptoBulkAll parts + 1
  | .iface _ d => uptoBulk d + 1
  | .map entries => uptoBulkEntries entries + 1
  | .held _ => 1
def uptoBulkAll {H : Type} : List (DataW H) → Nat
  | [] => 0
  | d :: r => uptoBulk d + uptoBulkAll r
def uptoBulkEntries {H : Type} : List (Lit × DataW H) → Nat
  | [] => 0
  | x :: r => uptoBulkEntry x + uptoBulkEntries r
def uptoBulkEntry {H : Type} : Lit × DataW H → Nat
  | (.string bytes, d) => bytes.length + uptoBulk d + 1
  | (_, d) => uptoBulk d + 1
 end
def uptoSmall : (H : Type) → List (DataW H) → Bool := fun _ ds => decide (uptoBulkAll ds ≤ 1048576)
def OpenSpec.upto (s : _root_.Go.ChangeSpec) : _root_.Go.OpenSpec := { _root_.Go.OpenSpec.ofChange s with cond := some uptoSmall }

/-- 'glazierlaw59.CachePuts', WHERE WHAT IT READS IS OF BULK AT MOST 1048576: true; the input reads as it did. -/
def cachePutsUptoRow : OpenClaim := { program := "ytgchgbkilggieaa", sum := "bc3dc74590aa5ea46ee06756645ad82b6e09b7c8a80941ed5592b989dde18541", func := "glazier/glazierlaw59.CachePuts", spec := "cachePuts", unfollowed := true, recurses := true, apart := false, narrowed := true }
def CachePutsUptoSaid : Prop := cachePutsUptoRow.holds Try.pinned (OpenSpec.upto cachePutsSpec)

/-- 'glazierlaw59.CacheBack', WHERE WHAT IT READS IS OF BULK AT MOST 1048576: true; the input reads as it did. -/
def cacheBackUptoRow : OpenClaim := { program := "ytgchgbkilggieaa", sum := "bc3dc74590aa5ea46ee06756645ad82b6e09b7c8a80941ed5592b989dde18541", func := "glazier/glazierlaw59.CacheBack", spec := "cacheBack", unfollowed := true, recurses := true, apart := false, narrowed := true }
def CacheBackUptoSaid : Prop := cacheBackUptoRow.holds Try.pinned (OpenSpec.upto cacheBackSpec)

/-- 'glazierlaw59.CacheShorts', WHERE WHAT IT READS IS OF BULK AT MOST 1048576: true; the input reads as it did. -/
def cacheShortsUptoRow : OpenClaim := { program := "ytgchgbkilggieaa", sum := "bc3dc74590aa5ea46ee06756645ad82b6e09b7c8a80941ed5592b989dde18541", func := "glazier/glazierlaw59.CacheShorts", spec := "cacheShorts", unfollowed := true, recurses := true, apart := false, narrowed := true }
def CacheShortsUptoSaid : Prop := cacheShortsUptoRow.holds Try.pinned (OpenSpec.upto cacheShortsSpec)

/-- 'glazierlaw59.CacheGets', WHERE WHAT IT READS IS OF BULK AT MOST 1048576: true; the input reads as it did. -/
def cacheGetsUptoRow : OpenClaim := { program := "ytgchgbkilggieaa", sum := "bc3dc74590aa5ea46ee06756645ad82b6e09b7c8a80941ed5592b989dde18541", func := "glazier/glazierlaw59.CacheGets", spec := "cacheGets", unfollowed := true, recurses := true, apart := false, narrowed := true }
def CacheGetsUptoSaid : Prop := cacheGetsUptoRow.holds Try.pinned (OpenSpec.upto cacheGetsSpec)

/-- 'glazierlaw59.CacheOthers', WHERE WHAT IT READS IS OF BULK AT MOST 1048576: true; the input reads as it did. -/
def cacheOthersUptoRow : OpenClaim := { program := "ytgchgbkilggieaa", sum := "bc3dc74590aa5ea46ee06756645ad82b6e09b7c8a80941ed5592b989dde18541", func := "glazier/glazierlaw59.CacheOthers", spec := "cacheOthers", unfollowed := true, recurses := true, apart := false, narrowed := true }
def CacheOthersUptoSaid : Prop := cacheOthersUptoRow.holds Try.pinned (OpenSpec.upto cacheOthersSpec)

/-- 'glazierlaw59.CacheEnds', WHERE WHAT IT READS IS OF BULK AT MOST 1048576: true; the input reads as it did. -/
def cacheEndsUptoRow : OpenClaim := { program := "ytgchgbkilggieaa", sum := "bc3dc74590aa5ea46ee06756645ad82b6e09b7c8a80941ed5592b989dde18541", func := "glazier/glazierlaw59.CacheEnds", spec := "cacheEnds", unfollowed := true, recurses := true, apart := false, narrowed := true }
def CacheEndsUptoSaid : Prop := cacheEndsUptoRow.holds Try.pinned (OpenSpec.upto cacheEndsSpec)

end Rows
end Go.Proofs.Ytgchgbkilggieaa
