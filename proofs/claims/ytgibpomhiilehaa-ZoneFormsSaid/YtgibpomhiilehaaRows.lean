/-
  No cell of these rows narrows 'for every input' (looked for: loops, veiled, ifaces, maps, wideKeys, modest, calm, conditions, laid).
  DERIVED. THE GIVEN ROWS OF THIS SEAT. 8 by the template 'for every input the law returns true; each argument reads behind the call as it read before'; 0 by the template 'total and deterministic' (their statements: YtgibpomhiilehaaTotals.lean).
  GIVEN WITH THE SEED: the statements are not yours to turn. If you find one false, say at which input.
  Laid BY PROGRAM, IN A SANDBOX (cutbox-rows.mjs): the forced cells as the released guide's own fill.sh prints them over the translation 7876c57a87fd6c8a… (all of the seat's roots in one cut). By AI agents, Wed Nov 11 2026. No macro, syntax, notation, axiom, sorry.
-/
import Derived.Test.YtgibpomhiilehaaChecked
import GoSem.Claim
import GoSem.ClaimJoined
import GoSem.ClaimMapViews
import Derived.JoinedTies
import Derived.KernelRfl
namespace Go.Proofs.Ytgibpomhiilehaa
/- THE CELL 'sum', in the pinned program and in every row, IS THE sha256 OF THE DUMP (.gsa) THAT YtgibpomhiilehaaProg.lean LOADS. Nothing in Lean hashes anything: it is a label: what it is worth is what the hold of that sum in a sandbox is worth. -/
noncomputable def Try.pinned : Pinned := { name := "ytgibpomhiilehaa", sum := "7876c57a87fd6c8add95b8c3684537af6c0432e657c022b7e4b919dec573df33", checked := Try.checked }
namespace Rows
def none {H : Type} : Left H := { results := [], args := [] }

/-- 'triagelaw26.WatchSees': WHATEVER THE INPUT: true; the input reads as it did. -/
def watchSeesSpec : ChangeSpec := { name := "watchSees", fn := fun _ => fun
  | [d] => { results := [.lit (.bool true)], args := [d] }
  | _ => none }
def watchSeesRow : OpenClaim := { program := "ytgibpomhiilehaa", sum := "7876c57a87fd6c8add95b8c3684537af6c0432e657c022b7e4b919dec573df33", func := "triage/triagelaw26.WatchSees", spec := "watchSees", inPlace := ["slices.overlaps[triage/watch.seen]"], unfollowed := true, recurses := true, apart := false }
def WatchSeesSaid : Prop := watchSeesRow.holds Try.pinned (OpenSpec.ofChange watchSeesSpec)

/-- ITS FALSE NEIGHBOUR: 'it returns false'. Refute it at one input. -/
def watchSeesWrong : ChangeSpec := { name := "watchSees", fn := fun _ => fun
  | [d] => { results := [.lit (.bool false)], args := [d] }
  | _ => none }
def WatchSeesWrongFalsely : Prop := watchSeesRow.holds Try.pinned (OpenSpec.ofChange watchSeesWrong)

/-- 'triagelaw26.WatchLies': WHATEVER THE INPUT: true; the input reads as it did. -/
def watchLiesSpec : ChangeSpec := { name := "watchLies", fn := fun _ => fun
  | [d1, d2, d3, d4] => { results := [.lit (.bool true)], args := [d1, d2, d3, d4] }
  | _ => none }
def watchLiesRow : OpenClaim := { program := "ytgibpomhiilehaa", sum := "7876c57a87fd6c8add95b8c3684537af6c0432e657c022b7e4b919dec573df33", func := "triage/triagelaw26.WatchLies", spec := "watchLies", inPlace := ["slices.overlaps[triage/watch.seen]"], unfollowed := true, recurses := true, apart := false }
def WatchLiesSaid : Prop := watchLiesRow.holds Try.pinned (OpenSpec.ofChange watchLiesSpec)

/-- ITS FALSE NEIGHBOUR: 'it returns false'. Refute it at one input. -/
def watchLiesWrong : ChangeSpec := { name := "watchLies", fn := fun _ => fun
  | [d1, d2, d3, d4] => { results := [.lit (.bool false)], args := [d1, d2, d3, d4] }
  | _ => none }
def WatchLiesWrongFalsely : Prop := watchLiesRow.holds Try.pinned (OpenSpec.ofChange watchLiesWrong)

/-- 'triagelaw19.ZoneForms': WHATEVER THE INPUT: true; the input reads as it did. -/
def zoneFormsSpec : ChangeSpec := { name := "zoneForms", fn := fun _ => fun
  | [d1, d2] => { results := [.lit (.bool true)], args := [d1, d2] }
  | _ => none }
def zoneFormsRow : OpenClaim := { program := "ytgibpomhiilehaa", sum := "7876c57a87fd6c8add95b8c3684537af6c0432e657c022b7e4b919dec573df33", func := "triage/triagelaw19.ZoneForms", spec := "zoneForms", inPlace := ["slices.overlaps[string]"], unfollowed := true, recurses := true, named := ["math/bits.divideError", "math/bits.overflowError"], apart := false }
def ZoneFormsSaid : Prop := zoneFormsRow.holds Try.pinned (OpenSpec.ofChange zoneFormsSpec)

/-- ITS FALSE NEIGHBOUR: 'it returns false'. Refute it at one input. -/
def zoneFormsWrong : ChangeSpec := { name := "zoneForms", fn := fun _ => fun
  | [d1, d2] => { results := [.lit (.bool false)], args := [d1, d2] }
  | _ => none }
def ZoneFormsWrongFalsely : Prop := zoneFormsRow.holds Try.pinned (OpenSpec.ofChange zoneFormsWrong)

/-- 'triagelaw19.ZoneWhole': WHATEVER THE INPUT: true; the input reads as it did. -/
def zoneWholeSpec : ChangeSpec := { name := "zoneWhole", fn := fun _ => fun
  | [d1, d2] => { results := [.lit (.bool true)], args := [d1, d2] }
  | _ => none }
def zoneWholeRow : OpenClaim := { program := "ytgibpomhiilehaa", sum := "7876c57a87fd6c8add95b8c3684537af6c0432e657c022b7e4b919dec573df33", func := "triage/triagelaw19.ZoneWhole", spec := "zoneWhole", inPlace := ["slices.overlaps[string]"], unfollowed := true, recurses := true, named := ["math/bits.divideError", "math/bits.overflowError"], apart := false }
def ZoneWholeSaid : Prop := zoneWholeRow.holds Try.pinned (OpenSpec.ofChange zoneWholeSpec)

/-- ITS FALSE NEIGHBOUR: 'it returns false'. Refute it at one input. -/
def zoneWholeWrong : ChangeSpec := { name := "zoneWhole", fn := fun _ => fun
  | [d1, d2] => { results := [.lit (.bool false)], args := [d1, d2] }
  | _ => none }
def ZoneWholeWrongFalsely : Prop := zoneWholeRow.holds Try.pinned (OpenSpec.ofChange zoneWholeWrong)

/-- 'triagelaw19.ZoneParts': WHATEVER THE INPUT: true; the input reads as it did. -/
def zonePartsSpec : ChangeSpec := { name := "zoneParts", fn := fun _ => fun
  | [d1, d2] => { results := [.lit (.bool true)], args := [d1, d2] }
  | _ => none }
def zonePartsRow : OpenClaim := { program := "ytgibpomhiilehaa", sum := "7876c57a87fd6c8add95b8c3684537af6c0432e657c022b7e4b919dec573df33", func := "triage/triagelaw19.ZoneParts", spec := "zoneParts", inPlace := ["slices.overlaps[string]"], unfollowed := true, recurses := true, named := ["math/bits.divideError", "math/bits.overflowError"], apart := false }
def ZonePartsSaid : Prop := zonePartsRow.holds Try.pinned (OpenSpec.ofChange zonePartsSpec)

/-- ITS FALSE NEIGHBOUR: 'it returns false'. Refute it at one input. -/
def zonePartsWrong : ChangeSpec := { name := "zoneParts", fn := fun _ => fun
  | [d1, d2] => { results := [.lit (.bool false)], args := [d1, d2] }
  | _ => none }
def ZonePartsWrongFalsely : Prop := zonePartsRow.holds Try.pinned (OpenSpec.ofChange zonePartsWrong)

/-- 'triagelaw19.ZoneMore': WHATEVER THE INPUT: true; the input reads as it did. -/
def zoneMoreSpec : ChangeSpec := { name := "zoneMore", fn := fun _ => fun
  | [d1, d2] => { results := [.lit (.bool true)], args := [d1, d2] }
  | _ => none }
def zoneMoreRow : OpenClaim := { program := "ytgibpomhiilehaa", sum := "7876c57a87fd6c8add95b8c3684537af6c0432e657c022b7e4b919dec573df33", func := "triage/triagelaw19.ZoneMore", spec := "zoneMore", inPlace := ["slices.overlaps[string]"], unfollowed := true, recurses := true, named := ["math/bits.divideError", "math/bits.overflowError"], apart := false }
def ZoneMoreSaid : Prop := zoneMoreRow.holds Try.pinned (OpenSpec.ofChange zoneMoreSpec)

/-- ITS FALSE NEIGHBOUR: 'it returns false'. Refute it at one input. -/
def zoneMoreWrong : ChangeSpec := { name := "zoneMore", fn := fun _ => fun
  | [d1, d2] => { results := [.lit (.bool false)], args := [d1, d2] }
  | _ => none }
def ZoneMoreWrongFalsely : Prop := zoneMoreRow.holds Try.pinned (OpenSpec.ofChange zoneMoreWrong)

/-- 'triagelaw18.LoadWhole': WHATEVER THE INPUT: true; the input reads as it did. -/
def loadWholeSpec : ChangeSpec := { name := "loadWhole", fn := fun _ => fun
  | [d1, d2] => { results := [.lit (.bool true)], args := [d1, d2] }
  | _ => none }
def loadWholeRow : OpenClaim := { program := "ytgibpomhiilehaa", sum := "7876c57a87fd6c8add95b8c3684537af6c0432e657c022b7e4b919dec573df33", func := "triage/triagelaw18.LoadWhole", spec := "loadWhole", inPlace := ["slices.overlaps[triage/load.count]"], unfollowed := true, recurses := true, named := ["math/bits.divideError", "math/bits.overflowError"], apart := false }
def LoadWholeSaid : Prop := loadWholeRow.holds Try.pinned (OpenSpec.ofChange loadWholeSpec)

/-- ITS FALSE NEIGHBOUR: 'it returns false'. Refute it at one input. -/
def loadWholeWrong : ChangeSpec := { name := "loadWhole", fn := fun _ => fun
  | [d1, d2] => { results := [.lit (.bool false)], args := [d1, d2] }
  | _ => none }
def LoadWholeWrongFalsely : Prop := loadWholeRow.holds Try.pinned (OpenSpec.ofChange loadWholeWrong)

/-- 'triagelaw18.LoadMore': WHATEVER THE INPUT: true; the input reads as it did. -/
def loadMoreSpec : ChangeSpec := { name := "loadMore", fn := fun _ => fun
  | [d1, d2] => { results := [.lit (.bool true)], args := [d1, d2] }
  | _ => none }
def loadMoreRow : OpenClaim := { program := "ytgibpomhiilehaa", sum := "7876c57a87fd6c8add95b8c3684537af6c0432e657c022b7e4b919dec573df33", func := "triage/triagelaw18.LoadMore", spec := "loadMore", inPlace := ["slices.overlaps[triage/load.count]"], unfollowed := true, recurses := true, named := ["math/bits.divideError", "math/bits.overflowError"], apart := false }
def LoadMoreSaid : Prop := loadMoreRow.holds Try.pinned (OpenSpec.ofChange loadMoreSpec)

/-- ITS FALSE NEIGHBOUR: 'it returns false'. Refute it at one input. -/
def loadMoreWrong : ChangeSpec := { name := "loadMore", fn := fun _ => fun
  | [d1, d2] => { results := [.lit (.bool false)], args := [d1, d2] }
  | _ => none }
def LoadMoreWrongFalsely : Prop := loadMoreRow.holds Try.pinned (OpenSpec.ofChange loadMoreWrong)

/- THE SECOND FORM. 'bulk': how many values and letters a reading holds, each counted each time it is reached (what is shared counts as often as it is met; a slice's spare places count too). A statement '..UptoSaid' is the law's where the arguments, and the package variables that the reading takes, are together of bulk at most 1048576: NARROWER than '..Said'. Prove '..Said' where nothing that the law and all that it calls make is longer than what came in: it says more and counts as full. Else prove '..UptoSaid'. A law counts once. -/
mutual
def uptoBulk {H : Type} : DataW H → Nat
  | .lit (.string bytes) => bytes.length + 1
  | .lit _ => 1
  | .nil => 1
  | .ptr d => uptoBulk d + 1
  | .slice elems spare => uptoBulkAll elems + uptoBulkAll spare + 1
  | .agg parts => uptoBulkAll parts + 1
  | .iface _ d => uptoBulk d + 1
  | .map entries => uptoBulkEntries entries + 1
  | .held _ => 1
def uptoBulkAll {H : Type} : List (DataW H) → Nat
  | [] => 0
  | d :: r => uptoBulk d + uptoBulkAll r
def uptoBulkEntries {H : Type} : List (Lit × DataW H) → Nat
  | [] => 0
  | x :: r => uptoBulkEntry x + uptoBulkEntries r
def uptoBulkEntry {H : Type} : Lit × DataW H → Nat
  | (.string bytes, d) => bytes.length + uptoBulk d + 1
  | (_, d) => uptoBulk d + 1
 end
def uptoSmall : (H : Type) → List (DataW H) → Bool := fun _ ds => decide (uptoBulkAll ds ≤ 1048576)
def OpenSpec.upto (s : _root_.Go.ChangeSpec) : _root_.Go.OpenSpec := { _root_.Go.OpenSpec.ofChange s with cond := some uptoSmall }

/-- 'triagelaw26.WatchSees', WHERE WHAT IT READS IS OF BULK AT MOST 1048576: true; the input reads as it did. -/
def watchSeesUptoRow : OpenClaim := { program := "ytgibpomhiilehaa", sum := "7876c57a87fd6c8add95b8c3684537af6c0432e657c022b7e4b919dec573df33", func := "triage/triagelaw26.WatchSees", spec := "watchSees", inPlace := ["slices.overlaps[triage/watch.seen]"], unfollowed := true, recurses := true, apart := false, narrowed := true }
def WatchSeesUptoSaid : Prop := watchSeesUptoRow.holds Try.pinned (OpenSpec.upto watchSeesSpec)

/-- 'triagelaw26.WatchLies', WHERE WHAT IT READS IS OF BULK AT MOST 1048576: true; the input reads as it did. -/
def watchLiesUptoRow : OpenClaim := { program := "ytgibpomhiilehaa", sum := "7876c57a87fd6c8add95b8c3684537af6c0432e657c022b7e4b919dec573df33", func := "triage/triagelaw26.WatchLies", spec := "watchLies", inPlace := ["slices.overlaps[triage/watch.seen]"], unfollowed := true, recurses := true, apart := false, narrowed := true }
def WatchLiesUptoSaid : Prop := watchLiesUptoRow.holds Try.pinned (OpenSpec.upto watchLiesSpec)

/-- 'triagelaw19.ZoneForms', WHERE WHAT IT READS IS OF BULK AT MOST 1048576: true; the input reads as it did. -/
def zoneFormsUptoRow : OpenClaim := { program := "ytgibpomhiilehaa", sum := "7876c57a87fd6c8add95b8c3684537af6c0432e657c022b7e4b919dec573df33", func := "triage/triagelaw19.ZoneForms", spec := "zoneForms", inPlace := ["slices.overlaps[string]"], unfollowed := true, recurses := true, named := ["math/bits.divideError", "math/bits.overflowError"], apart := false, narrowed := true }
def ZoneFormsUptoSaid : Prop := zoneFormsUptoRow.holds Try.pinned (OpenSpec.upto zoneFormsSpec)

/-- 'triagelaw19.ZoneWhole', WHERE WHAT IT READS IS OF BULK AT MOST 1048576: true; the input reads as it did. -/
def zoneWholeUptoRow : OpenClaim := { program := "ytgibpomhiilehaa", sum := "7876c57a87fd6c8add95b8c3684537af6c0432e657c022b7e4b919dec573df33", func := "triage/triagelaw19.ZoneWhole", spec := "zoneWhole", inPlace := ["slices.overlaps[string]"], unfollowed := true, recurses := true, named := ["math/bits.divideError", "math/bits.overflowError"], apart := false, narrowed := true }
def ZoneWholeUptoSaid : Prop := zoneWholeUptoRow.holds Try.pinned (OpenSpec.upto zoneWholeSpec)

/-- 'triagelaw19.ZoneParts', WHERE WHAT IT READS IS OF BULK AT MOST 1048576: true; the input reads as it did. -/
def zonePartsUptoRow : OpenClaim := { program := "ytgibpomhiilehaa", sum := "7876c57a87fd6c8add95b8c3684537af6c0432e657c022b7e4b919dec573df33", func := "triage/triagelaw19.ZoneParts", spec := "zoneParts", inPlace := ["slices.overlaps[string]"], unfollowed := true, recurses := true, named := ["math/bits.divideError", "math/bits.overflowError"], apart := false, narrowed := true }
def ZonePartsUptoSaid : Prop := zonePartsUptoRow.holds Try.pinned (OpenSpec.upto zonePartsSpec)

/-- 'triagelaw19.ZoneMore', WHERE WHAT IT READS IS OF BULK AT MOST 1048576: true; the input reads as it did. -/
def zoneMoreUptoRow : OpenClaim := { program := "ytgibpomhiilehaa", sum := "7876c57a87fd6c8add95b8c3684537af6c0432e657c022b7e4b919dec573df33", func := "triage/triagelaw19.ZoneMore", spec := "zoneMore", inPlace := ["slices.overlaps[string]"], unfollowed := true, recurses := true, named := ["math/bits.divideError", "math/bits.overflowError"], apart := false, narrowed := true }
def ZoneMoreUptoSaid : Prop := zoneMoreUptoRow.holds Try.pinned (OpenSpec.upto zoneMoreSpec)

/-- 'triagelaw18.LoadWhole', WHERE WHAT IT READS IS OF BULK AT MOST 1048576: true; the input reads as it did. -/
def loadWholeUptoRow : OpenClaim := { program := "ytgibpomhiilehaa", sum := "7876c57a87fd6c8add95b8c3684537af6c0432e657c022b7e4b919dec573df33", func := "triage/triagelaw18.LoadWhole", spec := "loadWhole", inPlace := ["slices.overlaps[triage/load.count]"], unfollowed := true, recurses := true, named := ["math/bits.divideError", "math/bits.overflowError"], apart := false, narrowed := true }
def LoadWholeUptoSaid : Prop := loadWholeUptoRow.holds Try.pinned (OpenSpec.upto loadWholeSpec)

/-- 'triagelaw18.LoadMore', WHERE WHAT IT READS IS OF BULK AT MOST 1048576: true; the input reads as it did. -/
def loadMoreUptoRow : OpenClaim := { program := "ytgibpomhiilehaa", sum := "7876c57a87fd6c8add95b8c3684537af6c0432e657c022b7e4b919dec573df33", func := "triage/triagelaw18.LoadMore", spec := "loadMore", inPlace := ["slices.overlaps[triage/load.count]"], unfollowed := true, recurses := true, named := ["math/bits.divideError", "math/bits.overflowError"], apart := false, narrowed := true }
def LoadMoreUptoSaid : Prop := loadMoreUptoRow.holds Try.pinned (OpenSpec.upto loadMoreSpec)

end Rows
end Go.Proofs.Ytgibpomhiilehaa
