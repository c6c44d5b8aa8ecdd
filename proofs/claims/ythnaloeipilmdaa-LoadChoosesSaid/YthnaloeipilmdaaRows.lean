/-
  No cell of these rows narrows 'for every input' (looked for: loops, veiled, ifaces, maps, wideKeys, modest, calm, conditions, laid).
  DERIVED. THE GIVEN ROWS OF THIS SEAT. 20 by the template 'for every input the law returns true; each argument reads behind the call as it read before'; 0 by the template 'total and deterministic' (their statements: YthnaloeipilmdaaTotals.lean).
  GIVEN WITH THE SEED: the statements are not yours to turn. If you find one false, say at which input.
  Laid BY PROGRAM, IN A SANDBOX (cutbox-rows.mjs): the forced cells as the released guide's own fill.sh prints them over the translation 28f6ad006c55435f… (all of the seat's roots in one cut). By AI agents, Wed Nov 11 2026. No macro, syntax, notation, axiom, sorry.
-/
import Derived.Test.YthnaloeipilmdaaChecked
import GoSem.Claim
import GoSem.ClaimJoined
import GoSem.ClaimMapViews
import Derived.JoinedTies
import Derived.KernelRfl
namespace Go.Proofs.Ythnaloeipilmdaa
/- THE CELL 'sum', in the pinned program and in every row, IS THE sha256 OF THE DUMP (.gsa) THAT YthnaloeipilmdaaProg.lean LOADS. Nothing in Lean hashes anything: it is a label: what it is worth is what the hold of that sum in a sandbox is worth. -/
noncomputable def Try.pinned : Pinned := { name := "ythnaloeipilmdaa", sum := "28f6ad006c55435f0ada798a2795ce88b8811be020c9183b5ecf52e23472b244", checked := Try.checked }
namespace Rows
def none {H : Type} : Left H := { results := [], args := [] }

/-- 'triagelaw14.EjectCap': WHATEVER THE INPUT: true; the input reads as it did. -/
def ejectCapSpec : ChangeSpec := { name := "ejectCap", fn := fun _ => fun
  | [d1, d2] => { results := [.lit (.bool true)], args := [d1, d2] }
  | _ => none }
def ejectCapRow : OpenClaim := { program := "ythnaloeipilmdaa", sum := "28f6ad006c55435f0ada798a2795ce88b8811be020c9183b5ecf52e23472b244", func := "triage/triagelaw14.EjectCap", spec := "ejectCap", named := ["math/bits.divideError", "math/bits.overflowError"], apart := false }
def EjectCapSaid : Prop := ejectCapRow.holds Try.pinned (OpenSpec.ofChange ejectCapSpec)

/-- ITS FALSE NEIGHBOUR: 'it returns false'. Refute it at one input. -/
def ejectCapWrong : ChangeSpec := { name := "ejectCap", fn := fun _ => fun
  | [d1, d2] => { results := [.lit (.bool false)], args := [d1, d2] }
  | _ => none }
def EjectCapWrongFalsely : Prop := ejectCapRow.holds Try.pinned (OpenSpec.ofChange ejectCapWrong)

/-- 'triagelaw14.EjectLonger': WHATEVER THE INPUT: true; the input reads as it did. -/
def ejectLongerSpec : ChangeSpec := { name := "ejectLonger", fn := fun _ => fun
  | [d1, d2, d3] => { results := [.lit (.bool true)], args := [d1, d2, d3] }
  | _ => none }
def ejectLongerRow : OpenClaim := { program := "ythnaloeipilmdaa", sum := "28f6ad006c55435f0ada798a2795ce88b8811be020c9183b5ecf52e23472b244", func := "triage/triagelaw14.EjectLonger", spec := "ejectLonger", named := ["math/bits.divideError", "math/bits.overflowError"], apart := false }
def EjectLongerSaid : Prop := ejectLongerRow.holds Try.pinned (OpenSpec.ofChange ejectLongerSpec)

/-- ITS FALSE NEIGHBOUR: 'it returns false'. Refute it at one input. -/
def ejectLongerWrong : ChangeSpec := { name := "ejectLonger", fn := fun _ => fun
  | [d1, d2, d3] => { results := [.lit (.bool false)], args := [d1, d2, d3] }
  | _ => none }
def EjectLongerWrongFalsely : Prop := ejectLongerRow.holds Try.pinned (OpenSpec.ofChange ejectLongerWrong)

/-- 'triagelaw14.EjectRoom': WHATEVER THE INPUT: true; the input reads as it did. -/
def ejectRoomSpec : ChangeSpec := { name := "ejectRoom", fn := fun _ => fun
  | [d1, d2, d3] => { results := [.lit (.bool true)], args := [d1, d2, d3] }
  | _ => none }
def ejectRoomRow : OpenClaim := { program := "ythnaloeipilmdaa", sum := "28f6ad006c55435f0ada798a2795ce88b8811be020c9183b5ecf52e23472b244", func := "triage/triagelaw14.EjectRoom", spec := "ejectRoom", named := ["math/bits.divideError", "math/bits.overflowError"], apart := false }
def EjectRoomSaid : Prop := ejectRoomRow.holds Try.pinned (OpenSpec.ofChange ejectRoomSpec)

/-- ITS FALSE NEIGHBOUR: 'it returns false'. Refute it at one input. -/
def ejectRoomWrong : ChangeSpec := { name := "ejectRoom", fn := fun _ => fun
  | [d1, d2, d3] => { results := [.lit (.bool false)], args := [d1, d2, d3] }
  | _ => none }
def EjectRoomWrongFalsely : Prop := ejectRoomRow.holds Try.pinned (OpenSpec.ofChange ejectRoomWrong)

/-- 'triagelaw13.SpreadForms': WHATEVER THE INPUT: true; the input reads as it did. -/
def spreadFormsSpec : ChangeSpec := { name := "spreadForms", fn := fun _ => fun
  | [d1, d2, d3, d4] => { results := [.lit (.bool true)], args := [d1, d2, d3, d4] }
  | _ => none }
def spreadFormsRow : OpenClaim := { program := "ythnaloeipilmdaa", sum := "28f6ad006c55435f0ada798a2795ce88b8811be020c9183b5ecf52e23472b244", func := "triage/triagelaw13.SpreadForms", spec := "spreadForms", unfollowed := true, recurses := true, named := ["math/bits.divideError", "math/bits.overflowError"], apart := false }
def SpreadFormsSaid : Prop := spreadFormsRow.holds Try.pinned (OpenSpec.ofChange spreadFormsSpec)

/-- ITS FALSE NEIGHBOUR: 'it returns false'. Refute it at one input. -/
def spreadFormsWrong : ChangeSpec := { name := "spreadForms", fn := fun _ => fun
  | [d1, d2, d3, d4] => { results := [.lit (.bool false)], args := [d1, d2, d3, d4] }
  | _ => none }
def SpreadFormsWrongFalsely : Prop := spreadFormsRow.holds Try.pinned (OpenSpec.ofChange spreadFormsWrong)

/-- 'triagelaw13.SpreadNobody': WHATEVER THE INPUT: true; the input reads as it did. -/
def spreadNobodySpec : ChangeSpec := { name := "spreadNobody", fn := fun _ => fun
  | [d1, d2, d3] => { results := [.lit (.bool true)], args := [d1, d2, d3] }
  | _ => none }
def spreadNobodyRow : OpenClaim := { program := "ythnaloeipilmdaa", sum := "28f6ad006c55435f0ada798a2795ce88b8811be020c9183b5ecf52e23472b244", func := "triage/triagelaw13.SpreadNobody", spec := "spreadNobody", unfollowed := true, recurses := true, named := ["math/bits.divideError", "math/bits.overflowError"], apart := false }
def SpreadNobodySaid : Prop := spreadNobodyRow.holds Try.pinned (OpenSpec.ofChange spreadNobodySpec)

/-- ITS FALSE NEIGHBOUR: 'it returns false'. Refute it at one input. -/
def spreadNobodyWrong : ChangeSpec := { name := "spreadNobody", fn := fun _ => fun
  | [d1, d2, d3] => { results := [.lit (.bool false)], args := [d1, d2, d3] }
  | _ => none }
def SpreadNobodyWrongFalsely : Prop := spreadNobodyRow.holds Try.pinned (OpenSpec.ofChange spreadNobodyWrong)

/-- 'triagelaw13.SpreadOrder': WHATEVER THE INPUT: true; the input reads as it did. -/
def spreadOrderSpec : ChangeSpec := { name := "spreadOrder", fn := fun _ => fun
  | [d1, d2, d3] => { results := [.lit (.bool true)], args := [d1, d2, d3] }
  | _ => none }
def spreadOrderRow : OpenClaim := { program := "ythnaloeipilmdaa", sum := "28f6ad006c55435f0ada798a2795ce88b8811be020c9183b5ecf52e23472b244", func := "triage/triagelaw13.SpreadOrder", spec := "spreadOrder", unfollowed := true, recurses := true, named := ["math/bits.divideError", "math/bits.overflowError"], apart := false }
def SpreadOrderSaid : Prop := spreadOrderRow.holds Try.pinned (OpenSpec.ofChange spreadOrderSpec)

/-- ITS FALSE NEIGHBOUR: 'it returns false'. Refute it at one input. -/
def spreadOrderWrong : ChangeSpec := { name := "spreadOrder", fn := fun _ => fun
  | [d1, d2, d3] => { results := [.lit (.bool false)], args := [d1, d2, d3] }
  | _ => none }
def SpreadOrderWrongFalsely : Prop := spreadOrderRow.holds Try.pinned (OpenSpec.ofChange spreadOrderWrong)

/-- 'triagelaw13.SpreadEnough': WHATEVER THE INPUT: true; the input reads as it did. -/
def spreadEnoughSpec : ChangeSpec := { name := "spreadEnough", fn := fun _ => fun
  | [d1, d2] => { results := [.lit (.bool true)], args := [d1, d2] }
  | _ => none }
def spreadEnoughRow : OpenClaim := { program := "ythnaloeipilmdaa", sum := "28f6ad006c55435f0ada798a2795ce88b8811be020c9183b5ecf52e23472b244", func := "triage/triagelaw13.SpreadEnough", spec := "spreadEnough", unfollowed := true, recurses := true, named := ["math/bits.divideError", "math/bits.overflowError"], apart := false }
def SpreadEnoughSaid : Prop := spreadEnoughRow.holds Try.pinned (OpenSpec.ofChange spreadEnoughSpec)

/-- ITS FALSE NEIGHBOUR: 'it returns false'. Refute it at one input. -/
def spreadEnoughWrong : ChangeSpec := { name := "spreadEnough", fn := fun _ => fun
  | [d1, d2] => { results := [.lit (.bool false)], args := [d1, d2] }
  | _ => none }
def SpreadEnoughWrongFalsely : Prop := spreadEnoughRow.holds Try.pinned (OpenSpec.ofChange spreadEnoughWrong)

/-- 'triagelaw26.WatchSees': WHATEVER THE INPUT: true; the input reads as it did. -/
def watchSeesSpec : ChangeSpec := { name := "watchSees", fn := fun _ => fun
  | [d] => { results := [.lit (.bool true)], args := [d] }
  | _ => none }
def watchSeesRow : OpenClaim := { program := "ythnaloeipilmdaa", sum := "28f6ad006c55435f0ada798a2795ce88b8811be020c9183b5ecf52e23472b244", func := "triage/triagelaw26.WatchSees", spec := "watchSees", inPlace := ["slices.overlaps[triage/watch.seen]"], unfollowed := true, recurses := true, apart := false }
def WatchSeesSaid : Prop := watchSeesRow.holds Try.pinned (OpenSpec.ofChange watchSeesSpec)

/-- ITS FALSE NEIGHBOUR: 'it returns false'. Refute it at one input. -/
def watchSeesWrong : ChangeSpec := { name := "watchSees", fn := fun _ => fun
  | [d] => { results := [.lit (.bool false)], args := [d] }
  | _ => none }
def WatchSeesWrongFalsely : Prop := watchSeesRow.holds Try.pinned (OpenSpec.ofChange watchSeesWrong)

/-- 'triagelaw26.WatchNil': WHATEVER THE INPUT: true; the input reads as it did. -/
def watchNilSpec : ChangeSpec := { name := "watchNil", fn := fun _ => fun
  | [d] => { results := [.lit (.bool true)], args := [d] }
  | _ => none }
def watchNilRow : OpenClaim := { program := "ythnaloeipilmdaa", sum := "28f6ad006c55435f0ada798a2795ce88b8811be020c9183b5ecf52e23472b244", func := "triage/triagelaw26.WatchNil", spec := "watchNil", inPlace := ["slices.overlaps[triage/watch.seen]"], unfollowed := true, recurses := true, apart := false }
def WatchNilSaid : Prop := watchNilRow.holds Try.pinned (OpenSpec.ofChange watchNilSpec)

/-- ITS FALSE NEIGHBOUR: 'it returns false'. Refute it at one input. -/
def watchNilWrong : ChangeSpec := { name := "watchNil", fn := fun _ => fun
  | [d] => { results := [.lit (.bool false)], args := [d] }
  | _ => none }
def WatchNilWrongFalsely : Prop := watchNilRow.holds Try.pinned (OpenSpec.ofChange watchNilWrong)

/-- 'triagelaw26.WatchLies': WHATEVER THE INPUT: true; the input reads as it did. -/
def watchLiesSpec : ChangeSpec := { name := "watchLies", fn := fun _ => fun
  | [d1, d2, d3, d4] => { results := [.lit (.bool true)], args := [d1, d2, d3, d4] }
  | _ => none }
def watchLiesRow : OpenClaim := { program := "ythnaloeipilmdaa", sum := "28f6ad006c55435f0ada798a2795ce88b8811be020c9183b5ecf52e23472b244", func := "triage/triagelaw26.WatchLies", spec := "watchLies", inPlace := ["slices.overlaps[triage/watch.seen]"], unfollowed := true, recurses := true, apart := false }
def WatchLiesSaid : Prop := watchLiesRow.holds Try.pinned (OpenSpec.ofChange watchLiesSpec)

/-- ITS FALSE NEIGHBOUR: 'it returns false'. Refute it at one input. -/
def watchLiesWrong : ChangeSpec := { name := "watchLies", fn := fun _ => fun
  | [d1, d2, d3, d4] => { results := [.lit (.bool false)], args := [d1, d2, d3, d4] }
  | _ => none }
def WatchLiesWrongFalsely : Prop := watchLiesRow.holds Try.pinned (OpenSpec.ofChange watchLiesWrong)

/-- 'triagelaw19.ZoneForms': WHATEVER THE INPUT: true; the input reads as it did. -/
def zoneFormsSpec : ChangeSpec := { name := "zoneForms", fn := fun _ => fun
  | [d1, d2] => { results := [.lit (.bool true)], args := [d1, d2] }
  | _ => none }
def zoneFormsRow : OpenClaim := { program := "ythnaloeipilmdaa", sum := "28f6ad006c55435f0ada798a2795ce88b8811be020c9183b5ecf52e23472b244", func := "triage/triagelaw19.ZoneForms", spec := "zoneForms", inPlace := ["slices.overlaps[string]"], unfollowed := true, recurses := true, named := ["math/bits.divideError", "math/bits.overflowError"], apart := false }
def ZoneFormsSaid : Prop := zoneFormsRow.holds Try.pinned (OpenSpec.ofChange zoneFormsSpec)

/-- ITS FALSE NEIGHBOUR: 'it returns false'. Refute it at one input. -/
def zoneFormsWrong : ChangeSpec := { name := "zoneForms", fn := fun _ => fun
  | [d1, d2] => { results := [.lit (.bool false)], args := [d1, d2] }
  | _ => none }
def ZoneFormsWrongFalsely : Prop := zoneFormsRow.holds Try.pinned (OpenSpec.ofChange zoneFormsWrong)

/-- 'triagelaw19.ZoneWhole': WHATEVER THE INPUT: true; the input reads as it did. -/
def zoneWholeSpec : ChangeSpec := { name := "zoneWhole", fn := fun _ => fun
  | [d1, d2] => { results := [.lit (.bool true)], args := [d1, d2] }
  | _ => none }
def zoneWholeRow : OpenClaim := { program := "ythnaloeipilmdaa", sum := "28f6ad006c55435f0ada798a2795ce88b8811be020c9183b5ecf52e23472b244", func := "triage/triagelaw19.ZoneWhole", spec := "zoneWhole", inPlace := ["slices.overlaps[string]"], unfollowed := true, recurses := true, named := ["math/bits.divideError", "math/bits.overflowError"], apart := false }
def ZoneWholeSaid : Prop := zoneWholeRow.holds Try.pinned (OpenSpec.ofChange zoneWholeSpec)

/-- ITS FALSE NEIGHBOUR: 'it returns false'. Refute it at one input. -/
def zoneWholeWrong : ChangeSpec := { name := "zoneWhole", fn := fun _ => fun
  | [d1, d2] => { results := [.lit (.bool false)], args := [d1, d2] }
  | _ => none }
def ZoneWholeWrongFalsely : Prop := zoneWholeRow.holds Try.pinned (OpenSpec.ofChange zoneWholeWrong)

/-- 'triagelaw19.ZoneParts': WHATEVER THE INPUT: true; the input reads as it did. -/
def zonePartsSpec : ChangeSpec := { name := "zoneParts", fn := fun _ => fun
  | [d1, d2] => { results := [.lit (.bool true)], args := [d1, d2] }
  | _ => none }
def zonePartsRow : OpenClaim := { program := "ythnaloeipilmdaa", sum := "28f6ad006c55435f0ada798a2795ce88b8811be020c9183b5ecf52e23472b244", func := "triage/triagelaw19.ZoneParts", spec := "zoneParts", inPlace := ["slices.overlaps[string]"], unfollowed := true, recurses := true, named := ["math/bits.divideError", "math/bits.overflowError"], apart := false }
def ZonePartsSaid : Prop := zonePartsRow.holds Try.pinned (OpenSpec.ofChange zonePartsSpec)

/-- ITS FALSE NEIGHBOUR: 'it returns false'. Refute it at one input. -/
def zonePartsWrong : ChangeSpec := { name := "zoneParts", fn := fun _ => fun
  | [d1, d2] => { results := [.lit (.bool false)], args := [d1, d2] }
  | _ => none }
def ZonePartsWrongFalsely : Prop := zonePartsRow.holds Try.pinned (OpenSpec.ofChange zonePartsWrong)

/-- 'triagelaw19.ZoneMore': WHATEVER THE INPUT: true; the input reads as it did. -/
def zoneMoreSpec : ChangeSpec := { name := "zoneMore", fn := fun _ => fun
  | [d1, d2] => { results := [.lit (.bool true)], args := [d1, d2] }
  | _ => none }
def zoneMoreRow : OpenClaim := { program := "ythnaloeipilmdaa", sum := "28f6ad006c55435f0ada798a2795ce88b8811be020c9183b5ecf52e23472b244", func := "triage/triagelaw19.ZoneMore", spec := "zoneMore", inPlace := ["slices.overlaps[string]"], unfollowed := true, recurses := true, named := ["math/bits.divideError", "math/bits.overflowError"], apart := false }
def ZoneMoreSaid : Prop := zoneMoreRow.holds Try.pinned (OpenSpec.ofChange zoneMoreSpec)

/-- ITS FALSE NEIGHBOUR: 'it returns false'. Refute it at one input. -/
def zoneMoreWrong : ChangeSpec := { name := "zoneMore", fn := fun _ => fun
  | [d1, d2] => { results := [.lit (.bool false)], args := [d1, d2] }
  | _ => none }
def ZoneMoreWrongFalsely : Prop := zoneMoreRow.holds Try.pinned (OpenSpec.ofChange zoneMoreWrong)

/-- 'triagelaw19.ZoneEven': WHATEVER THE INPUT: true; the input reads as it did. -/
def zoneEvenSpec : ChangeSpec := { name := "zoneEven", fn := fun _ => fun
  | [d1, d2] => { results := [.lit (.bool true)], args := [d1, d2] }
  | _ => none }
def zoneEvenRow : OpenClaim := { program := "ythnaloeipilmdaa", sum := "28f6ad006c55435f0ada798a2795ce88b8811be020c9183b5ecf52e23472b244", func := "triage/triagelaw19.ZoneEven", spec := "zoneEven", inPlace := ["slices.overlaps[string]"], unfollowed := true, recurses := true, named := ["math/bits.divideError", "math/bits.overflowError"], apart := false }
def ZoneEvenSaid : Prop := zoneEvenRow.holds Try.pinned (OpenSpec.ofChange zoneEvenSpec)

/-- ITS FALSE NEIGHBOUR: 'it returns false'. Refute it at one input. -/
def zoneEvenWrong : ChangeSpec := { name := "zoneEven", fn := fun _ => fun
  | [d1, d2] => { results := [.lit (.bool false)], args := [d1, d2] }
  | _ => none }
def ZoneEvenWrongFalsely : Prop := zoneEvenRow.holds Try.pinned (OpenSpec.ofChange zoneEvenWrong)

/-- 'triagelaw18.LoadWhole': WHATEVER THE INPUT: true; the input reads as it did. -/
def loadWholeSpec : ChangeSpec := { name := "loadWhole", fn := fun _ => fun
  | [d1, d2] => { results := [.lit (.bool true)], args := [d1, d2] }
  | _ => none }
def loadWholeRow : OpenClaim := { program := "ythnaloeipilmdaa", sum := "28f6ad006c55435f0ada798a2795ce88b8811be020c9183b5ecf52e23472b244", func := "triage/triagelaw18.LoadWhole", spec := "loadWhole", inPlace := ["slices.overlaps[triage/load.count]"], unfollowed := true, recurses := true, named := ["math/bits.divideError", "math/bits.overflowError"], apart := false }
def LoadWholeSaid : Prop := loadWholeRow.holds Try.pinned (OpenSpec.ofChange loadWholeSpec)

/-- ITS FALSE NEIGHBOUR: 'it returns false'. Refute it at one input. -/
def loadWholeWrong : ChangeSpec := { name := "loadWhole", fn := fun _ => fun
  | [d1, d2] => { results := [.lit (.bool false)], args := [d1, d2] }
  | _ => none }
def LoadWholeWrongFalsely : Prop := loadWholeRow.holds Try.pinned (OpenSpec.ofChange loadWholeWrong)

/-- 'triagelaw18.LoadChooses': WHATEVER THE INPUT: true; the input reads as it did. -/
def loadChoosesSpec : ChangeSpec := { name := "loadChooses", fn := fun _ => fun
  | [d] => { results := [.lit (.bool true)], args := [d] }
  | _ => none }
def loadChoosesRow : OpenClaim := { program := "ythnaloeipilmdaa", sum := "28f6ad006c55435f0ada798a2795ce88b8811be020c9183b5ecf52e23472b244", func := "triage/triagelaw18.LoadChooses", spec := "loadChooses", inPlace := ["slices.overlaps[triage/load.count]"], unfollowed := true, recurses := true, named := ["math/bits.divideError", "math/bits.overflowError"], apart := false }
def LoadChoosesSaid : Prop := loadChoosesRow.holds Try.pinned (OpenSpec.ofChange loadChoosesSpec)

/-- ITS FALSE NEIGHBOUR: 'it returns false'. Refute it at one input. -/
def loadChoosesWrong : ChangeSpec := { name := "loadChooses", fn := fun _ => fun
  | [d] => { results := [.lit (.bool false)], args := [d] }
  | _ => none }
def LoadChoosesWrongFalsely : Prop := loadChoosesRow.holds Try.pinned (OpenSpec.ofChange loadChoosesWrong)

/-- 'triagelaw18.LoadPanics': WHATEVER THE INPUT: true; the input reads as it did. -/
def loadPanicsSpec : ChangeSpec := { name := "loadPanics", fn := fun _ => fun
  | [d1, d2, d3] => { results := [.lit (.bool true)], args := [d1, d2, d3] }
  | _ => none }
def loadPanicsRow : OpenClaim := { program := "ythnaloeipilmdaa", sum := "28f6ad006c55435f0ada798a2795ce88b8811be020c9183b5ecf52e23472b244", func := "triage/triagelaw18.LoadPanics", spec := "loadPanics", inPlace := ["slices.overlaps[triage/load.count]"], unfollowed := true, recurses := true, named := ["math/bits.divideError", "math/bits.overflowError"], apart := false }
def LoadPanicsSaid : Prop := loadPanicsRow.holds Try.pinned (OpenSpec.ofChange loadPanicsSpec)

/-- ITS FALSE NEIGHBOUR: 'it returns false'. Refute it at one input. -/
def loadPanicsWrong : ChangeSpec := { name := "loadPanics", fn := fun _ => fun
  | [d1, d2, d3] => { results := [.lit (.bool false)], args := [d1, d2, d3] }
  | _ => none }
def LoadPanicsWrongFalsely : Prop := loadPanicsRow.holds Try.pinned (OpenSpec.ofChange loadPanicsWrong)

/-- 'triagelaw18.LoadMore': WHATEVER THE INPUT: true; the input reads as it did. -/
def loadMoreSpec : ChangeSpec := { name := "loadMore", fn := fun _ => fun
  | [d1, d2] => { results := [.lit (.bool true)], args := [d1, d2] }
  | _ => none }
def loadMoreRow : OpenClaim := { program := "ythnaloeipilmdaa", sum := "28f6ad006c55435f0ada798a2795ce88b8811be020c9183b5ecf52e23472b244", func := "triage/triagelaw18.LoadMore", spec := "loadMore", inPlace := ["slices.overlaps[triage/load.count]"], unfollowed := true, recurses := true, named := ["math/bits.divideError", "math/bits.overflowError"], apart := false }
def LoadMoreSaid : Prop := loadMoreRow.holds Try.pinned (OpenSpec.ofChange loadMoreSpec)

/-- ITS FALSE NEIGHBOUR: 'it returns false'. Refute it at one input. -/
def loadMoreWrong : ChangeSpec := { name := "loadMore", fn := fun _ => fun
  | [d1, d2] => { results := [.lit (.bool false)], args := [d1, d2] }
  | _ => none }
def LoadMoreWrongFalsely : Prop := loadMoreRow.holds Try.pinned (OpenSpec.ofChange loadMoreWrong)

/-- 'triagelaw14.EjectFirst': WHATEVER THE INPUT: true; the input reads as it did. -/
def ejectFirstSpec : ChangeSpec := { name := "ejectFirst", fn := fun _ => fun
  | [d1, d2] => { results := [.lit (.bool true)], args := [d1, d2] }
  | _ => none }
def ejectFirstRow : OpenClaim := { program := "ythnaloeipilmdaa", sum := "28f6ad006c55435f0ada798a2795ce88b8811be020c9183b5ecf52e23472b244", func := "triage/triagelaw14.EjectFirst", spec := "ejectFirst", unfollowed := true, recurses := true, named := ["math/bits.divideError", "math/bits.overflowError"], apart := false }
def EjectFirstSaid : Prop := ejectFirstRow.holds Try.pinned (OpenSpec.ofChange ejectFirstSpec)

/-- ITS FALSE NEIGHBOUR: 'it returns false'. Refute it at one input. -/
def ejectFirstWrong : ChangeSpec := { name := "ejectFirst", fn := fun _ => fun
  | [d1, d2] => { results := [.lit (.bool false)], args := [d1, d2] }
  | _ => none }
def EjectFirstWrongFalsely : Prop := ejectFirstRow.holds Try.pinned (OpenSpec.ofChange ejectFirstWrong)

/- THE SECOND FORM. 'bulk': how many values and letters a reading holds, each counted each time it is reached (what is shared counts as often as it is met; a slice's spare places count too). A statement '..UptoSaid' is the law's where the arguments, and the package variables that the reading takes, are together of bulk at most 1048576: NARROWER than '..Said'. Prove '..Said' where nothing that the law and all that it calls make is longer than what came in: it says more and counts as full. Else prove '..UptoSaid'. A law counts once. -/
mutual
def uptoBulk {H : Type} : DataW H → Nat
  | .lit (.string bytes) => bytes.length + 1
  | .lit _ => 1
  | .nil => 1
  | .ptr d => uptoBulk d + 1
  | .slice elems spare => uptoBulkAll elems + uptoBulkAll spare + 1
  | .agg parts => uptoBulkAll parts + 1
  | .iface _ d => uptoBulk d + 1
  | .map entries => uptoBulkEntries entries + 1
  | .held _ => 1
def uptoBulkAll {H : Type} : List (DataW H) → Nat
  | [] => 0
  | d :: r => uptoBulk d + uptoBulkAll r
def uptoBulkEntries {H : Type} : List (Lit × DataW H) → Nat
  | [] => 0
  | x :: r => uptoBulkEntry x + uptoBulkEntries r
def uptoBulkEntry {H : Type} : Lit × DataW H → Nat
  | (.string bytes, d) => bytes.length + uptoBulk d + 1
  | (_, d) => uptoBulk d + 1
 end
def uptoSmall : (H : Type) → List (DataW H) → Bool := fun _ ds => decide (uptoBulkAll ds ≤ 1048576)
def OpenSpec.upto (s : _root_.Go.ChangeSpec) : _root_.Go.OpenSpec := { _root_.Go.OpenSpec.ofChange s with cond := some uptoSmall }

/-- 'triagelaw14.EjectCap', WHERE WHAT IT READS IS OF BULK AT MOST 1048576: true; the input reads as it did. -/
def ejectCapUptoRow : OpenClaim := { program := "ythnaloeipilmdaa", sum := "28f6ad006c55435f0ada798a2795ce88b8811be020c9183b5ecf52e23472b244", func := "triage/triagelaw14.EjectCap", spec := "ejectCap", named := ["math/bits.divideError", "math/bits.overflowError"], apart := false, narrowed := true }
def EjectCapUptoSaid : Prop := ejectCapUptoRow.holds Try.pinned (OpenSpec.upto ejectCapSpec)

/-- 'triagelaw14.EjectLonger', WHERE WHAT IT READS IS OF BULK AT MOST 1048576: true; the input reads as it did. -/
def ejectLongerUptoRow : OpenClaim := { program := "ythnaloeipilmdaa", sum := "28f6ad006c55435f0ada798a2795ce88b8811be020c9183b5ecf52e23472b244", func := "triage/triagelaw14.EjectLonger", spec := "ejectLonger", named := ["math/bits.divideError", "math/bits.overflowError"], apart := false, narrowed := true }
def EjectLongerUptoSaid : Prop := ejectLongerUptoRow.holds Try.pinned (OpenSpec.upto ejectLongerSpec)

/-- 'triagelaw14.EjectRoom', WHERE WHAT IT READS IS OF BULK AT MOST 1048576: true; the input reads as it did. -/
def ejectRoomUptoRow : OpenClaim := { program := "ythnaloeipilmdaa", sum := "28f6ad006c55435f0ada798a2795ce88b8811be020c9183b5ecf52e23472b244", func := "triage/triagelaw14.EjectRoom", spec := "ejectRoom", named := ["math/bits.divideError", "math/bits.overflowError"], apart := false, narrowed := true }
def EjectRoomUptoSaid : Prop := ejectRoomUptoRow.holds Try.pinned (OpenSpec.upto ejectRoomSpec)

/-- 'triagelaw13.SpreadForms', WHERE WHAT IT READS IS OF BULK AT MOST 1048576: true; the input reads as it did. -/
def spreadFormsUptoRow : OpenClaim := { program := "ythnaloeipilmdaa", sum := "28f6ad006c55435f0ada798a2795ce88b8811be020c9183b5ecf52e23472b244", func := "triage/triagelaw13.SpreadForms", spec := "spreadForms", unfollowed := true, recurses := true, named := ["math/bits.divideError", "math/bits.overflowError"], apart := false, narrowed := true }
def SpreadFormsUptoSaid : Prop := spreadFormsUptoRow.holds Try.pinned (OpenSpec.upto spreadFormsSpec)

/-- 'triagelaw13.SpreadNobody', WHERE WHAT IT READS IS OF BULK AT MOST 1048576: true; the input reads as it did. -/
def spreadNobodyUptoRow : OpenClaim := { program := "ythnaloeipilmdaa", sum := "28f6ad006c55435f0ada798a2795ce88b8811be020c9183b5ecf52e23472b244", func := "triage/triagelaw13.SpreadNobody", spec := "spreadNobody", unfollowed := true, recurses := true, named := ["math/bits.divideError", "math/bits.overflowError"], apart := false, narrowed := true }
def SpreadNobodyUptoSaid : Prop := spreadNobodyUptoRow.holds Try.pinned (OpenSpec.upto spreadNobodySpec)

/-- 'triagelaw13.SpreadOrder', WHERE WHAT IT READS IS OF BULK AT MOST 1048576: true; the input reads as it did. -/
def spreadOrderUptoRow : OpenClaim := { program := "ythnaloeipilmdaa", sum := "28f6ad006c55435f0ada798a2795ce88b8811be020c9183b5ecf52e23472b244", func := "triage/triagelaw13.SpreadOrder", spec := "spreadOrder", unfollowed := true, recurses := true, named := ["math/bits.divideError", "math/bits.overflowError"], apart := false, narrowed := true }
def SpreadOrderUptoSaid : Prop := spreadOrderUptoRow.holds Try.pinned (OpenSpec.upto spreadOrderSpec)

/-- 'triagelaw13.SpreadEnough', WHERE WHAT IT READS IS OF BULK AT MOST 1048576: true; the input reads as it did. -/
def spreadEnoughUptoRow : OpenClaim := { program := "ythnaloeipilmdaa", sum := "28f6ad006c55435f0ada798a2795ce88b8811be020c9183b5ecf52e23472b244", func := "triage/triagelaw13.SpreadEnough", spec := "spreadEnough", unfollowed := true, recurses := true, named := ["math/bits.divideError", "math/bits.overflowError"], apart := false, narrowed := true }
def SpreadEnoughUptoSaid : Prop := spreadEnoughUptoRow.holds Try.pinned (OpenSpec.upto spreadEnoughSpec)

/-- 'triagelaw26.WatchSees', WHERE WHAT IT READS IS OF BULK AT MOST 1048576: true; the input reads as it did. -/
def watchSeesUptoRow : OpenClaim := { program := "ythnaloeipilmdaa", sum := "28f6ad006c55435f0ada798a2795ce88b8811be020c9183b5ecf52e23472b244", func := "triage/triagelaw26.WatchSees", spec := "watchSees", inPlace := ["slices.overlaps[triage/watch.seen]"], unfollowed := true, recurses := true, apart := false, narrowed := true }
def WatchSeesUptoSaid : Prop := watchSeesUptoRow.holds Try.pinned (OpenSpec.upto watchSeesSpec)

/-- 'triagelaw26.WatchNil', WHERE WHAT IT READS IS OF BULK AT MOST 1048576: true; the input reads as it did. -/
def watchNilUptoRow : OpenClaim := { program := "ythnaloeipilmdaa", sum := "28f6ad006c55435f0ada798a2795ce88b8811be020c9183b5ecf52e23472b244", func := "triage/triagelaw26.WatchNil", spec := "watchNil", inPlace := ["slices.overlaps[triage/watch.seen]"], unfollowed := true, recurses := true, apart := false, narrowed := true }
def WatchNilUptoSaid : Prop := watchNilUptoRow.holds Try.pinned (OpenSpec.upto watchNilSpec)

/-- 'triagelaw26.WatchLies', WHERE WHAT IT READS IS OF BULK AT MOST 1048576: true; the input reads as it did. -/
def watchLiesUptoRow : OpenClaim := { program := "ythnaloeipilmdaa", sum := "28f6ad006c55435f0ada798a2795ce88b8811be020c9183b5ecf52e23472b244", func := "triage/triagelaw26.WatchLies", spec := "watchLies", inPlace := ["slices.overlaps[triage/watch.seen]"], unfollowed := true, recurses := true, apart := false, narrowed := true }
def WatchLiesUptoSaid : Prop := watchLiesUptoRow.holds Try.pinned (OpenSpec.upto watchLiesSpec)

/-- 'triagelaw19.ZoneForms', WHERE WHAT IT READS IS OF BULK AT MOST 1048576: true; the input reads as it did. -/
def zoneFormsUptoRow : OpenClaim := { program := "ythnaloeipilmdaa", sum := "28f6ad006c55435f0ada798a2795ce88b8811be020c9183b5ecf52e23472b244", func := "triage/triagelaw19.ZoneForms", spec := "zoneForms", inPlace := ["slices.overlaps[string]"], unfollowed := true, recurses := true, named := ["math/bits.divideError", "math/bits.overflowError"], apart := false, narrowed := true }
def ZoneFormsUptoSaid : Prop := zoneFormsUptoRow.holds Try.pinned (OpenSpec.upto zoneFormsSpec)

/-- 'triagelaw19.ZoneWhole', WHERE WHAT IT READS IS OF BULK AT MOST 1048576: true; the input reads as it did. -/
def zoneWholeUptoRow : OpenClaim := { program := "ythnaloeipilmdaa", sum := "28f6ad006c55435f0ada798a2795ce88b8811be020c9183b5ecf52e23472b244", func := "triage/triagelaw19.ZoneWhole", spec := "zoneWhole", inPlace := ["slices.overlaps[string]"], unfollowed := true, recurses := true, named := ["math/bits.divideError", "math/bits.overflowError"], apart := false, narrowed := true }
def ZoneWholeUptoSaid : Prop := zoneWholeUptoRow.holds Try.pinned (OpenSpec.upto zoneWholeSpec)

/-- 'triagelaw19.ZoneParts', WHERE WHAT IT READS IS OF BULK AT MOST 1048576: true; the input reads as it did. -/
def zonePartsUptoRow : OpenClaim := { program := "ythnaloeipilmdaa", sum := "28f6ad006c55435f0ada798a2795ce88b8811be020c9183b5ecf52e23472b244", func := "triage/triagelaw19.ZoneParts", spec := "zoneParts", inPlace := ["slices.overlaps[string]"], unfollowed := true, recurses := true, named := ["math/bits.divideError", "math/bits.overflowError"], apart := false, narrowed := true }
def ZonePartsUptoSaid : Prop := zonePartsUptoRow.holds Try.pinned (OpenSpec.upto zonePartsSpec)

/-- 'triagelaw19.ZoneMore', WHERE WHAT IT READS IS OF BULK AT MOST 1048576: true; the input reads as it did. -/
def zoneMoreUptoRow : OpenClaim := { program := "ythnaloeipilmdaa", sum := "28f6ad006c55435f0ada798a2795ce88b8811be020c9183b5ecf52e23472b244", func := "triage/triagelaw19.ZoneMore", spec := "zoneMore", inPlace := ["slices.overlaps[string]"], unfollowed := true, recurses := true, named := ["math/bits.divideError", "math/bits.overflowError"], apart := false, narrowed := true }
def ZoneMoreUptoSaid : Prop := zoneMoreUptoRow.holds Try.pinned (OpenSpec.upto zoneMoreSpec)

/-- 'triagelaw19.ZoneEven', WHERE WHAT IT READS IS OF BULK AT MOST 1048576: true; the input reads as it did. -/
def zoneEvenUptoRow : OpenClaim := { program := "ythnaloeipilmdaa", sum := "28f6ad006c55435f0ada798a2795ce88b8811be020c9183b5ecf52e23472b244", func := "triage/triagelaw19.ZoneEven", spec := "zoneEven", inPlace := ["slices.overlaps[string]"], unfollowed := true, recurses := true, named := ["math/bits.divideError", "math/bits.overflowError"], apart := false, narrowed := true }
def ZoneEvenUptoSaid : Prop := zoneEvenUptoRow.holds Try.pinned (OpenSpec.upto zoneEvenSpec)

/-- 'triagelaw18.LoadWhole', WHERE WHAT IT READS IS OF BULK AT MOST 1048576: true; the input reads as it did. -/
def loadWholeUptoRow : OpenClaim := { program := "ythnaloeipilmdaa", sum := "28f6ad006c55435f0ada798a2795ce88b8811be020c9183b5ecf52e23472b244", func := "triage/triagelaw18.LoadWhole", spec := "loadWhole", inPlace := ["slices.overlaps[triage/load.count]"], unfollowed := true, recurses := true, named := ["math/bits.divideError", "math/bits.overflowError"], apart := false, narrowed := true }
def LoadWholeUptoSaid : Prop := loadWholeUptoRow.holds Try.pinned (OpenSpec.upto loadWholeSpec)

/-- 'triagelaw18.LoadChooses', WHERE WHAT IT READS IS OF BULK AT MOST 1048576: true; the input reads as it did. -/
def loadChoosesUptoRow : OpenClaim := { program := "ythnaloeipilmdaa", sum := "28f6ad006c55435f0ada798a2795ce88b8811be020c9183b5ecf52e23472b244", func := "triage/triagelaw18.LoadChooses", spec := "loadChooses", inPlace := ["slices.overlaps[triage/load.count]"], unfollowed := true, recurses := true, named := ["math/bits.divideError", "math/bits.overflowError"], apart := false, narrowed := true }
def LoadChoosesUptoSaid : Prop := loadChoosesUptoRow.holds Try.pinned (OpenSpec.upto loadChoosesSpec)

/-- 'triagelaw18.LoadPanics', WHERE WHAT IT READS IS OF BULK AT MOST 1048576: true; the input reads as it did. -/
def loadPanicsUptoRow : OpenClaim := { program := "ythnaloeipilmdaa", sum := "28f6ad006c55435f0ada798a2795ce88b8811be020c9183b5ecf52e23472b244", func := "triage/triagelaw18.LoadPanics", spec := "loadPanics", inPlace := ["slices.overlaps[triage/load.count]"], unfollowed := true, recurses := true, named := ["math/bits.divideError", "math/bits.overflowError"], apart := false, narrowed := true }
def LoadPanicsUptoSaid : Prop := loadPanicsUptoRow.holds Try.pinned (OpenSpec.upto loadPanicsSpec)

/-- 'triagelaw18.LoadMore', WHERE WHAT IT READS IS OF BULK AT MOST 1048576: true; the input reads as it did. -/
def loadMoreUptoRow : OpenClaim := { program := "ythnaloeipilmdaa", sum := "28f6ad006c55435f0ada798a2795ce88b8811be020c9183b5ecf52e23472b244", func := "triage/triagelaw18.LoadMore", spec := "loadMore", inPlace := ["slices.overlaps[triage/load.count]"], unfollowed := true, recurses := true, named := ["math/bits.divideError", "math/bits.overflowError"], apart := false, narrowed := true }
def LoadMoreUptoSaid : Prop := loadMoreUptoRow.holds Try.pinned (OpenSpec.upto loadMoreSpec)

/-- 'triagelaw14.EjectFirst', WHERE WHAT IT READS IS OF BULK AT MOST 1048576: true; the input reads as it did. -/
def ejectFirstUptoRow : OpenClaim := { program := "ythnaloeipilmdaa", sum := "28f6ad006c55435f0ada798a2795ce88b8811be020c9183b5ecf52e23472b244", func := "triage/triagelaw14.EjectFirst", spec := "ejectFirst", unfollowed := true, recurses := true, named := ["math/bits.divideError", "math/bits.overflowError"], apart := false, narrowed := true }
def EjectFirstUptoSaid : Prop := ejectFirstUptoRow.holds Try.pinned (OpenSpec.upto ejectFirstSpec)

end Rows
end Go.Proofs.Ythnaloeipilmdaa
