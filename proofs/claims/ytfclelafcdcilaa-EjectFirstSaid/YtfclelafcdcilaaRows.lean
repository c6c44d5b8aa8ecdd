/-
  No cell of these rows narrows 'for every input' (looked for: loops, veiled, ifaces, maps, wideKeys, modest, calm, conditions, laid).
  DERIVED. THE GIVEN ROWS OF THIS SEAT. 5 by the template 'for every input the law returns true; each argument reads behind the call as it read before'; 0 by the template 'total and deterministic' (their statements: YtfclelafcdcilaaTotals.lean).
  GIVEN WITH THE SEED: the statements are not yours to turn. If you find one false, say at which input.
  Laid BY PROGRAM, IN A SANDBOX (cutbox-rows.mjs): the forced cells as the released guide's own fill.sh prints them over the translation 949407fc4c4148a2… (all of the seat's roots in one cut). By AI agents, Wed Nov 11 2026. No macro, syntax, notation, axiom, sorry.
-/
import Derived.Test.YtfclelafcdcilaaChecked
import GoSem.Claim
import GoSem.ClaimJoined
import GoSem.ClaimMapViews
import Derived.JoinedTies
import Derived.KernelRfl
namespace Go.Proofs.Ytfclelafcdcilaa
/- THE CELL 'sum', in the pinned program and in every row, IS THE sha256 OF THE DUMP (.gsa) THAT YtfclelafcdcilaaProg.lean LOADS. Nothing in Lean hashes anything: it is a label: what it is worth is what the hold of that sum in a sandbox is worth. -/
noncomputable def Try.pinned : Pinned := { name := "ytfclelafcdcilaa", sum := "949407fc4c4148a2f853767ac261886e904a6f5716b47e0423c54e3dc812f4c7", checked := Try.checked }
namespace Rows
def none {H : Type} : Left H := { results := [], args := [] }

/-- 'triagelaw13.SpreadForms': WHATEVER THE INPUT: true; the input reads as it did. -/
def spreadFormsSpec : ChangeSpec := { name := "spreadForms", fn := fun _ => fun
  | [d1, d2, d3, d4] => { results := [.lit (.bool true)], args := [d1, d2, d3, d4] }
  | _ => none }
def spreadFormsRow : OpenClaim := { program := "ytfclelafcdcilaa", sum := "949407fc4c4148a2f853767ac261886e904a6f5716b47e0423c54e3dc812f4c7", func := "triage/triagelaw13.SpreadForms", spec := "spreadForms", unfollowed := true, recurses := true, named := ["math/bits.divideError", "math/bits.overflowError"], apart := false }
def SpreadFormsSaid : Prop := spreadFormsRow.holds Try.pinned (OpenSpec.ofChange spreadFormsSpec)

/-- ITS FALSE NEIGHBOUR: 'it returns false'. Refute it at one input. -/
def spreadFormsWrong : ChangeSpec := { name := "spreadForms", fn := fun _ => fun
  | [d1, d2, d3, d4] => { results := [.lit (.bool false)], args := [d1, d2, d3, d4] }
  | _ => none }
def SpreadFormsWrongFalsely : Prop := spreadFormsRow.holds Try.pinned (OpenSpec.ofChange spreadFormsWrong)

/-- 'triagelaw13.SpreadNobody': WHATEVER THE INPUT: true; the input reads as it did. -/
def spreadNobodySpec : ChangeSpec := { name := "spreadNobody", fn := fun _ => fun
  | [d1, d2, d3] => { results := [.lit (.bool true)], args := [d1, d2, d3] }
  | _ => none }
def spreadNobodyRow : OpenClaim := { program := "ytfclelafcdcilaa", sum := "949407fc4c4148a2f853767ac261886e904a6f5716b47e0423c54e3dc812f4c7", func := "triage/triagelaw13.SpreadNobody", spec := "spreadNobody", unfollowed := true, recurses := true, named := ["math/bits.divideError", "math/bits.overflowError"], apart := false }
def SpreadNobodySaid : Prop := spreadNobodyRow.holds Try.pinned (OpenSpec.ofChange spreadNobodySpec)

/-- ITS FALSE NEIGHBOUR: 'it returns false'. Refute it at one input. -/
def spreadNobodyWrong : ChangeSpec := { name := "spreadNobody", fn := fun _ => fun
  | [d1, d2, d3] => { results := [.lit (.bool false)], args := [d1, d2, d3] }
  | _ => none }
def SpreadNobodyWrongFalsely : Prop := spreadNobodyRow.holds Try.pinned (OpenSpec.ofChange spreadNobodyWrong)

/-- 'triagelaw13.SpreadOrder': WHATEVER THE INPUT: true; the input reads as it did. -/
def spreadOrderSpec : ChangeSpec := { name := "spreadOrder", fn := fun _ => fun
  | [d1, d2, d3] => { results := [.lit (.bool true)], args := [d1, d2, d3] }
  | _ => none }
def spreadOrderRow : OpenClaim := { program := "ytfclelafcdcilaa", sum := "949407fc4c4148a2f853767ac261886e904a6f5716b47e0423c54e3dc812f4c7", func := "triage/triagelaw13.SpreadOrder", spec := "spreadOrder", unfollowed := true, recurses := true, named := ["math/bits.divideError", "math/bits.overflowError"], apart := false }
def SpreadOrderSaid : Prop := spreadOrderRow.holds Try.pinned (OpenSpec.ofChange spreadOrderSpec)

/-- ITS FALSE NEIGHBOUR: 'it returns false'. Refute it at one input. -/
def spreadOrderWrong : ChangeSpec := { name := "spreadOrder", fn := fun _ => fun
  | [d1, d2, d3] => { results := [.lit (.bool false)], args := [d1, d2, d3] }
  | _ => none }
def SpreadOrderWrongFalsely : Prop := spreadOrderRow.holds Try.pinned (OpenSpec.ofChange spreadOrderWrong)

/-- 'triagelaw13.SpreadEnough': WHATEVER THE INPUT: true; the input reads as it did. -/
def spreadEnoughSpec : ChangeSpec := { name := "spreadEnough", fn := fun _ => fun
  | [d1, d2] => { results := [.lit (.bool true)], args := [d1, d2] }
  | _ => none }
def spreadEnoughRow : OpenClaim := { program := "ytfclelafcdcilaa", sum := "949407fc4c4148a2f853767ac261886e904a6f5716b47e0423c54e3dc812f4c7", func := "triage/triagelaw13.SpreadEnough", spec := "spreadEnough", unfollowed := true, recurses := true, named := ["math/bits.divideError", "math/bits.overflowError"], apart := false }
def SpreadEnoughSaid : Prop := spreadEnoughRow.holds Try.pinned (OpenSpec.ofChange spreadEnoughSpec)

/-- ITS FALSE NEIGHBOUR: 'it returns false'. Refute it at one input. -/
def spreadEnoughWrong : ChangeSpec := { name := "spreadEnough", fn := fun _ => fun
  | [d1, d2] => { results := [.lit (.bool false)], args := [d1, d2] }
  | _ => none }
def SpreadEnoughWrongFalsely : Prop := spreadEnoughRow.holds Try.pinned (OpenSpec.ofChange spreadEnoughWrong)

/-- 'triagelaw14.EjectFirst': WHATEVER THE INPUT: true; the input reads as it did. -/
def ejectFirstSpec : ChangeSpec := { name := "ejectFirst", fn := fun _ => fun
  | [d1, d2] => { results := [.lit (.bool true)], args := [d1, d2] }
  | _ => none }
def ejectFirstRow : OpenClaim := { program := "ytfclelafcdcilaa", sum := "949407fc4c4148a2f853767ac261886e904a6f5716b47e0423c54e3dc812f4c7", func := "triage/triagelaw14.EjectFirst", spec := "ejectFirst", unfollowed := true, recurses := true, named := ["math/bits.divideError", "math/bits.overflowError"], apart := false }
def EjectFirstSaid : Prop := ejectFirstRow.holds Try.pinned (OpenSpec.ofChange ejectFirstSpec)

/-- ITS FALSE NEIGHBOUR: 'it returns false'. Refute it at one input. -/
def ejectFirstWrong : ChangeSpec := { name := "ejectFirst", fn := fun _ => fun
  | [d1, d2] => { results := [.lit (.bool false)], args := [d1, d2] }
  | _ => none }
def EjectFirstWrongFalsely : Prop := ejectFirstRow.holds Try.pinned (OpenSpec.ofChange ejectFirstWrong)

/- THE SECOND FORM. 'bulk': how many values and letters a reading holds, each counted each time it is reached (what is shared counts as often as it is met; a slice's spare places count too). A statement '..UptoSaid' is the law's where the arguments, and the package variables that the reading takes, are together of bulk at most 1048576: NARROWER than '..Said'. Prove '..Said' where nothing that the law and all that it calls make is longer than what came in: it says more and counts as full. Else prove '..UptoSaid'. A law counts once. -/
mutual
def uptoBulk {H : Type} : DataW H → Nat
  | .lit (.string bytes) => bytes.length + 1
  | .lit _ => 1
  | .nil => 1
  | .ptr d => uptoBulk d + 1
  | .slice elems spare => uptoBulkAll elems + uptoBulkAll spare + 1
  | .agg parts => uptoBulkAll parts + 1
  | .iface _ d => uptoBulk d + 1
  | .map entries => uptoBulkEntries entries + 1
  | .held _ => 1
def uptoBulkAll {H : Type} : List (DataW H) → Nat
  | [] => 0
  | d :: r => uptoBulk d + uptoBulkAll r
def uptoBulkEntries {H : Type} : List (Lit × DataW H) → Nat
  | [] => 0
  | x :: r => uptoBulkEntry x + uptoBulkEntries r
def uptoBulkEntry {H : Type} : Lit × DataW H → Nat
  | (.string bytes, d) => bytes.length + uptoBulk d + 1
  | (_, d) => uptoBulk d + 1
 end
def uptoSmall : (H : Type) → List (DataW H) → Bool := fun _ ds => decide (uptoBulkAll ds ≤ 1048576)
def OpenSpec.upto (s : _root_.Go.ChangeSpec) : _root_.Go.OpenSpec := { _root_.Go.OpenSpec.ofChange s with cond := some uptoSmall }

/-- 'triagelaw13.SpreadForms', WHERE WHAT IT READS IS OF BULK AT MOST 1048576: true; the input reads as it did. -/
def spreadFormsUptoRow : OpenClaim := { program := "ytfclelafcdcilaa", sum := "949407fc4c4148a2f853767ac261886e904a6f5716b47e0423c54e3dc812f4c7", func := "triage/triagelaw13.SpreadForms", spec := "spreadForms", unfollowed := true, recurses := true, named := ["math/bits.divideError", "math/bits.overflowError"], apart := false, narrowed := true }
def SpreadFormsUptoSaid : Prop := spreadFormsUptoRow.holds Try.pinned (OpenSpec.upto spreadFormsSpec)

/-- 'triagelaw13.SpreadNobody', WHERE WHAT IT READS IS OF BULK AT MOST 1048576: true; the input reads as it did. -/
def spreadNobodyUptoRow : OpenClaim := { program := "ytfclelafcdcilaa", sum := "949407fc4c4148a2f853767ac261886e904a6f5716b47e0423c54e3dc812f4c7", func := "triage/triagelaw13.SpreadNobody", spec := "spreadNobody", unfollowed := true, recurses := true, named := ["math/bits.divideError", "math/bits.overflowError"], apart := false, narrowed := true }
def SpreadNobodyUptoSaid : Prop := spreadNobodyUptoRow.holds Try.pinned (OpenSpec.upto spreadNobodySpec)

/-- 'triagelaw13.SpreadOrder', WHERE WHAT IT READS IS OF BULK AT MOST 1048576: true; the input reads as it did. -/
def spreadOrderUptoRow : OpenClaim := { program := "ytfclelafcdcilaa", sum := "949407fc4c4148a2f853767ac261886e904a6f5716b47e0423c54e3dc812f4c7", func := "triage/triagelaw13.SpreadOrder", spec := "spreadOrder", unfollowed := true, recurses := true, named := ["math/bits.divideError", "math/bits.overflowError"], apart := false, narrowed := true }
def SpreadOrderUptoSaid : Prop := spreadOrderUptoRow.holds Try.pinned (OpenSpec.upto spreadOrderSpec)

/-- 'triagelaw13.SpreadEnough', WHERE WHAT IT READS IS OF BULK AT MOST 1048576: true; the input reads as it did. -/
def spreadEnoughUptoRow : OpenClaim := { program := "ytfclelafcdcilaa", sum := "949407fc4c4148a2f853767ac261886e904a6f5716b47e0423c54e3dc812f4c7", func := "triage/triagelaw13.SpreadEnough", spec := "spreadEnough", unfollowed := true, recurses := true, named := ["math/bits.divideError", "math/bits.overflowError"], apart := false, narrowed := true }
def SpreadEnoughUptoSaid : Prop := spreadEnoughUptoRow.holds Try.pinned (OpenSpec.upto spreadEnoughSpec)

/-- 'triagelaw14.EjectFirst', WHERE WHAT IT READS IS OF BULK AT MOST 1048576: true; the input reads as it did. -/
def ejectFirstUptoRow : OpenClaim := { program := "ytfclelafcdcilaa", sum := "949407fc4c4148a2f853767ac261886e904a6f5716b47e0423c54e3dc812f4c7", func := "triage/triagelaw14.EjectFirst", spec := "ejectFirst", unfollowed := true, recurses := true, named := ["math/bits.divideError", "math/bits.overflowError"], apart := false, narrowed := true }
def EjectFirstUptoSaid : Prop := ejectFirstUptoRow.holds Try.pinned (OpenSpec.upto ejectFirstSpec)

end Rows
end Go.Proofs.Ytfclelafcdcilaa
