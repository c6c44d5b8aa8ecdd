/-
  No cell of these rows narrows 'for every input' (looked for: loops, veiled, ifaces, maps, wideKeys, modest, calm, conditions, laid).
  DERIVED. THE GIVEN ROWS OF THIS SEAT. 20 by the template 'for every input the law returns true; each argument reads behind the call as it read before'; 0 by the template 'total and deterministic' (their statements: YtfjgngdomjjpgaaTotals.lean).
  GIVEN WITH THE SEED: the statements are not yours to turn. If you find one false, say at which input.
  Laid BY PROGRAM, IN A SANDBOX (cutbox-rows.mjs): the forced cells as the released guide's own fill.sh prints them over the translation b135197b6bc90c18… (all of the seat's roots in one cut). By AI agents, Wed Nov 11 2026. No macro, syntax, notation, axiom, sorry.
-/
import Derived.Test.YtfjgngdomjjpgaaChecked
import GoSem.Claim
import GoSem.ClaimJoined
import GoSem.ClaimMapViews
import Derived.JoinedTies
import Derived.KernelRfl
namespace Go.Proofs.Ytfjgngdomjjpgaa
/- THE CELL 'sum', in the pinned program and in every row, IS THE sha256 OF THE DUMP (.gsa) THAT YtfjgngdomjjpgaaProg.lean LOADS. Nothing in Lean hashes anything: it is a label: what it is worth is what the hold of that sum in a sandbox is worth. -/
noncomputable def Try.pinned : Pinned := { name := "ytfjgngdomjjpgaa", sum := "b135197b6bc90c189333d76123bb2fde1902bc815bbce79308a1f04f83d62d19", checked := Try.checked }
namespace Rows
def none {H : Type} : Left H := { results := [], args := [] }

/-- 'triagelaw15.DrainEnds': WHATEVER THE INPUT: true; the input reads as it did. -/
def drainEndsSpec : ChangeSpec := { name := "drainEnds", fn := fun _ => fun
  | [d1, d2, d3, d4] => { results := [.lit (.bool true)], args := [d1, d2, d3, d4] }
  | _ => none }
def drainEndsRow : OpenClaim := { program := "ytfjgngdomjjpgaa", sum := "b135197b6bc90c189333d76123bb2fde1902bc815bbce79308a1f04f83d62d19", func := "triage/triagelaw15.DrainEnds", spec := "drainEnds", apart := false }
def DrainEndsSaid : Prop := drainEndsRow.holds Try.pinned (OpenSpec.ofChange drainEndsSpec)

/-- ITS FALSE NEIGHBOUR: 'it returns false'. Refute it at one input. -/
def drainEndsWrong : ChangeSpec := { name := "drainEnds", fn := fun _ => fun
  | [d1, d2, d3, d4] => { results := [.lit (.bool false)], args := [d1, d2, d3, d4] }
  | _ => none }
def DrainEndsWrongFalsely : Prop := drainEndsRow.holds Try.pinned (OpenSpec.ofChange drainEndsWrong)

/-- 'triagelaw15.DrainLeft': WHATEVER THE INPUT: true; the input reads as it did. -/
def drainLeftSpec : ChangeSpec := { name := "drainLeft", fn := fun _ => fun
  | [d1, d2, d3, d4] => { results := [.lit (.bool true)], args := [d1, d2, d3, d4] }
  | _ => none }
def drainLeftRow : OpenClaim := { program := "ytfjgngdomjjpgaa", sum := "b135197b6bc90c189333d76123bb2fde1902bc815bbce79308a1f04f83d62d19", func := "triage/triagelaw15.DrainLeft", spec := "drainLeft", apart := false }
def DrainLeftSaid : Prop := drainLeftRow.holds Try.pinned (OpenSpec.ofChange drainLeftSpec)

/-- ITS FALSE NEIGHBOUR: 'it returns false'. Refute it at one input. -/
def drainLeftWrong : ChangeSpec := { name := "drainLeft", fn := fun _ => fun
  | [d1, d2, d3, d4] => { results := [.lit (.bool false)], args := [d1, d2, d3, d4] }
  | _ => none }
def DrainLeftWrongFalsely : Prop := drainLeftRow.holds Try.pinned (OpenSpec.ofChange drainLeftWrong)

/-- 'triagelaw22.LeastNever': WHATEVER THE INPUT: true; the input reads as it did. -/
def leastNeverSpec : ChangeSpec := { name := "leastNever", fn := fun _ => fun
  | [d1, d2, d3] => { results := [.lit (.bool true)], args := [d1, d2, d3] }
  | _ => none }
def leastNeverRow : OpenClaim := { program := "ytfjgngdomjjpgaa", sum := "b135197b6bc90c189333d76123bb2fde1902bc815bbce79308a1f04f83d62d19", func := "triage/triagelaw22.LeastNever", spec := "leastNever", apart := false }
def LeastNeverSaid : Prop := leastNeverRow.holds Try.pinned (OpenSpec.ofChange leastNeverSpec)

/-- ITS FALSE NEIGHBOUR: 'it returns false'. Refute it at one input. -/
def leastNeverWrong : ChangeSpec := { name := "leastNever", fn := fun _ => fun
  | [d1, d2, d3] => { results := [.lit (.bool false)], args := [d1, d2, d3] }
  | _ => none }
def LeastNeverWrongFalsely : Prop := leastNeverRow.holds Try.pinned (OpenSpec.ofChange leastNeverWrong)

/-- 'triagelaw22.LeastOrders': WHATEVER THE INPUT: true; the input reads as it did. -/
def leastOrdersSpec : ChangeSpec := { name := "leastOrders", fn := fun _ => fun
  | [d1, d2, d3] => { results := [.lit (.bool true)], args := [d1, d2, d3] }
  | _ => none }
def leastOrdersRow : OpenClaim := { program := "ytfjgngdomjjpgaa", sum := "b135197b6bc90c189333d76123bb2fde1902bc815bbce79308a1f04f83d62d19", func := "triage/triagelaw22.LeastOrders", spec := "leastOrders", apart := false }
def LeastOrdersSaid : Prop := leastOrdersRow.holds Try.pinned (OpenSpec.ofChange leastOrdersSpec)

/-- ITS FALSE NEIGHBOUR: 'it returns false'. Refute it at one input. -/
def leastOrdersWrong : ChangeSpec := { name := "leastOrders", fn := fun _ => fun
  | [d1, d2, d3] => { results := [.lit (.bool false)], args := [d1, d2, d3] }
  | _ => none }
def LeastOrdersWrongFalsely : Prop := leastOrdersRow.holds Try.pinned (OpenSpec.ofChange leastOrdersWrong)

/-- 'triagelaw22.LeastTwo': WHATEVER THE INPUT: true; the input reads as it did. -/
def leastTwoSpec : ChangeSpec := { name := "leastTwo", fn := fun _ => fun
  | [d1, d2, d3] => { results := [.lit (.bool true)], args := [d1, d2, d3] }
  | _ => none }
def leastTwoRow : OpenClaim := { program := "ytfjgngdomjjpgaa", sum := "b135197b6bc90c189333d76123bb2fde1902bc815bbce79308a1f04f83d62d19", func := "triage/triagelaw22.LeastTwo", spec := "leastTwo", apart := false }
def LeastTwoSaid : Prop := leastTwoRow.holds Try.pinned (OpenSpec.ofChange leastTwoSpec)

/-- ITS FALSE NEIGHBOUR: 'it returns false'. Refute it at one input. -/
def leastTwoWrong : ChangeSpec := { name := "leastTwo", fn := fun _ => fun
  | [d1, d2, d3] => { results := [.lit (.bool false)], args := [d1, d2, d3] }
  | _ => none }
def LeastTwoWrongFalsely : Prop := leastTwoRow.holds Try.pinned (OpenSpec.ofChange leastTwoWrong)

/-- 'triagelaw22.LeastAlone': WHATEVER THE INPUT: true; the input reads as it did. -/
def leastAloneSpec : ChangeSpec := { name := "leastAlone", fn := fun _ => fun
  | [d1, d2, d3, d4] => { results := [.lit (.bool true)], args := [d1, d2, d3, d4] }
  | _ => none }
def leastAloneRow : OpenClaim := { program := "ytfjgngdomjjpgaa", sum := "b135197b6bc90c189333d76123bb2fde1902bc815bbce79308a1f04f83d62d19", func := "triage/triagelaw22.LeastAlone", spec := "leastAlone", apart := false }
def LeastAloneSaid : Prop := leastAloneRow.holds Try.pinned (OpenSpec.ofChange leastAloneSpec)

/-- ITS FALSE NEIGHBOUR: 'it returns false'. Refute it at one input. -/
def leastAloneWrong : ChangeSpec := { name := "leastAlone", fn := fun _ => fun
  | [d1, d2, d3, d4] => { results := [.lit (.bool false)], args := [d1, d2, d3, d4] }
  | _ => none }
def LeastAloneWrongFalsely : Prop := leastAloneRow.holds Try.pinned (OpenSpec.ofChange leastAloneWrong)

/-- 'triagelaw12.BucketForms': WHATEVER THE INPUT: true; the input reads as it did. -/
def bucketFormsSpec : ChangeSpec := { name := "bucketForms", fn := fun _ => fun
  | [d1, d2, d3, d4] => { results := [.lit (.bool true)], args := [d1, d2, d3, d4] }
  | _ => none }
def bucketFormsRow : OpenClaim := { program := "ytfjgngdomjjpgaa", sum := "b135197b6bc90c189333d76123bb2fde1902bc815bbce79308a1f04f83d62d19", func := "triage/triagelaw12.BucketForms", spec := "bucketForms", named := ["math/bits.divideError", "math/bits.overflowError"], apart := false }
def BucketFormsSaid : Prop := bucketFormsRow.holds Try.pinned (OpenSpec.ofChange bucketFormsSpec)

/-- ITS FALSE NEIGHBOUR: 'it returns false'. Refute it at one input. -/
def bucketFormsWrong : ChangeSpec := { name := "bucketForms", fn := fun _ => fun
  | [d1, d2, d3, d4] => { results := [.lit (.bool false)], args := [d1, d2, d3, d4] }
  | _ => none }
def BucketFormsWrongFalsely : Prop := bucketFormsRow.holds Try.pinned (OpenSpec.ofChange bucketFormsWrong)

/-- 'triagelaw12.BucketRates': WHATEVER THE INPUT: true; the input reads as it did. -/
def bucketRatesSpec : ChangeSpec := { name := "bucketRates", fn := fun _ => fun
  | [d] => { results := [.lit (.bool true)], args := [d] }
  | _ => none }
def bucketRatesRow : OpenClaim := { program := "ytfjgngdomjjpgaa", sum := "b135197b6bc90c189333d76123bb2fde1902bc815bbce79308a1f04f83d62d19", func := "triage/triagelaw12.BucketRates", spec := "bucketRates", named := ["math/bits.divideError", "math/bits.overflowError"], apart := false }
def BucketRatesSaid : Prop := bucketRatesRow.holds Try.pinned (OpenSpec.ofChange bucketRatesSpec)

/-- ITS FALSE NEIGHBOUR: 'it returns false'. Refute it at one input. -/
def bucketRatesWrong : ChangeSpec := { name := "bucketRates", fn := fun _ => fun
  | [d] => { results := [.lit (.bool false)], args := [d] }
  | _ => none }
def BucketRatesWrongFalsely : Prop := bucketRatesRow.holds Try.pinned (OpenSpec.ofChange bucketRatesWrong)

/-- 'triagelaw12.BucketFails': WHATEVER THE INPUT: true; the input reads as it did. -/
def bucketFailsSpec : ChangeSpec := { name := "bucketFails", fn := fun _ => fun
  | [d1, d2, d3] => { results := [.lit (.bool true)], args := [d1, d2, d3] }
  | _ => none }
def bucketFailsRow : OpenClaim := { program := "ytfjgngdomjjpgaa", sum := "b135197b6bc90c189333d76123bb2fde1902bc815bbce79308a1f04f83d62d19", func := "triage/triagelaw12.BucketFails", spec := "bucketFails", named := ["math/bits.divideError", "math/bits.overflowError"], apart := false }
def BucketFailsSaid : Prop := bucketFailsRow.holds Try.pinned (OpenSpec.ofChange bucketFailsSpec)

/-- ITS FALSE NEIGHBOUR: 'it returns false'. Refute it at one input. -/
def bucketFailsWrong : ChangeSpec := { name := "bucketFails", fn := fun _ => fun
  | [d1, d2, d3] => { results := [.lit (.bool false)], args := [d1, d2, d3] }
  | _ => none }
def BucketFailsWrongFalsely : Prop := bucketFailsRow.holds Try.pinned (OpenSpec.ofChange bucketFailsWrong)

/-- 'triagelaw12.BucketAdds': WHATEVER THE INPUT: true; the input reads as it did. -/
def bucketAddsSpec : ChangeSpec := { name := "bucketAdds", fn := fun _ => fun
  | [d1, d2, d3] => { results := [.lit (.bool true)], args := [d1, d2, d3] }
  | _ => none }
def bucketAddsRow : OpenClaim := { program := "ytfjgngdomjjpgaa", sum := "b135197b6bc90c189333d76123bb2fde1902bc815bbce79308a1f04f83d62d19", func := "triage/triagelaw12.BucketAdds", spec := "bucketAdds", named := ["math/bits.divideError", "math/bits.overflowError"], apart := false }
def BucketAddsSaid : Prop := bucketAddsRow.holds Try.pinned (OpenSpec.ofChange bucketAddsSpec)

/-- ITS FALSE NEIGHBOUR: 'it returns false'. Refute it at one input. -/
def bucketAddsWrong : ChangeSpec := { name := "bucketAdds", fn := fun _ => fun
  | [d1, d2, d3] => { results := [.lit (.bool false)], args := [d1, d2, d3] }
  | _ => none }
def BucketAddsWrongFalsely : Prop := bucketAddsRow.holds Try.pinned (OpenSpec.ofChange bucketAddsWrong)

/-- 'triagelaw20.SlowForms': WHATEVER THE INPUT: true; the input reads as it did. -/
def slowFormsSpec : ChangeSpec := { name := "slowForms", fn := fun _ => fun
  | [d1, d2, d3, d4] => { results := [.lit (.bool true)], args := [d1, d2, d3, d4] }
  | _ => none }
def slowFormsRow : OpenClaim := { program := "ytfjgngdomjjpgaa", sum := "b135197b6bc90c189333d76123bb2fde1902bc815bbce79308a1f04f83d62d19", func := "triage/triagelaw20.SlowForms", spec := "slowForms", named := ["math/bits.divideError", "math/bits.overflowError"], apart := false }
def SlowFormsSaid : Prop := slowFormsRow.holds Try.pinned (OpenSpec.ofChange slowFormsSpec)

/-- ITS FALSE NEIGHBOUR: 'it returns false'. Refute it at one input. -/
def slowFormsWrong : ChangeSpec := { name := "slowForms", fn := fun _ => fun
  | [d1, d2, d3, d4] => { results := [.lit (.bool false)], args := [d1, d2, d3, d4] }
  | _ => none }
def SlowFormsWrongFalsely : Prop := slowFormsRow.holds Try.pinned (OpenSpec.ofChange slowFormsWrong)

/-- 'triagelaw20.SlowRises': WHATEVER THE INPUT: true; the input reads as it did. -/
def slowRisesSpec : ChangeSpec := { name := "slowRises", fn := fun _ => fun
  | [d1, d2, d3, d4, d5] => { results := [.lit (.bool true)], args := [d1, d2, d3, d4, d5] }
  | _ => none }
def slowRisesRow : OpenClaim := { program := "ytfjgngdomjjpgaa", sum := "b135197b6bc90c189333d76123bb2fde1902bc815bbce79308a1f04f83d62d19", func := "triage/triagelaw20.SlowRises", spec := "slowRises", named := ["math/bits.divideError", "math/bits.overflowError"], apart := false }
def SlowRisesSaid : Prop := slowRisesRow.holds Try.pinned (OpenSpec.ofChange slowRisesSpec)

/-- ITS FALSE NEIGHBOUR: 'it returns false'. Refute it at one input. -/
def slowRisesWrong : ChangeSpec := { name := "slowRises", fn := fun _ => fun
  | [d1, d2, d3, d4, d5] => { results := [.lit (.bool false)], args := [d1, d2, d3, d4, d5] }
  | _ => none }
def SlowRisesWrongFalsely : Prop := slowRisesRow.holds Try.pinned (OpenSpec.ofChange slowRisesWrong)

/-- 'triagelaw20.SlowOff': WHATEVER THE INPUT: true; the input reads as it did. -/
def slowOffSpec : ChangeSpec := { name := "slowOff", fn := fun _ => fun
  | [d1, d2, d3, d4] => { results := [.lit (.bool true)], args := [d1, d2, d3, d4] }
  | _ => none }
def slowOffRow : OpenClaim := { program := "ytfjgngdomjjpgaa", sum := "b135197b6bc90c189333d76123bb2fde1902bc815bbce79308a1f04f83d62d19", func := "triage/triagelaw20.SlowOff", spec := "slowOff", named := ["math/bits.divideError", "math/bits.overflowError"], apart := false }
def SlowOffSaid : Prop := slowOffRow.holds Try.pinned (OpenSpec.ofChange slowOffSpec)

/-- ITS FALSE NEIGHBOUR: 'it returns false'. Refute it at one input. -/
def slowOffWrong : ChangeSpec := { name := "slowOff", fn := fun _ => fun
  | [d1, d2, d3, d4] => { results := [.lit (.bool false)], args := [d1, d2, d3, d4] }
  | _ => none }
def SlowOffWrongFalsely : Prop := slowOffRow.holds Try.pinned (OpenSpec.ofChange slowOffWrong)

/-- 'triagelaw1.RatioForms': WHATEVER THE INPUT: true; the input reads as it did. -/
def ratioFormsSpec : ChangeSpec := { name := "ratioForms", fn := fun _ => fun
  | [d1, d2, d3, d4, d5] => { results := [.lit (.bool true)], args := [d1, d2, d3, d4, d5] }
  | _ => none }
def ratioFormsRow : OpenClaim := { program := "ytfjgngdomjjpgaa", sum := "b135197b6bc90c189333d76123bb2fde1902bc815bbce79308a1f04f83d62d19", func := "triage/triagelaw1.RatioForms", spec := "ratioForms", named := ["math/bits.divideError", "math/bits.overflowError"], apart := false }
def RatioFormsSaid : Prop := ratioFormsRow.holds Try.pinned (OpenSpec.ofChange ratioFormsSpec)

/-- ITS FALSE NEIGHBOUR: 'it returns false'. Refute it at one input. -/
def ratioFormsWrong : ChangeSpec := { name := "ratioForms", fn := fun _ => fun
  | [d1, d2, d3, d4, d5] => { results := [.lit (.bool false)], args := [d1, d2, d3, d4, d5] }
  | _ => none }
def RatioFormsWrongFalsely : Prop := ratioFormsRow.holds Try.pinned (OpenSpec.ofChange ratioFormsWrong)

/-- 'triagelaw1.RatioSpreads': WHATEVER THE INPUT: true; the input reads as it did. -/
def ratioSpreadsSpec : ChangeSpec := { name := "ratioSpreads", fn := fun _ => fun
  | [d1, d2] => { results := [.lit (.bool true)], args := [d1, d2] }
  | _ => none }
def ratioSpreadsRow : OpenClaim := { program := "ytfjgngdomjjpgaa", sum := "b135197b6bc90c189333d76123bb2fde1902bc815bbce79308a1f04f83d62d19", func := "triage/triagelaw1.RatioSpreads", spec := "ratioSpreads", named := ["math/bits.divideError", "math/bits.overflowError"], apart := false }
def RatioSpreadsSaid : Prop := ratioSpreadsRow.holds Try.pinned (OpenSpec.ofChange ratioSpreadsSpec)

/-- ITS FALSE NEIGHBOUR: 'it returns false'. Refute it at one input. -/
def ratioSpreadsWrong : ChangeSpec := { name := "ratioSpreads", fn := fun _ => fun
  | [d1, d2] => { results := [.lit (.bool false)], args := [d1, d2] }
  | _ => none }
def RatioSpreadsWrongFalsely : Prop := ratioSpreadsRow.holds Try.pinned (OpenSpec.ofChange ratioSpreadsWrong)

/-- 'triagelaw1.RatioParts': WHATEVER THE INPUT: true; the input reads as it did. -/
def ratioPartsSpec : ChangeSpec := { name := "ratioParts", fn := fun _ => fun
  | [d1, d2, d3] => { results := [.lit (.bool true)], args := [d1, d2, d3] }
  | _ => none }
def ratioPartsRow : OpenClaim := { program := "ytfjgngdomjjpgaa", sum := "b135197b6bc90c189333d76123bb2fde1902bc815bbce79308a1f04f83d62d19", func := "triage/triagelaw1.RatioParts", spec := "ratioParts", named := ["math/bits.divideError", "math/bits.overflowError"], apart := false }
def RatioPartsSaid : Prop := ratioPartsRow.holds Try.pinned (OpenSpec.ofChange ratioPartsSpec)

/-- ITS FALSE NEIGHBOUR: 'it returns false'. Refute it at one input. -/
def ratioPartsWrong : ChangeSpec := { name := "ratioParts", fn := fun _ => fun
  | [d1, d2, d3] => { results := [.lit (.bool false)], args := [d1, d2, d3] }
  | _ => none }
def RatioPartsWrongFalsely : Prop := ratioPartsRow.holds Try.pinned (OpenSpec.ofChange ratioPartsWrong)

/-- 'triagelaw1.RatioCompares': WHATEVER THE INPUT: true; the input reads as it did. -/
def ratioComparesSpec : ChangeSpec := { name := "ratioCompares", fn := fun _ => fun
  | [d1, d2, d3, d4, d5, d6] => { results := [.lit (.bool true)], args := [d1, d2, d3, d4, d5, d6] }
  | _ => none }
def ratioComparesRow : OpenClaim := { program := "ytfjgngdomjjpgaa", sum := "b135197b6bc90c189333d76123bb2fde1902bc815bbce79308a1f04f83d62d19", func := "triage/triagelaw1.RatioCompares", spec := "ratioCompares", named := ["math/bits.divideError", "math/bits.overflowError"], apart := false }
def RatioComparesSaid : Prop := ratioComparesRow.holds Try.pinned (OpenSpec.ofChange ratioComparesSpec)

/-- ITS FALSE NEIGHBOUR: 'it returns false'. Refute it at one input. -/
def ratioComparesWrong : ChangeSpec := { name := "ratioCompares", fn := fun _ => fun
  | [d1, d2, d3, d4, d5, d6] => { results := [.lit (.bool false)], args := [d1, d2, d3, d4, d5, d6] }
  | _ => none }
def RatioComparesWrongFalsely : Prop := ratioComparesRow.holds Try.pinned (OpenSpec.ofChange ratioComparesWrong)

/-- 'triagelaw1.RatioDraws': WHATEVER THE INPUT: true; the input reads as it did. -/
def ratioDrawsSpec : ChangeSpec := { name := "ratioDraws", fn := fun _ => fun
  | [d1, d2] => { results := [.lit (.bool true)], args := [d1, d2] }
  | _ => none }
def ratioDrawsRow : OpenClaim := { program := "ytfjgngdomjjpgaa", sum := "b135197b6bc90c189333d76123bb2fde1902bc815bbce79308a1f04f83d62d19", func := "triage/triagelaw1.RatioDraws", spec := "ratioDraws", named := ["math/bits.divideError", "math/bits.overflowError"], apart := false }
def RatioDrawsSaid : Prop := ratioDrawsRow.holds Try.pinned (OpenSpec.ofChange ratioDrawsSpec)

/-- ITS FALSE NEIGHBOUR: 'it returns false'. Refute it at one input. -/
def ratioDrawsWrong : ChangeSpec := { name := "ratioDraws", fn := fun _ => fun
  | [d1, d2] => { results := [.lit (.bool false)], args := [d1, d2] }
  | _ => none }
def RatioDrawsWrongFalsely : Prop := ratioDrawsRow.holds Try.pinned (OpenSpec.ofChange ratioDrawsWrong)

/-- 'triagelaw1.RatioSums': WHATEVER THE INPUT: true; the input reads as it did. -/
def ratioSumsSpec : ChangeSpec := { name := "ratioSums", fn := fun _ => fun
  | [d1, d2] => { results := [.lit (.bool true)], args := [d1, d2] }
  | _ => none }
def ratioSumsRow : OpenClaim := { program := "ytfjgngdomjjpgaa", sum := "b135197b6bc90c189333d76123bb2fde1902bc815bbce79308a1f04f83d62d19", func := "triage/triagelaw1.RatioSums", spec := "ratioSums", named := ["math/bits.divideError", "math/bits.overflowError"], apart := false }
def RatioSumsSaid : Prop := ratioSumsRow.holds Try.pinned (OpenSpec.ofChange ratioSumsSpec)

/-- ITS FALSE NEIGHBOUR: 'it returns false'. Refute it at one input. -/
def ratioSumsWrong : ChangeSpec := { name := "ratioSums", fn := fun _ => fun
  | [d1, d2] => { results := [.lit (.bool false)], args := [d1, d2] }
  | _ => none }
def RatioSumsWrongFalsely : Prop := ratioSumsRow.holds Try.pinned (OpenSpec.ofChange ratioSumsWrong)

/-- 'triagelaw1.RatioBig': WHATEVER THE INPUT: true; the input reads as it did. -/
def ratioBigSpec : ChangeSpec := { name := "ratioBig", fn := fun _ => fun
  | [d1, d2] => { results := [.lit (.bool true)], args := [d1, d2] }
  | _ => none }
def ratioBigRow : OpenClaim := { program := "ytfjgngdomjjpgaa", sum := "b135197b6bc90c189333d76123bb2fde1902bc815bbce79308a1f04f83d62d19", func := "triage/triagelaw1.RatioBig", spec := "ratioBig", named := ["math/bits.divideError", "math/bits.overflowError"], apart := false }
def RatioBigSaid : Prop := ratioBigRow.holds Try.pinned (OpenSpec.ofChange ratioBigSpec)

/-- ITS FALSE NEIGHBOUR: 'it returns false'. Refute it at one input. -/
def ratioBigWrong : ChangeSpec := { name := "ratioBig", fn := fun _ => fun
  | [d1, d2] => { results := [.lit (.bool false)], args := [d1, d2] }
  | _ => none }
def RatioBigWrongFalsely : Prop := ratioBigRow.holds Try.pinned (OpenSpec.ofChange ratioBigWrong)

/- THE SECOND FORM. 'bulk': how many values and letters a reading holds, each counted each time it is reached (what is shared counts as often as it is met; a slice's spare places count too). A statement '..UptoSaid' is the law's where the arguments, and the package variables that the reading takes, are together of bulk at most 1048576: NARROWER than '..Said'. Prove '..Said' where nothing that the law and all that it calls make is longer than what came in: it says more and counts as full. Else prove '..UptoSaid'. A law counts once. -/
mutual
def uptoBulk {H : Type} : DataW H → Nat
  | .lit (.string bytes) => bytes.length + 1
  | .lit _ => 1
  | .nil => 1
  | .ptr d => uptoBulk d + 1
  | .slice elems spare => uptoBulkAll elems + uptoBulkAll spare + 1
  | .agg parts => uptoBulkAll parts + 1
  | .iface _ d => uptoBulk d + 1
  | .map entries => uptoBulkEntries entries + 1
  | .held _ => 1
def uptoBulkAll {H : Type} : List (DataW H) → Nat
  | [] => 0
  | d :: r => uptoBulk d + uptoBulkAll r
def uptoBulkEntries {H : Type} : List (Lit × DataW H) → Nat
  | [] => 0
  | x :: r => uptoBulkEntry x + uptoBulkEntries r
def uptoBulkEntry {H : Type} : Lit × DataW H → Nat
  | (.string bytes, d) => bytes.length + uptoBulk d + 1
  | (_, d) => uptoBulk d + 1
 end
def uptoSmall : (H : Type) → List (DataW H) → Bool := fun _ ds => decide (uptoBulkAll ds ≤ 1048576)
def OpenSpec.upto (s : _root_.Go.ChangeSpec) : _root_.Go.OpenSpec := { _root_.Go.OpenSpec.ofChange s with cond := some uptoSmall }

/-- 'triagelaw15.DrainEnds', WHERE WHAT IT READS IS OF BULK AT MOST 1048576: true; the input reads as it did. -/
def drainEndsUptoRow : OpenClaim := { program := "ytfjgngdomjjpgaa", sum := "b135197b6bc90c189333d76123bb2fde1902bc815bbce79308a1f04f83d62d19", func := "triage/triagelaw15.DrainEnds", spec := "drainEnds", apart := false, narrowed := true }
def DrainEndsUptoSaid : Prop := drainEndsUptoRow.holds Try.pinned (OpenSpec.upto drainEndsSpec)

/-- 'triagelaw15.DrainLeft', WHERE WHAT IT READS IS OF BULK AT MOST 1048576: true; the input reads as it did. -/
def drainLeftUptoRow : OpenClaim := { program := "ytfjgngdomjjpgaa", sum := "b135197b6bc90c189333d76123bb2fde1902bc815bbce79308a1f04f83d62d19", func := "triage/triagelaw15.DrainLeft", spec := "drainLeft", apart := false, narrowed := true }
def DrainLeftUptoSaid : Prop := drainLeftUptoRow.holds Try.pinned (OpenSpec.upto drainLeftSpec)

/-- 'triagelaw22.LeastNever', WHERE WHAT IT READS IS OF BULK AT MOST 1048576: true; the input reads as it did. -/
def leastNeverUptoRow : OpenClaim := { program := "ytfjgngdomjjpgaa", sum := "b135197b6bc90c189333d76123bb2fde1902bc815bbce79308a1f04f83d62d19", func := "triage/triagelaw22.LeastNever", spec := "leastNever", apart := false, narrowed := true }
def LeastNeverUptoSaid : Prop := leastNeverUptoRow.holds Try.pinned (OpenSpec.upto leastNeverSpec)

/-- 'triagelaw22.LeastOrders', WHERE WHAT IT READS IS OF BULK AT MOST 1048576: true; the input reads as it did. -/
def leastOrdersUptoRow : OpenClaim := { program := "ytfjgngdomjjpgaa", sum := "b135197b6bc90c189333d76123bb2fde1902bc815bbce79308a1f04f83d62d19", func := "triage/triagelaw22.LeastOrders", spec := "leastOrders", apart := false, narrowed := true }
def LeastOrdersUptoSaid : Prop := leastOrdersUptoRow.holds Try.pinned (OpenSpec.upto leastOrdersSpec)

/-- 'triagelaw22.LeastTwo', WHERE WHAT IT READS IS OF BULK AT MOST 1048576: true; the input reads as it did. -/
def leastTwoUptoRow : OpenClaim := { program := "ytfjgngdomjjpgaa", sum := "b135197b6bc90c189333d76123bb2fde1902bc815bbce79308a1f04f83d62d19", func := "triage/triagelaw22.LeastTwo", spec := "leastTwo", apart := false, narrowed := true }
def LeastTwoUptoSaid : Prop := leastTwoUptoRow.holds Try.pinned (OpenSpec.upto leastTwoSpec)

/-- 'triagelaw22.LeastAlone', WHERE WHAT IT READS IS OF BULK AT MOST 1048576: true; the input reads as it did. -/
def leastAloneUptoRow : OpenClaim := { program := "ytfjgngdomjjpgaa", sum := "b135197b6bc90c189333d76123bb2fde1902bc815bbce79308a1f04f83d62d19", func := "triage/triagelaw22.LeastAlone", spec := "leastAlone", apart := false, narrowed := true }
def LeastAloneUptoSaid : Prop := leastAloneUptoRow.holds Try.pinned (OpenSpec.upto leastAloneSpec)

/-- 'triagelaw12.BucketForms', WHERE WHAT IT READS IS OF BULK AT MOST 1048576: true; the input reads as it did. -/
def bucketFormsUptoRow : OpenClaim := { program := "ytfjgngdomjjpgaa", sum := "b135197b6bc90c189333d76123bb2fde1902bc815bbce79308a1f04f83d62d19", func := "triage/triagelaw12.BucketForms", spec := "bucketForms", named := ["math/bits.divideError", "math/bits.overflowError"], apart := false, narrowed := true }
def BucketFormsUptoSaid : Prop := bucketFormsUptoRow.holds Try.pinned (OpenSpec.upto bucketFormsSpec)

/-- 'triagelaw12.BucketRates', WHERE WHAT IT READS IS OF BULK AT MOST 1048576: true; the input reads as it did. -/
def bucketRatesUptoRow : OpenClaim := { program := "ytfjgngdomjjpgaa", sum := "b135197b6bc90c189333d76123bb2fde1902bc815bbce79308a1f04f83d62d19", func := "triage/triagelaw12.BucketRates", spec := "bucketRates", named := ["math/bits.divideError", "math/bits.overflowError"], apart := false, narrowed := true }
def BucketRatesUptoSaid : Prop := bucketRatesUptoRow.holds Try.pinned (OpenSpec.upto bucketRatesSpec)

/-- 'triagelaw12.BucketFails', WHERE WHAT IT READS IS OF BULK AT MOST 1048576: true; the input reads as it did. -/
def bucketFailsUptoRow : OpenClaim := { program := "ytfjgngdomjjpgaa", sum := "b135197b6bc90c189333d76123bb2fde1902bc815bbce79308a1f04f83d62d19", func := "triage/triagelaw12.BucketFails", spec := "bucketFails", named := ["math/bits.divideError", "math/bits.overflowError"], apart := false, narrowed := true }
def BucketFailsUptoSaid : Prop := bucketFailsUptoRow.holds Try.pinned (OpenSpec.upto bucketFailsSpec)

/-- 'triagelaw12.BucketAdds', WHERE WHAT IT READS IS OF BULK AT MOST 1048576: true; the input reads as it did. -/
def bucketAddsUptoRow : OpenClaim := { program := "ytfjgngdomjjpgaa", sum := "b135197b6bc90c189333d76123bb2fde1902bc815bbce79308a1f04f83d62d19", func := "triage/triagelaw12.BucketAdds", spec := "bucketAdds", named := ["math/bits.divideError", "math/bits.overflowError"], apart := false, narrowed := true }
def BucketAddsUptoSaid : Prop := bucketAddsUptoRow.holds Try.pinned (OpenSpec.upto bucketAddsSpec)

/-- 'triagelaw20.SlowForms', WHERE WHAT IT READS IS OF BULK AT MOST 1048576: true; the input reads as it did. -/
def slowFormsUptoRow : OpenClaim := { program := "ytfjgngdomjjpgaa", sum := "b135197b6bc90c189333d76123bb2fde1902bc815bbce79308a1f04f83d62d19", func := "triage/triagelaw20.SlowForms", spec := "slowForms", named := ["math/bits.divideError", "math/bits.overflowError"], apart := false, narrowed := true }
def SlowFormsUptoSaid : Prop := slowFormsUptoRow.holds Try.pinned (OpenSpec.upto slowFormsSpec)

/-- 'triagelaw20.SlowRises', WHERE WHAT IT READS IS OF BULK AT MOST 1048576: true; the input reads as it did. -/
def slowRisesUptoRow : OpenClaim := { program := "ytfjgngdomjjpgaa", sum := "b135197b6bc90c189333d76123bb2fde1902bc815bbce79308a1f04f83d62d19", func := "triage/triagelaw20.SlowRises", spec := "slowRises", named := ["math/bits.divideError", "math/bits.overflowError"], apart := false, narrowed := true }
def SlowRisesUptoSaid : Prop := slowRisesUptoRow.holds Try.pinned (OpenSpec.upto slowRisesSpec)

/-- 'triagelaw20.SlowOff', WHERE WHAT IT READS IS OF BULK AT MOST 1048576: true; the input reads as it did. -/
def slowOffUptoRow : OpenClaim := { program := "ytfjgngdomjjpgaa", sum := "b135197b6bc90c189333d76123bb2fde1902bc815bbce79308a1f04f83d62d19", func := "triage/triagelaw20.SlowOff", spec := "slowOff", named := ["math/bits.divideError", "math/bits.overflowError"], apart := false, narrowed := true }
def SlowOffUptoSaid : Prop := slowOffUptoRow.holds Try.pinned (OpenSpec.upto slowOffSpec)

/-- 'triagelaw1.RatioForms', WHERE WHAT IT READS IS OF BULK AT MOST 1048576: true; the input reads as it did. -/
def ratioFormsUptoRow : OpenClaim := { program := "ytfjgngdomjjpgaa", sum := "b135197b6bc90c189333d76123bb2fde1902bc815bbce79308a1f04f83d62d19", func := "triage/triagelaw1.RatioForms", spec := "ratioForms", named := ["math/bits.divideError", "math/bits.overflowError"], apart := false, narrowed := true }
def RatioFormsUptoSaid : Prop := ratioFormsUptoRow.holds Try.pinned (OpenSpec.upto ratioFormsSpec)

/-- 'triagelaw1.RatioSpreads', WHERE WHAT IT READS IS OF BULK AT MOST 1048576: true; the input reads as it did. -/
def ratioSpreadsUptoRow : OpenClaim := { program := "ytfjgngdomjjpgaa", sum := "b135197b6bc90c189333d76123bb2fde1902bc815bbce79308a1f04f83d62d19", func := "triage/triagelaw1.RatioSpreads", spec := "ratioSpreads", named := ["math/bits.divideError", "math/bits.overflowError"], apart := false, narrowed := true }
def RatioSpreadsUptoSaid : Prop := ratioSpreadsUptoRow.holds Try.pinned (OpenSpec.upto ratioSpreadsSpec)

/-- 'triagelaw1.RatioParts', WHERE WHAT IT READS IS OF BULK AT MOST 1048576: true; the input reads as it did. -/
def ratioPartsUptoRow : OpenClaim := { program := "ytfjgngdomjjpgaa", sum := "b135197b6bc90c189333d76123bb2fde1902bc815bbce79308a1f04f83d62d19", func := "triage/triagelaw1.RatioParts", spec := "ratioParts", named := ["math/bits.divideError", "math/bits.overflowError"], apart := false, narrowed := true }
def RatioPartsUptoSaid : Prop := ratioPartsUptoRow.holds Try.pinned (OpenSpec.upto ratioPartsSpec)

/-- 'triagelaw1.RatioCompares', WHERE WHAT IT READS IS OF BULK AT MOST 1048576: true; the input reads as it did. -/
def ratioComparesUptoRow : OpenClaim := { program := "ytfjgngdomjjpgaa", sum := "b135197b6bc90c189333d76123bb2fde1902bc815bbce79308a1f04f83d62d19", func := "triage/triagelaw1.RatioCompares", spec := "ratioCompares", named := ["math/bits.divideError", "math/bits.overflowError"], apart := false, narrowed := true }
def RatioComparesUptoSaid : Prop := ratioComparesUptoRow.holds Try.pinned (OpenSpec.upto ratioComparesSpec)

/-- 'triagelaw1.RatioDraws', WHERE WHAT IT READS IS OF BULK AT MOST 1048576: true; the input reads as it did. -/
def ratioDrawsUptoRow : OpenClaim := { program := "ytfjgngdomjjpgaa", sum := "b135197b6bc90c189333d76123bb2fde1902bc815bbce79308a1f04f83d62d19", func := "triage/triagelaw1.RatioDraws", spec := "ratioDraws", named := ["math/bits.divideError", "math/bits.overflowError"], apart := false, narrowed := true }
def RatioDrawsUptoSaid : Prop := ratioDrawsUptoRow.holds Try.pinned (OpenSpec.upto ratioDrawsSpec)

/-- 'triagelaw1.RatioSums', WHERE WHAT IT READS IS OF BULK AT MOST 1048576: true; the input reads as it did. -/
def ratioSumsUptoRow : OpenClaim := { program := "ytfjgngdomjjpgaa", sum := "b135197b6bc90c189333d76123bb2fde1902bc815bbce79308a1f04f83d62d19", func := "triage/triagelaw1.RatioSums", spec := "ratioSums", named := ["math/bits.divideError", "math/bits.overflowError"], apart := false, narrowed := true }
def RatioSumsUptoSaid : Prop := ratioSumsUptoRow.holds Try.pinned (OpenSpec.upto ratioSumsSpec)

/-- 'triagelaw1.RatioBig', WHERE WHAT IT READS IS OF BULK AT MOST 1048576: true; the input reads as it did. -/
def ratioBigUptoRow : OpenClaim := { program := "ytfjgngdomjjpgaa", sum := "b135197b6bc90c189333d76123bb2fde1902bc815bbce79308a1f04f83d62d19", func := "triage/triagelaw1.RatioBig", spec := "ratioBig", named := ["math/bits.divideError", "math/bits.overflowError"], apart := false, narrowed := true }
def RatioBigUptoSaid : Prop := ratioBigUptoRow.holds Try.pinned (OpenSpec.upto ratioBigSpec)

end Rows
end Go.Proofs.Ytfjgngdomjjpgaa
