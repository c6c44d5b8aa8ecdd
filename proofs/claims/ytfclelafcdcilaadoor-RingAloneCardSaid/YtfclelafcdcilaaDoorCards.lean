/-
  DERIVED. GIVEN WITH THE SEED: THE CARDS: each row of YtfclelafcdcilaaDoorRows.lean that lists a variable, with what it lists TIED to the program's text (the seventh form; the later family's looks); each row that meets fmt, with fmt's text TOLD by the authors' own Lean function (tested against real Go, not proved from fmt's source: count such statements apart). THE CARD IS WHAT COUNTS. Prove the row's statement (the work); the ties are given (YtfclelafcdcilaaDoorTie.lean); close each card by the builder's one call (the guide's Derived/Test/ToyasCard.lean, 'card_holds'). Laid BY PROGRAM, IN A SANDBOX (cutbox-door.mjs). By AI agents, Wed Nov 11 2026. No macro, syntax, notation, axiom, sorry.
-/
import Derived.Test.YtfclelafcdcilaaDoorRows
import GoSem.ClaimSeven
namespace Go.Proofs.YtfclelafcdcilaaDoor
namespace Rows

/-- THE TIED CARD OF 'triagelaw23.RingFewer'. -/
def ringFewerCard : Claim7 := { stood := { row := ringFewerRow, standIns := [], harness := (true, "85a7bcaf3b81802dd784af45f7c6e700c15b1e2ff63fbe79f3e95903ae5b87ba"), looks := false }, kinds := [], alts := [], laidByText := true, laidKinds := [.data, .data, .data], laidTests := true, laidLooks := .later }
def RingFewerCardSaid : Prop := Claim7.holds Tryd.pinned (.plain (OpenSpec.ofChange ringFewerSpec)) ringFewerCard

/-- THE TIED CARD OF 'triagelaw23.RingOrder'. -/
def ringOrderCard : Claim7 := { stood := { row := ringOrderRow, standIns := [], harness := (true, "85a7bcaf3b81802dd784af45f7c6e700c15b1e2ff63fbe79f3e95903ae5b87ba"), looks := false }, kinds := [], alts := [], laidByText := true, laidKinds := [.data, .data, .data], laidTests := true, laidLooks := .later }
def RingOrderCardSaid : Prop := Claim7.holds Tryd.pinned (.plain (OpenSpec.ofChange ringOrderSpec)) ringOrderCard

/-- THE TIED CARD OF 'triagelaw23.RingWeights'. -/
def ringWeightsCard : Claim7 := { stood := { row := ringWeightsRow, standIns := [], harness := (true, "85a7bcaf3b81802dd784af45f7c6e700c15b1e2ff63fbe79f3e95903ae5b87ba"), looks := false }, kinds := [], alts := [], laidByText := true, laidKinds := [.data, .data, .data], laidTests := true, laidLooks := .later }
def RingWeightsCardSaid : Prop := Claim7.holds Tryd.pinned (.plain (OpenSpec.ofChange ringWeightsSpec)) ringWeightsCard

/-- THE TIED CARD OF 'triagelaw23.RingAlone'. -/
def ringAloneCard : Claim7 := { stood := { row := ringAloneRow, standIns := [], harness := (true, "85a7bcaf3b81802dd784af45f7c6e700c15b1e2ff63fbe79f3e95903ae5b87ba"), looks := false }, kinds := [], alts := [], laidByText := true, laidKinds := [.data, .data, .data], laidTests := true, laidLooks := .later }
def RingAloneCardSaid : Prop := Claim7.holds Tryd.pinned (.plain (OpenSpec.ofChange ringAloneSpec)) ringAloneCard

/-- THE SECOND FORM's CARD OF 'triagelaw23.RingFewer'. -/
def ringFewerUptoCard : Claim7 := { stood := { row := ringFewerUptoRow, standIns := [], harness := (true, "85a7bcaf3b81802dd784af45f7c6e700c15b1e2ff63fbe79f3e95903ae5b87ba"), looks := false }, kinds := [], alts := [], laidByText := true, laidKinds := [.data, .data, .data], laidTests := true, laidLooks := .later }
def RingFewerUptoCardSaid : Prop := Claim7.holds Tryd.pinned (.plain (OpenSpec.upto ringFewerSpec)) ringFewerUptoCard

/-- THE SECOND FORM's CARD OF 'triagelaw23.RingOrder'. -/
def ringOrderUptoCard : Claim7 := { stood := { row := ringOrderUptoRow, standIns := [], harness := (true, "85a7bcaf3b81802dd784af45f7c6e700c15b1e2ff63fbe79f3e95903ae5b87ba"), looks := false }, kinds := [], alts := [], laidByText := true, laidKinds := [.data, .data, .data], laidTests := true, laidLooks := .later }
def RingOrderUptoCardSaid : Prop := Claim7.holds Tryd.pinned (.plain (OpenSpec.upto ringOrderSpec)) ringOrderUptoCard

/-- THE SECOND FORM's CARD OF 'triagelaw23.RingWeights'. -/
def ringWeightsUptoCard : Claim7 := { stood := { row := ringWeightsUptoRow, standIns := [], harness := (true, "85a7bcaf3b81802dd784af45f7c6e700c15b1e2ff63fbe79f3e95903ae5b87ba"), looks := false }, kinds := [], alts := [], laidByText := true, laidKinds := [.data, .data, .data], laidTests := true, laidLooks := .later }
def RingWeightsUptoCardSaid : Prop := Claim7.holds Tryd.pinned (.plain (OpenSpec.upto ringWeightsSpec)) ringWeightsUptoCard

/-- THE SECOND FORM's CARD OF 'triagelaw23.RingAlone'. -/
def ringAloneUptoCard : Claim7 := { stood := { row := ringAloneUptoRow, standIns := [], harness := (true, "85a7bcaf3b81802dd784af45f7c6e700c15b1e2ff63fbe79f3e95903ae5b87ba"), looks := false }, kinds := [], alts := [], laidByText := true, laidKinds := [.data, .data, .data], laidTests := true, laidLooks := .later }
def RingAloneUptoCardSaid : Prop := Claim7.holds Tryd.pinned (.plain (OpenSpec.upto ringAloneSpec)) ringAloneUptoCard
end Rows
end Go.Proofs.YtfclelafcdcilaaDoor
