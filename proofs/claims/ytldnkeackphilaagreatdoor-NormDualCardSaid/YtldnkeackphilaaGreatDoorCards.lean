/-
  DERIVED. GIVEN WITH THE SEED: THE CARDS: each row of YtldnkeackphilaaGreatDoorRows.lean that lists a variable, with what it lists TIED to the program's text (the seventh form; the later family's looks); each row that meets fmt, with fmt's text TOLD by the authors' own Lean function (tested against real Go, not proved from fmt's source: count such statements apart). THE CARD IS WHAT COUNTS. Prove the row's statement (the work); the ties are given (YtldnkeackphilaaGreatDoorTie.lean); close each card by the builder's one call (the guide's Derived/Test/ToyasCard.lean, 'card_holds'). Laid BY PROGRAM, IN A SANDBOX (cutbox-door.mjs). By AI agents, Wed Nov 11 2026. No macro, syntax, notation, axiom, sorry.
-/
import Derived.Test.YtldnkeackphilaaGreatDoorRows
import GoSem.ClaimSeven
namespace Go.Proofs.YtldnkeackphilaaGreatDoor
namespace Rows

/-- THE TIED CARD OF 'berthlaw16.NormValid'. -/
def normValidCard : Claim7 := { stood := { row := normValidRow, standIns := [], harness := (true, "3a9c8ba0db31394d13176adf808722b56f8a218ac4adacccb409ce61df157404"), looks := true }, kinds := [], alts := [], laidByText := true, laidKinds := [.data, .handle, .pinned], laidTests := true, laidLooks := .later }
def NormValidCardSaid : Prop := Claim7.holds Tryz.pinned (.plain (OpenSpec.ofChange normValidSpec)) normValidCard

/-- THE TIED CARD OF 'berthlaw16.NormPlans'. -/
def normPlansCard : Claim7 := { stood := { row := normPlansRow, standIns := [], harness := (true, "3a9c8ba0db31394d13176adf808722b56f8a218ac4adacccb409ce61df157404"), looks := true }, kinds := [], alts := [], laidByText := true, laidKinds := [.data, .handle, .pinned], laidTests := true, laidLooks := .later }
def NormPlansCardSaid : Prop := Claim7.holds Tryz.pinned (.plain (OpenSpec.ofChange normPlansSpec)) normPlansCard

/-- THE TIED CARD OF 'berthlaw16.NormRefused'. -/
def normRefusedCard : Claim7 := { stood := { row := normRefusedRow, standIns := [], harness := (true, "3a9c8ba0db31394d13176adf808722b56f8a218ac4adacccb409ce61df157404"), looks := true }, kinds := [], alts := [], laidByText := true, laidKinds := [.data, .handle, .pinned], laidTests := true, laidLooks := .later }
def NormRefusedCardSaid : Prop := Claim7.holds Tryz.pinned (.plain (OpenSpec.ofChange normRefusedSpec)) normRefusedCard

/-- THE TIED CARD OF 'berthlaw16.NormSmall'. -/
def normSmallCard : Claim7 := { stood := { row := normSmallRow, standIns := [], harness := (true, "3a9c8ba0db31394d13176adf808722b56f8a218ac4adacccb409ce61df157404"), looks := true }, kinds := [], alts := [], laidByText := true, laidKinds := [.data, .handle, .pinned], laidTests := true, laidLooks := .later }
def NormSmallCardSaid : Prop := Claim7.holds Tryz.pinned (.plain (OpenSpec.ofChange normSmallSpec)) normSmallCard

/-- THE TIED CARD OF 'berthlaw16.NormDual'. -/
def normDualCard : Claim7 := { stood := { row := normDualRow, standIns := [], harness := (true, "3a9c8ba0db31394d13176adf808722b56f8a218ac4adacccb409ce61df157404"), looks := true }, kinds := [], alts := [], laidByText := true, laidKinds := [.data, .handle, .pinned], laidTests := true, laidLooks := .later }
def NormDualCardSaid : Prop := Claim7.holds Tryz.pinned (.plain (OpenSpec.ofChange normDualSpec)) normDualCard

/-- THE TIED CARD OF 'berthlaw16.NormOwn'. -/
def normOwnCard : Claim7 := { stood := { row := normOwnRow, standIns := [], harness := (true, "3a9c8ba0db31394d13176adf808722b56f8a218ac4adacccb409ce61df157404"), looks := true }, kinds := [], alts := [], laidByText := true, laidKinds := [.data, .handle, .pinned], laidTests := true, laidLooks := .later }
def NormOwnCardSaid : Prop := Claim7.holds Tryz.pinned (.plain (OpenSpec.ofChange normOwnSpec)) normOwnCard

/-- THE TIED CARD OF 'berthlaw16.NormSelects'. -/
def normSelectsCard : Claim7 := { stood := { row := normSelectsRow, standIns := [], harness := (true, "3a9c8ba0db31394d13176adf808722b56f8a218ac4adacccb409ce61df157404"), looks := true }, kinds := [], alts := [], laidByText := true, laidKinds := [.data, .handle, .pinned], laidTests := true, laidLooks := .later }
def NormSelectsCardSaid : Prop := Claim7.holds Tryz.pinned (.plain (OpenSpec.ofChange normSelectsSpec)) normSelectsCard

/-- THE SECOND FORM's CARD OF 'berthlaw16.NormValid'. -/
def normValidUptoCard : Claim7 := { stood := { row := normValidUptoRow, standIns := [], harness := (true, "3a9c8ba0db31394d13176adf808722b56f8a218ac4adacccb409ce61df157404"), looks := true }, kinds := [], alts := [], laidByText := true, laidKinds := [.data, .handle, .pinned], laidTests := true, laidLooks := .later }
def NormValidUptoCardSaid : Prop := Claim7.holds Tryz.pinned (.plain (OpenSpec.upto normValidSpec)) normValidUptoCard

/-- THE SECOND FORM's CARD OF 'berthlaw16.NormPlans'. -/
def normPlansUptoCard : Claim7 := { stood := { row := normPlansUptoRow, standIns := [], harness := (true, "3a9c8ba0db31394d13176adf808722b56f8a218ac4adacccb409ce61df157404"), looks := true }, kinds := [], alts := [], laidByText := true, laidKinds := [.data, .handle, .pinned], laidTests := true, laidLooks := .later }
def NormPlansUptoCardSaid : Prop := Claim7.holds Tryz.pinned (.plain (OpenSpec.upto normPlansSpec)) normPlansUptoCard

/-- THE SECOND FORM's CARD OF 'berthlaw16.NormRefused'. -/
def normRefusedUptoCard : Claim7 := { stood := { row := normRefusedUptoRow, standIns := [], harness := (true, "3a9c8ba0db31394d13176adf808722b56f8a218ac4adacccb409ce61df157404"), looks := true }, kinds := [], alts := [], laidByText := true, laidKinds := [.data, .handle, .pinned], laidTests := true, laidLooks := .later }
def NormRefusedUptoCardSaid : Prop := Claim7.holds Tryz.pinned (.plain (OpenSpec.upto normRefusedSpec)) normRefusedUptoCard

/-- THE SECOND FORM's CARD OF 'berthlaw16.NormSmall'. -/
def normSmallUptoCard : Claim7 := { stood := { row := normSmallUptoRow, standIns := [], harness := (true, "3a9c8ba0db31394d13176adf808722b56f8a218ac4adacccb409ce61df157404"), looks := true }, kinds := [], alts := [], laidByText := true, laidKinds := [.data, .handle, .pinned], laidTests := true, laidLooks := .later }
def NormSmallUptoCardSaid : Prop := Claim7.holds Tryz.pinned (.plain (OpenSpec.upto normSmallSpec)) normSmallUptoCard

/-- THE SECOND FORM's CARD OF 'berthlaw16.NormDual'. -/
def normDualUptoCard : Claim7 := { stood := { row := normDualUptoRow, standIns := [], harness := (true, "3a9c8ba0db31394d13176adf808722b56f8a218ac4adacccb409ce61df157404"), looks := true }, kinds := [], alts := [], laidByText := true, laidKinds := [.data, .handle, .pinned], laidTests := true, laidLooks := .later }
def NormDualUptoCardSaid : Prop := Claim7.holds Tryz.pinned (.plain (OpenSpec.upto normDualSpec)) normDualUptoCard

/-- THE SECOND FORM's CARD OF 'berthlaw16.NormOwn'. -/
def normOwnUptoCard : Claim7 := { stood := { row := normOwnUptoRow, standIns := [], harness := (true, "3a9c8ba0db31394d13176adf808722b56f8a218ac4adacccb409ce61df157404"), looks := true }, kinds := [], alts := [], laidByText := true, laidKinds := [.data, .handle, .pinned], laidTests := true, laidLooks := .later }
def NormOwnUptoCardSaid : Prop := Claim7.holds Tryz.pinned (.plain (OpenSpec.upto normOwnSpec)) normOwnUptoCard

/-- THE SECOND FORM's CARD OF 'berthlaw16.NormSelects'. -/
def normSelectsUptoCard : Claim7 := { stood := { row := normSelectsUptoRow, standIns := [], harness := (true, "3a9c8ba0db31394d13176adf808722b56f8a218ac4adacccb409ce61df157404"), looks := true }, kinds := [], alts := [], laidByText := true, laidKinds := [.data, .handle, .pinned], laidTests := true, laidLooks := .later }
def NormSelectsUptoCardSaid : Prop := Claim7.holds Tryz.pinned (.plain (OpenSpec.upto normSelectsSpec)) normSelectsUptoCard
end Rows
end Go.Proofs.YtldnkeackphilaaGreatDoor
