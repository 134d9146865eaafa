/-
  DERIVED. GIVEN WITH THE SEED: THE CARDS: each row of YtfegdmhfmhaneaaDoorRows.lean that lists a variable, with what it lists TIED to the program's text (the seventh form; the later family's looks); each row that meets fmt, with fmt's text TOLD by the authors' own Lean function (tested against real Go, not proved from fmt's source: count such statements apart). THE CARD IS WHAT COUNTS. Prove the row's statement (the work); the ties are given (YtfegdmhfmhaneaaDoorTie.lean); close each card by the builder's one call (the guide's Derived/Test/ToyasCard.lean, 'card_holds'). Laid BY PROGRAM, IN A SANDBOX (cutbox-door.mjs). By AI agents, Wed Nov 11 2026. No macro, syntax, notation, axiom, sorry.
-/
import Derived.Test.YtfegdmhfmhaneaaDoorRows
import GoSem.ClaimSeven
namespace Go.Proofs.YtfegdmhfmhaneaaDoor
namespace Rows

/-- THE TIED CARD OF 'porpoiselaw20.MetricsLine'. -/
def metricsLineCard : Claim7 := { stood := { row := metricsLineRow, standIns := [], harness := (true, "3a5446df49d0c9c423d61675cb1de6ae97422960b71f98b5f26eb6d60d87dde6"), looks := false }, kinds := [], alts := [], laidByText := true, laidKinds := [.data, .data, .data], laidTests := true, laidLooks := .later }
def MetricsLineCardSaid : Prop := Claim7.holds Tryd.pinned (.plain (OpenSpec.ofChange metricsLineSpec)) metricsLineCard

/-- THE TIED CARD OF 'porpoiselaw20.MetricsTotal'. -/
def metricsTotalCard : Claim7 := { stood := { row := metricsTotalRow, standIns := [], harness := (true, "3a5446df49d0c9c423d61675cb1de6ae97422960b71f98b5f26eb6d60d87dde6"), looks := false }, kinds := [], alts := [], laidByText := true, laidKinds := [.data, .data, .data], laidTests := true, laidLooks := .later }
def MetricsTotalCardSaid : Prop := Claim7.holds Tryd.pinned (.plain (OpenSpec.ofChange metricsTotalSpec)) metricsTotalCard

/-- THE TIED CARD OF 'porpoiselaw20.MetricsNum'. -/
def metricsNumCard : Claim7 := { stood := { row := metricsNumRow, standIns := [], harness := (true, "3a5446df49d0c9c423d61675cb1de6ae97422960b71f98b5f26eb6d60d87dde6"), looks := false }, kinds := [], alts := [], laidByText := true, laidKinds := [.data, .data, .data], laidTests := true, laidLooks := .later }
def MetricsNumCardSaid : Prop := Claim7.holds Tryd.pinned (.plain (OpenSpec.ofChange metricsNumSpec)) metricsNumCard

/-- THE TIED CARD OF 'porpoiselaw20.MetricsOf'. -/
def metricsOfCard : Claim7 := { stood := { row := metricsOfRow, standIns := [], harness := (true, "3a5446df49d0c9c423d61675cb1de6ae97422960b71f98b5f26eb6d60d87dde6"), looks := false }, kinds := [], alts := [], laidByText := true, laidKinds := [.data, .data, .data], laidTests := true, laidLooks := .later }
def MetricsOfCardSaid : Prop := Claim7.holds Tryd.pinned (.plain (OpenSpec.ofChange metricsOfSpec)) metricsOfCard

/-- THE TIED CARD OF 'porpoiselaw20.MetricsJoins'. -/
def metricsJoinsCard : Claim7 := { stood := { row := metricsJoinsRow, standIns := [], harness := (true, "3a5446df49d0c9c423d61675cb1de6ae97422960b71f98b5f26eb6d60d87dde6"), looks := false }, kinds := [], alts := [], laidByText := true, laidKinds := [.data, .data, .data], laidTests := true, laidLooks := .later }
def MetricsJoinsCardSaid : Prop := Claim7.holds Tryd.pinned (.plain (OpenSpec.ofChange metricsJoinsSpec)) metricsJoinsCard

/-- THE TIED CARD OF 'porpoiselaw20.MetricsFull'. -/
def metricsFullCard : Claim7 := { stood := { row := metricsFullRow, standIns := [], harness := (true, "3a5446df49d0c9c423d61675cb1de6ae97422960b71f98b5f26eb6d60d87dde6"), looks := false }, kinds := [], alts := [], laidByText := true, laidKinds := [.data, .data, .data], laidTests := true, laidLooks := .later }
def MetricsFullCardSaid : Prop := Claim7.holds Tryd.pinned (.plain (OpenSpec.ofChange metricsFullSpec)) metricsFullCard

/-- THE SECOND FORM's CARD OF 'porpoiselaw20.MetricsLine'. -/
def metricsLineUptoCard : Claim7 := { stood := { row := metricsLineUptoRow, standIns := [], harness := (true, "3a5446df49d0c9c423d61675cb1de6ae97422960b71f98b5f26eb6d60d87dde6"), looks := false }, kinds := [], alts := [], laidByText := true, laidKinds := [.data, .data, .data], laidTests := true, laidLooks := .later }
def MetricsLineUptoCardSaid : Prop := Claim7.holds Tryd.pinned (.plain (OpenSpec.upto metricsLineSpec)) metricsLineUptoCard

/-- THE SECOND FORM's CARD OF 'porpoiselaw20.MetricsTotal'. -/
def metricsTotalUptoCard : Claim7 := { stood := { row := metricsTotalUptoRow, standIns := [], harness := (true, "3a5446df49d0c9c423d61675cb1de6ae97422960b71f98b5f26eb6d60d87dde6"), looks := false }, kinds := [], alts := [], laidByText := true, laidKinds := [.data, .data, .data], laidTests := true, laidLooks := .later }
def MetricsTotalUptoCardSaid : Prop := Claim7.holds Tryd.pinned (.plain (OpenSpec.upto metricsTotalSpec)) metricsTotalUptoCard

/-- THE SECOND FORM's CARD OF 'porpoiselaw20.MetricsNum'. -/
def metricsNumUptoCard : Claim7 := { stood := { row := metricsNumUptoRow, standIns := [], harness := (true, "3a5446df49d0c9c423d61675cb1de6ae97422960b71f98b5f26eb6d60d87dde6"), looks := false }, kinds := [], alts := [], laidByText := true, laidKinds := [.data, .data, .data], laidTests := true, laidLooks := .later }
def MetricsNumUptoCardSaid : Prop := Claim7.holds Tryd.pinned (.plain (OpenSpec.upto metricsNumSpec)) metricsNumUptoCard

/-- THE SECOND FORM's CARD OF 'porpoiselaw20.MetricsOf'. -/
def metricsOfUptoCard : Claim7 := { stood := { row := metricsOfUptoRow, standIns := [], harness := (true, "3a5446df49d0c9c423d61675cb1de6ae97422960b71f98b5f26eb6d60d87dde6"), looks := false }, kinds := [], alts := [], laidByText := true, laidKinds := [.data, .data, .data], laidTests := true, laidLooks := .later }
def MetricsOfUptoCardSaid : Prop := Claim7.holds Tryd.pinned (.plain (OpenSpec.upto metricsOfSpec)) metricsOfUptoCard

/-- THE SECOND FORM's CARD OF 'porpoiselaw20.MetricsJoins'. -/
def metricsJoinsUptoCard : Claim7 := { stood := { row := metricsJoinsUptoRow, standIns := [], harness := (true, "3a5446df49d0c9c423d61675cb1de6ae97422960b71f98b5f26eb6d60d87dde6"), looks := false }, kinds := [], alts := [], laidByText := true, laidKinds := [.data, .data, .data], laidTests := true, laidLooks := .later }
def MetricsJoinsUptoCardSaid : Prop := Claim7.holds Tryd.pinned (.plain (OpenSpec.upto metricsJoinsSpec)) metricsJoinsUptoCard

/-- THE SECOND FORM's CARD OF 'porpoiselaw20.MetricsFull'. -/
def metricsFullUptoCard : Claim7 := { stood := { row := metricsFullUptoRow, standIns := [], harness := (true, "3a5446df49d0c9c423d61675cb1de6ae97422960b71f98b5f26eb6d60d87dde6"), looks := false }, kinds := [], alts := [], laidByText := true, laidKinds := [.data, .data, .data], laidTests := true, laidLooks := .later }
def MetricsFullUptoCardSaid : Prop := Claim7.holds Tryd.pinned (.plain (OpenSpec.upto metricsFullSpec)) metricsFullUptoCard
end Rows
end Go.Proofs.YtfegdmhfmhaneaaDoor
