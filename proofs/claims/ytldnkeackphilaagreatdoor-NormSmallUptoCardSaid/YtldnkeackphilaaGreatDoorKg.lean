/- berthlaw16.NormSmall: the second row's closed facts. -/
import Derived.Test.YtldnkeackphilaaGreatDoorRows
import Derived.JoinedOf
namespace Go.Proofs.YtldnkeackphilaaGreatDoor
open Go

theorem normSmall_facts : joinedFacts Tryz.pinned.checked.prog 6 Tryz.f6 (Rows.OpenSpec.upto Rows.normSmallSpec).bare Rows.normSmallUptoRow = true := by kernel_rfl
end Go.Proofs.YtldnkeackphilaaGreatDoor
