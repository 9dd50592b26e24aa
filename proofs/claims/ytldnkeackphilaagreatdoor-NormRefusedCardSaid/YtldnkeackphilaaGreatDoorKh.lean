/- berthlaw16.NormRefused: the row's closed facts. -/
import Derived.Test.YtldnkeackphilaaGreatDoorRows
import Derived.JoinedOf
namespace Go.Proofs.YtldnkeackphilaaGreatDoor
open Go

theorem normRefused_facts : joinedFacts Tryz.pinned.checked.prog 5 Tryz.f5 Rows.normRefusedSpec Rows.normRefusedRow = true := by kernel_rfl
end Go.Proofs.YtldnkeackphilaaGreatDoor
