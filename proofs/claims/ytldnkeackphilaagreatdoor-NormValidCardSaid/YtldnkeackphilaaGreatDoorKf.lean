/- berthlaw16.NormValid: the row's closed facts. -/
import Derived.Test.YtldnkeackphilaaGreatDoorRows
import Derived.JoinedOf
namespace Go.Proofs.YtldnkeackphilaaGreatDoor
open Go

theorem normValid_facts : joinedFacts Tryz.pinned.checked.prog 3 Tryz.f3 Rows.normValidSpec Rows.normValidRow = true := by kernel_rfl
end Go.Proofs.YtldnkeackphilaaGreatDoor
