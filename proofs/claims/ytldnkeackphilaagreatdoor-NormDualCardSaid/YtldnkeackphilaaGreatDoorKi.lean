/- berthlaw16.NormDual: the row's closed facts. -/
import Derived.Test.YtldnkeackphilaaGreatDoorRows
import Derived.JoinedOf
namespace Go.Proofs.YtldnkeackphilaaGreatDoor
open Go

theorem normDual_facts : joinedFacts Tryz.pinned.checked.prog 7 Tryz.f7 Rows.normDualSpec Rows.normDualRow = true := by kernel_rfl
end Go.Proofs.YtldnkeackphilaaGreatDoor
