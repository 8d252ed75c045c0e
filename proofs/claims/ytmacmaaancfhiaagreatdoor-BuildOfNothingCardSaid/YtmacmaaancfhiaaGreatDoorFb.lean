/- Part of the proof. -/
import Derived.Test.YtmacmaaancfhiaaGreatDoorRows
import Derived.JoinedOf
import GoSem.ClaimGoes
section
set_option maxRecDepth 2000

namespace Go.Proofs.YtmacmaaancfhiaaGreatDoor
theorem jA : (Rows.buildOfNothingRow.inPlace == Tryz.prog.inPlace 3) = true := by kernel_rfl
end Go.Proofs.YtmacmaaancfhiaaGreatDoor
end
