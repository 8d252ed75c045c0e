/- Part of the proof. -/
import Derived.Test.YtmacmaaancfhiaaGreatDoorRows
import Derived.JoinedOf
section
set_option maxRecDepth 2000

namespace Go.Proofs.YtmacmaaancfhiaaGreatDoor
theorem jF : mapsRowed Tryz.prog = true := by kernel_rfl
end Go.Proofs.YtmacmaaancfhiaaGreatDoor
end
