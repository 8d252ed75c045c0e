/- Part of the proof. -/
import Derived.Test.YtmacmaaancfhiaaGreatDoorFa
import Derived.Test.YtmacmaaancfhiaaGreatDoorFb
import Derived.Test.YtmacmaaancfhiaaGreatDoorFc
import Derived.Test.YtmacmaaancfhiaaGreatDoorFe
import Derived.Test.YtmacmaaancfhiaaGreatDoorFg
import Derived.Test.YtmacmaaancfhiaaGreatDoorFh
import Derived.Test.YtmacmaaancfhiaaGreatDoorRows
import Derived.JoinedOf
import GoSem.ClaimGoes
section
set_option maxRecDepth 2000

namespace Go.Proofs.YtmacmaaancfhiaaGreatDoor
theorem joined : joinedFacts Tryz.prog 3 Tryz.f3 Rows.buildOfNothingSpec Rows.buildOfNothingRow = true := by
  unfold joinedFacts
  rw [jA, jB, jC, jD, jE, jF]
  kernel_rfl
end Go.Proofs.YtmacmaaancfhiaaGreatDoor
end
