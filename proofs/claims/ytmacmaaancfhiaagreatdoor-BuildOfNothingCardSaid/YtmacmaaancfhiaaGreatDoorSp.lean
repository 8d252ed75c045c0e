/- Part of the proof: what the special functions of the program are. -/
import Derived.Test.YtmacmaaancfhiaaGreatDoorEvM
import Derived.Test.YtmacmaaancfhiaaGreatDoorProg
import Derived.KernelRfl
section
set_option maxRecDepth 2000
set_option autoImplicit false
set_option maxHeartbeats 0
namespace Go.Ev
open Go.Proofs
def specL : List (Nat × Special) := [(184, .ext (.load .u32)), (210, .ext (.add .i64)), (211, .ext (.load .i64)), (212, .ext .store), (301, .ext .store), (303, .fork), (304, .fork), (306, .fork), (330, .ext .same), (339, .ext .indexByteString), (347, .ext (.load .i32)), (349, .ext .overlaps), (351, .ext .overlaps), (355, .ext .overlaps), (360, .ext (.load .u64)), (371, .ext .store), (377, .ext (.nop false)), (378, .ext (.cas .i32)), (379, .ext (.nop false)), (380, .ext (.nop true)), (382, .ext (.nop true)), (383, .ext (.add .i32))]
noncomputable def cx : Cx := { P := Tryz.prog, special := specOf specL }
theorem ext184 : ∃ fn e, Tryz.prog.funcs[184]? = some fn ∧ fn.body = none ∧ Extern.findNext fn = none ∧ Extern.find fn = some e ∧ ExtIs Tryz.prog ((.load .u32)) e := ⟨Tryz.f184, Extern.Atomic.loadT (.int .u32), Tryz.func184, by kernel_rfl, by kernel_rfl, by kernel_rfl, rfl⟩
theorem ext210 : ∃ fn e, Tryz.prog.funcs[210]? = some fn ∧ fn.body = none ∧ Extern.findNext fn = none ∧ Extern.find fn = some e ∧ ExtIs Tryz.prog ((.add .i64)) e := ⟨Tryz.f210, Extern.Atomic.update (Op.intArith .add) .i64 true, Tryz.func210, by kernel_rfl, by kernel_rfl, by kernel_rfl, rfl⟩
theorem ext211 : ∃ fn e, Tryz.prog.funcs[211]? = some fn ∧ fn.body = none ∧ Extern.findNext fn = none ∧ Extern.find fn = some e ∧ ExtIs Tryz.prog ((.load .i64)) e := ⟨Tryz.f211, Extern.Atomic.loadT (.int .i64), Tryz.func211, by kernel_rfl, by kernel_rfl, by kernel_rfl, rfl⟩
theorem ext212 : ∃ fn e, Tryz.prog.funcs[212]? = some fn ∧ fn.body = none ∧ Extern.findNext fn = none ∧ Extern.find fn = some e ∧ ExtIs Tryz.prog (.store) e := ⟨Tryz.f212, Extern.Atomic.storeT, Tryz.func212, by kernel_rfl, by kernel_rfl, by kernel_rfl, rfl⟩
theorem ext301 : ∃ fn e, Tryz.prog.funcs[301]? = some fn ∧ fn.body = none ∧ Extern.findNext fn = none ∧ Extern.find fn = some e ∧ ExtIs Tryz.prog (.store) e := ⟨Tryz.f301, Extern.Atomic.storeT, Tryz.func301, by kernel_rfl, by kernel_rfl, by kernel_rfl, rfl⟩
theorem ext330 : ∃ fn e, Tryz.prog.funcs[330]? = some fn ∧ fn.body = none ∧ Extern.findNext fn = none ∧ Extern.find fn = some e ∧ ExtIs Tryz.prog (.same) e := ⟨Tryz.f330, Extern.AbiNoEscape.same, Tryz.func330, by kernel_rfl, by kernel_rfl, by kernel_rfl, fun x => rfl⟩
theorem ext339 : ∃ fn e, Tryz.prog.funcs[339]? = some fn ∧ fn.body = none ∧ Extern.findNext fn = none ∧ Extern.find fn = some e ∧ ExtIs Tryz.prog (.indexByteString) e := ⟨Tryz.f339, Extern.BytealgIndexByte.indexByte, Tryz.func339, by kernel_rfl, by kernel_rfl, by kernel_rfl, rfl⟩
theorem ext347 : ∃ fn e, Tryz.prog.funcs[347]? = some fn ∧ fn.body = none ∧ Extern.findNext fn = none ∧ Extern.find fn = some e ∧ ExtIs Tryz.prog ((.load .i32)) e := ⟨Tryz.f347, Extern.Atomic.loadT (.int .i32), Tryz.func347, by kernel_rfl, by kernel_rfl, by kernel_rfl, rfl⟩
theorem ext349 : ∃ fn e, Tryz.prog.funcs[349]? = some fn ∧ fn.body = none ∧ Extern.findNext fn = none ∧ Extern.find fn = some e ∧ ExtIs Tryz.prog (.overlaps) e := ⟨Tryz.f349, Extern.SlicesOverlaps.overlaps Tryz.f349.params Tryz.f349.resultTypes, Tryz.func349, by kernel_rfl, by kernel_rfl, by kernel_rfl, overlaps_ok (by kernel_rfl)⟩
theorem ext351 : ∃ fn e, Tryz.prog.funcs[351]? = some fn ∧ fn.body = none ∧ Extern.findNext fn = none ∧ Extern.find fn = some e ∧ ExtIs Tryz.prog (.overlaps) e := ⟨Tryz.f351, Extern.SlicesOverlaps.overlaps Tryz.f351.params Tryz.f351.resultTypes, Tryz.func351, by kernel_rfl, by kernel_rfl, by kernel_rfl, overlaps_ok (by kernel_rfl)⟩
theorem ext355 : ∃ fn e, Tryz.prog.funcs[355]? = some fn ∧ fn.body = none ∧ Extern.findNext fn = none ∧ Extern.find fn = some e ∧ ExtIs Tryz.prog (.overlaps) e := ⟨Tryz.f355, Extern.SlicesOverlaps.overlaps Tryz.f355.params Tryz.f355.resultTypes, Tryz.func355, by kernel_rfl, by kernel_rfl, by kernel_rfl, overlaps_ok (by kernel_rfl)⟩
theorem ext360 : ∃ fn e, Tryz.prog.funcs[360]? = some fn ∧ fn.body = none ∧ Extern.findNext fn = none ∧ Extern.find fn = some e ∧ ExtIs Tryz.prog ((.load .u64)) e := ⟨Tryz.f360, Extern.Atomic.loadT (.int .u64), Tryz.func360, by kernel_rfl, by kernel_rfl, by kernel_rfl, rfl⟩
theorem ext371 : ∃ fn e, Tryz.prog.funcs[371]? = some fn ∧ fn.body = none ∧ Extern.findNext fn = none ∧ Extern.find fn = some e ∧ ExtIs Tryz.prog (.store) e := ⟨Tryz.f371, Extern.Atomic.storeT, Tryz.func371, by kernel_rfl, by kernel_rfl, by kernel_rfl, rfl⟩
theorem ext377 : ∃ fn e, Tryz.prog.funcs[377]? = some fn ∧ fn.body = none ∧ Extern.findNext fn = none ∧ Extern.find fn = some e ∧ ExtIs Tryz.prog ((.nop false)) e := ⟨Tryz.f377, (fun _ => do mark .disable; pure Extern.Race.none_), Tryz.func377, by kernel_rfl, by kernel_rfl, by kernel_rfl, fun w => rfl⟩
theorem ext378 : ∃ fn e, Tryz.prog.funcs[378]? = some fn ∧ fn.body = none ∧ Extern.findNext fn = none ∧ Extern.find fn = some e ∧ ExtIs Tryz.prog ((.cas .i32)) e := ⟨Tryz.f378, Extern.Atomic.casT (.int .i32), Tryz.func378, by kernel_rfl, by kernel_rfl, by kernel_rfl, rfl⟩
theorem ext379 : ∃ fn e, Tryz.prog.funcs[379]? = some fn ∧ fn.body = none ∧ Extern.findNext fn = none ∧ Extern.find fn = some e ∧ ExtIs Tryz.prog ((.nop false)) e := ⟨Tryz.f379, (fun _ => do mark .enable; pure Extern.Race.none_), Tryz.func379, by kernel_rfl, by kernel_rfl, by kernel_rfl, fun w => rfl⟩
theorem ext380 : ∃ fn e, Tryz.prog.funcs[380]? = some fn ∧ fn.body = none ∧ Extern.findNext fn = none ∧ Extern.find fn = some e ∧ ExtIs Tryz.prog ((.nop true)) e := ⟨Tryz.f380, Extern.Race.marked .acquire, Tryz.func380, by kernel_rfl, by kernel_rfl, by kernel_rfl, fun a w => rfl⟩
theorem ext382 : ∃ fn e, Tryz.prog.funcs[382]? = some fn ∧ fn.body = none ∧ Extern.findNext fn = none ∧ Extern.find fn = some e ∧ ExtIs Tryz.prog ((.nop true)) e := ⟨Tryz.f382, Extern.Race.marked .releaseMerge, Tryz.func382, by kernel_rfl, by kernel_rfl, by kernel_rfl, fun a w => rfl⟩
theorem ext383 : ∃ fn e, Tryz.prog.funcs[383]? = some fn ∧ fn.body = none ∧ Extern.findNext fn = none ∧ Extern.find fn = some e ∧ ExtIs Tryz.prog ((.add .i32)) e := ⟨Tryz.f383, Extern.Atomic.update (Op.intArith .add) .i32 true, Tryz.func383, by kernel_rfl, by kernel_rfl, by kernel_rfl, rfl⟩
theorem cok : COk cx where
  mix := by kernel_rfl
  name := name_ok (by kernel_rfl)
  ext f q h := by
    have h := specOf_mem (l := specL) h
    simp only [specL, List.mem_cons, List.not_mem_nil, or_false, Prod.mk.injEq, reduceCtorEq, and_false, false_or, Special.ext.injEq] at h
    rcases h with ⟨rfl, rfl⟩ | ⟨rfl, rfl⟩ | ⟨rfl, rfl⟩ | ⟨rfl, rfl⟩ | ⟨rfl, rfl⟩ | ⟨rfl, rfl⟩ | ⟨rfl, rfl⟩ | ⟨rfl, rfl⟩ | ⟨rfl, rfl⟩ | ⟨rfl, rfl⟩ | ⟨rfl, rfl⟩ | ⟨rfl, rfl⟩ | ⟨rfl, rfl⟩ | ⟨rfl, rfl⟩ | ⟨rfl, rfl⟩ | ⟨rfl, rfl⟩ | ⟨rfl, rfl⟩ | ⟨rfl, rfl⟩ | ⟨rfl, rfl⟩
    · exact ext184
    · exact ext210
    · exact ext211
    · exact ext212
    · exact ext301
    · exact ext330
    · exact ext339
    · exact ext347
    · exact ext349
    · exact ext351
    · exact ext355
    · exact ext360
    · exact ext371
    · exact ext377
    · exact ext378
    · exact ext379
    · exact ext380
    · exact ext382
    · exact ext383
end Go.Ev
end
