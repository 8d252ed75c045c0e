/- Part of the proof. -/
import Derived.Test.YtmacmaaancfhiaaGreatDoorRows
import Derived.JoinedOf
import GoSem.ClaimGoes
section
set_option maxRecDepth 2000

namespace Go.Proofs.YtmacmaaancfhiaaGreatDoor
theorem goes_none {P : Program} (h : P.funcs.any Func.goes = false) (f : FuncId) : P.goes f = false := by
  have hall : ∀ (g : Nat) (fn : Func), P.funcs[g]? = some fn → fn.goes = false := by
    intro g fn hg
    have hm : fn ∈ P.funcs := Array.mem_of_getElem? hg
    cases e : fn.goes with
    | false => rfl
    | true => rw [Array.any_eq_true'.2 ⟨fn, hm, e⟩] at h; cases h
  unfold Program.goes
  rw [h, Bool.and_false, Bool.or_false]
  cases hc : (P.closure f).any fun g => (P.funcs[g]?).any Func.goes with
  | false => rfl
  | true =>
    exfalso
    rw [List.any_eq_true] at hc
    obtain ⟨g, _, hg⟩ := hc
    cases hq : P.funcs[g]? with
    | none => rw [hq] at hg; cases hg
    | some fn => rw [hq] at hg; simp [hall g fn hq] at hg
theorem goesBy_none {P : Program} {c : OpenClaim} (hs : c.start = .entering) (h : P.funcs.any Func.goes = false) : false = c.goesBy P := by
  unfold OpenClaim.goesBy Program.goesAt Program.goesFrom
  rw [hs]
  cases P.funcNamed c.func with
  | none => rfl
  | some f => simp [goes_none h f]
theorem noneGoes : Tryz.prog.funcs.any Func.goes = false := by kernel_rfl
theorem jB : (Rows.buildOfNothingRow.unfollowed == Tryz.prog.unfollowed 3) = true := by kernel_rfl
end Go.Proofs.YtmacmaaancfhiaaGreatDoor
end
