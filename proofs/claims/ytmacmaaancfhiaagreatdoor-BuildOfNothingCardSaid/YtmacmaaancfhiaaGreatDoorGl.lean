/- Part of the proof: the known package variable in the world of the call. -/
import Derived.Test.YtmacmaaancfhiaaGreatDoorKn
import Derived.Test.YtmacmaaancfhiaaGreatDoorRows
import Derived.ProofKit
import Derived.OpenShut
import Derived.LaidMore
import Derived.Lay
section
set_option maxRecDepth 2000
set_option autoImplicit false
set_option maxRecDepth 100000
namespace Go.Ev
open Go.Proofs Go.Proofs.YtmacmaaancfhiaaGreatDoor Go.RowKit Go.ChangeShapes Go.WideShapes
def tab : List Nat := [0, 1, 56, 2, 57, 49, 28, 3, 61, 58, 42, 50, 38, 29, 17, 4, 62, 47, 59, 36, 45, 43, 51, 22, 53, 39, 33, 30, 24, 18, 12, 5, 63, 55, 48, 27, 60, 41, 37, 16, 46, 35, 44, 21, 52, 32, 23, 11, 54, 26, 40, 15, 34, 20, 31, 10, 25, 14, 19, 9, 13, 8, 7, 6]
theorem laid_eq : laidL = [(0, 483, tab.map (AV.int .u8))] := rfl
theorem row0 : ∃ zero, ((begin Tryz.prog (fun _ _ => 0) default).world.heap[0]?).bind Obj.row? = some (zero, 483) := ⟨Array.replicate 64 (.int .u8 0), by kernel_rfl⟩
theorem glob_at {W : World} (hs : W.ShapedOpen Tryz.prog) (h : laidMetH Tryz.prog Rows.buildOfNothingRow.laid W) : GlobAt W laidL := by
  rw [MakeChecks.laidMetH_plain _ _ _ (by kernel_rfl)] at h
  obtain ⟨_, ⟨_, _, _, _, _, _, _, _, _, _, h2, _⟩, _⟩ := h
  obtain ⟨g, t, cs, fuel, p, q, hg, ht, hv, hd, _, _⟩ := h2
  obtain rfl := Option.some.inj ((show Tryz.prog.globalNamed "math/bits.deBruijn64tab" = some 0 by kernel_rfl).symm.trans hg)
  obtain rfl := Option.some.inj ((show (Tryz.prog.globals[0]?).map (·.type) = some 483 by kernel_rfl).symm.trans ht)
  obtain ⟨xs, m, _, ex, hcl, hl, hel⟩ := DataW.trod_array Tryz.underlying483 hd
  have c5 : Tryz.prog.cellsOf 5 = 1 := by kernel_rfl
  have c483 : Tryz.prog.cellsOf 483 = 64 := by kernel_rfl
  rw [c483] at hcl
  have e3 : (xs.map (·.1)) = tab.map fun n : Nat => (DataW.lit (.int .u8 (n : Int)) : DataW Unit) := (DataW.agg.inj (Prod.mk.inj ex).1).symm
  have htab : tab.length = 64 := rfl
  have hget : ∀ r, r < 64 → cs.toList[r]? = some (.int .u8 ((tab.getD r 0 : Nat) : Int)) := by
    intro r hr
    have hE := hel r hr
    rw [c5, Nat.mul_one, List.getElem?_eq_getElem (by omega)] at hE
    obtain ⟨z, e1, e2, _⟩ := DataW.trod_int Tryz.underlying5 hE
    have e4 : (xs.map (·.1))[r]? = (tab.map fun n : Nat => (DataW.lit (.int .u8 (n : Int)) : DataW Unit))[r]? := by rw [e3]
    rw [List.getElem?_map, List.getElem?_map, List.getElem?_eq_getElem (by omega : r < xs.length), List.getElem?_eq_getElem (by omega : r < tab.length), e2] at e4
    have hz : z = tab.getD r 0 := by
      simp only [Option.map_some, Option.some.injEq, DataW.lit.injEq, Lit.int.injEq, true_and] at e4
      rw [e4, List.getD, List.getElem?_eq_getElem (by omega : r < tab.length)]; rfl
    rw [← hz]
    have h0 : ((cs.toList.drop r).take 1)[0]? = some (.int .u8 z) := by rw [e1]; rfl
    simpa using h0
  obtain ⟨zero, hz⟩ := row0
  obtain ⟨cs', hcs', _⟩ := hs.1 0 zero 483 (by rw [show Tryz.prog.globals.size = 6 by kernel_rfl]; omega) hz
  have hcc : cs' = cs := by
    have : W.var? Tryz.prog "math/bits.deBruijn64tab" = some cs' := by
      simp only [World.var?, hg, Option.bind_some, hcs']
    exact Option.some.inj (this.symm.trans hv)
  subst hcc
  rw [laid_eq]
  intro x hx
  rw [List.mem_singleton] at hx
  subst hx
  refine ⟨by decide, cs', (0, 0), hcs', VRs.of_get (by rw [List.length_map, htab, hcl]) fun i x y hx hy => ?_⟩
  have hi : i < 64 := by
    have := (List.getElem?_eq_some_iff.1 hy).1
    omega
  rw [hget i hi] at hy
  cases hy
  rw [List.getElem?_map, List.getElem?_eq_getElem (by omega : i < tab.length)] at hx
  simp only [Option.map_some, Option.some.injEq] at hx
  subst hx
  rw [List.getD, List.getElem?_eq_getElem (by omega : i < tab.length)]
  exact .int _ _
end Go.Ev
end
