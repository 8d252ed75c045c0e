/- Part of the proof: the closed run of known(), by the kernel. -/
import Derived.Test.YtmacmaaancfhiaaGreatDoorSp
import Derived.Below
section
set_option maxRecDepth 2000
set_option autoImplicit false
set_option maxHeartbeats 0
namespace Go.Ev
open Go.Proofs Go.RowKit
noncomputable def laidL : List (Nat × TypeId × List AV) := [(0, 483, [.int .u8 0, .int .u8 1, .int .u8 56, .int .u8 2, .int .u8 57, .int .u8 49, .int .u8 28, .int .u8 3, .int .u8 61, .int .u8 58, .int .u8 42, .int .u8 50, .int .u8 38, .int .u8 29, .int .u8 17, .int .u8 4, .int .u8 62, .int .u8 47, .int .u8 59, .int .u8 36, .int .u8 45, .int .u8 43, .int .u8 51, .int .u8 22, .int .u8 53, .int .u8 39, .int .u8 33, .int .u8 30, .int .u8 24, .int .u8 18, .int .u8 12, .int .u8 5, .int .u8 63, .int .u8 55, .int .u8 48, .int .u8 27, .int .u8 60, .int .u8 41, .int .u8 37, .int .u8 16, .int .u8 46, .int .u8 35, .int .u8 44, .int .u8 21, .int .u8 52, .int .u8 32, .int .u8 23, .int .u8 11, .int .u8 54, .int .u8 26, .int .u8 40, .int .u8 15, .int .u8 34, .int .u8 20, .int .u8 31, .int .u8 10, .int .u8 25, .int .u8 14, .int .u8 19, .int .u8 9, .int .u8 13, .int .u8 8, .int .u8 7, .int .u8 6])]
theorem known_run : globK laidL Heap.empty (fun h => (level cx 100000 (199 + 1)).call false 9 [] h fun v _ => bbK (sameV 0 v (.bool true)) .good) = .good := by kernel_rfl
theorem known_true (w : World) (hw : GlobAt w laidL) : Calls Tryz.prog 9 #[] w fun e w' => e = .returned (.bool true) ∧ Below w.heap.size w w' := by
  obtain ⟨v, h', h1, h2⟩ := calls_glob_good cok known_run
  simp only [bbK_good] at h1
  have hv := sameV_eq h1.1
  subst hv
  refine (h2 w #[] hw .nil).mono fun e w' ⟨v', φ, e1, e2, e3, e4, e5, e6, e7⟩ => ⟨?_, e5, e6, e7, e3, e4⟩
  rw [e1, e2.bool_inv]
end Go.Ev
end
