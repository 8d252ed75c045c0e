/- Part of the proof: the callees at nil. -/
import Derived.Test.YtmacmaaancfhiaaGreatDoorSp
import Derived.Test.YtmacmaaancfhiaaGreatDoorRows
import Derived.WalkKit
import Derived.WalkSpells
section
set_option maxRecDepth 2000

namespace Go.Ev
open Go Go.Proofs Go.RowKit
set_option maxHeartbeats 400000
theorem call_same {C : Cx} (hC : COk C) {lf n : Nat} {f : FuncId} {args : List AV} {v : AV} (hk : (level C lf (n + 1)).call false f args Heap.empty (fun u _ => bbK (sameV 0 u v) .good) = .good) (w : World) (args' : Array Value) (hv : VRs (Phi0 w) args args'.toList) :
    Calls C.P f args' w fun e w' => ∃ v' φ, e = .returned v' ∧ VR φ v v' ∧ Below w.heap.size w w' := by
  obtain ⟨u, h', h1, h2⟩ := calls_args_good hC hk
  simp only [bbK_good] at h1
  have := sameV_eq h1.1
  subst this
  refine (h2 w args' hv).mono fun e w' ⟨v', φ, e1, e2, e3, e4, e5, e6, e7⟩ => ⟨v', φ, e1, e2, ⟨e5, e6, e7, e3, e4⟩⟩
theorem pack0 {s : ByteArray} (h : PackIs s 0 0) : s = ByteArray.empty := by
  have := h.1
  obtain ⟨d⟩ := s
  have : d = #[] := Array.eq_empty_of_size_eq_zero this
  subst this; rfl
theorem tup2 {φ : Phi} {a b : AV} {v : Value} (h : VR φ (.tuple [a, b]) v) : ∃ x y, v = .tuple #[x, y] ∧ VR φ a x ∧ VR φ b y := by
  obtain ⟨c, rfl, hc⟩ := h.tuple_inv
  obtain ⟨a1, l1, h1, h2, h3⟩ := hc.cons_inv
  obtain ⟨a2, l2, rfl, h4, h5⟩ := h3.cons_inv
  cases h5
  exact ⟨a1, a2, by congr 1; exact Array.ext' h1, h2, h4⟩
theorem needs_nil (p : Value) (w : World) : Calls Tryz.prog 7 #[.pointer none, p] w fun e w' => e = .returned (.tuple #[.slice none 0 0, .int .i64 7]) ∧ Below w.heap.size w w' := by
  refine (call_same cok (lf := 100) (n := 5) (f := 7) (args := [.nilp, .poison]) (v := .tuple [.nils, .int .i64 7]) (by kernel_rfl) w _ (.cons .nilp (.cons (.poison _) .nil))).mono fun e w' ⟨v', φ, e1, e2, e3⟩ => ⟨?_, e3⟩
  obtain ⟨x, y, rfl, h1, h2⟩ := tup2 e2
  rw [e1, h2.int_inv, h1.nils_inv]; rfl
theorem build_nil (p : Value) (w : World) : Calls Tryz.prog 8 #[.pointer none, p, .agg #[.bool false, .slice none 0 0]] w fun e w' => e = .returned (.tuple #[.slice none 0 0, .int .i64 7]) ∧ Below w.heap.size w w' := by
  refine (call_same cok (lf := 100) (n := 5) (f := 8) (args := [.nilp, .poison, .agg [.bool false, .nils]]) (v := .tuple [.nils, .int .i64 7]) (by kernel_rfl) w _ (.cons .nilp (.cons (.poison _) (.cons (.agg (cs' := #[.bool false, .slice none 0 0]) (.cons (.bool _) (.cons .nils .nil))) .nil)))).mono fun e w' ⟨v', φ, e1, e2, e3⟩ => ⟨?_, e3⟩
  obtain ⟨x, y, rfl, h1, h2⟩ := tup2 e2
  rw [e1, h2.int_inv, h1.nils_inv]; rfl
theorem load_nil (p : Value) (w : World) : Calls Tryz.prog 6 #[.pointer none, p] w fun e w' => (∃ v, e = .returned (.tuple #[v, .int .i64 7]) ∧ ∃ φ, VR φ (.agg [.str 0 0, .str 0 0, .str 0 0, .nils, .nils, .nils, .nils, .nils]) v) ∧ Below w.heap.size w w' := by
  refine (call_same cok (lf := 100) (n := 5) (f := 6) (args := [.nilp, .poison]) (v := .tuple [.agg [.str 0 0, .str 0 0, .str 0 0, .nils, .nils, .nils, .nils, .nils], .int .i64 7]) (by kernel_rfl) w _ (.cons .nilp (.cons (.poison _) .nil))).mono fun e w' ⟨v', φ, e1, e2, e3⟩ => ⟨?_, e3⟩
  obtain ⟨x, y, rfl, h1, h2⟩ := tup2 e2
  exact ⟨x, by rw [e1, h2.int_inv]; rfl, φ, h1⟩
end Go.Ev
end

section
set_option maxRecDepth 2000

namespace Go.Proofs.YtmacmaaancfhiaaGreatDoor
open Go Go.Proofs Go.RowKit
set_option maxHeartbeats 400000 in
theorem inst_nil (c0 c1 c2 c3 c4 c5 c6 c7 : Value) (w : World) : Calls Tryz.prog 5 #[.pointer none, .agg #[c0, c1, c2, c3, c4, c5, c6, c7]] w fun e w' => e = .returned (.tuple #[.string ByteArray.empty, .int .i64 7]) ∧ Below w.heap.size w w' := by
  go_enter Tryz.func5, Tryz.ntmps5
  go_wp2
  go_ret2
  exact ⟨rfl, (Below.refl _ _).alloc (Nat.le_refl _) _⟩
end Go.Proofs.YtmacmaaancfhiaaGreatDoor
end
