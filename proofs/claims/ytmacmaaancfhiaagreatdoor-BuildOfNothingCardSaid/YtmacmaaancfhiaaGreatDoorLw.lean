/- Part of the proof: the walk of the law. -/
import Derived.Test.YtmacmaaancfhiaaGreatDoorNl
import Derived.Test.YtmacmaaancfhiaaGreatDoorHv
section
set_option maxRecDepth 2000

namespace Go.Proofs.YtmacmaaancfhiaaGreatDoor
open Go Go.Proofs Go.RowKit Go.Ev
theorem bcell {W w1 : World} (hb : Below W.heap.size W w1) : (∀ b o, b < W.heap.size → w1.cell? ⟨b, o, none⟩ = W.cell? ⟨b, o, none⟩) ∧ (∀ b o, b < W.heap.size → w1.frozen? ⟨b, o, none⟩ = W.frozen? ⟨b, o, none⟩) :=
  ⟨fun b o h => hb.cell (p := ⟨b, o, none⟩) h, fun b o h => hb.frozen (p := ⟨b, o, none⟩) h⟩
theorem load_nil2 (p : Value) (w : World) : Calls Tryz.prog 6 #[.pointer none, p] w fun e w' => e = .returned (.tuple #[.agg #[.string .empty, .string .empty, .string .empty, .slice none 0 0, .slice none 0 0, .slice none 0 0, .slice none 0 0, .slice none 0 0], .int .i64 7]) ∧ Below w.heap.size w w' := by
  refine (load_nil p w).mono fun e w' ⟨⟨v, e1, φ, hv⟩, hb⟩ => ⟨?_, hb⟩
  obtain ⟨cs, rfl, hc⟩ := hv.agg_inv
  obtain ⟨a0, l0, h0, q0, hc⟩ := hc.cons_inv
  obtain ⟨a1, l1, rfl, q1, hc⟩ := hc.cons_inv
  obtain ⟨a2, l2, rfl, q2, hc⟩ := hc.cons_inv
  obtain ⟨a3, l3, rfl, q3, hc⟩ := hc.cons_inv
  obtain ⟨a4, l4, rfl, q4, hc⟩ := hc.cons_inv
  obtain ⟨a5, l5, rfl, q5, hc⟩ := hc.cons_inv
  obtain ⟨a6, l6, rfl, q6, hc⟩ := hc.cons_inv
  obtain ⟨a7, l7, rfl, q7, hc⟩ := hc.cons_inv
  cases hc
  obtain ⟨s0, rfl, p0⟩ := q0.str_inv
  obtain ⟨s1, rfl, p1⟩ := q1.str_inv
  obtain ⟨s2, rfl, p2⟩ := q2.str_inv
  rw [q3.nils_inv, q4.nils_inv, q5.nils_inv, q6.nils_inv, q7.nils_inv, pack0 p0, pack0 p1, pack0 p2] at h0
  rw [e1, show cs = #[.string .empty, .string .empty, .string .empty, .slice none 0 0, .slice none 0 0, .slice none 0 0, .slice none 0 0, .slice none 0 0] from Array.ext' h0]
theorem heavy_at (s0 s1 s2 : ByteArray) (a5 a6 a7 a8 a9 : Option Addr) (n5 n6 n7 n8 n9 k5 k6 k7 k8 k9 : Nat) (o : Obj) (w : World)
   (h5n : n5 ≤ 9223372036854775807) (h6n : n6 ≤ 9223372036854775807)
   (hA : ∀ j, j < n5 → ∃ q o s, a5 = some ⟨q, o, none⟩ ∧ w.cell? ⟨q, o + j, none⟩ = some (.string s) ∧ q < w.heap.size)
   (hE : ∀ j, j < n6 * 2 → ∃ q o s, a6 = some ⟨q, o, none⟩ ∧ w.cell? ⟨q, o + j, none⟩ = some (.string s) ∧ q < w.heap.size) :
   Calls Tryz.prog 4 #[.slice (some ⟨w.heap.size + 1, 0, none⟩) 1 1] ((w.alloc o).alloc
    (Obj.cells #[Value.int IntKind.i64 0, Value.int IntKind.i64 0, Value.string s0, Value.string s1, Value.string s2, Value.slice a5 n5 k5, Value.slice a6 n6 k6, Value.slice a7 n7 k7, Value.slice a8 n8 k8, Value.slice a9 n9 k9,
      Value.bool false, Value.slice none 0 0, Value.slice none 0 0, Value.slice none 0 0, Value.string { data := #[] }, Value.slice none 0 0] 36)) fun e w' => ∃ b, e = .returned (.bool b) ∧ Below w.heap.size w w' ∧ ∀ k, k < w.heap.size + 2 → w'.heap[k]? = ((w.alloc o).alloc (Obj.cells #[Value.int IntKind.i64 0, Value.int IntKind.i64 0, Value.string s0, Value.string s1, Value.string s2, Value.slice a5 n5 k5, Value.slice a6 n6 k6, Value.slice a7 n7 k7, Value.slice a8 n8 k8, Value.slice a9 n9 k9, Value.bool false, Value.slice none 0 0, Value.slice none 0 0, Value.slice none 0 0, Value.string { data := #[] }, Value.slice none 0 0] 36)).heap[k]? := by
  have hB : ∀ o2 : Obj, Below w.heap.size w ((w.alloc o).alloc o2) := fun o2 => ((Below.refl _ _).alloc (Nat.le_refl _) _).alloc (by simp) _
  have hs : (w.alloc o).heap.size = w.heap.size + 1 := by simp
  refine (heavy_any s0 s1 s2 a5 a6 a7 a8 a9 n5 n6 n7 n8 n9 k5 k6 k7 k8 k9 (w.heap.size + 1) _ (by simp) h5n h6n ?_ ?_ ?_ ?_ ?_ ?_ ?_ ?_ ?_ ?_ ?_ ?_ ?_ ?_ ?_ ?_ ?_ ?_).mono ?_
  · intro j hj
    obtain ⟨q, o', s, e1, e2, e3⟩ := hA j hj
    exact ⟨q, o', s, e1, ((hB _).cell (p := ⟨q, o' + j, none⟩) e3).trans e2, by simp; omega⟩
  · intro j hj
    obtain ⟨q, o', s, e1, e2, e3⟩ := hE j hj
    exact ⟨q, o', s, e1, ((hB _).cell (p := ⟨q, o' + j, none⟩) e3).trans e2, by simp; omega⟩
  all_goals first | (rintro e w' ⟨b, e1, e2⟩; exact ⟨b, e1, (hB _).trans (e2.mono (by simp; omega)), fun k hk => e2.block k (by simp; omega)⟩) | (rw [← hs]; simp; done) | (rw [← hs]; simp; rfl)
set_option maxHeartbeats 1000000 in
theorem law (s0 s1 s2 : ByteArray) (a5 a6 a7 a8 a9 : Option Addr) (n5 n6 n7 n8 n9 k5 k6 k7 k8 k9 : Nat) (s : ByteArray) (w : World) (hg : ∀ w', Below w.heap.size w w' → Calls Tryz.prog 9 #[] w' fun e w'' => e = .returned (.bool true) ∧ Below w'.heap.size w' w'')
   (h5n : n5 ≤ 9223372036854775807) (h6n : n6 ≤ 9223372036854775807)
   (hA : ∀ j, j < n5 → ∃ q o s, a5 = some ⟨q, o, none⟩ ∧ w.cell? ⟨q, o + j, none⟩ = some (.string s) ∧ q < w.heap.size)
   (hE : ∀ j, j < n6 * 2 → ∃ q o s, a6 = some ⟨q, o, none⟩ ∧ w.cell? ⟨q, o + j, none⟩ = some (.string s) ∧ q < w.heap.size) :
    Calls Tryz.prog 3 #[.agg #[.string s0, .string s1, .string s2, .slice a5 n5 k5, .slice a6 n6 k6, .slice a7 n7 k7, .slice a8 n8 k8, .slice a9 n9 k9], .string s] w fun e w' => e = .returned (.bool true) ∧ Below w.heap.size w w' := by
  go_enter Tryz.func3, Tryz.ntmps3
  go_wp2_with fail
  refine (heavy_at s0 s1 s2 a5 a6 a7 a8 a9 n5 n6 n7 n8 n9 k5 k6 k7 k8 k9 _ w h5n h6n hA hE).mono ?_
  clear hA hE
  rintro e w1 ⟨b, rfl, hB1, hk⟩
  have hc : w1.heap[w.heap.size]? = some (.cells #[.string s0, .string s1, .string s2, .slice a5 n5 k5, .slice a6 n6 k6, .slice a7 n7 k7, .slice a8 n8 k8, .slice a9 n9 k9] 28 (0, 0)) := (hk _ (by omega)).trans ((Below.heap_alloc _ _ _ (by simp)).trans (by show (w.heap.push _)[_]? = _; simp))
  clear hk
  have d0 : w1.cell? ⟨w.heap.size, 0, none⟩ = some (.string s0) := by simp [World.cell?, hc]
  have d1 : w1.cell? ⟨w.heap.size, 1, none⟩ = some (.string s1) := by simp [World.cell?, hc]
  have d2 : w1.cell? ⟨w.heap.size, 2, none⟩ = some (.string s2) := by simp [World.cell?, hc]
  have d3 : w1.cell? ⟨w.heap.size, 3, none⟩ = some (.slice a5 n5 k5) := by simp [World.cell?, hc]
  have d4 : w1.cell? ⟨w.heap.size, 4, none⟩ = some (.slice a6 n6 k6) := by simp [World.cell?, hc]
  have d5 : w1.cell? ⟨w.heap.size, 5, none⟩ = some (.slice a7 n7 k7) := by simp [World.cell?, hc]
  have d6 : w1.cell? ⟨w.heap.size, 6, none⟩ = some (.slice a8 n8 k8) := by simp [World.cell?, hc]
  have d7 : w1.cell? ⟨w.heap.size, 7, none⟩ = some (.slice a9 n9 k9) := by simp [World.cell?, hc]
  clear hc
  cases b with
  | true =>
    go_wp2_with fail
    go_ret
    exact ⟨rfl, hB1⟩
  | false =>
    go_wp2_with fail
    · go_ret
      exact ⟨rfl, hB1⟩
    · have q1 : w.heap.size ≤ w1.heap.size := hB1.size
      clear d0 d1 d2 d3 d4 d5 d6 d7
      refine (inst_nil _ _ _ _ _ _ _ _ _).mono ?_
      rintro e w2 ⟨rfl, hb2⟩
      replace hB1 := hB1.trans (hb2.mono q1)
      clear hb2 q1
      go_wp2_with fail
      refine (load_nil2 _ _).mono ?_
      rintro e w3 ⟨rfl, hb3⟩
      replace hB1 := hB1.trans (hb3.mono hB1.size)
      clear hb3
      go_wp2_with fail
      refine (needs_nil _ _).mono ?_
      rintro e w4 ⟨rfl, hb4⟩
      replace hB1 := hB1.alloc hB1.size (Obj.cells #[.string .empty, .string .empty, .string .empty, .slice none 0 0, .slice none 0 0, .slice none 0 0, .slice none 0 0, .slice none 0 0] 28)
      replace hB1 := hB1.trans (hb4.mono hB1.size)
      clear hb4
      go_wp2_with fail
      refine (build_nil _ _).mono ?_
      rintro e w5 ⟨rfl, hb5⟩
      replace hB1 := hB1.trans (hb5.mono hB1.size)
      clear hb5
      go_wp2_with fail
      refine (hg _ hB1).mono ?_
      rintro e w6 ⟨rfl, hb6⟩
      replace hB1 := hB1.trans (hb6.mono hB1.size)
      clear hb6
      go_wp2_with fail
      go_ret
      exact ⟨rfl, hB1⟩
end Go.Proofs.YtmacmaaancfhiaaGreatDoor
end
