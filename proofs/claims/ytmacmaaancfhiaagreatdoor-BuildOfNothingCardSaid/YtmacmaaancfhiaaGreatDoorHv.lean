/- Part of the proof: heavy() returns. -/
import Derived.Test.YtmacmaaancfhiaaGreatDoorProg
import Derived.WalkKit
import Derived.WalkSpells
import Derived.LoopN
import Derived.BigRegion
import Derived.StillTailTactics
section
set_option maxRecDepth 2000

namespace Go.Proofs.YtmacmaaancfhiaaGreatDoor
open Go Go.Proofs Go.RowKit
def SomeB (w : World) (e : Ending) (w' : World) : Prop := ∃ b, e = .returned (.bool b) ∧ Below w.heap.size w w'
structure HeavySt (w : World) (s2 s3 s4 : ByteArray) (a5 a6 : Option Addr) (n5 n6 k5 k6 : Nat) (wr : World) : Prop where
  below : Below w.heap.size w wr
  num : ∃ v : Int, wr.cell? ⟨w.heap.size, 0, none⟩ = some (.int .i64 v)
  free : wr.frozen? ⟨w.heap.size, 0, none⟩ = false
  c2 : wr.cell? ⟨w.heap.size + 1, 2, none⟩ = some (.string s2)
  c3 : wr.cell? ⟨w.heap.size + 1, 3, none⟩ = some (.string s3)
  c4 : wr.cell? ⟨w.heap.size + 1, 4, none⟩ = some (.string s4)
  c5 : wr.cell? ⟨w.heap.size + 1, 5, none⟩ = some (.slice a5 n5 k5)
  c6 : wr.cell? ⟨w.heap.size + 1, 6, none⟩ = some (.slice a6 n6 k6)
  c11 : wr.cell? ⟨w.heap.size + 1, 11, none⟩ = some (.slice none 0 0)
theorem HeavySt.drew {w wr : World} {s2 s3 s4 : ByteArray} {a5 a6 : Option Addr} {n5 n6 k5 k6 : Nat} (h : HeavySt w s2 s3 s4 a5 a6 n5 n6 k5 k6 wr) : HeavySt w s2 s3 s4 a5 a6 n5 n6 k5 k6 wr.drew := by
  obtain ⟨h0, ⟨v, h1⟩, h2, h3, h4, h5, h6, h7, h8⟩ := h
  exact ⟨h0.drew, ⟨v, h1⟩, h2, h3, h4, h5, h6, h7, h8⟩
theorem HeavySt.store {w wr : World} {s2 s3 s4 : ByteArray} {a5 a6 : Option Addr} {n5 n6 k5 k6 : Nat} (h : HeavySt w s2 s3 s4 a5 a6 n5 n6 k5 k6 wr) (v : Int) : HeavySt w s2 s3 s4 a5 a6 n5 n6 k5 k6 (wr.setCell ⟨w.heap.size, 0, none⟩ (.int .i64 v)) := by
  obtain ⟨h0, ⟨v', h1⟩, h2, h3, h4, h5, h6, h7, h8⟩ := h
  have o : ∀ off, (wr.setCell ⟨w.heap.size, 0, none⟩ (.int .i64 v)).cell? ⟨w.heap.size + 1, off, none⟩ = wr.cell? ⟨w.heap.size + 1, off, none⟩ := fun off => World.cell?_of_block (w := wr) (Below.heap_setCell _ _ _ _ (by simp))
  exact ⟨h0.setCell (Nat.le_refl _) _, ⟨v, World.cell?_setCell_same _ _ _ h1⟩, by simpa using h2, (o _).trans h3, (o _).trans h4, (o _).trans h5, (o _).trans h6, (o _).trans h7, (o _).trans h8⟩
theorem heavy_st0 (w : World) (s2 s3 s4 : ByteArray) (a5 a6 a7 a8 a9 : Option Addr) (n5 n6 n7 n8 n9 k5 k6 k7 k8 k9 : Nat) (v : Int) : HeavySt w s2 s3 s4 a5 a6 n5 n6 k5 k6 ((w.alloc (Obj.cells #[Value.int IntKind.i64 v] 3)).alloc
    (Obj.cells #[Value.int IntKind.i64 0, Value.int IntKind.i64 0, Value.string s2, Value.string s3, Value.string s4, Value.slice a5 n5 k5, Value.slice a6 n6 k6, Value.slice a7 n7 k7, Value.slice a8 n8 k8, Value.slice a9 n9 k9,
      Value.bool false, Value.slice none 0 0, Value.slice none 0 0, Value.slice none 0 0, Value.string ByteArray.empty, Value.slice none 0 0] 36)) :=
  ⟨((Below.refl _ _).alloc (Nat.le_refl _) _).alloc (by simp) _, ⟨v, by simp⟩, by simp, by simp, by simp, by simp, by simp, by simp, by simp⟩
set_option maxRecDepth 20000 in
set_option maxHeartbeats 4000000 in
theorem heavy_any (s2 s3 s4 : ByteArray) (a5 a6 a7 a8 a9 : Option Addr) (n5 n6 n7 n8 n9 k5 k6 k7 k8 k9 : Nat) (b : Nat) (w : World) (hb : b < w.heap.size)
   (h5n : n5 ≤ 9223372036854775807) (h6n : n6 ≤ 9223372036854775807)
   (hA : ∀ j, j < n5 → ∃ q o s, a5 = some ⟨q, o, none⟩ ∧ w.cell? ⟨q, o + j, none⟩ = some (.string s) ∧ q < w.heap.size)
   (hE : ∀ j, j < n6 * 2 → ∃ q o s, a6 = some ⟨q, o, none⟩ ∧ w.cell? ⟨q, o + j, none⟩ = some (.string s) ∧ q < w.heap.size)
   (h0 : w.cell? ⟨b, 0, none⟩ = some (.int .i64 0)) (h1 : w.cell? ⟨b, 1, none⟩ = some (.int .i64 0)) (h2 : w.cell? ⟨b, 2, none⟩ = some (.string s2)) (h3 : w.cell? ⟨b, 3, none⟩ = some (.string s3)) (h4 : w.cell? ⟨b, 4, none⟩ = some (.string s4))
   (h5 : w.cell? ⟨b, 5, none⟩ = some (.slice a5 n5 k5)) (h6 : w.cell? ⟨b, 6, none⟩ = some (.slice a6 n6 k6)) (h7 : w.cell? ⟨b, 7, none⟩ = some (.slice a7 n7 k7)) (h8 : w.cell? ⟨b, 8, none⟩ = some (.slice a8 n8 k8)) (h9 : w.cell? ⟨b, 9, none⟩ = some (.slice a9 n9 k9))
   (h10 : w.cell? ⟨b, 10, none⟩ = some (.bool false)) (h11 : w.cell? ⟨b, 11, none⟩ = some (.slice none 0 0)) (h12 : w.cell? ⟨b, 12, none⟩ = some (.slice none 0 0)) (h13 : w.cell? ⟨b, 13, none⟩ = some (.slice none 0 0)) (h14 : w.cell? ⟨b, 14, none⟩ = some (.string ByteArray.empty)) (h15 : w.cell? ⟨b, 15, none⟩ = some (.slice none 0 0)) :
    Calls Tryz.prog 4 #[.slice (some ⟨b, 0, none⟩) 1 1] w (SomeB w) := by
  go_enter Tryz.func4, Tryz.ntmps4
  go_wp2_with fail
  refine wp_loop_rounds 2 ?_; rw [rounds_succ]
  go_wp2_with fail
  have hst := heavy_st0 w s2 s3 s4 a5 a6 a7 a8 a9 n5 n6 n7 n8 n9 k5 k6 k7 k8 k9 (wrap64 (wrap64 (wrap64 (wrap64 (wrap64 (10 + ↑n6) + ↑n5) + ↑n9) + ↑n7) + ↑n8))
  generalize ((w.alloc _).alloc _ : World) = w2 at hst ⊢
  clear h0 h1 h2 h3 h4 h5 h6 h7 h8 h9 h10 h11 h12 h13 h14 h15
  go_loopw [6] (fun k wr => ∃ j : Nat, j ≤ n6 ∧ k = .int .i64 j ∧ HeavySt w s2 s3 s4 a5 a6 n5 n6 k5 k6 wr) (fun k _ => n6 - (intOf k).toNat)
  case atStart => exact ⟨0, Nat.zero_le _, rfl, hst⟩
  case round =>
    obtain ⟨j, hj, rfl, hs⟩ := hrel
    have hs' := hs
    obtain ⟨hbel, ⟨v, hv⟩, hfr, c2, c3, c4, c5, c6, c11⟩ := hs
    by_cases hlt : j < n6
    · obtain ⟨q, o, t0, rfl, ht0, hq⟩ := hE (j * 2) (by omega)
      obtain ⟨_, _, t1, e, ht1, _⟩ := hE (j * 2 + 1) (by omega)
      cases e
      have g0 := (hbel.cell (p := ⟨q, o + j * 2, none⟩) hq).trans ht0
      have g1 : wr.cell? ⟨q, o + j * 2 + 1, none⟩ = some (.string t1) := (hbel.cell (p := ⟨q, o + (j * 2 + 1), none⟩) hq).trans ht1
      go_wp2_with fail
      go_still_tail 21, (by kernel_rfl)
      go_wp2
      exact ⟨⟨j + 1, by omega, by go_num, (hs'.store _).drew⟩, by simp [intOf]; omega⟩
    · have hge : ¬ j < n6 := hlt
      have : j = n6 := by omega
      subst this
      go_wp2_with fail
      clear hst hv hfr c2 c3 c4 c5 c6 c11 hbel
      go_loopw [7] (fun k wr => ∃ i : Nat, i ≤ n5 ∧ k = .int .i64 i ∧ HeavySt w s2 s3 s4 a5 a6 n5 j k5 k6 wr) (fun k _ => n5 - (intOf k).toNat)
      case atStart => exact ⟨0, Nat.zero_le _, rfl, hs'⟩
      case round =>
        obtain ⟨i, hi, rfl, hs⟩ := hrel
        have hs' := hs
        obtain ⟨hbel, ⟨v, hv⟩, hfr, c2, c3, c4, c5, c6, c11⟩ := hs
        by_cases hlt2 : i < n5
        · obtain ⟨q, o, t0, rfl, ht0, hq⟩ := hA i (by omega)
          have g0 := (hbel.cell (p := ⟨q, o + i, none⟩) hq).trans ht0
          go_wp2_with fail
          go_still_tail 10, (by kernel_rfl)
          go_wp2
          exact ⟨⟨i + 1, by omega, by go_num, (hs'.store _).drew⟩, by simp [intOf]; omega⟩
        · have : i = n5 := by omega
          subst this
          go_wp2_with fail
          refine wp_loop_rounds 1 ?_; rw [rounds_succ]
          go_wp2_with fail
          · go_ret
            exact ⟨_, rfl, hbel.setCell (Nat.le_refl _) _⟩
          · rw [rounds_succ]
            go_wp2_with fail
            go_ret
            exact ⟨_, rfl, hbel.setCell (Nat.le_refl _) _⟩
end Go.Proofs.YtmacmaaancfhiaaGreatDoor
end
