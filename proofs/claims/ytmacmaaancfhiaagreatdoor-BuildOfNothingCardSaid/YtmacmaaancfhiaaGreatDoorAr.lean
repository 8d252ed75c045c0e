/- Part of the proof: the arguments, opened. -/
import Derived.Test.YtmacmaaancfhiaaGreatDoorRows
import Derived.ProofKit
import Derived.OpenShut
section
set_option maxRecDepth 2000
set_option autoImplicit false
set_option maxRecDepth 20000
namespace Go.Ev
open Go.Proofs Go.Proofs.YtmacmaaancfhiaaGreatDoor Go.RowKit Go.ChangeShapes Go.WideShapes
theorem adda (a : Addr) (m n : Nat) : (a.add m).add n = a.add (m + n) := by
  unfold Addr.add; split <;> split <;> simp_all [Nat.add_assoc]
theorem addm (b o j : Nat) : (⟨b, o, none⟩ : Addr).add j = ⟨b, o + j, none⟩ := by unfold Addr.add; split <;> simp_all
/-- a slice whose cells, k an element, hold strings -/
def SlStr (w : World) (k : Nat) (v : Value) : Prop := ∃ (a : Option Addr) (n c : Nat), v = .slice a n c ∧ n ≤ 9223372036854775807 ∧ ∀ j, j < n * k → ∃ q o s, a = some ⟨q, o, none⟩ ∧ w.cell? ⟨q, o + j, none⟩ = some (.string s) ∧ q < w.heap.size
theorem strs_plain {w : World} {a : Addr} {m : Nat} (h : ∀ j, j < m → ∃ s, w.cell? (a.add j) = some (.string s)) : ∀ j, j < m → ∃ q o s, some a = some ⟨q, o, none⟩ ∧ w.cell? ⟨q, o + j, none⟩ = some (.string s) ∧ q < w.heap.size := by
  intro j hj
  obtain ⟨s0, h0⟩ := h 0 (by omega)
  obtain ⟨s, hs⟩ := h j hj
  obtain ⟨q, o, p⟩ := a
  have hp : p = none := by simpa [Addr.add] using World.cell?_spot h0
  subst hp
  rw [addm] at hs
  exact ⟨q, o, s, rfl, hs, World.block_lt_of_cell? _ _ hs⟩
section
variable {H : Type} {enc : TypeId × Value → H} {w : World} {base : Nat} {spare : Nat → Bool} {held : Bool}
theorem sl_any {t e : TypeId} {fuel : Nat} {cs : List Value} {x : DataW H × List MemPlace} (ht : Tryz.prog.underlying t = some (.slice e)) (h : DataW.trod enc Tryz.prog w base spare held fuel t cs = some x) : ∃ (a : Option Addr) (n c : Nat), cs = [.slice a n c] := by
  rcases DataW.trod_slice ht h with ⟨h0, _⟩ | ⟨a, len, cap, elems, rest, n, _, rfl, _⟩
  · exact ⟨_, _, _, h0⟩
  · exact ⟨_, _, _, rfl⟩
theorem sl_strs {t e : TypeId} {fuel : Nat} {cs : List Value} {x : DataW H × List MemPlace} (ht : Tryz.prog.underlying t = some (.slice e)) (he : Tryz.prog.underlying e = some .string) (hc : Tryz.prog.cellsOf e = 1)
    (h : DataW.trod enc Tryz.prog w base spare held fuel t cs = some x) : ∃ v, cs = [v] ∧ SlStr w 1 v := by
  rcases open_strings ht he hc h with ⟨rfl, _⟩ | ⟨a, len, cap, ss, rfl, _, hl, hm, hz, _, hcell, _⟩
  · exact ⟨_, rfl, _, _, _, rfl, by omega, fun j hj => by omega⟩
  · refine ⟨_, rfl, _, _, _, rfl, by unfold maxLen at hm; omega, strs_plain fun j hj => ?_⟩
    have hj' : j < ss.length := by rw [hz]; split <;> omega
    exact ⟨_, hcell j hj'⟩
theorem cells_two {a : Addr} {cs : List Value} (h : w.cells? base a 2 = some cs) : ∃ u v, cs = [u, v] ∧ w.cell? (a.add 0) = some u ∧ w.cell? (a.add 1) = some v := by
  unfold World.cells? at h
  split at h
  · rw [show List.range 2 = [0, 1] from rfl] at h
    simp only [List.mapM_cons, List.mapM_nil, Option.pure_def, Option.bind_eq_bind, Option.bind_eq_some_iff] at h
    obtain ⟨u, hu, l, ⟨v, hv, l', hl', e2⟩, e1⟩ := h
    cases hl'; cases e2; cases e1
    exact ⟨u, v, rfl, hu, hv⟩
  · cases h
theorem sl_pairs {t e : TypeId} {f0 f1 : Field} {fuel : Nat} {cs : List Value} {x : DataW H × List MemPlace} (ht : Tryz.prog.underlying t = some (.slice e)) (he : Tryz.prog.underlying e = some (.struct #[f0, f1])) (hc : Tryz.prog.cellsOf e = 2)
    (h0 : Tryz.prog.underlying f0.type = some .string) (h1 : Tryz.prog.underlying f1.type = some .string) (c0 : Tryz.prog.cellsOf f0.type = 1) (c1 : Tryz.prog.cellsOf f1.type = 1) (o0 : f0.offset = 0) (o1 : f1.offset = 1)
    (h : DataW.trod enc Tryz.prog w base spare held fuel t cs = some x) : ∃ v, cs = [v] ∧ SlStr w 2 v := by
  rcases DataW.trod_slice ht h with ⟨rfl, _⟩ | ⟨a, len, cap, elems, rest, n, _, rfl, _, hb, hl, hm, hlen, hel, _⟩
  · exact ⟨_, rfl, _, _, _, rfl, by omega, fun j hj => by omega⟩
  · refine ⟨_, rfl, _, _, _, rfl, by unfold maxLen at hm; omega, strs_plain fun j hj => ?_⟩
    have hi : j / 2 < len := by omega
    have hE := hel (j / 2) hi
    rw [hc, List.getElem?_eq_getElem (by omega), Option.bind_eq_some_iff] at hE
    obtain ⟨cs', hcs, hy⟩ := hE
    obtain ⟨u, v, rfl, hu, hv⟩ := cells_two hcs
    obtain ⟨y0, y1, m, _, _, hf0, hf1⟩ := trod_struct2 he hy
    rw [o0, c0] at hf0
    rw [o1, c1] at hf1
    obtain ⟨s0, e0, _⟩ := DataW.trod_string h0 hf0
    obtain ⟨s1, e1, _⟩ := DataW.trod_string h1 hf1
    simp only [List.drop_zero, List.take_succ_cons, List.take_zero, List.drop_succ_cons, List.cons.injEq, and_true] at e0 e1
    subst e0 e1
    by_cases hj2 : j % 2 = 0
    · exact ⟨s0, by rw [show a.add j = (a.add (j / 2 * 2)).add 0 by rw [adda]; congr 1; omega]; exact hu⟩
    · exact ⟨s1, by rw [show a.add j = (a.add (j / 2 * 2)).add 1 by rw [adda]; congr 1; omega]; exact hv⟩
theorem list8 {l : List Value} (h : l.length = 8) : ∃ a b c d e f g i, l = [a, b, c, d, e, f, g, i] := by
  match l, h with
  | [a, b, c, d, e, f, g, i], _ => exact ⟨a, b, c, d, e, f, g, i, rfl⟩
/-- api.Drv -/
theorem drv_open {v : Value} {fuel : Nat} {x : DataW H × List MemPlace} {r : Reach} {b0 : Nat} (hv : Value.okWide Tryz.prog w r b0 28 v) (h : DataW.trod enc Tryz.prog w base spare held fuel 28 v.cells.toList = some x) :
    ∃ s0 s1 s2 v3 v4 a5 n5 c5 a6 n6 c6 a7 n7 c7, v = .agg #[.string s0, .string s1, .string s2, v3, v4, .slice a5 n5 c5, .slice a6 n6 c6, .slice a7 n7 c7] ∧ SlStr w 1 v3 ∧ SlStr w 2 v4 := by
  obtain ⟨cs, rfl, hsz⟩ := okWide_struct Tryz.underlying28 hv
  rw [show Tryz.prog.cellsOf 28 = 8 by kernel_rfl] at hsz
  obtain ⟨xs, n, _, _, _, hlen, hf⟩ := DataW.trod_struct Tryz.underlying28 h
  obtain ⟨l⟩ := cs
  obtain ⟨c0, c1, c2, c3, c4, c5, c6, c7, rfl⟩ := list8 hsz
  have k9 : Tryz.prog.cellsOf 9 = 1 := by kernel_rfl
  have k22 : Tryz.prog.cellsOf 22 = 1 := by kernel_rfl
  have k23 : Tryz.prog.cellsOf 23 = 1 := by kernel_rfl
  have k24 : Tryz.prog.cellsOf 24 = 1 := by kernel_rfl
  have k25 : Tryz.prog.cellsOf 25 = 1 := by kernel_rfl
  have k26 : Tryz.prog.cellsOf 26 = 1 := by kernel_rfl
  have hx : ∀ i, i < 8 → ∃ y, xs[i]? = some y := fun i hi => ⟨_, List.getElem?_eq_getElem (by rw [hlen]; exact hi)⟩
  obtain ⟨y0, e0⟩ := hx 0 (by omega)
  obtain ⟨y1, e1⟩ := hx 1 (by omega)
  obtain ⟨y2, e2⟩ := hx 2 (by omega)
  obtain ⟨y3, e3⟩ := hx 3 (by omega)
  obtain ⟨y4, e4⟩ := hx 4 (by omega)
  obtain ⟨y5, e5⟩ := hx 5 (by omega)
  obtain ⟨y6, e6⟩ := hx 6 (by omega)
  obtain ⟨y7, e7⟩ := hx 7 (by omega)
  have f0 : DataW.trod enc Tryz.prog w base spare held n 9 [c0] = some y0 := by
    have e : ((([c0, c1, c2, c3, c4, c5, c6, c7] : List Value).drop 0).take (Tryz.prog.cellsOf 9)) = [c0] := by rw [k9]; rfl
    rw [← e]; exact (hf 0 _ rfl).trans e0
  have f1 : DataW.trod enc Tryz.prog w base spare held n 9 [c1] = some y1 := by
    have e : ((([c0, c1, c2, c3, c4, c5, c6, c7] : List Value).drop 1).take (Tryz.prog.cellsOf 9)) = [c1] := by rw [k9]; rfl
    rw [← e]; exact (hf 1 _ rfl).trans e1
  have f2 : DataW.trod enc Tryz.prog w base spare held n 9 [c2] = some y2 := by
    have e : ((([c0, c1, c2, c3, c4, c5, c6, c7] : List Value).drop 2).take (Tryz.prog.cellsOf 9)) = [c2] := by rw [k9]; rfl
    rw [← e]; exact (hf 2 _ rfl).trans e2
  have f3 : DataW.trod enc Tryz.prog w base spare held n 22 [c3] = some y3 := by
    have e : ((([c0, c1, c2, c3, c4, c5, c6, c7] : List Value).drop 3).take (Tryz.prog.cellsOf 22)) = [c3] := by rw [k22]; rfl
    rw [← e]; exact (hf 3 _ rfl).trans e3
  have f4 : DataW.trod enc Tryz.prog w base spare held n 23 [c4] = some y4 := by
    have e : ((([c0, c1, c2, c3, c4, c5, c6, c7] : List Value).drop 4).take (Tryz.prog.cellsOf 23)) = [c4] := by rw [k23]; rfl
    rw [← e]; exact (hf 4 _ rfl).trans e4
  have f5 : DataW.trod enc Tryz.prog w base spare held n 24 [c5] = some y5 := by
    have e : ((([c0, c1, c2, c3, c4, c5, c6, c7] : List Value).drop 5).take (Tryz.prog.cellsOf 24)) = [c5] := by rw [k24]; rfl
    rw [← e]; exact (hf 5 _ rfl).trans e5
  have f6 : DataW.trod enc Tryz.prog w base spare held n 25 [c6] = some y6 := by
    have e : ((([c0, c1, c2, c3, c4, c5, c6, c7] : List Value).drop 6).take (Tryz.prog.cellsOf 25)) = [c6] := by rw [k25]; rfl
    rw [← e]; exact (hf 6 _ rfl).trans e6
  have f7 : DataW.trod enc Tryz.prog w base spare held n 26 [c7] = some y7 := by
    have e : ((([c0, c1, c2, c3, c4, c5, c6, c7] : List Value).drop 7).take (Tryz.prog.cellsOf 26)) = [c7] := by rw [k26]; rfl
    rw [← e]; exact (hf 7 _ rfl).trans e7
  obtain ⟨s0, q0, _⟩ := DataW.trod_string Tryz.underlying9 f0
  obtain ⟨s1, q1, _⟩ := DataW.trod_string Tryz.underlying9 f1
  obtain ⟨s2, q2, _⟩ := DataW.trod_string Tryz.underlying9 f2
  obtain ⟨v3, q3, hv3⟩ := sl_strs Tryz.underlying22 Tryz.underlying9 k9 f3
  obtain ⟨v4, q4, hv4⟩ := sl_pairs Tryz.underlying23 Tryz.underlying49 (by kernel_rfl) Tryz.underlying9 Tryz.underlying9 k9 k9 rfl rfl f4
  obtain ⟨a5, n5, m5, q5⟩ := sl_any Tryz.underlying24 f5
  obtain ⟨a6, n6, m6, q6⟩ := sl_any Tryz.underlying25 f6
  obtain ⟨a7, n7, m7, q7⟩ := sl_any Tryz.underlying26 f7
  simp only [List.cons.injEq, and_true] at q0 q1 q2 q3 q4 q5 q6 q7
  subst q0 q1 q2 q3 q4 q5 q6 q7
  exact ⟨s0, s1, s2, _, _, _, _, _, _, _, _, _, _, _, rfl, hv3, hv4⟩
end
end Go.Ev
end
