/- For every derivation d and every path p, pantrylaw15.BuildOfNothing(d, p) returns true and leaves what it was given as it was; no condition beyond the row's own. -/
import Derived.Test.YtmacmaaancfhiaaGreatDoorLw
import Derived.Test.YtmacmaaancfhiaaGreatDoorFd
import Derived.Test.YtmacmaaancfhiaaGreatDoorGl
import Derived.Test.YtmacmaaancfhiaaGreatDoorAr
import Derived.Test.YtmacmaaancfhiaaGreatDoorCards
import Derived.Test.YtmacmaaancfhiaaGreatDoorTie
import Derived.ProofKit
import Derived.OpenShut
import Derived.LaidMore
import Derived.Lay
import Derived.SevenTiedAt
import Derived.Stop.Joined
section
set_option maxRecDepth 2000

namespace Go.Proofs.YtmacmaaancfhiaaGreatDoor
open Go.ChangeShapes Go.WideShapes Go.ChangeAt Go.RowKit Go.Ev
open Go.ChangeMaps (open_string)

theorem own : ownKnob Tryz.prog.godebug = none := by kernel_rfl
theorem laidOut : laidOutB Tryz.prog = true := jE
theorem glob_below {w w' : World} {l : List (Nat × TypeId × List AV)} (h : GlobAt w l) (hb : Below w.heap.size w w') : GlobAt w' l := by
  intro x hx
  obtain ⟨h1, cc, fr, h2, h3⟩ := h x hx
  exact ⟨h1, cc, fr, (hb.block _ (Array.getElem?_eq_some_iff.1 h2).1).trans h2, h3⟩

set_option maxRecDepth 100000 in
theorem lifted (os : Os) (started : os.Started) (H : Type) (enc : TypeId × Value → H) :
    ReturnsInHanded {} Tryz.checked os 3 .any (fun w args => (Rows.buildOfNothingSpec.pre enc Tryz.prog Tryz.f3 Rows.buildOfNothingRow.domain false w args ∧ laidMetH Tryz.prog Rows.buildOfNothingRow.laid w) ∧ sizedMet enc Tryz.prog Tryz.f3 (OpenSpec.ofChange Rows.buildOfNothingSpec) false w args)
      (Rows.buildOfNothingSpec.post enc Tryz.prog Tryz.f3 false true false false) := by
  refine returnsInHanded_of_calls (C := Tryz.checked) own started (by kernel_rfl)
    (ChangeSpec.witness_shaped (enc := enc) (C := Tryz.checked) (os := os) (X := fun w _ => laidMetH Tryz.prog Rows.buildOfNothingRow.laid w) false (World.laidAll Tryz.prog os Rows.buildOfNothingRow.laid)
      #[.agg #[.string .empty, .string .empty, .string .empty, .slice none 0 0, .slice none 0 0, .slice none 0 0, .slice none 0 0, .slice none 0 0], .string .empty] 8 (World.laidAll_os _ _ _)
      (World.shaped_of_ZipB (by kernel_rfl) (by kernel_rfl)) (by kernel_rfl) (by kernel_rfl) (by kernel_rfl)
      (by rw [MakeChecks.laidMetH_plain _ _ _ (by kernel_rfl)]; exact laidMet_laidAll _ (by kernel_rfl) (by kernel_rfl))) ?_
  intro w tape i _ hsh _ hok hpre _
  obtain ⟨_, _, _, fn', hfn', _, _, _, _, hval0⟩ := hok
  obtain rfl : fn' = Tryz.f3 := Option.some.inj (hfn'.symm.trans Tryz.func3)
  obtain ⟨⟨⟨ds, gs, before, hw, _⟩, hx⟩, _⟩ := hpre
  have hW := DataW.Whole.of_heap (w' := w.forCall tape i) (by rfl) hw
  have hL : laidMetH Tryz.prog Rows.buildOfNothingRow.laid (w.forCall tape i) := hx.of_heap (by rfl)
  have hg := glob_at hsh hL
  have fin : Calls Tryz.prog 3 i.args (w.forCall tape i) fun e W' => ∃ v, e = .returned v ∧ Rows.buildOfNothingSpec.post enc Tryz.prog Tryz.f3 false true false false (w.forCall tape i) i.args v W' := by
    clear hx hL hsh hw
    generalize w.forCall tape i = W at *
    generalize i.args = args at *
    have hval : ∀ (j : Nat) t v, Tryz.f3.params[j]? = some t → args[j]? = some v → Value.okWide Tryz.prog W .any w.heap.size t v := hval0
    have hW' := hW
    obtain ⟨p, q, hA0, hV, rfl, _, _⟩ := hW
    have hA : DataW.TrodAll enc Tryz.prog W 0 (fun _ => true) true Tryz.f3.params.toList args.toList ds p := hA0
    rw [Tryz.params3] at hA hval
    obtain ⟨v0, v1, d0, d1, p0, p1, rfl, rfl, rfl, h0, h1⟩ := trodAll_two hA
    obtain ⟨rfl, rfl⟩ := trodVars_none hV
    simp only [List.append_nil] at hW'
    have hlt0 : ∀ x ∈ p0, x.block < W.heap.size := fun x hx => by simpa using hW'.lt x (by simp [hx])
    have hlt1 : ∀ x ∈ p1, x.block < W.heap.size := fun x hx => by simpa using hW'.lt x (by simp [hx])
    have r0 : ∀ W', Below W.heap.size W W' → DataW.Trod enc Tryz.prog W' 0 (fun b => decide (b < W.heap.size)) true 28 v0 d0 p0 := fun W' hn => Below.trod laidOut (by kernel_rfl) (of_decide_eq_true (by kernel_rfl)) h0 hn hlt0
    have r1 : ∀ W', Below W.heap.size W W' → DataW.Trod enc Tryz.prog W' 0 (fun b => decide (b < W.heap.size)) true 29 v1 d1 p1 := fun W' hn => Below.trod laidOut (by kernel_rfl) (of_decide_eq_true (by kernel_rfl)) h1 hn hlt1
    obtain ⟨fuel, hf⟩ := h0
    obtain ⟨s0, s1, s2, v3, v4, a7, n7, k7, a8, n8, k8, a9, n9, k9, rfl, ⟨a5, n5, k5, rfl, h5n, hA5⟩, ⟨a6, n6, k6, rfl, h6n, hE6⟩⟩ := drv_open (hval 0 28 v0 rfl rfl) hf
    obtain ⟨s, rfl, rfl, rfl, _⟩ := open_string Tryz.underlying29 (hval 1 29 v1 rfl rfl) h1
    refine (law s0 s1 s2 a5 a6 a7 a8 a9 n5 n6 n7 n8 n9 k5 k6 k7 k8 k9 s W (fun w' hb => known_true w' (glob_below hg hb)) h5n h6n (by simpa using hA5) hE6).mono fun e W' ⟨he, hb⟩ => ?_
    subst he
    exact ⟨_, rfl, _, _, _, [], p0 ++ [], [], hW', trodAll_mk1 (shut_bool Tryz.underlying4 true), trodAll_mk2 (r0 _ hb) (r1 _ hb), rfl, hb.frame _, fun h => by cases h⟩
  refine fin.mono fun e W' ⟨v, he, hp⟩ => ?_
  subst he
  exact ChangeSpec.post_blind hp

theorem row_holds : Rows.BuildOfNothingSaid :=
  OpenClaim.holds_of_wide 3 Tryz.f3 rfl rfl rfl rfl rfl rfl rfl ⟨rfl, rfl, rfl, rfl, rfl⟩ rfl rfl rfl rfl rfl (by kernel_rfl) Tryz.func3 joined
    (of_decide_eq_true (by kernel_rfl)) (by unfold Func.isWrapper; first | (rw [if_pos (by decide +kernel)]; kernel_rfl) | (rw [if_neg (by decide +kernel)]; exact ⟨rfl, rfl⟩))
    (fun os started H enc _ => lifted os started H enc)
theorem buildOfNothing_holds : Rows.BuildOfNothingCardSaid :=
  Claim7.holds_tied_plain_at .later [] [.data, .data, .data, .data, .pinned] true (true, "856494a7df8e73e76dbc7083cea56abe94aecd91463d4a607844af4fa4baf7d9") true row_holds (fun _ h => by cases h) (by kernel_rfl) (fun _ h => by cases h) buildOfNothing_row_tie rfl ⟨rfl, rfl⟩ (by kernel_rfl) rfl
    (fun f fn hf hfn => by
      obtain rfl : f = 3 := Option.some.inj ((show Tryz.prog.funcNamed "pantry/pantrylaw15.BuildOfNothing" = some 3 by kernel_rfl).symm.trans hf) |>.symm
      obtain rfl : fn = Tryz.f3 := (Option.some.inj (Tryz.func3.symm.trans hfn)).symm
      exact ⟨by kernel_rfl, fun j t ht => by
        rw [Tryz.params3] at ht
        have hm : t ∈ [28, 29] := by simpa using Array.mem_of_getElem? ht
        have hall : ([28, 29].all fun u => !Tryz.prog.wantsStandIn u) = true := by kernel_rfl
        exact (show Tryz.prog.wantsStandIn t = false by simpa using List.all_eq_true.1 hall t hm)⟩)
    (goesBy_none rfl noneGoes)
#print axioms buildOfNothing_holds
end Go.Proofs.YtmacmaaancfhiaaGreatDoor
end
