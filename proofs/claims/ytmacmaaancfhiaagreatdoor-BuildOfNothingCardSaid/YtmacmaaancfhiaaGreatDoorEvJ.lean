/- Part of the proof: a verified evaluator of the model (its definitions, and that it is sound). -/
import Derived.Test.YtmacmaaancfhiaaGreatDoorEvD
import Derived.AtR
section
set_option maxRecDepth 2000
set_option autoImplicit false
set_option linter.unusedSimpArgs false
set_option linter.unusedVariables false
namespace Go.Ev

/-! ### frames: what is known, and the machine -/
/-- What is known at a place of a frame: the slots, the blocks, the next one's name, the deferred calls. -/
structure AS where
  f : Nat → AV
  H : Bid → AObj
  nx : Bid
  d : List ADefer
/-- The frame is the one that x tells of. -/
structure BK (x : X) (b : Frame) (cs : List Frame) : Prop where
  fn : b.fn = x.fn
  flat : x.round = false → b.roundOf = none
  plain : x.dk = false → b.kind = .normal
  late : x.dk = true → b.kind = .deferred ∧ ∃ c rest, cs = c :: rest ∧ c.mode = .returning
structure SRel (φ : Phi) (s : AS) (nt : Nat) (w : World) (a : Act) : Prop where
  mem : R φ s.H s.nx w
  env : ER φ s.f a.tmps nt
  ds : DsR φ s.d a.defers
/-- From one row of things to do to another. -/
def Goes (P : Program) (x : X) (l l' : List Item) (s s' : AS) : Prop := ∀ (φ : Phi) (w : World) (b : Frame) (a : Act) (cs : List Frame), BK x b cs → SRel φ s x.nt w a →
  ∃ φ' w' a', SRel φ' s' x.nt w' a' ∧ Grows φ s.H s.nx w φ' s'.H s'.nx w' ∧ Steps P (lone (b.atR a l) cs w) (lone (b.atR a' l') cs w')
theorem Goes.refl (P : Program) (x : X) (l : List Item) (s : AS) : Goes P x l l s s := fun φ w b a cs _ h => ⟨φ, w, a, h, .refl _ _ _ _, .refl _ _⟩
theorem Goes.trans {P : Program} {x : X} {l l' l'' : List Item} {s s' s'' : AS} (h : Goes P x l l' s s') (h' : Goes P x l' l'' s' s'') : Goes P x l l'' s s'' := by
  intro φ w b a cs hb hs
  obtain ⟨φ₁, w₁, a₁, hs₁, hg₁, hp₁⟩ := h φ w b a cs hb hs
  obtain ⟨φ₂, w₂, a₂, hs₂, hg₂, hp₂⟩ := h' φ₁ w₁ b a₁ cs hb hs₁
  exact ⟨φ₂, w₂, a₂, hs₂, hg₁.trans hg₂, hp₁.trans hp₂⟩
/-- One step that looks at nothing. -/
theorem Goes.step {P : Program} {x : X} {l l' : List Item} (s : AS) (h : ∀ (w : World) (b : Frame) (a : Act) (cs : List Frame), step P (lone (b.atR a l) cs w) = .next (lone (b.atR a l') cs w)) : Goes P x l l' s s :=
  fun φ w b a cs _ hs => ⟨φ, w, a, hs, .refl _ _ _ _, .one (h w b a cs)⟩
/-- The same way out. -/
def SameOut (q : AExit) (k k' : List Item) : Prop := match q with
  | .exit id => exitTo id k' = exitTo id k
  | .goto l => gotoIn l k' = gotoIn l k
  | .ret => True
theorem SameOut.refl (q : AExit) (k : List Item) : SameOut q k k := by cases q <;> first | rfl | trivial
theorem SameOut.trans {q : AExit} {k k' k'' : List Item} (h : SameOut q k k') (h' : SameOut q k' k'') : SameOut q k k'' := by
  cases q with
  | exit id => exact Eq.trans h' h
  | goto l => exact Eq.trans h' h
  | ret => trivial
theorem SameOut.pass {q : AExit} {i : Item} (k : List Item) (hi : i.plain = true) : SameOut q k (i :: k) := by
  cases q with
  | exit id => cases i <;> first | rfl | (simp [Item.plain] at hi)
  | goto l => cases i <;> first | rfl | (simp [Item.plain] at hi)
  | ret => trivial
/-- What a piece of code comes to: it ends, or leaves. -/
def Ends (P : Program) (x : X) (c : Code) (s s' : AS) : Prop := ∀ k, Goes P x (.code c :: k) k s s'
def Leaves (P : Program) (x : X) (l : List Item) (q : AExit) (s s' : AS) : Prop := ∀ k, ∃ k', SameOut q k k' ∧ Goes P x (l ++ k) (.code (jumpOf q) :: k') s s'
theorem stepR_scope {P : Program} {b : Frame} {a : Act} {k : List Item} {cs : List Frame} {w : World} {c : Code} :
    step P (lone (b.atR a (.code (.scope c) :: k)) cs w) = .next (lone (b.atR a (.code c :: .inScope c :: k)) cs w) :=
  step_lone_go (by simp [stepG, stepG.exec, Frame.atR])
theorem stepR_inScope {P : Program} {b : Frame} {a : Act} {k : List Item} {cs : List Frame} {w : World} {c : Code} :
    step P (lone (b.atR a (.inScope c :: k)) cs w) = .next (lone (b.atR a k) cs w) :=
  step_lone_go (by simp [stepG, stepG.exec, Frame.atR])
theorem Leaves.head {P : Program} {x : X} {l l' : List Item} {q : AExit} {s s₁ s' : AS} (h : ∀ k, Goes P x (l ++ k) (l' ++ k) s s₁) (h' : Leaves P x l' q s₁ s') : Leaves P x l q s s' := by
  intro k
  obtain ⟨k', h1, h2⟩ := h' k
  exact ⟨k', h1, (h k).trans h2⟩
/-- What stands behind is passed by. -/
theorem Leaves.behind {P : Program} {x : X} {l l' : List Item} {q : AExit} {s s' : AS} (h : Leaves P x l q s s') (hp : ∀ k, SameOut q k (l' ++ k)) : Leaves P x (l ++ l') q s s' := by
  intro k
  obtain ⟨k', h1, h2⟩ := h (l' ++ k)
  exact ⟨k', (hp k).trans h1, by rwa [List.append_assoc]⟩
end Go.Ev
end
