/- Part of the proof: a verified evaluator of the model (its definitions, and that it is sound). -/
import GoSem.Step
section
set_option maxRecDepth 2000
set_option autoImplicit false
set_option linter.unusedVariables false
namespace Go.Ev

/-- What a reckoning ends in: all is well; or it has stopped at a place of the code. -/
inductive A where
  | good
  | bad (f : Nat) (p : String)
def no : A := .bad 0 ""

inductive D where
  | d0 | d1 | d2 | d3 | d4 | d5 | d6 | d7 | d8 | d9 | da | db | dc | dd | de | df
  deriving DecidableEq
def D.num : D → Nat
  | .d0 => 0
  | .d1 => 1
  | .d2 => 2
  | .d3 => 3
  | .d4 => 4
  | .d5 => 5
  | .d6 => 6
  | .d7 => 7
  | .d8 => 8
  | .d9 => 9
  | .da => 10
  | .db => 11
  | .dc => 12
  | .dd => 13
  | .de => 14
  | .df => 15

noncomputable def D.nat (n : Nat) : D := (Bool.rec (Bool.rec (Bool.rec (Bool.rec D.d0 D.d1 (Nat.ble 1 n)) (Bool.rec D.d2 D.d3 (Nat.ble 3 n)) (Nat.ble 2 n)) (Bool.rec (Bool.rec D.d4 D.d5 (Nat.ble 5 n)) (Bool.rec D.d6 D.d7 (Nat.ble 7 n)) (Nat.ble 6 n)) (Nat.ble 4 n)) (Bool.rec (Bool.rec (Bool.rec D.d8 D.d9 (Nat.ble 9 n)) (Bool.rec D.da D.db (Nat.ble 11 n)) (Nat.ble 10 n)) (Bool.rec (Bool.rec D.dc D.dd (Nat.ble 13 n)) (Bool.rec D.de D.df (Nat.ble 15 n)) (Nat.ble 14 n)) (Nat.ble 12 n)) (Nat.ble 8 n))
noncomputable def D.incK (d : D) (k : D → A) (z : A) : A :=
  D.rec (k .d1) (k .d2) (k .d3) (k .d4) (k .d5) (k .d6) (k .d7) (k .d8) (k .d9) (k .da) (k .db) (k .dc) (k .dd) (k .de) (k .df) z d

/-! ### values -/
/-- A block's name. -/
inductive Bid where
  | mk (x3 x2 x1 x0 : D)
  deriving DecidableEq
/-- The number of a block. -/
def Bid.num : Bid → Nat
  | .mk a b c d => a.num * 4096 + b.num * 256 + c.num * 16 + d.num
noncomputable def Bid.incK (b : Bid) (k : Bid → A) : A :=
  Bid.rec (fun x3 x2 x1 x0 => x0.incK (fun d => k (.mk x3 x2 x1 d)) (x1.incK (fun d => k (.mk x3 x2 d .d0)) (x2.incK (fun d => k (.mk x3 d .d0 .d0)) (x3.incK (fun d => k (.mk d .d0 .d0 .d0)) no)))) b

inductive AFn where
  | func (f : FuncId)
  | method (name : String)
  | yield (b : Bid)

/-- A value, as far as it is known. int: a number that is no less than 0; neg k n: the number -(n + 1). A string: its length; its bytes as one number, the first one lowest. A slice: its block; where it begins; its length; its capacity is at least lo, and below hi (hi = 0: nothing more is known); the cells of an element. poison: nothing is known. cap: a capacity, at least lo and below hi. -/
inductive AV where
  | bool (b : Bool)
  | int (k : IntKind) (n : Nat)
  | neg (k : IntKind) (n : Nat)
  | str (len d : Nat)
  | nilp
  | ptr (b : Bid) (off : Nat)
  | nils
  | slice (b : Bid) (off len lo hi sz : Nat)
  | nilm
  | map (b : Bid)
  | nilf
  | func (fn : AFn) (first captured : List AV)
  | nili
  | iface (t : TypeId) (v : AV)
  | agg (cs : List AV)
  | tuple (vs : List AV)
  | poison
  | cap (lo hi : Nat)
def AV.undef : AV := .tuple []

noncomputable def asBoolK (v : AV) : (Bool → A) → A := AV.rec (motive_1 := fun _ => (Bool → A) → A) (motive_2 := fun _ => Unit)
  (fun b k => k b) (fun _ _ _ => no) (fun _ _ _ => no) (fun _ _ _ => no) (fun _ => no) (fun _ _ _ => no) (fun _ => no) (fun _ _ _ _ _ _ _ => no) (fun _ => no) (fun _ _ => no) (fun _ => no) (fun _ _ _ _ _ _ => no) (fun _ => no) (fun _ _ _ _ => no) (fun _ _ _ => no) (fun _ _ _ => no) (fun _ => no) (fun _ _ _ => no) () (fun _ _ _ _ => ()) v
/-- A number: no less than 0, or below. -/
noncomputable def asIntK (v : AV) : (IntKind → Nat → A) → (IntKind → Nat → A) → A := AV.rec (motive_1 := fun _ => (IntKind → Nat → A) → (IntKind → Nat → A) → A) (motive_2 := fun _ => Unit)
  (fun _ _ _ => no) (fun j n k _ => k j n) (fun j n _ k => k j n) (fun _ _ _ _ => no) (fun _ _ => no) (fun _ _ _ _ => no) (fun _ _ => no) (fun _ _ _ _ _ _ _ _ => no) (fun _ _ => no) (fun _ _ _ => no) (fun _ _ => no) (fun _ _ _ _ _ _ _ => no) (fun _ _ => no) (fun _ _ _ _ _ => no) (fun _ _ _ _ => no) (fun _ _ _ _ => no) (fun _ _ => no) (fun _ _ _ _ => no) () (fun _ _ _ _ => ()) v
noncomputable def asNatK (v : AV) : (IntKind → Nat → A) → A := AV.rec (motive_1 := fun _ => (IntKind → Nat → A) → A) (motive_2 := fun _ => Unit)
  (fun _ _ => no) (fun j n k => k j n) (fun _ _ _ => no) (fun _ _ _ => no) (fun _ => no) (fun _ _ _ => no) (fun _ => no) (fun _ _ _ _ _ _ _ => no) (fun _ => no) (fun _ _ => no) (fun _ => no) (fun _ _ _ _ _ _ => no) (fun _ => no) (fun _ _ _ _ => no) (fun _ _ _ => no) (fun _ _ _ => no) (fun _ => no) (fun _ _ _ => no) () (fun _ _ _ _ => ()) v
noncomputable def asStrK (v : AV) : (Nat → Nat → A) → A := AV.rec (motive_1 := fun _ => (Nat → Nat → A) → A) (motive_2 := fun _ => Unit)
  (fun _ _ => no) (fun _ _ _ => no) (fun _ _ _ => no) (fun l d k => k l d) (fun _ => no) (fun _ _ _ => no) (fun _ => no) (fun _ _ _ _ _ _ _ => no) (fun _ => no) (fun _ _ => no) (fun _ => no) (fun _ _ _ _ _ _ => no) (fun _ => no) (fun _ _ _ _ => no) (fun _ _ _ => no) (fun _ _ _ => no) (fun _ => no) (fun _ _ _ => no) () (fun _ _ _ _ => ()) v
noncomputable def asPtrK (v : AV) : (Bid → Nat → A) → A := AV.rec (motive_1 := fun _ => (Bid → Nat → A) → A) (motive_2 := fun _ => Unit)
  (fun _ _ => no) (fun _ _ _ => no) (fun _ _ _ => no) (fun _ _ _ => no) (fun _ => no) (fun b i k => k b i) (fun _ => no) (fun _ _ _ _ _ _ _ => no) (fun _ => no) (fun _ _ => no) (fun _ => no) (fun _ _ _ _ _ _ => no) (fun _ => no) (fun _ _ _ _ => no) (fun _ _ _ => no) (fun _ _ _ => no) (fun _ => no) (fun _ _ _ => no) () (fun _ _ _ _ => ()) v
/-- A pointer: z where it is nil. -/
noncomputable def asPtrZ (v : AV) : A → (Bid → Nat → A) → A := AV.rec (motive_1 := fun _ => A → (Bid → Nat → A) → A) (motive_2 := fun _ => Unit)
  (fun _ _ _ => no) (fun _ _ _ _ => no) (fun _ _ _ _ => no) (fun _ _ _ _ => no) (fun z _ => z) (fun b i _ k => k b i) (fun _ _ => no) (fun _ _ _ _ _ _ _ _ => no) (fun _ _ => no) (fun _ _ _ => no) (fun _ _ => no) (fun _ _ _ _ _ _ _ => no) (fun _ _ => no) (fun _ _ _ _ _ => no) (fun _ _ _ _ => no) (fun _ _ _ _ => no) (fun _ _ => no) (fun _ _ _ _ => no) () (fun _ _ _ _ => ()) v
/-- A slice: z where it is nil. -/
noncomputable def asSlK (v : AV) : A → (Bid → Nat → Nat → Nat → Nat → Nat → A) → A := AV.rec (motive_1 := fun _ => A → (Bid → Nat → Nat → Nat → Nat → Nat → A) → A) (motive_2 := fun _ => Unit)
  (fun _ _ _ => no) (fun _ _ _ _ => no) (fun _ _ _ _ => no) (fun _ _ _ _ => no) (fun _ _ => no) (fun _ _ _ _ => no) (fun z _ => z) (fun b o n l h s _ k => k b o n l h s) (fun _ _ => no) (fun _ _ _ => no) (fun _ _ => no) (fun _ _ _ _ _ _ _ => no) (fun _ _ => no) (fun _ _ _ _ _ => no) (fun _ _ _ _ => no) (fun _ _ _ _ => no) (fun _ _ => no) (fun _ _ _ _ => no) () (fun _ _ _ _ => ()) v
noncomputable def asMapK (v : AV) : A → (Bid → A) → A := AV.rec (motive_1 := fun _ => A → (Bid → A) → A) (motive_2 := fun _ => Unit)
  (fun _ _ _ => no) (fun _ _ _ _ => no) (fun _ _ _ _ => no) (fun _ _ _ _ => no) (fun _ _ => no) (fun _ _ _ _ => no) (fun _ _ => no) (fun _ _ _ _ _ _ _ _ => no) (fun z _ => z) (fun b _ k => k b) (fun _ _ => no) (fun _ _ _ _ _ _ _ => no) (fun _ _ => no) (fun _ _ _ _ _ => no) (fun _ _ _ _ => no) (fun _ _ _ _ => no) (fun _ _ => no) (fun _ _ _ _ => no) () (fun _ _ _ _ => ()) v
noncomputable def asFuncK (v : AV) : A → (AFn → List AV → List AV → A) → A := AV.rec (motive_1 := fun _ => A → (AFn → List AV → List AV → A) → A) (motive_2 := fun _ => Unit)
  (fun _ _ _ => no) (fun _ _ _ _ => no) (fun _ _ _ _ => no) (fun _ _ _ _ => no) (fun _ _ => no) (fun _ _ _ _ => no) (fun _ _ => no) (fun _ _ _ _ _ _ _ _ => no) (fun _ _ => no) (fun _ _ _ => no) (fun z _ => z) (fun f a b _ _ _ k => k f a b) (fun _ _ => no) (fun _ _ _ _ _ => no) (fun _ _ _ _ => no) (fun _ _ _ _ => no) (fun _ _ => no) (fun _ _ _ _ => no) () (fun _ _ _ _ => ()) v
noncomputable def asIfaceK (v : AV) : A → (TypeId → AV → A) → A := AV.rec (motive_1 := fun _ => A → (TypeId → AV → A) → A) (motive_2 := fun _ => Unit)
  (fun _ _ _ => no) (fun _ _ _ _ => no) (fun _ _ _ _ => no) (fun _ _ _ _ => no) (fun _ _ => no) (fun _ _ _ _ => no) (fun _ _ => no) (fun _ _ _ _ _ _ _ _ => no) (fun _ _ => no) (fun _ _ _ => no) (fun _ _ => no) (fun _ _ _ _ _ _ _ => no) (fun z _ => z) (fun t v _ _ k => k t v) (fun _ _ _ _ => no) (fun _ _ _ _ => no) (fun _ _ => no) (fun _ _ _ _ => no) () (fun _ _ _ _ => ()) v
noncomputable def asAggK (v : AV) : (List AV → A) → A := AV.rec (motive_1 := fun _ => (List AV → A) → A) (motive_2 := fun _ => Unit)
  (fun _ _ => no) (fun _ _ _ => no) (fun _ _ _ => no) (fun _ _ _ => no) (fun _ => no) (fun _ _ _ => no) (fun _ => no) (fun _ _ _ _ _ _ _ => no) (fun _ => no) (fun _ _ => no) (fun _ => no) (fun _ _ _ _ _ _ => no) (fun _ => no) (fun _ _ _ _ => no) (fun cs _ k => k cs) (fun _ _ _ => no) (fun _ => no) (fun _ _ _ => no) () (fun _ _ _ _ => ()) v
noncomputable def asTupleK (v : AV) : (List AV → A) → A := AV.rec (motive_1 := fun _ => (List AV → A) → A) (motive_2 := fun _ => Unit)
  (fun _ _ => no) (fun _ _ _ => no) (fun _ _ _ => no) (fun _ _ _ => no) (fun _ => no) (fun _ _ _ => no) (fun _ => no) (fun _ _ _ _ _ _ _ => no) (fun _ => no) (fun _ _ => no) (fun _ => no) (fun _ _ _ _ _ _ => no) (fun _ => no) (fun _ _ _ _ => no) (fun _ _ _ => no) (fun vs _ k => k vs) (fun _ => no) (fun _ _ _ => no) () (fun _ _ _ _ => ()) v
/-- The cells of a value. -/
noncomputable def cellsK (v : AV) : (List AV → A) → A := AV.rec (motive_1 := fun _ => (List AV → A) → A) (motive_2 := fun _ => Unit)
  (fun b k => k [.bool b]) (fun j n k => k [.int j n]) (fun j n k => k [.neg j n]) (fun l d k => k [.str l d]) (fun k => k [.nilp]) (fun b o k => k [.ptr b o]) (fun k => k [.nils]) (fun b o n l h s k => k [.slice b o n l h s]) (fun k => k [.nilm]) (fun b k => k [.map b]) (fun k => k [.nilf]) (fun f a b _ _ k => k [.func f a b]) (fun k => k [.nili]) (fun t v _ k => k [.iface t v]) (fun cs _ k => k cs) (fun _ _ _ => no) (fun _ => no) (fun _ _ _ => no) () (fun _ _ _ _ => ()) v
/-- Is it the value of one cell? -/
noncomputable def isOne (v : AV) : Bool := AV.rec (motive_1 := fun _ => Bool) (motive_2 := fun _ => Unit)
  (fun _ => true) (fun _ _ => true) (fun _ _ => true) (fun _ _ => true) (true) (fun _ _ => true) (true) (fun _ _ _ _ _ _ => true) (true) (fun _ => true) (true) (fun _ _ _ _ _ => true) (true) (fun _ _ _ => true) (fun _ _ => false) (fun _ _ => false) (false) (fun _ _ => false) () (fun _ _ _ _ => ()) v
/-- What a guard has given: none where nothing is known. -/
noncomputable def boolK (v : AV) : (Bool → A) → A → A := AV.rec (motive_1 := fun _ => (Bool → A) → A → A) (motive_2 := fun _ => Unit)
  (fun b k _ => k b) (fun _ _ _ _ => no) (fun _ _ _ _ => no) (fun _ _ _ _ => no) (fun _ _ => no) (fun _ _ _ _ => no) (fun _ _ => no) (fun _ _ _ _ _ _ _ _ => no) (fun _ _ => no) (fun _ _ _ => no) (fun _ _ => no) (fun _ _ _ _ _ _ _ => no) (fun _ _ => no) (fun _ _ _ _ _ => no) (fun _ _ _ _ => no) (fun _ _ _ z => z) (fun _ _ => no) (fun _ _ _ _ => no) () (fun _ _ _ _ => ()) v
/-- z: it is nil; k: it is not. -/
noncomputable def nilK (v : AV) : A → A → A := AV.rec (motive_1 := fun _ => A → A → A) (motive_2 := fun _ => Unit)
  (fun _ _ k => k) (fun _ _ _ k => k) (fun _ _ _ k => k) (fun _ _ _ k => k) (fun z _ => z) (fun _ _ _ k => k) (fun _ k => k) (fun _ _ _ _ _ _ _ k => k) (fun _ k => k) (fun _ _ k => k) (fun z _ => z) (fun f _ _ _ _ _ k => AFn.rec (fun _ => k) (fun _ => no) (fun _ => k) f) (fun z _ => z) (fun _ _ _ _ k => k) (fun _ _ _ k => k) (fun _ _ _ _ => no) (fun _ _ => no) (fun _ _ _ _ => no) () (fun _ _ _ _ => ()) v

/-- Sixteen of them, as what they are given to. -/
abbrev NV : Type := (AV → AV → AV → AV → AV → AV → AV → AV → AV → AV → AV → AV → AV → AV → AV → AV → A) → A
noncomputable def NV.mk (a0 a1 a2 a3 a4 a5 a6 a7 a8 a9 aa ab ac ad ae af : AV) : NV := fun z => z a0 a1 a2 a3 a4 a5 a6 a7 a8 a9 aa ab ac ad ae af
noncomputable def NV.all (x : AV) : NV := fun z => z x x x x x x x x x x x x x x x x
/-- What stands at the digits. -/
def NV.Is (n : NV) (f : D → AV) : Prop := ∀ z : AV → AV → AV → AV → AV → AV → AV → AV → AV → AV → AV → AV → AV → AV → AV → AV → A, n z = z (f .d0) (f .d1) (f .d2) (f .d3) (f .d4) (f .d5) (f .d6) (f .d7) (f .d8) (f .d9) (f .da) (f .db) (f .dc) (f .dd) (f .de) (f .df)
noncomputable def NV.pk (d : D) : NV → (AV → A) → A := D.rec (motive := fun _ => NV → (AV → A) → A)
  (fun n k => n fun a0 _ _ _ _ _ _ _ _ _ _ _ _ _ _ _ => k a0)
  (fun n k => n fun _ a1 _ _ _ _ _ _ _ _ _ _ _ _ _ _ => k a1)
  (fun n k => n fun _ _ a2 _ _ _ _ _ _ _ _ _ _ _ _ _ => k a2)
  (fun n k => n fun _ _ _ a3 _ _ _ _ _ _ _ _ _ _ _ _ => k a3)
  (fun n k => n fun _ _ _ _ a4 _ _ _ _ _ _ _ _ _ _ _ => k a4)
  (fun n k => n fun _ _ _ _ _ a5 _ _ _ _ _ _ _ _ _ _ => k a5)
  (fun n k => n fun _ _ _ _ _ _ a6 _ _ _ _ _ _ _ _ _ => k a6)
  (fun n k => n fun _ _ _ _ _ _ _ a7 _ _ _ _ _ _ _ _ => k a7)
  (fun n k => n fun _ _ _ _ _ _ _ _ a8 _ _ _ _ _ _ _ => k a8)
  (fun n k => n fun _ _ _ _ _ _ _ _ _ a9 _ _ _ _ _ _ => k a9)
  (fun n k => n fun _ _ _ _ _ _ _ _ _ _ aa _ _ _ _ _ => k aa)
  (fun n k => n fun _ _ _ _ _ _ _ _ _ _ _ ab _ _ _ _ => k ab)
  (fun n k => n fun _ _ _ _ _ _ _ _ _ _ _ _ ac _ _ _ => k ac)
  (fun n k => n fun _ _ _ _ _ _ _ _ _ _ _ _ _ ad _ _ => k ad)
  (fun n k => n fun _ _ _ _ _ _ _ _ _ _ _ _ _ _ ae _ => k ae)
  (fun n k => n fun _ _ _ _ _ _ _ _ _ _ _ _ _ _ _ af => k af) d
noncomputable def NV.up (d : D) : AV → NV → (NV → A) → A := D.rec (motive := fun _ => AV → NV → (NV → A) → A)
  (fun v n k => n fun _ a1 a2 a3 a4 a5 a6 a7 a8 a9 aa ab ac ad ae af => k fun z => z v a1 a2 a3 a4 a5 a6 a7 a8 a9 aa ab ac ad ae af)
  (fun v n k => n fun a0 _ a2 a3 a4 a5 a6 a7 a8 a9 aa ab ac ad ae af => k fun z => z a0 v a2 a3 a4 a5 a6 a7 a8 a9 aa ab ac ad ae af)
  (fun v n k => n fun a0 a1 _ a3 a4 a5 a6 a7 a8 a9 aa ab ac ad ae af => k fun z => z a0 a1 v a3 a4 a5 a6 a7 a8 a9 aa ab ac ad ae af)
  (fun v n k => n fun a0 a1 a2 _ a4 a5 a6 a7 a8 a9 aa ab ac ad ae af => k fun z => z a0 a1 a2 v a4 a5 a6 a7 a8 a9 aa ab ac ad ae af)
  (fun v n k => n fun a0 a1 a2 a3 _ a5 a6 a7 a8 a9 aa ab ac ad ae af => k fun z => z a0 a1 a2 a3 v a5 a6 a7 a8 a9 aa ab ac ad ae af)
  (fun v n k => n fun a0 a1 a2 a3 a4 _ a6 a7 a8 a9 aa ab ac ad ae af => k fun z => z a0 a1 a2 a3 a4 v a6 a7 a8 a9 aa ab ac ad ae af)
  (fun v n k => n fun a0 a1 a2 a3 a4 a5 _ a7 a8 a9 aa ab ac ad ae af => k fun z => z a0 a1 a2 a3 a4 a5 v a7 a8 a9 aa ab ac ad ae af)
  (fun v n k => n fun a0 a1 a2 a3 a4 a5 a6 _ a8 a9 aa ab ac ad ae af => k fun z => z a0 a1 a2 a3 a4 a5 a6 v a8 a9 aa ab ac ad ae af)
  (fun v n k => n fun a0 a1 a2 a3 a4 a5 a6 a7 _ a9 aa ab ac ad ae af => k fun z => z a0 a1 a2 a3 a4 a5 a6 a7 v a9 aa ab ac ad ae af)
  (fun v n k => n fun a0 a1 a2 a3 a4 a5 a6 a7 a8 _ aa ab ac ad ae af => k fun z => z a0 a1 a2 a3 a4 a5 a6 a7 a8 v aa ab ac ad ae af)
  (fun v n k => n fun a0 a1 a2 a3 a4 a5 a6 a7 a8 a9 _ ab ac ad ae af => k fun z => z a0 a1 a2 a3 a4 a5 a6 a7 a8 a9 v ab ac ad ae af)
  (fun v n k => n fun a0 a1 a2 a3 a4 a5 a6 a7 a8 a9 aa _ ac ad ae af => k fun z => z a0 a1 a2 a3 a4 a5 a6 a7 a8 a9 aa v ac ad ae af)
  (fun v n k => n fun a0 a1 a2 a3 a4 a5 a6 a7 a8 a9 aa ab _ ad ae af => k fun z => z a0 a1 a2 a3 a4 a5 a6 a7 a8 a9 aa ab v ad ae af)
  (fun v n k => n fun a0 a1 a2 a3 a4 a5 a6 a7 a8 a9 aa ab ac _ ae af => k fun z => z a0 a1 a2 a3 a4 a5 a6 a7 a8 a9 aa ab ac v ae af)
  (fun v n k => n fun a0 a1 a2 a3 a4 a5 a6 a7 a8 a9 aa ab ac ad _ af => k fun z => z a0 a1 a2 a3 a4 a5 a6 a7 a8 a9 aa ab ac ad v af)
  (fun v n k => n fun a0 a1 a2 a3 a4 a5 a6 a7 a8 a9 aa ab ac ad ae _ => k fun z => z a0 a1 a2 a3 a4 a5 a6 a7 a8 a9 aa ab ac ad ae v) d
theorem NV.pk_eq (d : D) {n : NV} {f : D → AV} (h : NV.Is n f) (k : AV → A) : NV.pk d n k = k (f d) := by cases d <;> exact h _
theorem NV.up_eq (d : D) (v : AV) {n : NV} {f : D → AV} (h : NV.Is n f) (k : NV → A) : ∃ n', NV.Is n' (fun d' => if d' = d then v else f d') ∧ NV.up d v n k = k n' := by
  cases d <;> exact ⟨_, fun z => rfl, h _⟩
theorem NV.all_is (x : AV) : NV.Is (.all x) (fun _ => x) := fun _ => rfl

/-- Sixteen of them, as what they are given to. -/
abbrev NVV : Type := (NV → NV → NV → NV → NV → NV → NV → NV → NV → NV → NV → NV → NV → NV → NV → NV → A) → A
noncomputable def NVV.mk (a0 a1 a2 a3 a4 a5 a6 a7 a8 a9 aa ab ac ad ae af : NV) : NVV := fun z => z a0 a1 a2 a3 a4 a5 a6 a7 a8 a9 aa ab ac ad ae af
noncomputable def NVV.all (x : NV) : NVV := fun z => z x x x x x x x x x x x x x x x x
/-- What stands at the digits. -/
def NVV.Is (n : NVV) (f : D → NV) : Prop := ∀ z : NV → NV → NV → NV → NV → NV → NV → NV → NV → NV → NV → NV → NV → NV → NV → NV → A, n z = z (f .d0) (f .d1) (f .d2) (f .d3) (f .d4) (f .d5) (f .d6) (f .d7) (f .d8) (f .d9) (f .da) (f .db) (f .dc) (f .dd) (f .de) (f .df)
noncomputable def NVV.pk (d : D) : NVV → (NV → A) → A := D.rec (motive := fun _ => NVV → (NV → A) → A)
  (fun n k => n fun a0 _ _ _ _ _ _ _ _ _ _ _ _ _ _ _ => k a0)
  (fun n k => n fun _ a1 _ _ _ _ _ _ _ _ _ _ _ _ _ _ => k a1)
  (fun n k => n fun _ _ a2 _ _ _ _ _ _ _ _ _ _ _ _ _ => k a2)
  (fun n k => n fun _ _ _ a3 _ _ _ _ _ _ _ _ _ _ _ _ => k a3)
  (fun n k => n fun _ _ _ _ a4 _ _ _ _ _ _ _ _ _ _ _ => k a4)
  (fun n k => n fun _ _ _ _ _ a5 _ _ _ _ _ _ _ _ _ _ => k a5)
  (fun n k => n fun _ _ _ _ _ _ a6 _ _ _ _ _ _ _ _ _ => k a6)
  (fun n k => n fun _ _ _ _ _ _ _ a7 _ _ _ _ _ _ _ _ => k a7)
  (fun n k => n fun _ _ _ _ _ _ _ _ a8 _ _ _ _ _ _ _ => k a8)
  (fun n k => n fun _ _ _ _ _ _ _ _ _ a9 _ _ _ _ _ _ => k a9)
  (fun n k => n fun _ _ _ _ _ _ _ _ _ _ aa _ _ _ _ _ => k aa)
  (fun n k => n fun _ _ _ _ _ _ _ _ _ _ _ ab _ _ _ _ => k ab)
  (fun n k => n fun _ _ _ _ _ _ _ _ _ _ _ _ ac _ _ _ => k ac)
  (fun n k => n fun _ _ _ _ _ _ _ _ _ _ _ _ _ ad _ _ => k ad)
  (fun n k => n fun _ _ _ _ _ _ _ _ _ _ _ _ _ _ ae _ => k ae)
  (fun n k => n fun _ _ _ _ _ _ _ _ _ _ _ _ _ _ _ af => k af) d
noncomputable def NVV.up (d : D) : NV → NVV → (NVV → A) → A := D.rec (motive := fun _ => NV → NVV → (NVV → A) → A)
  (fun v n k => n fun _ a1 a2 a3 a4 a5 a6 a7 a8 a9 aa ab ac ad ae af => k fun z => z v a1 a2 a3 a4 a5 a6 a7 a8 a9 aa ab ac ad ae af)
  (fun v n k => n fun a0 _ a2 a3 a4 a5 a6 a7 a8 a9 aa ab ac ad ae af => k fun z => z a0 v a2 a3 a4 a5 a6 a7 a8 a9 aa ab ac ad ae af)
  (fun v n k => n fun a0 a1 _ a3 a4 a5 a6 a7 a8 a9 aa ab ac ad ae af => k fun z => z a0 a1 v a3 a4 a5 a6 a7 a8 a9 aa ab ac ad ae af)
  (fun v n k => n fun a0 a1 a2 _ a4 a5 a6 a7 a8 a9 aa ab ac ad ae af => k fun z => z a0 a1 a2 v a4 a5 a6 a7 a8 a9 aa ab ac ad ae af)
  (fun v n k => n fun a0 a1 a2 a3 _ a5 a6 a7 a8 a9 aa ab ac ad ae af => k fun z => z a0 a1 a2 a3 v a5 a6 a7 a8 a9 aa ab ac ad ae af)
  (fun v n k => n fun a0 a1 a2 a3 a4 _ a6 a7 a8 a9 aa ab ac ad ae af => k fun z => z a0 a1 a2 a3 a4 v a6 a7 a8 a9 aa ab ac ad ae af)
  (fun v n k => n fun a0 a1 a2 a3 a4 a5 _ a7 a8 a9 aa ab ac ad ae af => k fun z => z a0 a1 a2 a3 a4 a5 v a7 a8 a9 aa ab ac ad ae af)
  (fun v n k => n fun a0 a1 a2 a3 a4 a5 a6 _ a8 a9 aa ab ac ad ae af => k fun z => z a0 a1 a2 a3 a4 a5 a6 v a8 a9 aa ab ac ad ae af)
  (fun v n k => n fun a0 a1 a2 a3 a4 a5 a6 a7 _ a9 aa ab ac ad ae af => k fun z => z a0 a1 a2 a3 a4 a5 a6 a7 v a9 aa ab ac ad ae af)
  (fun v n k => n fun a0 a1 a2 a3 a4 a5 a6 a7 a8 _ aa ab ac ad ae af => k fun z => z a0 a1 a2 a3 a4 a5 a6 a7 a8 v aa ab ac ad ae af)
  (fun v n k => n fun a0 a1 a2 a3 a4 a5 a6 a7 a8 a9 _ ab ac ad ae af => k fun z => z a0 a1 a2 a3 a4 a5 a6 a7 a8 a9 v ab ac ad ae af)
  (fun v n k => n fun a0 a1 a2 a3 a4 a5 a6 a7 a8 a9 aa _ ac ad ae af => k fun z => z a0 a1 a2 a3 a4 a5 a6 a7 a8 a9 aa v ac ad ae af)
  (fun v n k => n fun a0 a1 a2 a3 a4 a5 a6 a7 a8 a9 aa ab _ ad ae af => k fun z => z a0 a1 a2 a3 a4 a5 a6 a7 a8 a9 aa ab v ad ae af)
  (fun v n k => n fun a0 a1 a2 a3 a4 a5 a6 a7 a8 a9 aa ab ac _ ae af => k fun z => z a0 a1 a2 a3 a4 a5 a6 a7 a8 a9 aa ab ac v ae af)
  (fun v n k => n fun a0 a1 a2 a3 a4 a5 a6 a7 a8 a9 aa ab ac ad _ af => k fun z => z a0 a1 a2 a3 a4 a5 a6 a7 a8 a9 aa ab ac ad v af)
  (fun v n k => n fun a0 a1 a2 a3 a4 a5 a6 a7 a8 a9 aa ab ac ad ae _ => k fun z => z a0 a1 a2 a3 a4 a5 a6 a7 a8 a9 aa ab ac ad ae v) d
theorem NVV.pk_eq (d : D) {n : NVV} {f : D → NV} (h : NVV.Is n f) (k : NV → A) : NVV.pk d n k = k (f d) := by cases d <;> exact h _
theorem NVV.up_eq (d : D) (v : NV) {n : NVV} {f : D → NV} (h : NVV.Is n f) (k : NVV → A) : ∃ n', NVV.Is n' (fun d' => if d' = d then v else f d') ∧ NVV.up d v n k = k n' := by
  cases d <;> exact ⟨_, fun z => rfl, h _⟩
theorem NVV.all_is (x : NV) : NVV.Is (.all x) (fun _ => x) := fun _ => rfl

/-- Sixteen of them, as what they are given to. -/
abbrev NV3 : Type := (NVV → NVV → NVV → NVV → NVV → NVV → NVV → NVV → NVV → NVV → NVV → NVV → NVV → NVV → NVV → NVV → A) → A
noncomputable def NV3.mk (a0 a1 a2 a3 a4 a5 a6 a7 a8 a9 aa ab ac ad ae af : NVV) : NV3 := fun z => z a0 a1 a2 a3 a4 a5 a6 a7 a8 a9 aa ab ac ad ae af
noncomputable def NV3.all (x : NVV) : NV3 := fun z => z x x x x x x x x x x x x x x x x
/-- What stands at the digits. -/
def NV3.Is (n : NV3) (f : D → NVV) : Prop := ∀ z : NVV → NVV → NVV → NVV → NVV → NVV → NVV → NVV → NVV → NVV → NVV → NVV → NVV → NVV → NVV → NVV → A, n z = z (f .d0) (f .d1) (f .d2) (f .d3) (f .d4) (f .d5) (f .d6) (f .d7) (f .d8) (f .d9) (f .da) (f .db) (f .dc) (f .dd) (f .de) (f .df)
noncomputable def NV3.pk (d : D) : NV3 → (NVV → A) → A := D.rec (motive := fun _ => NV3 → (NVV → A) → A)
  (fun n k => n fun a0 _ _ _ _ _ _ _ _ _ _ _ _ _ _ _ => k a0)
  (fun n k => n fun _ a1 _ _ _ _ _ _ _ _ _ _ _ _ _ _ => k a1)
  (fun n k => n fun _ _ a2 _ _ _ _ _ _ _ _ _ _ _ _ _ => k a2)
  (fun n k => n fun _ _ _ a3 _ _ _ _ _ _ _ _ _ _ _ _ => k a3)
  (fun n k => n fun _ _ _ _ a4 _ _ _ _ _ _ _ _ _ _ _ => k a4)
  (fun n k => n fun _ _ _ _ _ a5 _ _ _ _ _ _ _ _ _ _ => k a5)
  (fun n k => n fun _ _ _ _ _ _ a6 _ _ _ _ _ _ _ _ _ => k a6)
  (fun n k => n fun _ _ _ _ _ _ _ a7 _ _ _ _ _ _ _ _ => k a7)
  (fun n k => n fun _ _ _ _ _ _ _ _ a8 _ _ _ _ _ _ _ => k a8)
  (fun n k => n fun _ _ _ _ _ _ _ _ _ a9 _ _ _ _ _ _ => k a9)
  (fun n k => n fun _ _ _ _ _ _ _ _ _ _ aa _ _ _ _ _ => k aa)
  (fun n k => n fun _ _ _ _ _ _ _ _ _ _ _ ab _ _ _ _ => k ab)
  (fun n k => n fun _ _ _ _ _ _ _ _ _ _ _ _ ac _ _ _ => k ac)
  (fun n k => n fun _ _ _ _ _ _ _ _ _ _ _ _ _ ad _ _ => k ad)
  (fun n k => n fun _ _ _ _ _ _ _ _ _ _ _ _ _ _ ae _ => k ae)
  (fun n k => n fun _ _ _ _ _ _ _ _ _ _ _ _ _ _ _ af => k af) d
noncomputable def NV3.up (d : D) : NVV → NV3 → (NV3 → A) → A := D.rec (motive := fun _ => NVV → NV3 → (NV3 → A) → A)
  (fun v n k => n fun _ a1 a2 a3 a4 a5 a6 a7 a8 a9 aa ab ac ad ae af => k fun z => z v a1 a2 a3 a4 a5 a6 a7 a8 a9 aa ab ac ad ae af)
  (fun v n k => n fun a0 _ a2 a3 a4 a5 a6 a7 a8 a9 aa ab ac ad ae af => k fun z => z a0 v a2 a3 a4 a5 a6 a7 a8 a9 aa ab ac ad ae af)
  (fun v n k => n fun a0 a1 _ a3 a4 a5 a6 a7 a8 a9 aa ab ac ad ae af => k fun z => z a0 a1 v a3 a4 a5 a6 a7 a8 a9 aa ab ac ad ae af)
  (fun v n k => n fun a0 a1 a2 _ a4 a5 a6 a7 a8 a9 aa ab ac ad ae af => k fun z => z a0 a1 a2 v a4 a5 a6 a7 a8 a9 aa ab ac ad ae af)
  (fun v n k => n fun a0 a1 a2 a3 _ a5 a6 a7 a8 a9 aa ab ac ad ae af => k fun z => z a0 a1 a2 a3 v a5 a6 a7 a8 a9 aa ab ac ad ae af)
  (fun v n k => n fun a0 a1 a2 a3 a4 _ a6 a7 a8 a9 aa ab ac ad ae af => k fun z => z a0 a1 a2 a3 a4 v a6 a7 a8 a9 aa ab ac ad ae af)
  (fun v n k => n fun a0 a1 a2 a3 a4 a5 _ a7 a8 a9 aa ab ac ad ae af => k fun z => z a0 a1 a2 a3 a4 a5 v a7 a8 a9 aa ab ac ad ae af)
  (fun v n k => n fun a0 a1 a2 a3 a4 a5 a6 _ a8 a9 aa ab ac ad ae af => k fun z => z a0 a1 a2 a3 a4 a5 a6 v a8 a9 aa ab ac ad ae af)
  (fun v n k => n fun a0 a1 a2 a3 a4 a5 a6 a7 _ a9 aa ab ac ad ae af => k fun z => z a0 a1 a2 a3 a4 a5 a6 a7 v a9 aa ab ac ad ae af)
  (fun v n k => n fun a0 a1 a2 a3 a4 a5 a6 a7 a8 _ aa ab ac ad ae af => k fun z => z a0 a1 a2 a3 a4 a5 a6 a7 a8 v aa ab ac ad ae af)
  (fun v n k => n fun a0 a1 a2 a3 a4 a5 a6 a7 a8 a9 _ ab ac ad ae af => k fun z => z a0 a1 a2 a3 a4 a5 a6 a7 a8 a9 v ab ac ad ae af)
  (fun v n k => n fun a0 a1 a2 a3 a4 a5 a6 a7 a8 a9 aa _ ac ad ae af => k fun z => z a0 a1 a2 a3 a4 a5 a6 a7 a8 a9 aa v ac ad ae af)
  (fun v n k => n fun a0 a1 a2 a3 a4 a5 a6 a7 a8 a9 aa ab _ ad ae af => k fun z => z a0 a1 a2 a3 a4 a5 a6 a7 a8 a9 aa ab v ad ae af)
  (fun v n k => n fun a0 a1 a2 a3 a4 a5 a6 a7 a8 a9 aa ab ac _ ae af => k fun z => z a0 a1 a2 a3 a4 a5 a6 a7 a8 a9 aa ab ac v ae af)
  (fun v n k => n fun a0 a1 a2 a3 a4 a5 a6 a7 a8 a9 aa ab ac ad _ af => k fun z => z a0 a1 a2 a3 a4 a5 a6 a7 a8 a9 aa ab ac ad v af)
  (fun v n k => n fun a0 a1 a2 a3 a4 a5 a6 a7 a8 a9 aa ab ac ad ae _ => k fun z => z a0 a1 a2 a3 a4 a5 a6 a7 a8 a9 aa ab ac ad ae v) d
theorem NV3.pk_eq (d : D) {n : NV3} {f : D → NVV} (h : NV3.Is n f) (k : NVV → A) : NV3.pk d n k = k (f d) := by cases d <;> exact h _
theorem NV3.up_eq (d : D) (v : NVV) {n : NV3} {f : D → NVV} (h : NV3.Is n f) (k : NV3 → A) : ∃ n', NV3.Is n' (fun d' => if d' = d then v else f d') ∧ NV3.up d v n k = k n' := by
  cases d <;> exact ⟨_, fun z => rfl, h _⟩
theorem NV3.all_is (x : NVV) : NV3.Is (.all x) (fun _ => x) := fun _ => rfl

inductive AEnt where
  | mk (key val : AV) (born : Nat)
inductive ATarget where
  | fn (fn : AFn) (captured : List AV)
  | collected (b : Bid)
inductive ADefer where
  | mk (target : ATarget) (args : List AV)

abbrev Env := NVV
/-- A row of cells: as many as 16, 256, 4096. -/
inductive CT where
  | c1 (t : NV)
  | c2 (t : NVV)
  | c3 (t : NV3)

/-- plain; whole: the concrete block holds no more than is known, from its first cell on; read: it is never written. -/
inductive Kd where
  | plain | whole | read

inductive ALoopState where
  | ready | busy | done | exhausted

inductive AObj where
  | none
  | cells (ty : TypeId) (n : Nat) (t : CT) (kd : Kd)
  | bytes (ty : TypeId) (n d fz : Nat) (g : Bool)
  | map (es : List AEnt) (clock : Nat)
  | stringIter (len d pos : Nat)
  | mapIter (m : Bid) (since : Nat) (seen : List Nat) (stepped : Nat)
  | loop (state : ALoopState) (pending : Option Code) (fn : FuncId) (env : Env) (nt : Nat) (params : List Tmp) (assign body : Code) (defers : Bid)
  | deferred (calls : Option (List ADefer))
  | nilIter

/-- Sixteen of them, as what they are given to. -/
abbrev NO1 : Type := (AObj → AObj → AObj → AObj → AObj → AObj → AObj → AObj → AObj → AObj → AObj → AObj → AObj → AObj → AObj → AObj → A) → A
noncomputable def NO1.mk (a0 a1 a2 a3 a4 a5 a6 a7 a8 a9 aa ab ac ad ae af : AObj) : NO1 := fun z => z a0 a1 a2 a3 a4 a5 a6 a7 a8 a9 aa ab ac ad ae af
noncomputable def NO1.all (x : AObj) : NO1 := fun z => z x x x x x x x x x x x x x x x x
/-- What stands at the digits. -/
def NO1.Is (n : NO1) (f : D → AObj) : Prop := ∀ z : AObj → AObj → AObj → AObj → AObj → AObj → AObj → AObj → AObj → AObj → AObj → AObj → AObj → AObj → AObj → AObj → A, n z = z (f .d0) (f .d1) (f .d2) (f .d3) (f .d4) (f .d5) (f .d6) (f .d7) (f .d8) (f .d9) (f .da) (f .db) (f .dc) (f .dd) (f .de) (f .df)
noncomputable def NO1.pk (d : D) : NO1 → (AObj → A) → A := D.rec (motive := fun _ => NO1 → (AObj → A) → A)
  (fun n k => n fun a0 _ _ _ _ _ _ _ _ _ _ _ _ _ _ _ => k a0)
  (fun n k => n fun _ a1 _ _ _ _ _ _ _ _ _ _ _ _ _ _ => k a1)
  (fun n k => n fun _ _ a2 _ _ _ _ _ _ _ _ _ _ _ _ _ => k a2)
  (fun n k => n fun _ _ _ a3 _ _ _ _ _ _ _ _ _ _ _ _ => k a3)
  (fun n k => n fun _ _ _ _ a4 _ _ _ _ _ _ _ _ _ _ _ => k a4)
  (fun n k => n fun _ _ _ _ _ a5 _ _ _ _ _ _ _ _ _ _ => k a5)
  (fun n k => n fun _ _ _ _ _ _ a6 _ _ _ _ _ _ _ _ _ => k a6)
  (fun n k => n fun _ _ _ _ _ _ _ a7 _ _ _ _ _ _ _ _ => k a7)
  (fun n k => n fun _ _ _ _ _ _ _ _ a8 _ _ _ _ _ _ _ => k a8)
  (fun n k => n fun _ _ _ _ _ _ _ _ _ a9 _ _ _ _ _ _ => k a9)
  (fun n k => n fun _ _ _ _ _ _ _ _ _ _ aa _ _ _ _ _ => k aa)
  (fun n k => n fun _ _ _ _ _ _ _ _ _ _ _ ab _ _ _ _ => k ab)
  (fun n k => n fun _ _ _ _ _ _ _ _ _ _ _ _ ac _ _ _ => k ac)
  (fun n k => n fun _ _ _ _ _ _ _ _ _ _ _ _ _ ad _ _ => k ad)
  (fun n k => n fun _ _ _ _ _ _ _ _ _ _ _ _ _ _ ae _ => k ae)
  (fun n k => n fun _ _ _ _ _ _ _ _ _ _ _ _ _ _ _ af => k af) d
noncomputable def NO1.up (d : D) : AObj → NO1 → (NO1 → A) → A := D.rec (motive := fun _ => AObj → NO1 → (NO1 → A) → A)
  (fun v n k => n fun _ a1 a2 a3 a4 a5 a6 a7 a8 a9 aa ab ac ad ae af => k fun z => z v a1 a2 a3 a4 a5 a6 a7 a8 a9 aa ab ac ad ae af)
  (fun v n k => n fun a0 _ a2 a3 a4 a5 a6 a7 a8 a9 aa ab ac ad ae af => k fun z => z a0 v a2 a3 a4 a5 a6 a7 a8 a9 aa ab ac ad ae af)
  (fun v n k => n fun a0 a1 _ a3 a4 a5 a6 a7 a8 a9 aa ab ac ad ae af => k fun z => z a0 a1 v a3 a4 a5 a6 a7 a8 a9 aa ab ac ad ae af)
  (fun v n k => n fun a0 a1 a2 _ a4 a5 a6 a7 a8 a9 aa ab ac ad ae af => k fun z => z a0 a1 a2 v a4 a5 a6 a7 a8 a9 aa ab ac ad ae af)
  (fun v n k => n fun a0 a1 a2 a3 _ a5 a6 a7 a8 a9 aa ab ac ad ae af => k fun z => z a0 a1 a2 a3 v a5 a6 a7 a8 a9 aa ab ac ad ae af)
  (fun v n k => n fun a0 a1 a2 a3 a4 _ a6 a7 a8 a9 aa ab ac ad ae af => k fun z => z a0 a1 a2 a3 a4 v a6 a7 a8 a9 aa ab ac ad ae af)
  (fun v n k => n fun a0 a1 a2 a3 a4 a5 _ a7 a8 a9 aa ab ac ad ae af => k fun z => z a0 a1 a2 a3 a4 a5 v a7 a8 a9 aa ab ac ad ae af)
  (fun v n k => n fun a0 a1 a2 a3 a4 a5 a6 _ a8 a9 aa ab ac ad ae af => k fun z => z a0 a1 a2 a3 a4 a5 a6 v a8 a9 aa ab ac ad ae af)
  (fun v n k => n fun a0 a1 a2 a3 a4 a5 a6 a7 _ a9 aa ab ac ad ae af => k fun z => z a0 a1 a2 a3 a4 a5 a6 a7 v a9 aa ab ac ad ae af)
  (fun v n k => n fun a0 a1 a2 a3 a4 a5 a6 a7 a8 _ aa ab ac ad ae af => k fun z => z a0 a1 a2 a3 a4 a5 a6 a7 a8 v aa ab ac ad ae af)
  (fun v n k => n fun a0 a1 a2 a3 a4 a5 a6 a7 a8 a9 _ ab ac ad ae af => k fun z => z a0 a1 a2 a3 a4 a5 a6 a7 a8 a9 v ab ac ad ae af)
  (fun v n k => n fun a0 a1 a2 a3 a4 a5 a6 a7 a8 a9 aa _ ac ad ae af => k fun z => z a0 a1 a2 a3 a4 a5 a6 a7 a8 a9 aa v ac ad ae af)
  (fun v n k => n fun a0 a1 a2 a3 a4 a5 a6 a7 a8 a9 aa ab _ ad ae af => k fun z => z a0 a1 a2 a3 a4 a5 a6 a7 a8 a9 aa ab v ad ae af)
  (fun v n k => n fun a0 a1 a2 a3 a4 a5 a6 a7 a8 a9 aa ab ac _ ae af => k fun z => z a0 a1 a2 a3 a4 a5 a6 a7 a8 a9 aa ab ac v ae af)
  (fun v n k => n fun a0 a1 a2 a3 a4 a5 a6 a7 a8 a9 aa ab ac ad _ af => k fun z => z a0 a1 a2 a3 a4 a5 a6 a7 a8 a9 aa ab ac ad v af)
  (fun v n k => n fun a0 a1 a2 a3 a4 a5 a6 a7 a8 a9 aa ab ac ad ae _ => k fun z => z a0 a1 a2 a3 a4 a5 a6 a7 a8 a9 aa ab ac ad ae v) d
theorem NO1.pk_eq (d : D) {n : NO1} {f : D → AObj} (h : NO1.Is n f) (k : AObj → A) : NO1.pk d n k = k (f d) := by cases d <;> exact h _
theorem NO1.up_eq (d : D) (v : AObj) {n : NO1} {f : D → AObj} (h : NO1.Is n f) (k : NO1 → A) : ∃ n', NO1.Is n' (fun d' => if d' = d then v else f d') ∧ NO1.up d v n k = k n' := by
  cases d <;> exact ⟨_, fun z => rfl, h _⟩
theorem NO1.all_is (x : AObj) : NO1.Is (.all x) (fun _ => x) := fun _ => rfl

/-- Sixteen of them, as what they are given to. -/
abbrev NO2 : Type := (NO1 → NO1 → NO1 → NO1 → NO1 → NO1 → NO1 → NO1 → NO1 → NO1 → NO1 → NO1 → NO1 → NO1 → NO1 → NO1 → A) → A
noncomputable def NO2.mk (a0 a1 a2 a3 a4 a5 a6 a7 a8 a9 aa ab ac ad ae af : NO1) : NO2 := fun z => z a0 a1 a2 a3 a4 a5 a6 a7 a8 a9 aa ab ac ad ae af
noncomputable def NO2.all (x : NO1) : NO2 := fun z => z x x x x x x x x x x x x x x x x
/-- What stands at the digits. -/
def NO2.Is (n : NO2) (f : D → NO1) : Prop := ∀ z : NO1 → NO1 → NO1 → NO1 → NO1 → NO1 → NO1 → NO1 → NO1 → NO1 → NO1 → NO1 → NO1 → NO1 → NO1 → NO1 → A, n z = z (f .d0) (f .d1) (f .d2) (f .d3) (f .d4) (f .d5) (f .d6) (f .d7) (f .d8) (f .d9) (f .da) (f .db) (f .dc) (f .dd) (f .de) (f .df)
noncomputable def NO2.pk (d : D) : NO2 → (NO1 → A) → A := D.rec (motive := fun _ => NO2 → (NO1 → A) → A)
  (fun n k => n fun a0 _ _ _ _ _ _ _ _ _ _ _ _ _ _ _ => k a0)
  (fun n k => n fun _ a1 _ _ _ _ _ _ _ _ _ _ _ _ _ _ => k a1)
  (fun n k => n fun _ _ a2 _ _ _ _ _ _ _ _ _ _ _ _ _ => k a2)
  (fun n k => n fun _ _ _ a3 _ _ _ _ _ _ _ _ _ _ _ _ => k a3)
  (fun n k => n fun _ _ _ _ a4 _ _ _ _ _ _ _ _ _ _ _ => k a4)
  (fun n k => n fun _ _ _ _ _ a5 _ _ _ _ _ _ _ _ _ _ => k a5)
  (fun n k => n fun _ _ _ _ _ _ a6 _ _ _ _ _ _ _ _ _ => k a6)
  (fun n k => n fun _ _ _ _ _ _ _ a7 _ _ _ _ _ _ _ _ => k a7)
  (fun n k => n fun _ _ _ _ _ _ _ _ a8 _ _ _ _ _ _ _ => k a8)
  (fun n k => n fun _ _ _ _ _ _ _ _ _ a9 _ _ _ _ _ _ => k a9)
  (fun n k => n fun _ _ _ _ _ _ _ _ _ _ aa _ _ _ _ _ => k aa)
  (fun n k => n fun _ _ _ _ _ _ _ _ _ _ _ ab _ _ _ _ => k ab)
  (fun n k => n fun _ _ _ _ _ _ _ _ _ _ _ _ ac _ _ _ => k ac)
  (fun n k => n fun _ _ _ _ _ _ _ _ _ _ _ _ _ ad _ _ => k ad)
  (fun n k => n fun _ _ _ _ _ _ _ _ _ _ _ _ _ _ ae _ => k ae)
  (fun n k => n fun _ _ _ _ _ _ _ _ _ _ _ _ _ _ _ af => k af) d
noncomputable def NO2.up (d : D) : NO1 → NO2 → (NO2 → A) → A := D.rec (motive := fun _ => NO1 → NO2 → (NO2 → A) → A)
  (fun v n k => n fun _ a1 a2 a3 a4 a5 a6 a7 a8 a9 aa ab ac ad ae af => k fun z => z v a1 a2 a3 a4 a5 a6 a7 a8 a9 aa ab ac ad ae af)
  (fun v n k => n fun a0 _ a2 a3 a4 a5 a6 a7 a8 a9 aa ab ac ad ae af => k fun z => z a0 v a2 a3 a4 a5 a6 a7 a8 a9 aa ab ac ad ae af)
  (fun v n k => n fun a0 a1 _ a3 a4 a5 a6 a7 a8 a9 aa ab ac ad ae af => k fun z => z a0 a1 v a3 a4 a5 a6 a7 a8 a9 aa ab ac ad ae af)
  (fun v n k => n fun a0 a1 a2 _ a4 a5 a6 a7 a8 a9 aa ab ac ad ae af => k fun z => z a0 a1 a2 v a4 a5 a6 a7 a8 a9 aa ab ac ad ae af)
  (fun v n k => n fun a0 a1 a2 a3 _ a5 a6 a7 a8 a9 aa ab ac ad ae af => k fun z => z a0 a1 a2 a3 v a5 a6 a7 a8 a9 aa ab ac ad ae af)
  (fun v n k => n fun a0 a1 a2 a3 a4 _ a6 a7 a8 a9 aa ab ac ad ae af => k fun z => z a0 a1 a2 a3 a4 v a6 a7 a8 a9 aa ab ac ad ae af)
  (fun v n k => n fun a0 a1 a2 a3 a4 a5 _ a7 a8 a9 aa ab ac ad ae af => k fun z => z a0 a1 a2 a3 a4 a5 v a7 a8 a9 aa ab ac ad ae af)
  (fun v n k => n fun a0 a1 a2 a3 a4 a5 a6 _ a8 a9 aa ab ac ad ae af => k fun z => z a0 a1 a2 a3 a4 a5 a6 v a8 a9 aa ab ac ad ae af)
  (fun v n k => n fun a0 a1 a2 a3 a4 a5 a6 a7 _ a9 aa ab ac ad ae af => k fun z => z a0 a1 a2 a3 a4 a5 a6 a7 v a9 aa ab ac ad ae af)
  (fun v n k => n fun a0 a1 a2 a3 a4 a5 a6 a7 a8 _ aa ab ac ad ae af => k fun z => z a0 a1 a2 a3 a4 a5 a6 a7 a8 v aa ab ac ad ae af)
  (fun v n k => n fun a0 a1 a2 a3 a4 a5 a6 a7 a8 a9 _ ab ac ad ae af => k fun z => z a0 a1 a2 a3 a4 a5 a6 a7 a8 a9 v ab ac ad ae af)
  (fun v n k => n fun a0 a1 a2 a3 a4 a5 a6 a7 a8 a9 aa _ ac ad ae af => k fun z => z a0 a1 a2 a3 a4 a5 a6 a7 a8 a9 aa v ac ad ae af)
  (fun v n k => n fun a0 a1 a2 a3 a4 a5 a6 a7 a8 a9 aa ab _ ad ae af => k fun z => z a0 a1 a2 a3 a4 a5 a6 a7 a8 a9 aa ab v ad ae af)
  (fun v n k => n fun a0 a1 a2 a3 a4 a5 a6 a7 a8 a9 aa ab ac _ ae af => k fun z => z a0 a1 a2 a3 a4 a5 a6 a7 a8 a9 aa ab ac v ae af)
  (fun v n k => n fun a0 a1 a2 a3 a4 a5 a6 a7 a8 a9 aa ab ac ad _ af => k fun z => z a0 a1 a2 a3 a4 a5 a6 a7 a8 a9 aa ab ac ad v af)
  (fun v n k => n fun a0 a1 a2 a3 a4 a5 a6 a7 a8 a9 aa ab ac ad ae _ => k fun z => z a0 a1 a2 a3 a4 a5 a6 a7 a8 a9 aa ab ac ad ae v) d
theorem NO2.pk_eq (d : D) {n : NO2} {f : D → NO1} (h : NO2.Is n f) (k : NO1 → A) : NO2.pk d n k = k (f d) := by cases d <;> exact h _
theorem NO2.up_eq (d : D) (v : NO1) {n : NO2} {f : D → NO1} (h : NO2.Is n f) (k : NO2 → A) : ∃ n', NO2.Is n' (fun d' => if d' = d then v else f d') ∧ NO2.up d v n k = k n' := by
  cases d <;> exact ⟨_, fun z => rfl, h _⟩
theorem NO2.all_is (x : NO1) : NO2.Is (.all x) (fun _ => x) := fun _ => rfl

/-- Sixteen of them, as what they are given to. -/
abbrev NO3 : Type := (NO2 → NO2 → NO2 → NO2 → NO2 → NO2 → NO2 → NO2 → NO2 → NO2 → NO2 → NO2 → NO2 → NO2 → NO2 → NO2 → A) → A
noncomputable def NO3.mk (a0 a1 a2 a3 a4 a5 a6 a7 a8 a9 aa ab ac ad ae af : NO2) : NO3 := fun z => z a0 a1 a2 a3 a4 a5 a6 a7 a8 a9 aa ab ac ad ae af
noncomputable def NO3.all (x : NO2) : NO3 := fun z => z x x x x x x x x x x x x x x x x
/-- What stands at the digits. -/
def NO3.Is (n : NO3) (f : D → NO2) : Prop := ∀ z : NO2 → NO2 → NO2 → NO2 → NO2 → NO2 → NO2 → NO2 → NO2 → NO2 → NO2 → NO2 → NO2 → NO2 → NO2 → NO2 → A, n z = z (f .d0) (f .d1) (f .d2) (f .d3) (f .d4) (f .d5) (f .d6) (f .d7) (f .d8) (f .d9) (f .da) (f .db) (f .dc) (f .dd) (f .de) (f .df)
noncomputable def NO3.pk (d : D) : NO3 → (NO2 → A) → A := D.rec (motive := fun _ => NO3 → (NO2 → A) → A)
  (fun n k => n fun a0 _ _ _ _ _ _ _ _ _ _ _ _ _ _ _ => k a0)
  (fun n k => n fun _ a1 _ _ _ _ _ _ _ _ _ _ _ _ _ _ => k a1)
  (fun n k => n fun _ _ a2 _ _ _ _ _ _ _ _ _ _ _ _ _ => k a2)
  (fun n k => n fun _ _ _ a3 _ _ _ _ _ _ _ _ _ _ _ _ => k a3)
  (fun n k => n fun _ _ _ _ a4 _ _ _ _ _ _ _ _ _ _ _ => k a4)
  (fun n k => n fun _ _ _ _ _ a5 _ _ _ _ _ _ _ _ _ _ => k a5)
  (fun n k => n fun _ _ _ _ _ _ a6 _ _ _ _ _ _ _ _ _ => k a6)
  (fun n k => n fun _ _ _ _ _ _ _ a7 _ _ _ _ _ _ _ _ => k a7)
  (fun n k => n fun _ _ _ _ _ _ _ _ a8 _ _ _ _ _ _ _ => k a8)
  (fun n k => n fun _ _ _ _ _ _ _ _ _ a9 _ _ _ _ _ _ => k a9)
  (fun n k => n fun _ _ _ _ _ _ _ _ _ _ aa _ _ _ _ _ => k aa)
  (fun n k => n fun _ _ _ _ _ _ _ _ _ _ _ ab _ _ _ _ => k ab)
  (fun n k => n fun _ _ _ _ _ _ _ _ _ _ _ _ ac _ _ _ => k ac)
  (fun n k => n fun _ _ _ _ _ _ _ _ _ _ _ _ _ ad _ _ => k ad)
  (fun n k => n fun _ _ _ _ _ _ _ _ _ _ _ _ _ _ ae _ => k ae)
  (fun n k => n fun _ _ _ _ _ _ _ _ _ _ _ _ _ _ _ af => k af) d
noncomputable def NO3.up (d : D) : NO2 → NO3 → (NO3 → A) → A := D.rec (motive := fun _ => NO2 → NO3 → (NO3 → A) → A)
  (fun v n k => n fun _ a1 a2 a3 a4 a5 a6 a7 a8 a9 aa ab ac ad ae af => k fun z => z v a1 a2 a3 a4 a5 a6 a7 a8 a9 aa ab ac ad ae af)
  (fun v n k => n fun a0 _ a2 a3 a4 a5 a6 a7 a8 a9 aa ab ac ad ae af => k fun z => z a0 v a2 a3 a4 a5 a6 a7 a8 a9 aa ab ac ad ae af)
  (fun v n k => n fun a0 a1 _ a3 a4 a5 a6 a7 a8 a9 aa ab ac ad ae af => k fun z => z a0 a1 v a3 a4 a5 a6 a7 a8 a9 aa ab ac ad ae af)
  (fun v n k => n fun a0 a1 a2 _ a4 a5 a6 a7 a8 a9 aa ab ac ad ae af => k fun z => z a0 a1 a2 v a4 a5 a6 a7 a8 a9 aa ab ac ad ae af)
  (fun v n k => n fun a0 a1 a2 a3 _ a5 a6 a7 a8 a9 aa ab ac ad ae af => k fun z => z a0 a1 a2 a3 v a5 a6 a7 a8 a9 aa ab ac ad ae af)
  (fun v n k => n fun a0 a1 a2 a3 a4 _ a6 a7 a8 a9 aa ab ac ad ae af => k fun z => z a0 a1 a2 a3 a4 v a6 a7 a8 a9 aa ab ac ad ae af)
  (fun v n k => n fun a0 a1 a2 a3 a4 a5 _ a7 a8 a9 aa ab ac ad ae af => k fun z => z a0 a1 a2 a3 a4 a5 v a7 a8 a9 aa ab ac ad ae af)
  (fun v n k => n fun a0 a1 a2 a3 a4 a5 a6 _ a8 a9 aa ab ac ad ae af => k fun z => z a0 a1 a2 a3 a4 a5 a6 v a8 a9 aa ab ac ad ae af)
  (fun v n k => n fun a0 a1 a2 a3 a4 a5 a6 a7 _ a9 aa ab ac ad ae af => k fun z => z a0 a1 a2 a3 a4 a5 a6 a7 v a9 aa ab ac ad ae af)
  (fun v n k => n fun a0 a1 a2 a3 a4 a5 a6 a7 a8 _ aa ab ac ad ae af => k fun z => z a0 a1 a2 a3 a4 a5 a6 a7 a8 v aa ab ac ad ae af)
  (fun v n k => n fun a0 a1 a2 a3 a4 a5 a6 a7 a8 a9 _ ab ac ad ae af => k fun z => z a0 a1 a2 a3 a4 a5 a6 a7 a8 a9 v ab ac ad ae af)
  (fun v n k => n fun a0 a1 a2 a3 a4 a5 a6 a7 a8 a9 aa _ ac ad ae af => k fun z => z a0 a1 a2 a3 a4 a5 a6 a7 a8 a9 aa v ac ad ae af)
  (fun v n k => n fun a0 a1 a2 a3 a4 a5 a6 a7 a8 a9 aa ab _ ad ae af => k fun z => z a0 a1 a2 a3 a4 a5 a6 a7 a8 a9 aa ab v ad ae af)
  (fun v n k => n fun a0 a1 a2 a3 a4 a5 a6 a7 a8 a9 aa ab ac _ ae af => k fun z => z a0 a1 a2 a3 a4 a5 a6 a7 a8 a9 aa ab ac v ae af)
  (fun v n k => n fun a0 a1 a2 a3 a4 a5 a6 a7 a8 a9 aa ab ac ad _ af => k fun z => z a0 a1 a2 a3 a4 a5 a6 a7 a8 a9 aa ab ac ad v af)
  (fun v n k => n fun a0 a1 a2 a3 a4 a5 a6 a7 a8 a9 aa ab ac ad ae _ => k fun z => z a0 a1 a2 a3 a4 a5 a6 a7 a8 a9 aa ab ac ad ae v) d
theorem NO3.pk_eq (d : D) {n : NO3} {f : D → NO2} (h : NO3.Is n f) (k : NO2 → A) : NO3.pk d n k = k (f d) := by cases d <;> exact h _
theorem NO3.up_eq (d : D) (v : NO2) {n : NO3} {f : D → NO2} (h : NO3.Is n f) (k : NO3 → A) : ∃ n', NO3.Is n' (fun d' => if d' = d then v else f d') ∧ NO3.up d v n k = k n' := by
  cases d <;> exact ⟨_, fun z => rfl, h _⟩
theorem NO3.all_is (x : NO2) : NO3.Is (.all x) (fun _ => x) := fun _ => rfl

/-- Sixteen of them, as what they are given to. -/
abbrev NO4 : Type := (NO3 → NO3 → NO3 → NO3 → NO3 → NO3 → NO3 → NO3 → NO3 → NO3 → NO3 → NO3 → NO3 → NO3 → NO3 → NO3 → A) → A
noncomputable def NO4.mk (a0 a1 a2 a3 a4 a5 a6 a7 a8 a9 aa ab ac ad ae af : NO3) : NO4 := fun z => z a0 a1 a2 a3 a4 a5 a6 a7 a8 a9 aa ab ac ad ae af
noncomputable def NO4.all (x : NO3) : NO4 := fun z => z x x x x x x x x x x x x x x x x
/-- What stands at the digits. -/
def NO4.Is (n : NO4) (f : D → NO3) : Prop := ∀ z : NO3 → NO3 → NO3 → NO3 → NO3 → NO3 → NO3 → NO3 → NO3 → NO3 → NO3 → NO3 → NO3 → NO3 → NO3 → NO3 → A, n z = z (f .d0) (f .d1) (f .d2) (f .d3) (f .d4) (f .d5) (f .d6) (f .d7) (f .d8) (f .d9) (f .da) (f .db) (f .dc) (f .dd) (f .de) (f .df)
noncomputable def NO4.pk (d : D) : NO4 → (NO3 → A) → A := D.rec (motive := fun _ => NO4 → (NO3 → A) → A)
  (fun n k => n fun a0 _ _ _ _ _ _ _ _ _ _ _ _ _ _ _ => k a0)
  (fun n k => n fun _ a1 _ _ _ _ _ _ _ _ _ _ _ _ _ _ => k a1)
  (fun n k => n fun _ _ a2 _ _ _ _ _ _ _ _ _ _ _ _ _ => k a2)
  (fun n k => n fun _ _ _ a3 _ _ _ _ _ _ _ _ _ _ _ _ => k a3)
  (fun n k => n fun _ _ _ _ a4 _ _ _ _ _ _ _ _ _ _ _ => k a4)
  (fun n k => n fun _ _ _ _ _ a5 _ _ _ _ _ _ _ _ _ _ => k a5)
  (fun n k => n fun _ _ _ _ _ _ a6 _ _ _ _ _ _ _ _ _ => k a6)
  (fun n k => n fun _ _ _ _ _ _ _ a7 _ _ _ _ _ _ _ _ => k a7)
  (fun n k => n fun _ _ _ _ _ _ _ _ a8 _ _ _ _ _ _ _ => k a8)
  (fun n k => n fun _ _ _ _ _ _ _ _ _ a9 _ _ _ _ _ _ => k a9)
  (fun n k => n fun _ _ _ _ _ _ _ _ _ _ aa _ _ _ _ _ => k aa)
  (fun n k => n fun _ _ _ _ _ _ _ _ _ _ _ ab _ _ _ _ => k ab)
  (fun n k => n fun _ _ _ _ _ _ _ _ _ _ _ _ ac _ _ _ => k ac)
  (fun n k => n fun _ _ _ _ _ _ _ _ _ _ _ _ _ ad _ _ => k ad)
  (fun n k => n fun _ _ _ _ _ _ _ _ _ _ _ _ _ _ ae _ => k ae)
  (fun n k => n fun _ _ _ _ _ _ _ _ _ _ _ _ _ _ _ af => k af) d
noncomputable def NO4.up (d : D) : NO3 → NO4 → (NO4 → A) → A := D.rec (motive := fun _ => NO3 → NO4 → (NO4 → A) → A)
  (fun v n k => n fun _ a1 a2 a3 a4 a5 a6 a7 a8 a9 aa ab ac ad ae af => k fun z => z v a1 a2 a3 a4 a5 a6 a7 a8 a9 aa ab ac ad ae af)
  (fun v n k => n fun a0 _ a2 a3 a4 a5 a6 a7 a8 a9 aa ab ac ad ae af => k fun z => z a0 v a2 a3 a4 a5 a6 a7 a8 a9 aa ab ac ad ae af)
  (fun v n k => n fun a0 a1 _ a3 a4 a5 a6 a7 a8 a9 aa ab ac ad ae af => k fun z => z a0 a1 v a3 a4 a5 a6 a7 a8 a9 aa ab ac ad ae af)
  (fun v n k => n fun a0 a1 a2 _ a4 a5 a6 a7 a8 a9 aa ab ac ad ae af => k fun z => z a0 a1 a2 v a4 a5 a6 a7 a8 a9 aa ab ac ad ae af)
  (fun v n k => n fun a0 a1 a2 a3 _ a5 a6 a7 a8 a9 aa ab ac ad ae af => k fun z => z a0 a1 a2 a3 v a5 a6 a7 a8 a9 aa ab ac ad ae af)
  (fun v n k => n fun a0 a1 a2 a3 a4 _ a6 a7 a8 a9 aa ab ac ad ae af => k fun z => z a0 a1 a2 a3 a4 v a6 a7 a8 a9 aa ab ac ad ae af)
  (fun v n k => n fun a0 a1 a2 a3 a4 a5 _ a7 a8 a9 aa ab ac ad ae af => k fun z => z a0 a1 a2 a3 a4 a5 v a7 a8 a9 aa ab ac ad ae af)
  (fun v n k => n fun a0 a1 a2 a3 a4 a5 a6 _ a8 a9 aa ab ac ad ae af => k fun z => z a0 a1 a2 a3 a4 a5 a6 v a8 a9 aa ab ac ad ae af)
  (fun v n k => n fun a0 a1 a2 a3 a4 a5 a6 a7 _ a9 aa ab ac ad ae af => k fun z => z a0 a1 a2 a3 a4 a5 a6 a7 v a9 aa ab ac ad ae af)
  (fun v n k => n fun a0 a1 a2 a3 a4 a5 a6 a7 a8 _ aa ab ac ad ae af => k fun z => z a0 a1 a2 a3 a4 a5 a6 a7 a8 v aa ab ac ad ae af)
  (fun v n k => n fun a0 a1 a2 a3 a4 a5 a6 a7 a8 a9 _ ab ac ad ae af => k fun z => z a0 a1 a2 a3 a4 a5 a6 a7 a8 a9 v ab ac ad ae af)
  (fun v n k => n fun a0 a1 a2 a3 a4 a5 a6 a7 a8 a9 aa _ ac ad ae af => k fun z => z a0 a1 a2 a3 a4 a5 a6 a7 a8 a9 aa v ac ad ae af)
  (fun v n k => n fun a0 a1 a2 a3 a4 a5 a6 a7 a8 a9 aa ab _ ad ae af => k fun z => z a0 a1 a2 a3 a4 a5 a6 a7 a8 a9 aa ab v ad ae af)
  (fun v n k => n fun a0 a1 a2 a3 a4 a5 a6 a7 a8 a9 aa ab ac _ ae af => k fun z => z a0 a1 a2 a3 a4 a5 a6 a7 a8 a9 aa ab ac v ae af)
  (fun v n k => n fun a0 a1 a2 a3 a4 a5 a6 a7 a8 a9 aa ab ac ad _ af => k fun z => z a0 a1 a2 a3 a4 a5 a6 a7 a8 a9 aa ab ac ad v af)
  (fun v n k => n fun a0 a1 a2 a3 a4 a5 a6 a7 a8 a9 aa ab ac ad ae _ => k fun z => z a0 a1 a2 a3 a4 a5 a6 a7 a8 a9 aa ab ac ad ae v) d
theorem NO4.pk_eq (d : D) {n : NO4} {f : D → NO3} (h : NO4.Is n f) (k : NO3 → A) : NO4.pk d n k = k (f d) := by cases d <;> exact h _
theorem NO4.up_eq (d : D) (v : NO3) {n : NO4} {f : D → NO3} (h : NO4.Is n f) (k : NO4 → A) : ∃ n', NO4.Is n' (fun d' => if d' = d then v else f d') ∧ NO4.up d v n k = k n' := by
  cases d <;> exact ⟨_, fun z => rfl, h _⟩
theorem NO4.all_is (x : NO3) : NO4.Is (.all x) (fun _ => x) := fun _ => rfl

/-! ### rows of cells from lists -/
noncomputable def g16 (k : NV → List AV → A) (x0 x1 x2 x3 x4 x5 x6 x7 x8 x9 xa xb xc xd xe xf : AV) (l : List AV) : A := k (fun z => z x0 x1 x2 x3 x4 x5 x6 x7 x8 x9 xa xb xc xd xe xf) l
noncomputable def g15 (k : NV → List AV → A) (x0 x1 x2 x3 x4 x5 x6 x7 x8 x9 xa xb xc xd xe : AV) (l : List AV) : A := List.rec (k (fun z => z x0 x1 x2 x3 x4 x5 x6 x7 x8 x9 xa xb xc xd xe .poison) []) (fun x l _ => g16 k x0 x1 x2 x3 x4 x5 x6 x7 x8 x9 xa xb xc xd xe x l) l
noncomputable def g14 (k : NV → List AV → A) (x0 x1 x2 x3 x4 x5 x6 x7 x8 x9 xa xb xc xd : AV) (l : List AV) : A := List.rec (k (fun z => z x0 x1 x2 x3 x4 x5 x6 x7 x8 x9 xa xb xc xd .poison .poison) []) (fun x l _ => g15 k x0 x1 x2 x3 x4 x5 x6 x7 x8 x9 xa xb xc xd x l) l
noncomputable def g13 (k : NV → List AV → A) (x0 x1 x2 x3 x4 x5 x6 x7 x8 x9 xa xb xc : AV) (l : List AV) : A := List.rec (k (fun z => z x0 x1 x2 x3 x4 x5 x6 x7 x8 x9 xa xb xc .poison .poison .poison) []) (fun x l _ => g14 k x0 x1 x2 x3 x4 x5 x6 x7 x8 x9 xa xb xc x l) l
noncomputable def g12 (k : NV → List AV → A) (x0 x1 x2 x3 x4 x5 x6 x7 x8 x9 xa xb : AV) (l : List AV) : A := List.rec (k (fun z => z x0 x1 x2 x3 x4 x5 x6 x7 x8 x9 xa xb .poison .poison .poison .poison) []) (fun x l _ => g13 k x0 x1 x2 x3 x4 x5 x6 x7 x8 x9 xa xb x l) l
noncomputable def g11 (k : NV → List AV → A) (x0 x1 x2 x3 x4 x5 x6 x7 x8 x9 xa : AV) (l : List AV) : A := List.rec (k (fun z => z x0 x1 x2 x3 x4 x5 x6 x7 x8 x9 xa .poison .poison .poison .poison .poison) []) (fun x l _ => g12 k x0 x1 x2 x3 x4 x5 x6 x7 x8 x9 xa x l) l
noncomputable def g10 (k : NV → List AV → A) (x0 x1 x2 x3 x4 x5 x6 x7 x8 x9 : AV) (l : List AV) : A := List.rec (k (fun z => z x0 x1 x2 x3 x4 x5 x6 x7 x8 x9 .poison .poison .poison .poison .poison .poison) []) (fun x l _ => g11 k x0 x1 x2 x3 x4 x5 x6 x7 x8 x9 x l) l
noncomputable def g9 (k : NV → List AV → A) (x0 x1 x2 x3 x4 x5 x6 x7 x8 : AV) (l : List AV) : A := List.rec (k (fun z => z x0 x1 x2 x3 x4 x5 x6 x7 x8 .poison .poison .poison .poison .poison .poison .poison) []) (fun x l _ => g10 k x0 x1 x2 x3 x4 x5 x6 x7 x8 x l) l
noncomputable def g8 (k : NV → List AV → A) (x0 x1 x2 x3 x4 x5 x6 x7 : AV) (l : List AV) : A := List.rec (k (fun z => z x0 x1 x2 x3 x4 x5 x6 x7 .poison .poison .poison .poison .poison .poison .poison .poison) []) (fun x l _ => g9 k x0 x1 x2 x3 x4 x5 x6 x7 x l) l
noncomputable def g7 (k : NV → List AV → A) (x0 x1 x2 x3 x4 x5 x6 : AV) (l : List AV) : A := List.rec (k (fun z => z x0 x1 x2 x3 x4 x5 x6 .poison .poison .poison .poison .poison .poison .poison .poison .poison) []) (fun x l _ => g8 k x0 x1 x2 x3 x4 x5 x6 x l) l
noncomputable def g6 (k : NV → List AV → A) (x0 x1 x2 x3 x4 x5 : AV) (l : List AV) : A := List.rec (k (fun z => z x0 x1 x2 x3 x4 x5 .poison .poison .poison .poison .poison .poison .poison .poison .poison .poison) []) (fun x l _ => g7 k x0 x1 x2 x3 x4 x5 x l) l
noncomputable def g5 (k : NV → List AV → A) (x0 x1 x2 x3 x4 : AV) (l : List AV) : A := List.rec (k (fun z => z x0 x1 x2 x3 x4 .poison .poison .poison .poison .poison .poison .poison .poison .poison .poison .poison) []) (fun x l _ => g6 k x0 x1 x2 x3 x4 x l) l
noncomputable def g4 (k : NV → List AV → A) (x0 x1 x2 x3 : AV) (l : List AV) : A := List.rec (k (fun z => z x0 x1 x2 x3 .poison .poison .poison .poison .poison .poison .poison .poison .poison .poison .poison .poison) []) (fun x l _ => g5 k x0 x1 x2 x3 x l) l
noncomputable def g3 (k : NV → List AV → A) (x0 x1 x2 : AV) (l : List AV) : A := List.rec (k (fun z => z x0 x1 x2 .poison .poison .poison .poison .poison .poison .poison .poison .poison .poison .poison .poison .poison) []) (fun x l _ => g4 k x0 x1 x2 x l) l
noncomputable def g2 (k : NV → List AV → A) (x0 x1 : AV) (l : List AV) : A := List.rec (k (fun z => z x0 x1 .poison .poison .poison .poison .poison .poison .poison .poison .poison .poison .poison .poison .poison .poison) []) (fun x l _ => g3 k x0 x1 x l) l
noncomputable def g1 (k : NV → List AV → A) (x0 : AV) (l : List AV) : A := List.rec (k (fun z => z x0 .poison .poison .poison .poison .poison .poison .poison .poison .poison .poison .poison .poison .poison .poison .poison) []) (fun x l _ => g2 k x0 x l) l
noncomputable def g0 (k : NV → List AV → A) (l : List AV) : A := List.rec (k (fun z => z .poison .poison .poison .poison .poison .poison .poison .poison .poison .poison .poison .poison .poison .poison .poison .poison) []) (fun x l _ => g1 k  x l) l
noncomputable def gg16 (k : NVV → List AV → A) (x0 x1 x2 x3 x4 x5 x6 x7 x8 x9 xa xb xc xd xe xf : NV) (l : List AV) : A := k (fun z => z x0 x1 x2 x3 x4 x5 x6 x7 x8 x9 xa xb xc xd xe xf) l
noncomputable def gg15 (k : NVV → List AV → A) (x0 x1 x2 x3 x4 x5 x6 x7 x8 x9 xa xb xc xd xe : NV) (l : List AV) : A := g0 (fun x l => gg16 k x0 x1 x2 x3 x4 x5 x6 x7 x8 x9 xa xb xc xd xe x l) l
noncomputable def gg14 (k : NVV → List AV → A) (x0 x1 x2 x3 x4 x5 x6 x7 x8 x9 xa xb xc xd : NV) (l : List AV) : A := g0 (fun x l => gg15 k x0 x1 x2 x3 x4 x5 x6 x7 x8 x9 xa xb xc xd x l) l
noncomputable def gg13 (k : NVV → List AV → A) (x0 x1 x2 x3 x4 x5 x6 x7 x8 x9 xa xb xc : NV) (l : List AV) : A := g0 (fun x l => gg14 k x0 x1 x2 x3 x4 x5 x6 x7 x8 x9 xa xb xc x l) l
noncomputable def gg12 (k : NVV → List AV → A) (x0 x1 x2 x3 x4 x5 x6 x7 x8 x9 xa xb : NV) (l : List AV) : A := g0 (fun x l => gg13 k x0 x1 x2 x3 x4 x5 x6 x7 x8 x9 xa xb x l) l
noncomputable def gg11 (k : NVV → List AV → A) (x0 x1 x2 x3 x4 x5 x6 x7 x8 x9 xa : NV) (l : List AV) : A := g0 (fun x l => gg12 k x0 x1 x2 x3 x4 x5 x6 x7 x8 x9 xa x l) l
noncomputable def gg10 (k : NVV → List AV → A) (x0 x1 x2 x3 x4 x5 x6 x7 x8 x9 : NV) (l : List AV) : A := g0 (fun x l => gg11 k x0 x1 x2 x3 x4 x5 x6 x7 x8 x9 x l) l
noncomputable def gg9 (k : NVV → List AV → A) (x0 x1 x2 x3 x4 x5 x6 x7 x8 : NV) (l : List AV) : A := g0 (fun x l => gg10 k x0 x1 x2 x3 x4 x5 x6 x7 x8 x l) l
noncomputable def gg8 (k : NVV → List AV → A) (x0 x1 x2 x3 x4 x5 x6 x7 : NV) (l : List AV) : A := g0 (fun x l => gg9 k x0 x1 x2 x3 x4 x5 x6 x7 x l) l
noncomputable def gg7 (k : NVV → List AV → A) (x0 x1 x2 x3 x4 x5 x6 : NV) (l : List AV) : A := g0 (fun x l => gg8 k x0 x1 x2 x3 x4 x5 x6 x l) l
noncomputable def gg6 (k : NVV → List AV → A) (x0 x1 x2 x3 x4 x5 : NV) (l : List AV) : A := g0 (fun x l => gg7 k x0 x1 x2 x3 x4 x5 x l) l
noncomputable def gg5 (k : NVV → List AV → A) (x0 x1 x2 x3 x4 : NV) (l : List AV) : A := g0 (fun x l => gg6 k x0 x1 x2 x3 x4 x l) l
noncomputable def gg4 (k : NVV → List AV → A) (x0 x1 x2 x3 : NV) (l : List AV) : A := g0 (fun x l => gg5 k x0 x1 x2 x3 x l) l
noncomputable def gg3 (k : NVV → List AV → A) (x0 x1 x2 : NV) (l : List AV) : A := g0 (fun x l => gg4 k x0 x1 x2 x l) l
noncomputable def gg2 (k : NVV → List AV → A) (x0 x1 : NV) (l : List AV) : A := g0 (fun x l => gg3 k x0 x1 x l) l
noncomputable def gg1 (k : NVV → List AV → A) (x0 : NV) (l : List AV) : A := g0 (fun x l => gg2 k x0 x l) l
noncomputable def gg0 (k : NVV → List AV → A) (l : List AV) : A := g0 (fun x l => gg1 k  x l) l
noncomputable def ggg16 (k : NV3 → List AV → A) (x0 x1 x2 x3 x4 x5 x6 x7 x8 x9 xa xb xc xd xe xf : NVV) (l : List AV) : A := k (fun z => z x0 x1 x2 x3 x4 x5 x6 x7 x8 x9 xa xb xc xd xe xf) l
noncomputable def ggg15 (k : NV3 → List AV → A) (x0 x1 x2 x3 x4 x5 x6 x7 x8 x9 xa xb xc xd xe : NVV) (l : List AV) : A := gg0 (fun x l => ggg16 k x0 x1 x2 x3 x4 x5 x6 x7 x8 x9 xa xb xc xd xe x l) l
noncomputable def ggg14 (k : NV3 → List AV → A) (x0 x1 x2 x3 x4 x5 x6 x7 x8 x9 xa xb xc xd : NVV) (l : List AV) : A := gg0 (fun x l => ggg15 k x0 x1 x2 x3 x4 x5 x6 x7 x8 x9 xa xb xc xd x l) l
noncomputable def ggg13 (k : NV3 → List AV → A) (x0 x1 x2 x3 x4 x5 x6 x7 x8 x9 xa xb xc : NVV) (l : List AV) : A := gg0 (fun x l => ggg14 k x0 x1 x2 x3 x4 x5 x6 x7 x8 x9 xa xb xc x l) l
noncomputable def ggg12 (k : NV3 → List AV → A) (x0 x1 x2 x3 x4 x5 x6 x7 x8 x9 xa xb : NVV) (l : List AV) : A := gg0 (fun x l => ggg13 k x0 x1 x2 x3 x4 x5 x6 x7 x8 x9 xa xb x l) l
noncomputable def ggg11 (k : NV3 → List AV → A) (x0 x1 x2 x3 x4 x5 x6 x7 x8 x9 xa : NVV) (l : List AV) : A := gg0 (fun x l => ggg12 k x0 x1 x2 x3 x4 x5 x6 x7 x8 x9 xa x l) l
noncomputable def ggg10 (k : NV3 → List AV → A) (x0 x1 x2 x3 x4 x5 x6 x7 x8 x9 : NVV) (l : List AV) : A := gg0 (fun x l => ggg11 k x0 x1 x2 x3 x4 x5 x6 x7 x8 x9 x l) l
noncomputable def ggg9 (k : NV3 → List AV → A) (x0 x1 x2 x3 x4 x5 x6 x7 x8 : NVV) (l : List AV) : A := gg0 (fun x l => ggg10 k x0 x1 x2 x3 x4 x5 x6 x7 x8 x l) l
noncomputable def ggg8 (k : NV3 → List AV → A) (x0 x1 x2 x3 x4 x5 x6 x7 : NVV) (l : List AV) : A := gg0 (fun x l => ggg9 k x0 x1 x2 x3 x4 x5 x6 x7 x l) l
noncomputable def ggg7 (k : NV3 → List AV → A) (x0 x1 x2 x3 x4 x5 x6 : NVV) (l : List AV) : A := gg0 (fun x l => ggg8 k x0 x1 x2 x3 x4 x5 x6 x l) l
noncomputable def ggg6 (k : NV3 → List AV → A) (x0 x1 x2 x3 x4 x5 : NVV) (l : List AV) : A := gg0 (fun x l => ggg7 k x0 x1 x2 x3 x4 x5 x l) l
noncomputable def ggg5 (k : NV3 → List AV → A) (x0 x1 x2 x3 x4 : NVV) (l : List AV) : A := gg0 (fun x l => ggg6 k x0 x1 x2 x3 x4 x l) l
noncomputable def ggg4 (k : NV3 → List AV → A) (x0 x1 x2 x3 : NVV) (l : List AV) : A := gg0 (fun x l => ggg5 k x0 x1 x2 x3 x l) l
noncomputable def ggg3 (k : NV3 → List AV → A) (x0 x1 x2 : NVV) (l : List AV) : A := gg0 (fun x l => ggg4 k x0 x1 x2 x l) l
noncomputable def ggg2 (k : NV3 → List AV → A) (x0 x1 : NVV) (l : List AV) : A := gg0 (fun x l => ggg3 k x0 x1 x l) l
noncomputable def ggg1 (k : NV3 → List AV → A) (x0 : NVV) (l : List AV) : A := gg0 (fun x l => ggg2 k x0 x l) l
noncomputable def ggg0 (k : NV3 → List AV → A) (l : List AV) : A := gg0 (fun x l => ggg1 k  x l) l


/-- The memory: the blocks, and the next one's name. -/
abbrev Heap : Type := (NO4 → Bid → A) → A
noncomputable def Heap.mk (t : NO4) (n : Bid) : Heap := fun z => z t n

/-! ### small words -/
noncomputable def obK {α : Type} (o : Option α) (k : α → A) : A := Option.rec no k o
noncomputable def bbK (c : Bool) (a : A) : A := Bool.rec no a c
noncomputable def ob {α β : Type} (o : Option α) (f : α → Option β) : Option β := Option.rec none f o
noncomputable def bb {β : Type} (c : Bool) (o : Option β) : Option β := Bool.rec none o c
/-- A number, reckoned. -/
noncomputable def fN (x : Nat) (k : Nat → A) : A := Nat.rec (k 0) (fun m _ => k (Nat.succ m)) x
noncomputable def andB (a b : Bool) : Bool := Bool.rec false b a
noncomputable def orB (a b : Bool) : Bool := Bool.rec b true a
noncomputable def notB (a : Bool) : Bool := Bool.rec true false a
noncomputable def llen {α : Type} (l : List α) : Nat := List.rec 0 (fun _ _ ih => Nat.succ ih) l
noncomputable def lnth {α : Type} (l : List α) : Nat → Option α := List.rec (motive := fun _ => Nat → Option α) (fun _ => none) (fun x _ ih n => Nat.rec (some x) (fun m _ => ih m) n) l
noncomputable def app {α : Type} (a b : List α) : List α := List.rec b (fun v _ ih => v :: ih) a
noncomputable def lenIs {α : Type} (vs : List α) (n : Nat) : Bool := List.rec (motive := fun _ => Nat → Bool) (fun n => Nat.beq n 0) (fun _ _ ih n => Nat.rec false (fun m _ => ih m) n) vs n
noncomputable def isNo {α : Type} (o : Option α) : Bool := Option.rec true (fun _ => false) o

/-! ### slots, blocks -/
noncomputable def egK (t : Nat) (e : Env) (k : AV → A) : A := bbK (Nat.ble t 255) (NVV.pk (D.nat (Nat.div t 16)) e fun n => NV.pk (D.nat (Nat.mod t 16)) n k)
/-- A slot is written: it must be one of the frame's nt. -/
noncomputable def esK (nt t : Nat) (v : AV) (e : Env) (k : Env → A) : A := bbK (Nat.ble (Nat.succ t) nt) (NVV.pk (D.nat (Nat.div t 16)) e fun n => NV.up (D.nat (Nat.mod t 16)) v n fun n => NVV.up (D.nat (Nat.div t 16)) n e k)
noncomputable def Env.empty : Env := NVV.all (NV.all .undef)
noncomputable def hgK (b : Bid) (h : Heap) (k : AObj → A) : A :=
  h fun t _ => Bid.rec (fun x3 x2 x1 x0 => NO4.pk x3 t fun t => NO3.pk x2 t fun t => NO2.pk x1 t fun t => NO1.pk x0 t k) b
noncomputable def hsT (x3 x2 x1 x0 : D) (o : AObj) (t : NO4) (k : NO4 → A) : A :=
  NO4.pk x3 t fun t3 => NO3.pk x2 t3 fun t2 => NO2.pk x1 t2 fun t1 => NO1.up x0 o t1 fun t1 => NO2.up x1 t1 t2 fun t2 => NO3.up x2 t2 t3 fun t3 => NO4.up x3 t3 t k
noncomputable def hsK (b : Bid) (o : AObj) (h : Heap) (k : Heap → A) : A := h fun t n => Bid.rec (fun x3 x2 x1 x0 => hsT x3 x2 x1 x0 o t fun t => k fun z => z t n) b
/-- A new block. -/
noncomputable def hnewK (o : AObj) (h : Heap) (k : Bid → Heap → A) : A :=
  h fun t n => n.incK fun nx => Bid.rec (fun x3 x2 x1 x0 => hsT x3 x2 x1 x0 o t fun t => k n fun z => z t nx) n
noncomputable def Heap.empty : Heap := Heap.mk (NO4.all (NO3.all (NO2.all (NO1.all .none)))) (.mk .d0 .d1 .d0 .d0)

noncomputable def ctgK (c : CT) : Nat → (AV → A) → A := CT.rec (motive := fun _ => Nat → (AV → A) → A)
  (fun t i k => NV.pk (D.nat (Nat.mod i 16)) t k)
  (fun t i k => NVV.pk (D.nat (Nat.mod (Nat.div i 16) 16)) t fun t => NV.pk (D.nat (Nat.mod i 16)) t k)
  (fun t i k => NV3.pk (D.nat (Nat.mod (Nat.div i 256) 16)) t fun t => NVV.pk (D.nat (Nat.mod (Nat.div i 16) 16)) t fun t => NV.pk (D.nat (Nat.mod i 16)) t k) c
noncomputable def ctsK (c : CT) : Nat → AV → (CT → A) → A := CT.rec (motive := fun _ => Nat → AV → (CT → A) → A)
  (fun t i v k => NV.up (D.nat (Nat.mod i 16)) v t fun t => k (.c1 t))
  (fun t i v k => NVV.pk (D.nat (Nat.mod (Nat.div i 16) 16)) t fun t1 => NV.up (D.nat (Nat.mod i 16)) v t1 fun t1 => NVV.up (D.nat (Nat.mod (Nat.div i 16) 16)) t1 t fun t => k (.c2 t))
  (fun t i v k => NV3.pk (D.nat (Nat.mod (Nat.div i 256) 16)) t fun t2 => NVV.pk (D.nat (Nat.mod (Nat.div i 16) 16)) t2 fun t1 => NV.up (D.nat (Nat.mod i 16)) v t1 fun t1 =>
    NVV.up (D.nat (Nat.mod (Nat.div i 16) 16)) t1 t2 fun t2 => NV3.up (D.nat (Nat.mod (Nat.div i 256) 16)) t2 t fun t => k (.c3 t)) c
noncomputable def ctofK (vs : List AV) (k : CT → A) : A :=
  Bool.rec (Bool.rec (bbK (Nat.ble (llen vs) 4096) (ggg0 (fun t _ => k (.c3 t)) vs)) (gg0 (fun t _ => k (.c2 t)) vs) (Nat.ble (llen vs) 256)) (g0 (fun t _ => k (.c1 t)) vs) (Nat.ble (llen vs) 16)

/-! ### types, constants -/
noncomputable def tSize (P : Program) (t : TypeId) : Option Nat := ob (P.info? t) fun i => some i.size
/-- Is a variable of it more than one cell (true), or one cell (false)? -/
noncomputable def tCell (P : Program) (t : TypeId) : Option Bool := ob (P.underlying t) fun
  | .struct _ => some true
  | .array _ _ => some true
  | _ => ob (tSize P t) fun n => bb (Nat.beq n 1) (some false)
noncomputable def tSlice (P : Program) (t : TypeId) : Option TypeId := ob (P.underlying t) fun | .slice e => some e | _ => none
/-- Bytes: of one cell each, which is zero at first. -/
noncomputable def tByte (P : Program) (t : TypeId) : Bool := match P.underlying t with
  | some (.int .u8) => (match P.info? t with | some i => (match i.zero with | some (.int .u8 (.ofNat 0)) => Nat.beq i.size 1 | _ => false) | none => false)
  | _ => false

def packL : List Nat → Nat
  | [] => 0
  | b :: bs => b + 256 * packL bs
def packB (s : ByteArray) : Nat := packL (s.data.toList.map (·.toNat))
noncomputable def ofValue (v : Value) : AV := Value.rec (motive_1 := fun _ => AV) (motive_2 := fun _ => List AV) (motive_3 := fun _ => List AV)
  (fun b => .bool b) (fun k n => Int.rec (fun n => .int k n) (fun n => .neg k n) n) (fun _ _ => .poison) (fun _ _ _ => .poison) (fun s => .str s.size (packB s)) (fun a => Option.rec .nilp (fun _ => .poison) a)
  (fun a n c => Option.rec (Bool.rec .poison .nils (andB (Nat.beq n 0) (Nat.beq c 0))) (fun _ => .poison) a) (fun r => Option.rec .nilm (fun _ => .poison) r) (fun _ => .poison) (fun _ _ _ _ _ => .poison) .nilf
  (fun t _ ih => .iface t ih) .nili (fun _ ih => .agg ih) (fun _ ih => .tuple ih) (fun _ ih => ih) [] (fun _ _ a b => a :: b) v
/-- The zero value. -/
noncomputable def tZero (P : Program) (t : TypeId) : Option AV := ob (P.info? t) fun i => ob i.zero fun z => some (ofValue z)

noncomputable def gbid (g : Nat) : Bid := .mk .d0 .d0 (D.nat (Nat.mod (Nat.div g 16) 16)) (D.nat (Nat.mod g 16))
noncomputable def opdK (o : Operand) : Env → (AV → A) → A := Operand.rec (motive := fun _ => Env → (AV → A) → A) (fun t e k => egK t e k) (fun v _ k => k (ofValue v)) (fun g _ k => bbK (Nat.ble g 255) (k (.ptr (gbid g) 0))) (fun f _ k => k (.func (.func f) [] [])) o
noncomputable def opdsK (l : List Operand) : Env → (List AV → A) → A := List.rec (motive := fun _ => Env → (List AV → A) → A) (fun _ k => k []) (fun o _ ih e k => opdK o e fun v => ih e fun vs => k (v :: vs)) l

/-! ### memory -/
noncomputable def byteAt (d i : Nat) : Nat := Nat.mod (Nat.shiftRight d (Nat.mul 8 i)) 256
noncomputable def byteCut (d lo n : Nat) : Nat := Nat.mod (Nat.shiftRight d (Nat.mul 8 lo)) (Nat.pow 2 (Nat.mul 8 n))
/-- The bytes x, n of them, written over those of d from lo on. -/
noncomputable def bytePut (d lo n x : Nat) : Nat :=
  Nat.add (Nat.add (Nat.mod d (Nat.pow 2 (Nat.mul 8 lo))) (Nat.shiftLeft x (Nat.mul 8 lo))) (Nat.shiftLeft (Nat.shiftRight d (Nat.mul 8 (Nat.add lo n))) (Nat.mul 8 (Nat.add lo n)))
noncomputable def strL (d n : Nat) : Nat → List AV := Nat.rec (motive := fun _ => Nat → List AV) (fun _ => []) (fun _ ih i => .int .u8 (byteAt d i) :: ih (Nat.succ i)) n

/-- One cell of an object. -/
noncomputable def ldK (o : AObj) : Nat → (AV → A) → A := AObj.rec (motive := fun _ => Nat → (AV → A) → A) (fun _ _ => no) (fun _ n t _ i k => bbK (Nat.ble (Nat.succ i) n) (ctgK t i k)) (fun _ n d _ _ i k => bbK (Nat.ble (Nat.succ i) n) (fN (byteAt d i) fun x => k (.int .u8 x))) (fun _ _ _ _ => no) (fun _ _ _ _ _ => no) (fun _ _ _ _ _ _ => no) (fun _ _ _ _ _ _ _ _ _ _ _ => no) (fun _ _ _ => no) (fun _ _ => no) o
noncomputable def ctL (t : CT) (n : Nat) : Nat → (List AV → A) → A := Nat.rec (motive := fun _ => Nat → (List AV → A) → A) (fun _ k => k []) (fun _ ih i k => ctgK t i fun v => ih (Nat.succ i) fun vs => k (v :: vs)) n
/-- n cells of an object, from the i-th on. -/
noncomputable def ldLK (o : AObj) : Nat → Nat → (List AV → A) → A := AObj.rec (motive := fun _ => Nat → Nat → (List AV → A) → A) (fun _ _ _ => no) (fun _ m t _ n i k => bbK (Nat.ble (Nat.add i n) m) (ctL t n i k)) (fun _ m d _ _ n i k => bbK (Nat.ble (Nat.add i n) m) (k (strL d n i))) (fun _ _ _ _ _ => no) (fun _ _ _ _ _ _ => no) (fun _ _ _ _ _ _ _ => no) (fun _ _ _ _ _ _ _ _ _ _ _ _ => no) (fun _ _ _ _ => no) (fun _ _ _ => no) o
noncomputable def kdOk (k : Kd) : Bool := Kd.rec true true false k
noncomputable def u8K (v : AV) (k : Nat → A) : A := asNatK v fun j x => IntKind.rec no no no no (bbK (Nat.ble x 255) (k x)) no no no j
/-- One cell is written. -/
noncomputable def stK (o : AObj) : Nat → AV → (AObj → A) → A := AObj.rec (motive := fun _ => Nat → AV → (AObj → A) → A) (fun _ _ _ => no) (fun ty n t kd i v k => bbK (Nat.ble (Nat.succ i) n) (bbK (isOne v) (bbK (kdOk kd) (ctsK t i v fun t => k (.cells ty n t kd))))) (fun ty n d fz g i v k => bbK (Nat.ble (Nat.succ i) n) (bbK (Nat.ble fz i) (u8K v fun x => fN (bytePut d i 1 x) fun d => k (.bytes ty n d fz g)))) (fun _ _ _ _ _ => no) (fun _ _ _ _ _ _ => no) (fun _ _ _ _ _ _ _ => no) (fun _ _ _ _ _ _ _ _ _ _ _ _ => no) (fun _ _ _ _ => no) (fun _ _ _ => no) o
noncomputable def ctSL (vs : List AV) : CT → Nat → (CT → A) → A := List.rec (motive := fun _ => CT → Nat → (CT → A) → A) (fun t _ k => k t) (fun v _ ih t i k => ctsK t i v fun t => ih t (Nat.succ i) k) vs
/-- The bytes of a list of cells. -/
noncomputable def bytesOfLK (vs : List AV) : (Nat → A) → A := List.rec (motive := fun _ => (Nat → A) → A) (fun k => k 0) (fun v _ ih k => ih fun d => u8K v fun x => fN (Nat.add x (Nat.mul 256 d)) k) vs
noncomputable def allOne (vs : List AV) : Bool := List.rec true (fun v _ ih => Bool.rec false ih (isOne v)) vs
/-- Cells are written, from the i-th on. -/
noncomputable def stLK (vs : List AV) (o : AObj) : Nat → (AObj → A) → A := AObj.rec (motive := fun _ => Nat → (AObj → A) → A) (fun _ _ => no) (fun ty n t kd i k => bbK (Nat.ble (Nat.add i (llen vs)) n) (bbK (allOne vs) (bbK (kdOk kd) (ctSL vs t i fun t => k (.cells ty n t kd))))) (fun ty n d fz g i k => bbK (Nat.ble (Nat.add i (llen vs)) n) (bbK (orB (Nat.beq (llen vs) 0) (Nat.ble fz i)) (bytesOfLK vs fun x => fN (bytePut d i (llen vs) x) fun d => k (.bytes ty n d fz g)))) (fun _ _ _ _ => no) (fun _ _ _ _ _ => no) (fun _ _ _ _ _ _ => no) (fun _ _ _ _ _ _ _ _ _ _ _ => no) (fun _ _ _ => no) (fun _ _ => no) o

noncomputable def ldVarK (P : Program) (t : TypeId) (o : AObj) (i : Nat) (k : AV → A) : A :=
  obK (tCell P t) fun g => Bool.rec (ldK o i k) (obK (tSize P t) fun n => ldLK o n i fun cs => k (.agg cs)) g
noncomputable def stVarK (P : Program) (t : TypeId) (v : AV) (o : AObj) (i : Nat) (k : AObj → A) : A :=
  obK (tCell P t) fun g => Bool.rec (stK o i v k) (asAggK v fun cs => obK (tSize P t) fun n => bbK (lenIs cs n) (stLK cs o i k)) g
/-- A row of elements of type ty that holds these cells, and no more. -/
noncomputable def mkRowK (P : Program) (ty : TypeId) (cs : List AV) (k : AObj → A) : A := fN (llen cs) fun n =>
  Bool.rec (bbK (allOne cs) (ctofK cs fun t => k (.cells ty n t .whole))) (bytesOfLK cs fun d => k (.bytes ty n d 0 false)) (tByte P ty)
noncomputable def rep (n : Nat) (z : List AV) : List AV := Nat.rec [] (fun _ ih => app z ih) n
noncomputable def zeroK (P : Program) (t : TypeId) (k : List AV → A) : A := obK (tZero P t) fun z => cellsK z k
/-- n zero elements. -/
noncomputable def mkZeroK (P : Program) (ty : TypeId) (sz n : Nat) (k : AObj → A) : A :=
  Bool.rec (zeroK P ty fun z => bbK (lenIs z sz) (mkRowK P ty (rep n z) k)) (k (.bytes ty n 0 0 false)) (tByte P ty)

/-! ### the context -/
inductive Ext where
  | load (k : IntKind) | store | cas (k : IntKind) | add (k : IntKind) | nop (p : Bool) | same | indexByteString | overlaps
inductive Special where
  | ext (e : Ext)
  | fork
structure Cx where
  P : Program
  special : FuncId → Option Special
abbrev OM := Cx → Env → Heap → (AV → Heap → A) → A

/-! ### numbers -/
noncomputable def imax (k : IntKind) : Nat := IntKind.rec 127 32767 2147483647 9223372036854775807 255 65535 4294967295 18446744073709551615 k
noncomputable def ibitsN (k : IntKind) : Nat := IntKind.rec 8 16 32 64 8 16 32 64 k
noncomputable def kindEq (j k : IntKind) : Bool := decide (j = k)
noncomputable def pow2 (k : IntKind) : Nat := IntKind.rec 256 65536 4294967296 18446744073709551616 256 65536 4294967296 18446744073709551616 k
/-- Any number. -/
noncomputable def zK (j : IntKind) (z : Int) (k : AV → A) : A := Int.rec (fun n => fN n fun n => k (.int j n)) (fun n => fN n fun n => k (.neg j n)) z
noncomputable def wrapK (j : IntKind) (z : Int) (k : AV → A) : A := zK j (j.wrap z) k
/-- The number of a kind whose bits are those of n. -/
noncomputable def bitsK (j : IntKind) (n : Nat) (k : AV → A) : A := fN (Nat.mod n (pow2 j)) fun r => Bool.rec (fN (Nat.sub (Nat.sub (pow2 j) 1) r) fun m => k (.neg j m)) (k (.int j r)) (Nat.ble r (imax j))
/-- A number that is no less than 0, wrapped where it must be. -/
noncomputable def mkK (j : IntKind) (n : Nat) (k : AV → A) : A := fN n fun n => Bool.rec (bitsK j n k) (k (.int j n)) (Nat.ble n (imax j))
/-- The number -n, wrapped. -/
noncomputable def mkNegK (j : IntKind) (n : Nat) (k : AV → A) : A := bitsK j (Nat.sub (pow2 j) (Nat.mod n (pow2 j))) k
abbrev IM := IntKind → Nat → Nat → (AV → A) → A
abbrev ZM := IntKind → Int → Int → (AV → A) → A
noncomputable def nAdd : IM := fun j a b k => mkK j (Nat.add a b) k
noncomputable def nMul : IM := fun j a b k => mkK j (Nat.mul a b) k
noncomputable def nSub : IM := fun j a b k => Bool.rec (mkNegK j (Nat.sub b a) k) (mkK j (Nat.sub a b) k) (Nat.ble b a)
noncomputable def nQuo : IM := fun j a b k => Bool.rec (mkK j (Nat.div a b) k) no (Nat.beq b 0)
noncomputable def nRem : IM := fun j a b k => Bool.rec (fN (Nat.mod a b) fun n => k (.int j n)) no (Nat.beq b 0)
noncomputable def zbits (j : IntKind) (a : Int) : Nat := (a % ((2 ^ j.bits : Nat) : Int)).toNat
noncomputable def nBit (f : Nat → Nat → Nat) : IM := fun j a b k => Bool.rec (wrapK j (.ofNat (f (zbits j a) (zbits j b))) k) (fN (f a b) fun n => k (.int j n)) (andB (Nat.ble a (imax j)) (Nat.ble b (imax j)))
noncomputable def nAndNot : IM := fun j a b k => bbK (andB (Nat.ble a (imax j)) (Nat.ble b (imax j))) (fN (Nat.land a (Nat.sub (Nat.sub (pow2 j) 1) b)) fun n => k (.int j n))
noncomputable def nCmp (f : Nat → Nat → Bool) : IM := fun _ a b k => k (.bool (f a b))
noncomputable def min64 (n : Nat) : Nat := Bool.rec 64 n (Nat.ble n 64)
noncomputable def nShl : IM := fun j a b k => mkK j (Nat.shiftLeft a (min64 b)) k
noncomputable def nShr : IM := fun j a b k => bbK (Nat.ble a (imax j)) (fN (Nat.shiftRight a (min64 b)) fun n => k (.int j n))
noncomputable def nltB (a b : Nat) : Bool := Nat.ble (Nat.succ a) b
noncomputable def nOp (o : BinOp) : IM := BinOp.rec (motive := fun _ => IM) nAdd nSub nMul nQuo nRem (nBit Nat.land) (nBit Nat.lor) (nBit Nat.xor) (fun _ _ _ _ => no) (fun _ _ _ _ => no) nAndNot
  (nCmp Nat.beq) (nCmp fun a b => notB (Nat.beq a b)) (nCmp nltB) (nCmp Nat.ble) (nCmp fun a b => nltB b a) (nCmp fun a b => Nat.ble b a) o
noncomputable def zBit (f : Nat → Nat → Nat) : ZM := fun j a b k => wrapK j (.ofNat (f (zbits j a) (zbits j b))) k
noncomputable def zCmp (f : Int → Int → Bool) : ZM := fun _ a b k => k (.bool (f a b))
noncomputable def zOp (o : BinOp) : ZM := BinOp.rec (motive := fun _ => ZM) (fun j a b k => wrapK j (a + b) k) (fun j a b k => wrapK j (a - b) k) (fun j a b k => wrapK j (a * b) k)
  (fun j a b k => Bool.rec (wrapK j (a.tdiv b) k) no (decide (b = 0))) (fun j a b k => Bool.rec (zK j (a.tmod b) k) no (decide (b = 0))) (zBit Nat.land) (zBit Nat.lor) (zBit Nat.xor) (fun _ _ _ _ => no) (fun _ _ _ _ => no) (fun _ _ _ _ => no)
  (zCmp fun a b => decide (a = b)) (zCmp fun a b => notB (decide (a = b))) (zCmp fun a b => decide (a < b)) (zCmp fun a b => decide (a ≤ b)) (zCmp fun a b => decide (b < a)) (zCmp fun a b => decide (b ≤ a)) o
/-- Is it a shift? -/
noncomputable def isSh (o : BinOp) : Bool := BinOp.rec false false false false false false false false true true false false false false false false false o
noncomputable def nSh (o : BinOp) : IM := BinOp.rec (motive := fun _ => IM) (fun _ _ _ _ => no) (fun _ _ _ _ => no) (fun _ _ _ _ => no) (fun _ _ _ _ => no) (fun _ _ _ _ => no) (fun _ _ _ _ => no) (fun _ _ _ _ => no) (fun _ _ _ _ => no) nShl nShr (fun _ _ _ _ => no) (fun _ _ _ _ => no) (fun _ _ _ _ => no) (fun _ _ _ _ => no) (fun _ _ _ _ => no) (fun _ _ _ _ => no) (fun _ _ _ _ => no) o
noncomputable def intBinK (o : BinOp) (j : IntKind) (a : Nat) (j' : IntKind) (b : Nat) (k : AV → A) : A := Bool.rec (bbK (kindEq j j') (nOp o j a b k)) (nSh o j a b k) (isSh o)
noncomputable def zBinK (o : BinOp) (j : IntKind) (a : Int) (j' : IntKind) (b : Int) (k : AV → A) : A := bbK (andB (notB (isSh o)) (kindEq j j')) (zOp o j a b k)

/-- Which of two texts comes first, from place i on; n: the places that are left. -/
noncomputable def bless (la a lb b : Nat) (n : Nat) : Nat → Bool := Nat.rec (motive := fun _ => Nat → Bool) (fun _ => false)
  (fun _ ih i => Bool.rec false (Bool.rec true (Bool.rec (Bool.rec false (ih (Nat.succ i)) (Nat.beq (byteAt a i) (byteAt b i))) true (nltB (byteAt a i) (byteAt b i))) (nltB i la)) (nltB i lb)) n
noncomputable def strLt (la a lb b : Nat) : Bool := bless la a lb b (Nat.succ lb) 0
noncomputable def strEq (la a lb b : Nat) : Bool := Bool.rec false (Nat.beq a b) (Nat.beq la lb)
noncomputable def bK (b : Bool) (k : AV → A) : A := Bool.rec (k (.bool false)) (k (.bool true)) b
noncomputable def strBinK (o : BinOp) : Nat → Nat → Nat → Nat → (AV → A) → A := BinOp.rec (motive := fun _ => Nat → Nat → Nat → Nat → (AV → A) → A)
  (fun la a lb b k => bbK (Nat.ble (Nat.add la lb) 9223372036854775807) (fN (Nat.add la lb) fun l => fN (Nat.add a (Nat.shiftLeft b (Nat.mul 8 la))) fun d => k (.str l d)))
  (fun _ _ _ _ _ => no) (fun _ _ _ _ _ => no) (fun _ _ _ _ _ => no) (fun _ _ _ _ _ => no) (fun _ _ _ _ _ => no) (fun _ _ _ _ _ => no) (fun _ _ _ _ _ => no) (fun _ _ _ _ _ => no) (fun _ _ _ _ _ => no) (fun _ _ _ _ _ => no)
  (fun la a lb b k => bK (strEq la a lb b) k) (fun la a lb b k => bK (notB (strEq la a lb b)) k) (fun la a lb b k => bK (strLt la a lb b) k) (fun la a lb b k => bK (orB (strLt la a lb b) (strEq la a lb b)) k)
  (fun la a lb b k => bK (notB (orB (strLt la a lb b) (strEq la a lb b))) k) (fun la a lb b k => bK (notB (strLt la a lb b)) k) o

/-! ### equality -/
/-- Cells that are numbers: are they the same? -/
noncomputable def intsEqK (xs : List AV) : List AV → (Bool → A) → A := List.rec (motive := fun _ => List AV → (Bool → A) → A)
  (fun ys k => List.rec (k true) (fun _ _ _ => no) ys)
  (fun x _ ih ys k => List.rec no (fun y ys _ => asNatK x fun j a => asNatK y fun j' b => bbK (kindEq j j') (ih ys fun t => k (andB (Nat.beq a b) t))) ys) xs
/-- No byte of it can be shared with a string; and its blocks are apart. -/
noncomputable def isCells (o : AObj) : Bool := AObj.rec (motive := fun _ => Bool) (false) (fun _ _ _ kd => kdOk kd) (fun _ _ _ _ _ => false) (fun _ _ => false) (fun _ _ _ => false) (fun _ _ _ _ => false) (fun _ _ _ _ _ _ _ _ _ => false) (fun _ => false) (false) o
noncomputable def dEq (a b : D) : Bool := Nat.beq a.num b.num
noncomputable def bidEq (a b : Bid) : Bool := Bid.rec (fun a3 a2 a1 a0 => Bid.rec (fun b3 b2 b1 b0 => andB (andB (dEq a0 b0) (dEq a1 b1)) (andB (dEq a2 b2) (dEq a3 b3))) b) a
noncomputable def intElem (P : Program) (t : TypeId) : Bool := match P.underlying t with | some (.int _) => true | _ => false
inductive EqK where
  | bool | ptr | slice | map | func | iface (plain : Bool) | arr (len : Nat)
noncomputable def eqKind (P : Program) (t : TypeId) : Option EqK := match P.underlying t with
  | some .bool => some .bool
  | some (.pointer e) => ob (tSize P e) fun n => bb (notB (Nat.beq n 0)) (some .ptr)
  | some (.slice _) => some .slice
  | some (.map _ _) => some .map
  | some (.func _ _ _) => some .func
  | some (.interface ms) => some (.iface ms.isEmpty)
  | some (.array len el) => bb (andB (notB (P.eqGuardType P.depth t)) (intElem P el)) (ob (tSize P el) fun n => bb (Nat.beq n 1) (some (.arr len)))
  | _ => none
noncomputable def isK (o : Operand) : Bool := Operand.rec (fun _ => false) (fun _ => true) (fun _ => false) (fun _ => false) o
/-- Two dynamic types that are one: may their values be held side by side as numbers? -/
noncomputable def intDyn (P : Program) (t : TypeId) : Bool := match P.info? t with | some i => andB i.comparable (intElem P t) | none => false
noncomputable def eqVK (P : Program) (q : EqK) (kx : Bool) (x y : AV) (h : Heap) (k : Bool → A) : A := EqK.rec
  (asBoolK x fun a => asBoolK y fun b => k (Bool.rec (notB b) b a))
  (asPtrZ x (asPtrZ y (k true) fun _ _ => k false) fun b i => asPtrZ y (k false) fun c j => Bool.rec (hgK b h fun o => hgK c h fun o' => bbK (andB (isCells o) (isCells o')) (k false)) (k (Nat.beq i j)) (bidEq b c))
  (asSlK x (asSlK y (k true) fun _ _ _ _ _ _ => k false) fun _ _ _ _ _ _ => asSlK y (k false) fun _ _ _ _ _ _ => no)
  (asMapK x (asMapK y (k true) fun _ => k false) fun _ => asMapK y (k false) fun _ => no)
  (asFuncK x (asFuncK y (k true) fun _ _ _ => k false) fun _ _ _ => asFuncK y (k false) fun _ _ _ => no)
  (fun plain => asIfaceK x (asIfaceK y (bbK (orB kx plain) (k true)) fun _ _ => k false) fun t v => asIfaceK y (k false) fun u w =>
    Bool.rec (k false) (bbK (intDyn P t) (asNatK v fun j a => asNatK w fun j' b => bbK (kindEq j j') (k (Nat.beq a b)))) (Nat.beq t u))
  (fun len => asAggK x fun xs => asAggK y fun ys => bbK (andB (lenIs xs len) (lenIs ys len)) (intsEqK xs ys k)) q
noncomputable def eqBinK (P : Program) (o : BinOp) (t : TypeId) (kx : Bool) (x y : AV) (h : Heap) (k : AV → A) : A :=
  BinOp.rec no no no no no no no no no no no (obK (eqKind P t) fun q => eqVK P q kx x y h fun b => bK b k) (obK (eqKind P t) fun q => eqVK P q kx x y h fun b => bK (notB b) k) no no no no o
/-- A length held against a capacity that is not known. -/
noncomputable def capBinK (o : BinOp) (n lo hi : Nat) (k : AV → A) : A :=
  BinOp.rec no no no no no no no no no no no no no no no (Bool.rec (bbK (andB (notB (Nat.beq hi 0)) (Nat.ble hi n)) (k (.bool true))) (k (.bool false)) (Nat.ble n lo)) no o
abbrev B2 := BinOp → Program → TypeId → Bool → Heap → (AV → A) → A
noncomputable def bInt (j : IntKind) (a : Nat) (y : AV) : BinOp → (AV → A) → A := AV.rec (motive_1 := fun _ => BinOp → (AV → A) → A) (motive_2 := fun _ => Unit)
  (fun _ _ _ => no) (fun j' b o k => intBinK o j a j' b k) (fun j' b o k => zBinK o j (.ofNat a) j' (.negSucc b) k) (fun _ _ _ _ => no) (fun _ _ => no) (fun _ _ _ _ => no) (fun _ _ => no) (fun _ _ _ _ _ _ _ _ => no) (fun _ _ => no) (fun _ _ _ => no) (fun _ _ => no) (fun _ _ _ _ _ _ _ => no) (fun _ _ => no) (fun _ _ _ _ _ => no) (fun _ _ _ _ => no) (fun _ _ _ _ => no) (fun _ _ => no) (fun lo hi o k => bbK (kindEq j .i64) (capBinK o a lo hi k)) () (fun _ _ _ _ => ()) y
noncomputable def bNeg (j : IntKind) (a : Nat) (y : AV) : BinOp → (AV → A) → A := AV.rec (motive_1 := fun _ => BinOp → (AV → A) → A) (motive_2 := fun _ => Unit)
  (fun _ _ _ => no) (fun j' b o k => zBinK o j (.negSucc a) j' (.ofNat b) k) (fun j' b o k => zBinK o j (.negSucc a) j' (.negSucc b) k) (fun _ _ _ _ => no) (fun _ _ => no) (fun _ _ _ _ => no) (fun _ _ => no) (fun _ _ _ _ _ _ _ _ => no) (fun _ _ => no) (fun _ _ _ => no) (fun _ _ => no) (fun _ _ _ _ _ _ _ => no) (fun _ _ => no) (fun _ _ _ _ _ => no) (fun _ _ _ _ => no) (fun _ _ _ _ => no) (fun _ _ => no) (fun _ _ _ _ => no) () (fun _ _ _ _ => ()) y
noncomputable def binK (x y : AV) : B2 := AV.rec (motive_1 := fun _ => B2) (motive_2 := fun _ => Unit)
  (fun _ o P t kx h k => eqBinK P o t kx x y h k) (fun j a o _ _ _ _ k => bInt j a y o k) (fun j a o _ _ _ _ k => bNeg j a y o k) (fun l d o _ _ _ _ k => asStrK y fun m c => strBinK o l d m c k) (fun o P t kx h k => eqBinK P o t kx x y h k) (fun _ _ o P t kx h k => eqBinK P o t kx x y h k) (fun o P t kx h k => eqBinK P o t kx x y h k) (fun _ _ _ _ _ _ o P t kx h k => eqBinK P o t kx x y h k) (fun o P t kx h k => eqBinK P o t kx x y h k) (fun _ o P t kx h k => eqBinK P o t kx x y h k) (fun o P t kx h k => eqBinK P o t kx x y h k) (fun _ _ _ _ _ o P t kx h k => eqBinK P o t kx x y h k) (fun o P t kx h k => eqBinK P o t kx x y h k) (fun _ _ _ o P t kx h k => eqBinK P o t kx x y h k) (fun _ _ o P t kx h k => eqBinK P o t kx x y h k) (fun _ _ o P t kx h k => eqBinK P o t kx x y h k) (fun o P t kx h k => eqBinK P o t kx x y h k) (fun _ _ o P t kx h k => eqBinK P o t kx x y h k) () (fun _ _ _ _ => ()) x
noncomputable def unK (o : UnOp) : AV → (AV → A) → A := UnOp.rec (motive := fun _ => AV → (AV → A) → A)
  (fun x k => asIntK x (fun j n => mkNegK j n k) fun j n => mkK j (Nat.succ n) k)
  (fun x k => asNatK x fun j n => bbK (Nat.ble n (imax j)) (Bool.rec (fN (Nat.sub (imax j) n) fun n => k (.int j n)) (k (.neg j n)) j.signed))
  (fun x k => asBoolK x fun b => bK (notB b) k) (fun _ _ => no) o

/-! ### the operations: plain ones -/
noncomputable def moveF (a : Operand) : OM := fun _ e h k => opdK a e fun v => k v h
noncomputable def pickF (c a b : Operand) : OM := fun _ e h k => opdK c e fun t => asBoolK t fun t => Bool.rec (opdK b e fun v => k v h) (opdK a e fun v => k v h) t
noncomputable def binF (o : BinOp) (t : TypeId) (x y : Operand) (_ : TypeId) : OM := fun C e h k => opdK x e fun a => opdK y e fun b => binK a b o C.P t (orB (isK x) (isK y)) h fun v => k v h
noncomputable def unF (o : UnOp) (_ : TypeId) (x : Operand) : OM := fun _ e h k => opdK x e fun a => unK o a fun v => k v h
noncomputable def nilCheckF (x : Operand) : OM := fun _ e h k => opdK x e fun v => nilK v no (k v h)
noncomputable def isIface (P : Program) (t : TypeId) : Option Bool := ob (P.underlying t) fun | .interface _ => some true | _ => some false
noncomputable def makeIfaceF (t : TypeId) (x : Operand) : OM := fun C e h k => obK (isIface C.P t) fun b => bbK (notB b) (opdK x e fun v => k (.iface t v) h)
noncomputable def makeFuncF (fn : Fn) (first captured : Array Operand) : OM := fun _ e h k => opdsK first.toList e fun a => opdsK captured.toList e fun c =>
  Fn.rec (fun f => k (.func (.func f) a c) h) (fun n => k (.func (.method n) a c) h) (fun _ _ => no) (fun _ _ _ _ => no) (fun _ => no) fn
noncomputable def extractF (t : Operand) (i : Nat) : OM := fun _ e h k => opdK t e fun v => asTupleK v fun vs => obK (lnth vs i) fun v => k v h

/- addresses -/
noncomputable def fieldAt (P : Program) (t : TypeId) (f : Nat) : Option (Nat × TypeId) := match P.underlying t with
  | some (.struct fields) => ob (fields[f]?) fun fd => some (fd.offset, fd.type)
  | _ => none
noncomputable def fieldOff (P : Program) (t : TypeId) (f : Nat) : Option Nat := ob (fieldAt P t f) fun q => ob (tSize P q.2) fun n => bb (notB (Nat.beq n 0)) (some q.1)
noncomputable def fieldAddrF (t : TypeId) (x : Operand) (f : Nat) : OM := fun C e h k => obK (fieldOff C.P t f) fun o => opdK x e fun v => asPtrK v fun b i => fN (Nat.add i o) fun i => k (.ptr b i) h
noncomputable def ldrop {α : Type} (n : Nat) : List α → List α := Nat.rec (motive := fun _ => List α → List α) (fun l => l) (fun _ ih l => List.rec [] (fun _ r _ => ih r) l) n
noncomputable def ltake {α : Type} (n : Nat) : List α → Option (List α) := Nat.rec (motive := fun _ => List α → Option (List α)) (fun _ => some []) (fun _ ih l => List.rec none (fun x r _ => ob (ih r) fun r => some (x :: r)) l) n
noncomputable def partK (P : Program) (t : TypeId) (cs : List AV) (off : Nat) (k : AV → A) : A :=
  obK (tCell P t) fun g => Bool.rec (obK (lnth cs off) k) (obK (tSize P t) fun n => obK (ltake n (ldrop off cs)) fun l => k (.agg l)) g
noncomputable def fieldF (t : TypeId) (x : Operand) (f : Nat) : OM := fun C e h k => obK (fieldAt C.P t f) fun q => opdK x e fun v => asAggK v fun cs => partK C.P q.2 cs q.1 fun v => k v h
inductive IxK where
  | arr (len : Nat) (el : TypeId) (sz : Nat) | sl (sz : Nat) | str
noncomputable def ixKind (P : Program) (t : TypeId) : Option IxK := match P.underlying t with
  | some (.array len el) => ob (tSize P el) fun n => some (.arr len el n)
  | some (.slice el) => ob (tSize P el) fun n => some (.sl n)
  | some .string => some .str
  | _ => none
noncomputable def indexAddrF (t : TypeId) (x i : Operand) : OM := fun C e h k => obK (ixKind C.P t) fun q => opdK i e fun i => asNatK i fun _ i => opdK x e fun x =>
  IxK.rec (fun len _ sz => asPtrK x fun b o => bbK (nltB i len) (fN (Nat.add o (Nat.mul i sz)) fun o => k (.ptr b o) h))
    (fun sz => asSlK x no fun b o n _ _ z => bbK (nltB i n) (bbK (Nat.beq z sz) (fN (Nat.add o (Nat.mul i sz)) fun o => k (.ptr b o) h))) no q
noncomputable def indexF (t : TypeId) (x i : Operand) : OM := fun C e h k => obK (ixKind C.P t) fun q => opdK i e fun i => asNatK i fun _ i => opdK x e fun x =>
  IxK.rec (fun len el sz => asAggK x fun cs => bbK (nltB i len) (partK C.P el cs (Nat.mul i sz) fun v => k v h)) (fun _ => no)
    (asStrK x fun l d => bbK (nltB i l) (fN (byteAt d i) fun x => k (.int .u8 x) h)) q
/- slices -/
noncomputable def onatK (o : Option Operand) (z : Nat) (e : Env) (k : Nat → A) : A := Option.rec (k z) (fun a => opdK a e fun v => asNatK v fun _ n => k n) o
noncomputable def sub0 (a b : Nat) : Nat := Bool.rec (Nat.sub a b) 0 (Nat.beq a 0)
inductive SlK where
  | str | sl (sz : Nat) | arr (len sz : Nat)
noncomputable def slKind (P : Program) (t : TypeId) : Option SlK := match P.underlying t with
  | some .string => some .str
  | some (.slice el) => ob (tSize P el) fun n => some (.sl n)
  | some (.array len el) => ob (tSize P el) fun n => some (.arr len n)
  | some (.pointer a) => (match P.underlying a with | some (.array len el) => ob (tSize P el) fun n => some (.arr len n) | _ => none)
  | _ => none
noncomputable def mkSl (b : Bid) (o i sz l lo hi : Nat) (k : AV → A) : A := fN (Nat.add o (Nat.mul i sz)) fun o => fN l fun l => fN lo fun lo => fN hi fun hi => k (.slice b o l lo hi sz)
/-- Has it n cells? -/
noncomputable def roomB (o : AObj) (n : Nat) : Bool := AObj.rec (motive := fun _ => Bool) (false) (fun _ m _ _ => Nat.ble n m) (fun _ m _ _ _ => Nat.ble n m) (fun _ _ => false) (fun _ _ _ => false) (fun _ _ _ _ => false) (fun _ _ _ _ _ _ _ _ _ => false) (fun _ => false) (false) o
noncomputable def sliceF (t : TypeId) (x : Operand) (lo hi mx : Option Operand) : OM := fun C e h k => obK (slKind C.P t) fun q => opdK x e fun x =>
  SlK.rec (bbK (isNo mx) (asStrK x fun l d => onatK hi l e fun j => onatK lo 0 e fun i => bbK (Nat.ble i j) (bbK (Nat.ble j l) (fN (Nat.sub j i) fun n => fN (byteCut d i n) fun d => k (.str n d) h))))
    (fun sz => asSlK x (onatK hi 0 e fun j => onatK lo 0 e fun i => bbK (andB (isNo mx) (andB (Nat.beq j 0) (Nat.beq i 0))) (k .nils h))
      fun b o n cl ch z => bbK (Nat.beq z sz) (onatK hi n e fun j => onatK lo 0 e fun i => bbK (Nat.ble i j)
        (Option.rec (bbK (Nat.ble j cl) (mkSl b o i sz (Nat.sub j i) (Nat.sub cl i) (sub0 ch i) fun v => k v h))
          (fun m => bbK (notB (isNo hi)) (opdK m e fun v => asNatK v fun _ m => bbK (andB (Nat.ble j m) (Nat.ble m cl)) (mkSl b o i sz (Nat.sub j i) (Nat.sub m i) (Nat.succ (Nat.sub m i)) fun v => k v h))) mx)))
    (fun len sz => bbK (isNo mx) (asPtrK x fun b o => hgK b h fun ob => bbK (roomB ob (Nat.add o (Nat.mul len sz))) (onatK hi len e fun j => onatK lo 0 e fun i => bbK (Nat.ble i j) (bbK (Nat.ble j len)
      (mkSl b o i sz (Nat.sub j i) (Nat.sub len i) (Nat.succ (Nat.sub len i)) fun v => k v h))))) q

/-! ### memory -/
noncomputable def loadF (t : TypeId) (a : Operand) : OM := fun C e h k => opdK a e fun a => asPtrK a fun b i => hgK b h fun o => ldVarK C.P t o i fun v => k v h
noncomputable def storeF (t : TypeId) (a v : Operand) : OM := fun C e h k => opdK a e fun a => asPtrK a fun b i => hgK b h fun o => opdK v e fun v => stVarK C.P t v o i fun o => hsK b o h fun h => k .undef h
noncomputable def allocF (t : TypeId) : OM := fun C _ h k => zeroK C.P t fun cs => mkRowK C.P t cs fun o => hnewK o h fun b h => k (.ptr b 0) h
noncomputable def boxF (t : TypeId) (x : Operand) : OM := fun C e h k => opdK x e fun x => cellsK x fun cs => mkRowK C.P t cs fun o => hnewK o h fun b h => k (.ptr b 0) h
noncomputable def over (vs : List AV) : List AV → List AV := List.rec (motive := fun _ => List AV → List AV) (fun cs => cs) (fun v _ ih cs => List.rec [] (fun _ cs _ => v :: ih cs) cs) vs
noncomputable def lput (vs : List AV) (off : Nat) : List AV → List AV := Nat.rec (motive := fun _ => List AV → List AV) (over vs) (fun _ ih cs => List.rec [] (fun c cs _ => c :: ih cs) cs) off
/-- Where a part lies. -/
noncomputable def place (P : Program) (t : TypeId) (i : Nat) : Option (Nat × Nat) := match P.underlying t with
  | some (.struct fields) => ob (fields[i]?) fun fd => ob (tSize P fd.type) fun n => some (fd.offset, n)
  | some (.array _ el) => ob (tSize P el) fun n => some (i * n, n)
  | some (.slice el) => ob (tSize P el) fun n => some (i * n, n)
  | _ => none
noncomputable def partsK (P : Program) (t : TypeId) (zl : Nat) (ps : List (Nat × Operand)) : Env → List AV → (List AV → A) → A :=
  List.rec (motive := fun _ => Env → List AV → (List AV → A) → A) (fun _ cs k => k cs)
    (fun p _ ih e cs k => obK (place P t p.1) fun q => bbK (Nat.ble (Nat.add q.1 q.2) zl) (opdK p.2 e fun v => cellsK v fun vs => bbK (lenIs vs q.2) (ih e (lput vs q.1 cs) k))) ps
noncomputable def isBuilt (P : Program) (t : TypeId) : Bool := match P.underlying t with | some (.struct fs) => fs.toList.all fun fd => (P.info? fd.type).isSome | some (.array _ el) => (P.info? el).isSome | _ => false
noncomputable def buildF (t : TypeId) (ps : Array (Nat × Operand)) : OM := fun C e h k => bbK (isBuilt C.P t) (zeroK C.P t fun z => partsK C.P t (llen z) ps.toList e z fun cs => k (.agg cs) h)
/-- An element's type, and its cells. -/
noncomputable def elemOf (P : Program) (t : TypeId) : Option (TypeId × Nat) := ob (tSlice P t) fun el => ob (P.info? el) fun i => bb (Nat.ble i.bytes 65536) (some (el, i.size))
noncomputable def buildSliceF (t : TypeId) (n : Nat) (ps : Array (Nat × Operand)) : OM := fun C e h k => obK (elemOf C.P t) fun q => zeroK C.P q.1 fun z =>
  bbK (andB (lenIs z q.2) (Nat.ble (Nat.mul n q.2) 16777216)) (partsK C.P t (Nat.mul n q.2) ps.toList e (rep n z) fun cs => mkRowK C.P q.1 cs fun o => hnewK o h fun b h => k (.slice b 0 n n (Nat.succ n) q.2) h)
noncomputable def makeSliceF (t : TypeId) (l c : Operand) : OM := fun C e h k => obK (elemOf C.P t) fun q => opdK l e fun l => asNatK l fun _ l => opdK c e fun c => asNatK c fun _ c =>
  bbK (andB (Nat.ble l c) (Nat.ble c 65536)) (mkZeroK C.P q.1 q.2 c fun o => hnewK o h fun b h => k (.slice b 0 l c (Nat.succ c) q.2) h)


/-! ### rows of bytes, appending, copying -/
noncomputable def srcLenK (x : AV) : (Nat → A) → A := AV.rec (motive_1 := fun _ => (Nat → A) → A) (motive_2 := fun _ => Unit)
  (fun _ _ => no) (fun _ _ _ => no) (fun _ _ _ => no) (fun l _ k => k l) (fun _ => no) (fun _ _ _ => no) (fun k => k 0) (fun _ _ l _ _ _ k => k l) (fun _ => no) (fun _ _ => no) (fun _ => no) (fun _ _ _ _ _ _ => no) (fun _ => no) (fun _ _ _ _ => no) (fun _ _ _ => no) (fun _ _ _ => no) (fun _ => no) (fun _ _ _ => no) () (fun _ _ _ _ => ()) x
noncomputable def obBytesK (o : AObj) : Nat → Nat → (Nat → A) → A := AObj.rec (motive := fun _ => Nat → Nat → (Nat → A) → A) (fun _ _ _ => no) (fun _ m t _ n i k => bbK (Nat.ble (Nat.add i n) m) (ctL t n i fun vs => bytesOfLK vs k)) (fun _ m d _ _ n i k => bbK (Nat.ble (Nat.add i n) m) (fN (byteCut d i n) k)) (fun _ _ _ _ _ => no) (fun _ _ _ _ _ _ => no) (fun _ _ _ _ _ _ _ => no) (fun _ _ _ _ _ _ _ _ _ _ _ _ => no) (fun _ _ _ _ => no) (fun _ _ _ => no) o
/-- n bytes of a string or a slice. -/
noncomputable def srcBytesK (x : AV) : Nat → Heap → (Nat → A) → A := AV.rec (motive_1 := fun _ => Nat → Heap → (Nat → A) → A) (motive_2 := fun _ => Unit)
  (fun _ _ _ _ => no) (fun _ _ _ _ _ => no) (fun _ _ _ _ _ => no) (fun l d n _ k => bbK (Nat.ble n l) (fN (byteCut d 0 n) k)) (fun _ _ _ => no) (fun _ _ _ _ _ => no) (fun n _ k => bbK (Nat.beq n 0) (k 0)) (fun b o l _ _ z n h k => bbK (andB (Nat.ble n l) (Nat.beq z 1)) (hgK b h fun ob => obBytesK ob n o k)) (fun _ _ _ => no) (fun _ _ _ _ => no) (fun _ _ _ => no) (fun _ _ _ _ _ _ _ _ => no) (fun _ _ _ => no) (fun _ _ _ _ _ _ => no) (fun _ _ _ _ _ => no) (fun _ _ _ _ _ => no) (fun _ _ _ => no) (fun _ _ _ _ _ => no) () (fun _ _ _ _ => ()) x
/-- n elements of a string or a slice. -/
noncomputable def srcCellsK (x : AV) : Nat → Nat → Heap → (List AV → A) → A := AV.rec (motive_1 := fun _ => Nat → Nat → Heap → (List AV → A) → A) (motive_2 := fun _ => Unit)
  (fun _ _ _ _ _ => no) (fun _ _ _ _ _ _ => no) (fun _ _ _ _ _ _ => no) (fun l d n sz _ k => bbK (andB (Nat.ble n l) (Nat.beq sz 1)) (k (strL d n 0))) (fun _ _ _ _ => no) (fun _ _ _ _ _ _ => no) (fun n _ _ k => bbK (Nat.beq n 0) (k [])) (fun b o l _ _ z n sz h k => bbK (andB (Nat.ble n l) (Nat.beq z sz)) (hgK b h fun ob => ldLK ob (Nat.mul n sz) o k)) (fun _ _ _ _ => no) (fun _ _ _ _ _ => no) (fun _ _ _ _ => no) (fun _ _ _ _ _ _ _ _ _ => no) (fun _ _ _ _ => no) (fun _ _ _ _ _ _ _ => no) (fun _ _ _ _ _ _ => no) (fun _ _ _ _ _ _ => no) (fun _ _ _ _ => no) (fun _ _ _ _ _ _ => no) () (fun _ _ _ _ => ()) x
noncomputable def tyIs (o : AObj) (t : TypeId) : Bool := AObj.rec (motive := fun _ => Bool) (false) (fun ty _ _ _ => Nat.beq ty t) (fun ty _ _ _ _ => Nat.beq ty t) (fun _ _ => false) (fun _ _ _ => false) (fun _ _ _ _ => false) (fun _ _ _ _ _ _ _ _ _ => false) (fun _ => false) (false) o
noncomputable def cellsOk (o : AObj) : Bool := AObj.rec (motive := fun _ => Bool) (false) (fun _ _ _ kd => kdOk kd) (fun _ _ _ _ _ => false) (fun _ _ => false) (fun _ _ _ => false) (fun _ _ _ _ => false) (fun _ _ _ _ _ _ _ _ _ => false) (fun _ => false) (false) o
/-- Is it sure that a slice of that capacity cannot bear n? -/
noncomputable def surely (ch n : Nat) : Bool := Bool.rec (Nat.ble ch n) false (Nat.beq ch 0)
/-- xs, n bytes, behind a slice of bytes in an object of bytes. -/
noncomputable def apB (o : AObj) : (n xs : Nat) → Bid → (off len cl ch : Nat) → TypeId → Heap → (AV → Heap → A) → A := AObj.rec (motive := fun _ => Nat → Nat → Bid → Nat → Nat → Nat → Nat → TypeId → Heap → (AV → Heap → A) → A) (fun _ _ _ _ _ _ _ _ _ _ => no) (fun _ _ _ _ _ _ _ _ _ _ _ _ _ _ => no) (fun ty m d fz g n xs b off len cl ch el h k => bbK (Nat.ble (Nat.add off len) m) (fN (Nat.add len n) fun l2 => Bool.rec
      (Bool.rec
        (bbK (andB (Nat.beq ty el) (Nat.ble fz (Nat.add off len))) (fN (bytePut (byteCut d off len) len n xs) fun d2 => fN (Nat.sub fz off) fun fz => hsK b .none h fun h => hnewK (.bytes el l2 d2 fz g) h fun b' h => k (.slice b' 0 l2 l2 0 1) h))
        (fN (bytePut (byteCut d off len) len n xs) fun d2 => hnewK (.bytes el l2 d2 0 false) h fun b' h => k (.slice b' 0 l2 l2 0 1) h)
        (surely ch l2))
      (bbK (andB (Nat.ble (Nat.add off l2) m) (orB (Nat.beq n 0) (Nat.ble fz (Nat.add off len)))) (fN (bytePut d (Nat.add off len) n xs) fun d2 => hsK b (.bytes ty m d2 fz g) h fun h => k (.slice b off l2 cl ch 1) h))
      (Nat.ble l2 cl))) (fun _ _ _ _ _ _ _ _ _ _ _ _ => no) (fun _ _ _ _ _ _ _ _ _ _ _ _ _ => no) (fun _ _ _ _ _ _ _ _ _ _ _ _ _ _ => no) (fun _ _ _ _ _ _ _ _ _ _ _ _ _ _ _ _ _ _ _ => no) (fun _ _ _ _ _ _ _ _ _ _ _ => no) (fun _ _ _ _ _ _ _ _ _ _ => no) o
noncomputable def appendBytes (el : TypeId) (s : AV) (n xs : Nat) (h : Heap) (k : AV → Heap → A) : A :=
  asSlK s (Bool.rec (bbK (Nat.ble n 16777216) (hnewK (.bytes el n xs 0 false) h fun b h => k (.slice b 0 n n 0 1) h)) (k .nils h) (Nat.beq n 0))
    fun b off len cl ch z => bbK (andB (Nat.beq z 1) (Nat.ble (Nat.add len n) 16777216)) (hgK b h fun o => apB o n xs b off len cl ch el h k)
/-- xs, n elements, behind a slice. -/
noncomputable def appendTo (P : Program) (el sz : Nat) (s : AV) (n : Nat) (xs : List AV) (h : Heap) (k : AV → Heap → A) : A :=
  bbK (andB (allOne xs) (lenIs xs (Nat.mul n sz))) (asSlK s (Bool.rec (bbK (Nat.ble n 16777216) (ctofK xs fun t' => fN (Nat.mul n sz) fun m => hnewK (.cells el m t' .plain) h fun b h => k (.slice b 0 n n 0 sz) h)) (k .nils h) (Nat.beq n 0))
    fun b off len cl ch z => bbK (andB (Nat.beq z sz) (Nat.ble (Nat.add len n) 16777216)) (hgK b h fun o => fN (Nat.add len n) fun l2 => Bool.rec
      (ldLK o (Nat.mul len sz) off fun old => ctofK (app old xs) fun t' => Bool.rec
        (bbK (andB (cellsOk o) (tyIs o el)) (hsK b .none h fun h => fN (Nat.mul l2 sz) fun m => hnewK (.cells el m t' .plain) h fun b' h => k (.slice b' 0 l2 l2 0 sz) h))
        (bbK (allOne old) (fN (Nat.mul l2 sz) fun m => hnewK (.cells el m t' .plain) h fun b' h => k (.slice b' 0 l2 l2 0 sz) h))
        (surely ch l2))
      (stLK xs o (Nat.add off (Nat.mul len sz)) fun o => hsK b o h fun h => k (.slice b off l2 cl ch sz) h)
      (Nat.ble l2 cl)))
/-- What is appended: elements of a type, of a size; are they bytes? is the second argument a number (of zeros)? -/
inductive ApK where
  | mk (el : TypeId) (sz : Nat) (byte zeros : Bool)
noncomputable def intD (d : TypeDesc) : Option Bool := match d with | .int _ => some true | .string => some false | .slice _ => some false | _ => none
noncomputable def apKind (P : Program) (ts : Array TypeId) : Option ApK := ob ts[0]? fun t => ob (tSlice P t) fun el => ob (P.info? el) fun i => ob i.zero fun z => bb (andB (andB (notB (Nat.beq i.size 0)) (Nat.beq z.cells.size i.size)) (Nat.ble i.bytes 65536))
  (Option.rec (some (.mk el i.size (tByte P el) false)) (fun u => ob (P.underlying u) fun d => ob (intD d) fun g => some (.mk el i.size (tByte P el) g)) ts[1]?)
noncomputable def appendF (ts : Array TypeId) (s x : AV) (C : Cx) (h : Heap) (k : AV → Heap → A) : A := obK (apKind C.P ts) fun q => ApK.rec (fun el sz byte zeros => Bool.rec
  (srcLenK x fun n => Bool.rec (srcCellsK x n sz h fun xs => appendTo C.P el sz s n xs h k) (srcBytesK x n h fun xs => appendBytes el s n xs h k) byte)
  (asNatK x fun j n => bbK (andB (kindEq j .i64) (Nat.ble n 65536)) (Bool.rec (zeroK C.P el fun z => appendTo C.P el sz s n (rep n z) h k) (appendBytes el s n 0 h k) byte)) zeros) q
noncomputable def putBytesK (o : AObj) : Nat → Nat → Nat → (AObj → A) → A := AObj.rec (motive := fun _ => Nat → Nat → Nat → (AObj → A) → A) (fun _ _ _ _ => no) (fun _ _ _ _ _ _ _ _ => no) (fun ty m d fz g o n xs k => bbK (andB (Nat.ble (Nat.add o n) m) (orB (Nat.beq n 0) (Nat.ble fz o))) (fN (bytePut d o n xs) fun d => k (.bytes ty m d fz g))) (fun _ _ _ _ _ _ => no) (fun _ _ _ _ _ _ _ => no) (fun _ _ _ _ _ _ _ _ => no) (fun _ _ _ _ _ _ _ _ _ _ _ _ _ => no) (fun _ _ _ _ _ => no) (fun _ _ _ _ => no) o
noncomputable def isBytes (o : AObj) : Bool := AObj.rec (motive := fun _ => Bool) (false) (fun _ _ _ _ => false) (fun _ _ _ _ _ => true) (fun _ _ => false) (fun _ _ _ => false) (fun _ _ _ _ => false) (fun _ _ _ _ _ _ _ _ _ => false) (fun _ => false) (false) o
noncomputable def minN (a b : Nat) : Nat := Bool.rec b a (Nat.ble a b)
noncomputable def copyF (t : TypeId) (d s : AV) (C : Cx) (h : Heap) (k : AV → Heap → A) : A := obK (elemOf C.P t) fun q => srcLenK s fun n => asSlK d (k (.int .i64 0) h) fun b o m _ _ z =>
  bbK (Nat.beq z q.2) (fN (minN n m) fun n => hgK b h fun ob => Bool.rec
    (srcCellsK s n z h fun xs => stLK xs ob o fun ob => hsK b ob h fun h => k (.int .i64 n) h)
    (bbK (Nat.beq z 1) (srcBytesK s n h fun xs => putBytesK ob o n xs fun ob => hsK b ob h fun h => k (.int .i64 n) h)) (isBytes ob))

/-! ### maps -/
inductive KeyK where
  | int | str | arr (len : Nat)
noncomputable def keyKind (P : Program) (t : TypeId) : Option (KeyK × TypeId) := match P.underlying t with
  | some (.map k el) => (match P.underlying k with
    | some (.int _) => some (.int, el)
    | some .string => some (.str, el)
    | some (.array len e) => bb (intElem P e) (ob (tSize P e) fun n => bb (Nat.beq n 1) (some (.arr len, el)))
    | _ => none)
  | _ => none
/-- Are two keys one? -/
noncomputable def keyEqK (q : KeyK) (x y : AV) (k : Bool → A) : A := KeyK.rec
  (asIntK x (fun j a => asIntK y (fun j' b => bbK (kindEq j j') (k (Nat.beq a b))) fun j' _ => bbK (kindEq j j') (k false)) fun j a => asIntK y (fun j' _ => bbK (kindEq j j') (k false)) fun j' b => bbK (kindEq j j') (k (Nat.beq a b)))
  (asStrK x fun l d => asStrK y fun m c => k (strEq l d m c)) (fun len => asAggK x fun xs => asAggK y fun ys => bbK (andB (lenIs xs len) (lenIs ys len)) (intsEqK xs ys k)) q
/-- An entry: zn where there is none. -/
noncomputable def findEK (q : KeyK) (x : AV) (es : List AEnt) : A → (AV → AV → Nat → A) → A := List.rec (motive := fun _ => A → (AV → AV → Nat → A) → A) (fun z _ => z) (fun e _ ih z k => AEnt.rec (fun y v n => keyEqK q x y fun t => Bool.rec (ih z k) (k y v n) t) e) es
/-- The entry of that key has another value (and its key is written anew). -/
noncomputable def updEK (q : KeyK) (x w : AV) (es : List AEnt) : (List AEnt → A) → A := List.rec (motive := fun _ => (List AEnt → A) → A) (fun k => k []) (fun e r ih k => AEnt.rec (fun y v n => keyEqK q x y fun t => Bool.rec (ih fun r => k (.mk y v n :: r)) (k (.mk x w n :: r)) t) e) es
noncomputable def delEK (q : KeyK) (x : AV) (es : List AEnt) : (List AEnt → A) → A := List.rec (motive := fun _ => (List AEnt → A) → A) (fun k => k []) (fun e r ih k => AEnt.rec (fun y v n => keyEqK q x y fun t => Bool.rec (ih fun r => k (.mk y v n :: r)) (k r) t) e) es
noncomputable def asMapO (o : AObj) : (List AEnt → Nat → A) → A := AObj.rec (motive := fun _ => (List AEnt → Nat → A) → A) (fun _ => no) (fun _ _ _ _ _ => no) (fun _ _ _ _ _ _ => no) (fun es c k => k es c) (fun _ _ _ _ => no) (fun _ _ _ _ _ => no) (fun _ _ _ _ _ _ _ _ _ _ => no) (fun _ _ => no) (fun _ => no) o
noncomputable def foundK (ok : Bool) (v : AV) (t : Bool) (k : AV → A) : A := Bool.rec (k v) (k (.tuple [v, .bool t])) ok
noncomputable def lookupF (t : TypeId) (x i : Operand) (ok : Bool) : OM := fun C e h k => obK (keyKind C.P t) fun q => opdK x e fun x => opdK i e fun i =>
  asMapK x (keyEqK q.1 i i fun _ => obK (tZero C.P q.2) fun z => foundK ok z false fun v => k v h)
    fun b => hgK b h fun o => asMapO o fun es _ => keyEqK q.1 i i fun _ => findEK q.1 i es (obK (tZero C.P q.2) fun z => foundK ok z false fun v => k v h) fun _ v _ => foundK ok v true fun v => k v h
noncomputable def newEntK (i v : AV) (es : List AEnt) (c : Nat) (b : Bid) (h : Heap) (k : Heap → A) : A := fN (Nat.succ c) fun c' => hsK b (.map (app es [.mk i v c]) c') h k
noncomputable def mapUpdateF (t : TypeId) (m i v : Operand) : OM := fun C e h k => obK (keyKind C.P t) fun q => opdK m e fun m => asMapK m no fun b => hgK b h fun o => asMapO o fun es c => opdK i e fun i => opdK v e fun v => keyEqK q.1 i i fun _ =>
  findEK q.1 i es (newEntK i v es c b h fun h => k .undef h) fun _ _ _ => updEK q.1 i v es fun es => hsK b (.map es c) h fun h => k .undef h
noncomputable def mapEntryF (t : TypeId) (m i : Operand) : OM := fun C e h k => obK (keyKind C.P t) fun q => opdK m e fun m => asMapK m no fun b => hgK b h fun o => asMapO o fun es c => opdK i e fun i => keyEqK q.1 i i fun _ =>
  findEK q.1 i es (obK (tZero C.P q.2) fun z => newEntK i z es c b h fun h => k (.tuple [z, .int .i64 c]) h) fun _ v n => updEK q.1 i v es fun es => hsK b (.map es c) h fun h => k (.tuple [v, .int .i64 n]) h
noncomputable def hasBorn (n : Nat) (es : List AEnt) : Bool := List.rec false (fun e _ ih => AEnt.rec (fun _ _ m => Bool.rec ih true (Nat.beq m n)) e) es
/-- The entry of that stamp: the first one. -/
noncomputable def setBorn (n : Nat) (v : AV) (es : List AEnt) : List AEnt := List.rec [] (fun e r ih => AEnt.rec (fun q w m => Bool.rec (.mk q w m :: ih) (.mk q v m :: r) (Nat.beq m n)) e) es
noncomputable def entryStoreF (_ : TypeId) (m s v : Operand) : OM := fun _ e h k => opdK m e fun m => asMapK m no fun b => hgK b h fun o => asMapO o fun es c => opdK s e fun s => asNatK s fun _ n => opdK v e fun v => bbK (hasBorn n es) (hsK b (.map (setBorn n v es) c) h fun h => k .undef h)
noncomputable def makeMapF (r : Option Operand) : OM := fun _ _ h k => bbK (isNo r) (hnewK (.map [] 0) h fun b h => k (.map b) h)
noncomputable def rangeK (P : Program) (t : TypeId) : Option Bool := match P.underlying t with | some .string => some true | some (.map _ _) => some false | _ => none
noncomputable def rangeF (t : TypeId) (x : Operand) : OM := fun C e h k => obK (rangeK C.P t) fun s => opdK x e fun x => Bool.rec
  (asMapK x (hnewK .nilIter h fun b h => k (.ptr b 0) h) fun m => hgK m h fun o => asMapO o fun _ c => hnewK (.mapIter m c [] c) h fun b h => k (.ptr b 0) h)
  (asStrK x fun l d => hnewK (.stringIter l d 0) h fun b h => k (.ptr b 0) h) s
noncomputable def mem (n : Nat) (l : List Nat) : Bool := List.rec false (fun m _ ih => Bool.rec ih true (Nat.beq m n)) l
noncomputable def left (seen : List Nat) (es : List AEnt) : List AEnt := List.rec [] (fun e _ ih => AEnt.rec (fun q v n => Bool.rec (.mk q v n :: ih) ih (mem n seen)) e) es
noncomputable def allGe (last : Nat) (es : List AEnt) : Bool := List.rec true (fun e _ ih => AEnt.rec (fun _ _ n => Bool.rec false ih (Nat.ble last n)) e) es
noncomputable def nextMapK (b m : Bid) (since : Nat) (seen : List Nat) (last : Nat) (h : Heap) (k : AV → Heap → A) : A := hgK m h fun o => asMapO o fun es clock =>
  bbK (orB seen.isEmpty (orB es.isEmpty (notB (allGe last es))))
  (List.rec (k (.tuple [.bool false]) h) (fun e r _ => List.rec (AEnt.rec (fun q v n => bbK (nltB n since) (hsK b (.mapIter m since (app seen [n]) clock) h fun h => k (.tuple [.bool true, q, v]) h)) e) (fun _ _ _ => no) r) (left seen es))
noncomputable def nextStrK (b : Bid) (l d pos : Nat) (h : Heap) (k : AV → Heap → A) : A := Bool.rec (k (.tuple [.bool false]) h)
  (fN (byteAt d pos) fun x => bbK (Nat.ble x 127) (fN (Nat.succ pos) fun p => hsK b (.stringIter l d p) h fun h => k (.tuple [.bool true, .int .i64 pos, .int .i32 x]) h)) (nltB pos l)
noncomputable def nextObK (o : AObj) : Bid → Bool → Heap → (AV → Heap → A) → A := AObj.rec (motive := fun _ => Bid → Bool → Heap → (AV → Heap → A) → A) (fun _ _ _ _ => no) (fun _ _ _ _ _ _ _ _ => no) (fun _ _ _ _ _ _ _ _ _ => no) (fun _ _ _ _ _ _ => no) (fun l d pos b s h k => bbK s (nextStrK b l d pos h k)) (fun m since seen last b s h k => bbK (notB s) (nextMapK b m since seen last h k)) (fun _ _ _ _ _ _ _ _ _ _ _ _ _ => no) (fun _ _ _ _ _ => no) (fun _ s h k => bbK (notB s) (k (.tuple [.bool false]) h)) o
noncomputable def nextF (it : Operand) (s : Bool) : OM := fun _ e h k => opdK it e fun v => asPtrK v fun b i => bbK (Nat.beq i 0) (hgK b h fun o => nextObK o b s h k)
noncomputable def findBorn (n : Nat) (es : List AEnt) : Option AEnt := List.rec none (fun e _ ih => AEnt.rec (fun q v m => Bool.rec ih (some (.mk q v m)) (Nat.beq m n)) e) es
noncomputable def entryObK (o : AObj) : Heap → (AV → Heap → A) → A := AObj.rec (motive := fun _ => Heap → (AV → Heap → A) → A) (fun _ _ => no) (fun _ _ _ _ _ _ => no) (fun _ _ _ _ _ _ _ => no) (fun _ _ _ _ => no) (fun _ _ _ _ _ => no) (fun m _ seen st h k => hgK m h fun o => asMapO o fun es c => bbK (Nat.beq c st) (obK seen.getLast? fun n => obK (findBorn n es) fun en => AEnt.rec (fun q v _ => k (.tuple [q, v]) h) en)) (fun _ _ _ _ _ _ _ _ _ _ _ => no) (fun _ _ _ => no) (fun _ _ => no) o
noncomputable def entryF (it : Operand) : OM := fun _ e h k => opdK it e fun v => asPtrK v fun b i => bbK (Nat.beq i 0) (hgK b h fun o => entryObK o h k)

/-! ### conversions, assertions -/
/-- Does a variable of type u lie whole in element off/size of a row of elements of type t? (The model's word, with the depth as a number.) -/
inductive CvK where
  | int (k : IntKind) | str | bytes (el : TypeId) | text | same | toU | ofU (u : TypeId) | rune
noncomputable def cvKind (P : Program) (s d : TypeId) : Option CvK := match P.underlying s, P.underlying d with
  | some (.int _), some (.int k) => some (.int k)
  | some .string, some .string => some .str
  | some .string, some (.slice el) => bb (tByte P el) (some (.bytes el))
  | some (.slice el), some .string => bb (tByte P el) (some .text)
  | some (.slice _), some (.slice el) => bb (andB (tByte P el) (Nat.beq s d)) (some .same)
  | some (.pointer t), some .unsafePointer => ob (tSize P t) fun n => bb (notB (Nat.beq n 0)) (some .toU)
  | some .unsafePointer, some (.pointer t) => ob (tSize P t) fun _ => some (.ofU t)
  | some (.int _), some .string => some .rune
  | _, _ => none
/-- The element's type and how many cells, where all of a block is known. -/
noncomputable def wholeK (o : AObj) : (TypeId → Nat → A) → A := AObj.rec (motive := fun _ => (TypeId → Nat → A) → A) (fun _ => no) (fun ty n _ kd k => Kd.rec no (k ty n) no kd) (fun _ _ _ _ _ _ => no) (fun _ _ _ => no) (fun _ _ _ _ => no) (fun _ _ _ _ _ => no) (fun _ _ _ _ _ _ _ _ _ _ => no) (fun _ _ => no) (fun _ => no) o
noncomputable def holds (o : AObj) (i : Nat) : Bool := AObj.rec (motive := fun _ => Bool) (false) (fun _ n _ _ => nltB i n) (fun _ n _ _ _ => nltB i n) (fun _ _ => false) (fun _ _ _ => false) (fun _ _ _ _ => false) (fun _ _ _ _ _ _ _ _ _ => false) (fun _ => false) (false) o
/-- Bytes that nothing may be written to any more. -/
noncomputable def shutK (o : AObj) : (AObj → A) → A := AObj.rec (motive := fun _ => (AObj → A) → A) (fun _ => no) (fun _ _ _ _ _ => no) (fun ty m d _ _ k => fN (Nat.succ m) fun fz => k (.bytes ty m d fz true)) (fun _ _ _ => no) (fun _ _ _ _ => no) (fun _ _ _ _ _ => no) (fun _ _ _ _ _ _ _ _ _ _ => no) (fun _ _ => no) (fun _ => no) o
noncomputable def convertF (s d : TypeId) (x : Operand) : OM := fun C e h k => obK (cvKind C.P s d) fun q => opdK x e fun x => CvK.rec
  (fun j => asIntK x (fun _ n => mkK j n fun v => k v h) fun _ n => mkNegK j (Nat.succ n) fun v => k v h)
  (asStrK x fun l d => k (.str l d) h)
  (fun el => asStrK x fun l d => hnewK (.bytes el l d 0 true) h fun b h => k (.slice b 0 l l 0 1) h)
  (asSlK x (k (.str 0 0) h) fun b o n _ _ z => srcBytesK x n h fun d => k (.str n d) h)
  (asSlK x no fun b _ n lo _ _ => bbK (notB (Nat.beq (Nat.add n lo) 0)) (hgK b h fun o => shutK o fun o => hsK b o h fun h => k x h))
  (asPtrK x fun b i => hgK b h fun o => bbK (holds o i) (k (.ptr b i) h))
  (fun u => asPtrK x fun b i => hgK b h fun o => wholeK o fun ty n => bbK (liesAt C.P C.P.depth ty (n / C.P.cellsOf ty) i u 1) (k (.ptr b i) h))
  (asNatK x fun _ n => bbK (Nat.ble n 127) (k (.str 1 n) h)) q
inductive TaK where
  | iface (ms : List String) | conc
noncomputable def wants (P : Program) (t asserted : TypeId) : Option Bool := match P.underlying asserted with
  | some (.interface want) => ob (P.info? t) fun i => (match Instr.missingMethod want i.methods with | none => some true | some _ => some false)
  | some _ => some (Nat.beq t asserted)
  | none => none
noncomputable def typeAssertF (x : Operand) (asserted : TypeId) (ok : Bool) : OM := fun C e h k => obK (isIface C.P asserted) fun g => opdK x e fun x =>
  asIfaceK x (bbK ok (obK (tZero C.P asserted) fun z => k (.tuple [z, .bool false]) h)) fun t v => obK (wants C.P t asserted) fun r =>
    Bool.rec (bbK ok (obK (tZero C.P asserted) fun z => k (.tuple [z, .bool false]) h)) (foundK ok (Bool.rec v x g) true fun v => k v h) r

/-! ### entries of the library, builtin functions -/
noncomputable def findByte (d c : Nat) (n : Nat) : Nat → (AV → A) → A := Nat.rec (motive := fun _ => Nat → (AV → A) → A) (fun _ k => k (.neg .i64 0)) (fun _ ih i k => Bool.rec (ih (Nat.succ i) k) (fN i fun i => k (.int .i64 i)) (Nat.beq (byteAt d i) c)) n
abbrev XM := List AV → Heap → (AV → Heap → A) → A
noncomputable def arg1 (l : List AV) (k : AV → A) : A := List.rec no (fun a r _ => List.rec (k a) (fun _ _ _ => no) r) l
noncomputable def arg2 (l : List AV) (k : AV → AV → A) : A := List.rec no (fun a r _ => arg1 r fun b => k a b) l
noncomputable def arg3 (l : List AV) (k : AV → AV → AV → A) : A := List.rec no (fun a r _ => arg2 r fun b c => k a b c) l
noncomputable def cellK (x : AV) (h : Heap) (k : Bid → Nat → AObj → IntKind → Nat → A) : A := asPtrK x fun b i => hgK b h fun o => ldK o i fun v => asNatK v fun j n => k b i o j n
noncomputable def runExt (x : Ext) : XM := Ext.rec (motive := fun _ => XM)
  (fun j l h k => arg1 l fun a => cellK a h fun _ _ _ j' n => bbK (kindEq j' j) (k (.int j n) h))
  (fun l h k => arg2 l fun a v => asPtrK a fun b i => hgK b h fun o => stK o i v fun o => hsK b o h fun h => k .undef h)
  (fun j l h k => arg3 l fun a old new => cellK a h fun b i o j' n => bbK (andB (kindEq j' j) (isCells o)) (asNatK old fun _ m => Bool.rec (k (.bool false) h) (stK o i new fun o => hsK b o h fun h => k (.bool true) h) (Nat.beq n m)))
  (fun j l h k => arg2 l fun a y => cellK a h fun b i o j' n => bbK (kindEq j' j) (asIntK y (fun _ m => mkK j (Nat.add n m) fun v => stK o i v fun o => hsK b o h fun h => k v h) fun _ m => wrapK j (Int.ofNat n + Int.negSucc m) fun v => stK o i v fun o => hsK b o h fun h => k v h))
  (fun p l h k => Bool.rec (List.rec (k .undef h) (fun _ _ _ => no) l) (arg1 l fun a => asPtrK a fun _ _ => k .undef h) p)
  (fun l h k => arg1 l fun a => k a h)
  (fun l h k => arg2 l fun s c => asStrK s fun l d => u8K c fun c => findByte d c l 0 fun v => k v h)
  (fun l h k => arg2 l fun x y => asSlK x (asSlK y (k (.bool false) h) fun _ _ _ _ _ _ => k (.bool false) h) fun a _ n _ _ _ => asSlK y (k (.bool false) h) fun b _ m _ _ _ => Bool.rec (hgK a h fun o => hgK b h fun o' => bbK (andB (notB (bidEq a b)) (andB (isCells o) (isCells o'))) (k (.bool false) h)) (k (.bool false) h) (orB (Nat.beq n 0) (Nat.beq m 0))) x

inductive LenK where
  | arr (n : Nat) | str | slice | map
noncomputable def lenKind (P : Program) (t : TypeId) : Option LenK := match P.underlying t with
  | some (.array n _) => some (.arr n)
  | some (.pointer a) => (match P.underlying a with | some (.array n _) => some (.arr n) | _ => none)
  | some .string => some .str
  | some (.slice _) => some .slice
  | some (.map _ _) => some .map
  | _ => none
noncomputable def lenK (q : LenK) (x : AV) (h : Heap) (k : AV → A) : A := LenK.rec (fun n => k (.int .i64 n)) (asStrK x fun l _ => k (.int .i64 l)) (asSlK x (k (.int .i64 0)) fun _ _ l _ _ _ => k (.int .i64 l))
  (asMapK x (k (.int .i64 0)) fun b => hgK b h fun o => asMapO o fun es _ => fN (llen es) fun n => k (.int .i64 n)) q
noncomputable def minMaxK (f : Nat → Nat → Nat) (x y : AV) (k : AV → A) : A := asNatK x fun j a => asNatK y fun j' b => bbK (kindEq j j') (fN (f a b) fun n => k (.int j n))
noncomputable def maxN (a b : Nat) : Nat := Bool.rec a b (Nat.ble a b)
abbrev BM := Array TypeId → List AV → Cx → Heap → (AV → Heap → A) → A
noncomputable def noB : BM := fun _ _ _ _ _ => no
/-- Is a row of such elements a row of those that a pointer leads to? -/
noncomputable def usOk (P : Program) (pt ty : TypeId) : Bool := match P.underlying pt with | some (.pointer u) => andB (Nat.beq (P.cellsOf ty) 1) (Nat.beq (P.underlyingId ty) (P.underlyingId u)) | _ => false
noncomputable def usK (P : Program) (pt : TypeId) (o : AObj) : Nat → Nat → (Nat → AObj → A) → A := AObj.rec (motive := fun _ => Nat → Nat → (Nat → AObj → A) → A) (fun _ _ _ => no) (fun _ _ _ _ _ _ _ => no) (fun ty m d fz g o n k => bbK (andB (andB (Nat.ble (Nat.add o n) m) (Nat.beq o 0)) (andB (notB g) (andB (usOk P pt ty) (Nat.ble n 16777216)))) (fN (byteCut d o n) fun x => fN (maxN fz n) fun fz => k x (.bytes ty m d fz g))) (fun _ _ _ _ _ => no) (fun _ _ _ _ _ _ => no) (fun _ _ _ _ _ _ _ => no) (fun _ _ _ _ _ _ _ _ _ _ _ _ => no) (fun _ _ _ _ => no) (fun _ _ _ => no) o
noncomputable def builtinF (b : Builtin) : BM := Builtin.rec (motive := fun _ => BM)
  (fun ts l C h k => arg2 l fun s x => appendF ts s x C h k)
  (fun ts l C h k => arg1 l fun x => obK ts[0]? fun t => obK (tSlice C.P t) fun _ => asSlK x (k (.int .i64 0) h) fun _ _ _ lo hi _ => Bool.rec (k (.cap lo hi) h) (k (.int .i64 lo) h) (Nat.beq hi (Nat.succ lo)))
  noB noB noB
  (fun ts l C h k => arg2 l fun d s => obK ts[0]? fun t => copyF t d s C h k)
  (fun ts l C h k => arg2 l fun m i => obK ts[0]? fun t => obK (keyKind C.P t) fun q => keyEqK q.1 i i fun _ => asMapK m (k .undef h) fun b => hgK b h fun o => asMapO o fun es c => delEK q.1 i es fun es => hsK b (.map es c) h fun h => k .undef h)
  noB
  (fun ts l C h k => arg1 l fun x => obK ts[0]? fun t => obK (lenKind C.P t) fun q => lenK q x h fun v => k v h)
  noB
  (fun ts l C h k => arg2 l fun x y => minMaxK maxN x y fun v => k v h)
  (fun ts l C h k => arg2 l fun x y => minMaxK minN x y fun v => k v h)
  noB noB noB noB noB noB noB noB
  (fun ts l C h k => arg1 l fun x => asSlK x (k .nilp h) fun b o _ lo _ _ => bbK (notB (Nat.beq lo 0)) (k (.ptr b o) h))
  (fun ts l C h k => arg2 l fun p n => obK ts[0]? fun pt => asNatK n fun _ n => asPtrZ p (bbK (Nat.beq n 0) (k (.str 0 0) h)) fun b o => Bool.rec (hgK b h fun ob => usK C.P pt ob o n fun d ob => hsK b ob h fun h => k (.str n d) h) (k (.str 0 0) h) (Nat.beq n 0))
  noB noB noB noB b


/-- The plain operations: what they give, and the memory; z: it is none of them. -/
noncomputable def execK (o : Op) : Cx → Env → Heap → (AV → Heap → A) → A → A := Op.rec (motive := fun _ => Cx → Env → Heap → (AV → Heap → A) → A → A)
  (fun a C e h k _ => moveF a C e h k) (fun a C e h k _ => moveF a C e h k) (fun c a b C e h k _ => pickF c a b C e h k) (fun t C e h k _ => allocF t C e h k) (fun t x C e h k _ => boxF t x C e h k)
  (fun t ps C e h k _ => buildF t ps C e h k) (fun t n ps C e h k _ => buildSliceF t n ps C e h k) (fun t m i v C e h k _ => mapUpdateF t m i v C e h k) (fun t a C e h k _ => loadF t a C e h k) (fun t a v C e h k _ => storeF t a v C e h k)
  (fun _ _ _ _ _ _ => no) (fun _ _ _ _ _ _ => no) (fun x C e h k _ => nilCheckF x C e h k) (fun o t x y u C e h k _ => binF o t x y u C e h k) (fun o t x C e h k _ => unF o t x C e h k) (fun s d x C e h k _ => convertF s d x C e h k)
  (fun _ _ _ _ _ _ _ => no) (fun t x C e h k _ => makeIfaceF t x C e h k) (fun f a c C e h k _ => makeFuncF f a c C e h k) (fun _ r C e h k _ => makeMapF r C e h k) (fun _ _ _ _ _ _ _ => no) (fun t l c C e h k _ => makeSliceF t l c C e h k)
  (fun t x lo hi mx C e h k _ => sliceF t x lo hi mx C e h k) (fun t x f C e h k _ => fieldAddrF t x f C e h k) (fun t x f C e h k _ => fieldF t x f C e h k) (fun t x i C e h k _ => indexAddrF t x i C e h k) (fun t x i C e h k _ => indexF t x i C e h k)
  (fun t x i ok C e h k _ => lookupF t x i ok C e h k) (fun t m i v C e h k _ => mapUpdateF t m i v C e h k) (fun t m i C e h k _ => mapEntryF t m i C e h k) (fun t m s v C e h k _ => entryStoreF t m s v C e h k)
  (fun t x C e h k _ => rangeF t x C e h k) (fun i s C e h k _ => nextF i s C e h k) (fun i C e h k _ => entryF i C e h k) (fun x _ a ok C e h k _ => typeAssertF x a ok C e h k) (fun t i C e h k _ => extractF t i C e h k)
  (fun c C e h k z => Callee.rec (fun _ => z) (fun _ _ => z) (fun b => Bool.rec (opdsK c.args.toList e fun l => builtinF b c.argTypes l C h k) z (decide (b = .recover))) c.callee)
  (fun _ _ _ _ _ _ => no) (fun _ _ _ _ _ z => z) (fun _ _ _ _ _ _ => no) (fun _ _ _ _ _ _ _ => no) (fun _ _ _ _ _ _ _ _ => no) (fun _ _ _ _ _ _ _ => no) o

/-! ### frames -/
inductive AExit where
  | exit (id : Nat) | goto (l : Nat) | ret
abbrev KS := Env → Heap → List ADefer → A
abbrev KX := AExit → Env → Heap → List ADefer → A
abbrev CallM := Bool → FuncId → List AV → Heap → (AV → Heap → A) → A
abbrev RndM := Bid → List AV → Heap → (AV → Heap → A) → A

/-- A frame: what calls and rounds come to; is it a deferred call's frame (of a function that returns)? its function; its temporaries; is it a round's? how often a loop may go round. -/
inductive X where
  | mk (call : CallM) (rnd : RndM) (dk : Bool) (fn : FuncId) (nt : Nat) (round : Bool) (lf : Nat)
noncomputable def X.call (x : X) : CallM := X.rec (fun c _ _ _ _ _ _ => c) x
noncomputable def X.rnd (x : X) : RndM := X.rec (fun _ c _ _ _ _ _ => c) x
noncomputable def X.dk (x : X) : Bool := X.rec (fun _ _ c _ _ _ _ => c) x
noncomputable def X.fn (x : X) : FuncId := X.rec (fun _ _ _ c _ _ _ => c) x
noncomputable def X.nt (x : X) : Nat := X.rec (fun _ _ _ _ c _ _ => c) x
noncomputable def X.round (x : X) : Bool := X.rec (fun _ _ _ _ _ c _ => c) x
noncomputable def X.lf (x : X) : Nat := X.rec (fun _ _ _ _ _ _ c => c) x

/-! ### two values that are one -/
noncomputable def sameF (f g : AFn) : Bool := AFn.rec (fun f => AFn.rec (fun g => Nat.beq f g) (fun _ => false) (fun _ => false) g) (fun _ => false) (fun _ => false) f
mutual
noncomputable def sameV (nx : Nat) : AV → AV → Bool
  | .bool a, .bool b => a == b
  | .int j a, .int k b => decide (j = k) && a == b
  | .neg j a, .neg k b => decide (j = k) && a == b
  | .str la a, .str lb b => la == lb && a == b
  | .nilp, .nilp => true
  | .ptr a i, .ptr b j => bidEq a b && i == j && Nat.blt a.num nx
  | .nils, .nils => true
  | .slice b1 o1 n1 l1 h1 s1, .slice b2 o2 n2 l2 h2 s2 => bidEq b1 b2 && o1 == o2 && n1 == n2 && l1 == l2 && h1 == h2 && s1 == s2 && Nat.blt b1.num nx
  | .nilm, .nilm => true
  | .map a, .map b => bidEq a b && Nat.blt a.num nx
  | .nilf, .nilf => true
  | .func (.func f) a b, .func (.func g) c d => f == g && sameVs nx a c && sameVs nx b d
  | .nili, .nili => true
  | .iface t v, .iface u w => t == u && sameV nx v w
  | .agg xs, .agg ys => sameVs nx xs ys
  | .tuple xs, .tuple ys => sameVs nx xs ys
  | _, _ => false
noncomputable def sameVs (nx : Nat) : List AV → List AV → Bool
  | [], [] => true
  | x :: xs, y :: ys => sameV nx x y && sameVs nx xs ys
  | _, _ => false
end

noncomputable def moreCellsK (o : AObj) (m n : Nat) (k : AObj → A) : A := AObj.rec (motive := fun _ => (AObj → A) → A) (fun _ => no) (fun ty _ t _ k => ldLK o m 0 fun l => ctofK (app l (List.replicate n .poison)) fun t => fN (Nat.add m n) fun l => k (.cells ty l t .plain)) (fun _ _ _ _ _ _ => no) (fun _ _ _ => no) (fun _ _ _ _ => no) (fun _ _ _ _ _ => no) (fun _ _ _ _ _ _ _ _ _ _ => no) (fun _ _ => no) (fun _ => no) o k
noncomputable def later (a b : Bid) : Bid := Bool.rec a b (Nat.ble a.num b.num)
noncomputable def hNext (h : Heap) (k : Bid → A) : A := h fun _ n => k n
noncomputable def withNext (h : Heap) (n : Bid) (k : Heap → A) : A := h fun t _ => k fun z => z t n
/-- Insert, whatever the capacity is: both ways are gone, each in a heap of its own, and come to the same. -/
noncomputable def forkIn (C : Cx) (call : CallM) (f : FuncId) (b : Bid) (off n lo z : Nat) (i v : AV) (vb : Bid) (vn : Nat) (h : Heap) (k : AV → Heap → A) : A :=
  obK (C.P.funcs[f]?) fun fn => obK (fn.params[0]?) fun pt => obK (tSlice C.P pt) fun el => hgK b h fun o => hgK vb h fun vo => hNext h fun nx =>
  bbK (andB (andB (cellsOk o) (tyIs o el)) (andB (notB (bidEq b vb)) (notB (Nat.beq z 0)))) (moreCellsK o (off + n * z) (vn * z) fun o2 =>
  hsK vb vo Heap.empty fun h0 => hsK b o h0 fun h1 => withNext h1 nx fun h1 => hsK b o2 h0 fun h2 => withNext h2 nx fun h2 =>
  call false f [.slice b off n lo (n + vn) z, i, v] h1 fun r1 h1 => call false f [.slice b off n (n + vn) 0 z, i, v] h2 fun r2 h2 =>
  asSlK r1 no fun b1 o1 n1 _ _ z1 => asSlK r2 no fun b2 o2 n2 _ _ z2 => hgK b1 h1 fun q1 => hgK b2 h2 fun q2 => hNext h1 fun x1 => hNext h2 fun x2 =>
  bbK (andB (andB (andB (Nat.beq n1 (n + vn)) (Nat.beq n2 (n + vn))) (andB (Nat.beq z1 z) (Nat.beq z2 z))) (andB (andB (bidEq b2 b) (andB (tyIs q1 el) (tyIs q2 el))) (andB (andB (cellsOk q1) (cellsOk q2)) (Nat.ble nx.num b1.num))))
  (ldLK q1 ((n + vn) * z) o1 fun c1 => ldLK q2 ((n + vn) * z) o2 fun c2 => bbK (sameVs nx.num c1 c2) (ctofK c1 fun t => fN (n + vn) fun l => fN (l * z) fun m =>
    hsK vb .none h fun h => hsK b .none h fun h => withNext h (later x1 x2) fun h => hnewK (.cells el m t .plain) h fun b' h => k (.slice b' 0 l l 0 z) h)))
noncomputable def forkK (C : Cx) (call : CallM) (f : FuncId) (args : List AV) (h : Heap) (k : AV → Heap → A) : A := match args with
  | [.slice b off n lo 0 z, i, .slice vb vo vn vl vh vz] => Bool.rec (forkIn C call f b off n lo z i (.slice vb vo vn vl vh vz) vb vn h k) (call false f args h k) (Nat.ble (n + vn) lo)
  | _ => call false f args h k

/-! ### calls, as operations -/
noncomputable def enterK (C : Cx) (x : X) (f : FuncId) (args : List AV) (h : Heap) (k : AV → Heap → A) : A :=
  Option.rec (x.call false f args h k) (fun s => Special.rec (fun q => runExt q args h k) (forkK C x.call f args h k) s) (C.special f)
noncomputable def methodAt (P : Program) (t : TypeId) (name : String) : Option FuncId := ob (P.info? t) fun i => ob (i.methods.find? (·.name == name)) fun m =>
  bb m.path.isEmpty (ob m.func fun q => match P.underlying t, q.2 with
    | some (.pointer _), true => some q.1
    | some (.pointer _), false => none
    | some _, false => some q.1
    | _, _ => none)
noncomputable def invK (C : Cx) (x : X) (fn : AFn) (a c as : List AV) (h : Heap) (k : AV → Heap → A) : A :=
  AFn.rec (fun f => enterK C x f (app a (app as c)) h k)
    (fun n => List.rec no (fun r rest _ => asIfaceK r no fun t v => obK (methodAt C.P t n) fun f => enterK C x f (v :: rest) h k) (app a as)) (fun b => x.rnd b (app a as) h k) fn
noncomputable def callOp (c : Call) (C : Cx) (x : X) (e : Env) (h : Heap) (k : AV → Heap → A) (z : A) : A := Callee.rec
  (fun f => opdK f e fun f => asFuncK f no fun fn a cap => opdsK c.args.toList e fun l => invK C x fn a cap l h k)
  (fun r name => opdK r e fun r => asIfaceK r no fun t v => obK (methodAt C.P t name) fun f => opdsK c.args.toList e fun l => enterK C x f (v :: l) h k)
  (fun _ => z) c.callee
noncomputable def putK (nt : Nat) (dst : Option Tmp) : AV → Env → (Env → A) → A := Option.rec (motive := fun _ => AV → Env → (Env → A) → A) (fun _ e k => k e) (fun t v e k => esK nt t v e k) dst
noncomputable def isRec (c : Callee) : Bool := Callee.rec (fun _ => false) (fun _ _ => false) (fun b => Builtin.rec false false false false false false false false false false false false false false false false false true false false false false false false false false b) c
noncomputable def recoverK (c : Call) (x : X) (dst : Option Tmp) (e : Env) (h : Heap) (d : List ADefer) (k : KS) : A := bbK (andB (andB (isRec c.callee) c.args.isEmpty) (andB x.dk (notB x.round))) (putK x.nt dst .nili e fun e => k e h d)
noncomputable def deferK (c : Call) (x : X) (dst : Option Tmp) (e : Env) (h : Heap) (d : List ADefer) (k : KS) : A := Callee.rec
  (fun f => bbK (notB x.round) (opdK f e fun f => asFuncK f no fun fn a cap => opdsK c.args.toList e fun l => putK x.nt dst .undef e fun e => k e h (.mk (.fn fn cap) (app a l) :: d))) (fun _ _ => no) (fun _ => no) c.callee
/-- The operations that enter calls, defer, or recover. -/
noncomputable def loudK (o : Op) : Cx → X → Option Tmp → Env → Heap → List ADefer → KS → A := Op.rec (motive := fun _ => Cx → X → Option Tmp → Env → Heap → List ADefer → KS → A)
  (fun _ _ _ _ _ _ _ _ => no) (fun _ _ _ _ _ _ _ _ => no) (fun _ _ _ _ _ _ _ _ _ _ => no) (fun _ _ _ _ _ _ _ _ => no) (fun _ _ _ _ _ _ _ _ _ => no) (fun _ _ _ _ _ _ _ _ _ => no) (fun _ _ _ _ _ _ _ _ _ _ => no) (fun _ _ _ _ _ _ _ _ _ _ _ => no) (fun _ _ _ _ _ _ _ _ _ => no) (fun _ _ _ _ _ _ _ _ _ _ => no) (fun _ _ _ _ _ _ _ _ => no) (fun _ _ _ _ _ _ _ _ => no) (fun _ _ _ _ _ _ _ _ => no) (fun _ _ _ _ _ _ _ _ _ _ _ _ => no) (fun _ _ _ _ _ _ _ _ _ _ => no) (fun _ _ _ _ _ _ _ _ _ _ => no) (fun _ _ _ _ _ _ _ _ _ => no) (fun _ _ _ _ _ _ _ _ _ => no) (fun _ _ _ _ _ _ _ _ _ _ => no) (fun _ _ _ _ _ _ _ _ _ => no) (fun _ _ _ _ _ _ _ _ _ => no) (fun _ _ _ _ _ _ _ _ _ _ => no) (fun _ _ _ _ _ _ _ _ _ _ _ _ => no) (fun _ _ _ _ _ _ _ _ _ _ => no) (fun _ _ _ _ _ _ _ _ _ _ => no) (fun _ _ _ _ _ _ _ _ _ _ => no) (fun _ _ _ _ _ _ _ _ _ _ => no) (fun _ _ _ _ _ _ _ _ _ _ _ => no) (fun _ _ _ _ _ _ _ _ _ _ _ => no) (fun _ _ _ _ _ _ _ _ _ _ => no) (fun _ _ _ _ _ _ _ _ _ _ _ => no) (fun _ _ _ _ _ _ _ _ _ => no) (fun _ _ _ _ _ _ _ _ _ => no) (fun _ _ _ _ _ _ _ _ => no) (fun _ _ _ _ _ _ _ _ _ _ _ => no) (fun _ _ _ _ _ _ _ _ _ => no) (fun c C x dst e h d k => callOp c C x e h (fun v h => putK x.nt dst v e fun e => k e h d) (recoverK c x dst e h d k)) (fun _ _ _ _ _ _ _ _ => no) (fun c _ x dst e h d k => deferK c x dst e h d k) (fun _ _ _ _ _ _ _ _ => no) (fun _ _ _ _ _ _ _ _ _ => no) (fun _ _ _ _ _ _ _ _ _ _ => no) (fun _ _ _ _ _ _ _ _ _ => no) o
noncomputable def doOpK (o : Oper) (C : Cx) (x : X) (e : Env) (h : Heap) (d : List ADefer) (k : KS) : A := execK o.op C e h (fun v h => putK x.nt o.dst v e fun e => k e h d) (loudK o.op C x o.dst e h d k)
noncomputable def guardT (ops : Array Oper) (j : Nat) : Option Tmp := (ops[j]?).bind (·.dst)
noncomputable def wantK (ops : Array Oper) (g : Option (Nat × Bool)) : Env → A → A → A :=
  Option.rec (motive := fun _ => Env → A → A → A) (fun _ a _ => a) (fun q e a z => obK (guardT ops q.1) fun t => egK t e fun v => boolK v (fun b => Bool.rec (Bool.rec a z b) (Bool.rec z a b) q.2) z) g
noncomputable def oneK (C : Cx) (ops : Array Oper) (o : Oper) (x : X) (e : Env) (h : Heap) (d : List ADefer) (k : KS) : A :=
  wantK ops o.guard e (doOpK o C x e h d k) (putK x.nt o.dst .undef e fun e => k e h d)
noncomputable def opsK (C : Cx) (l : List Oper) : Array Oper → X → Env → Heap → List ADefer → KS → A := List.rec (motive := fun _ => Array Oper → X → Env → Heap → List ADefer → KS → A)
  (fun _ _ e h d k => k e h d) (fun o _ ih ops x e h d k => oneK C ops o x e h d fun e h d => ih ops x e h d k) l

/-! ### regions whose order is drawn -/
/-- 0: looks at no memory · 1: reads memory · 2: makes memory · 3: loud -/
def cls (P : Program) (o : Op) : Nat :=
  match o with
  | .move _ | .assign _ | .pick .. | .build .. | .nilCheck _ | .unOp .. | .makeInterface .. | .makeFunc .. | .slice .. | .fieldAddr .. | .field .. | .indexAddr .. | .index .. | .typeAssert .. | .extract .. => 0
  | .load .. | .lookup .. => 1
  | .alloc _ | .box .. | .buildSlice .. | .makeMap .. | .makeSlice .. => 2
  | .call { callee := .builtin b, .. } => match b with
    | .len | .max | .min => 1
    | _ => 3
  | _ => 3
noncomputable def cls' (P : Program) (o : Op) : Nat := match o with
  | .convert s d _ => match cvKind P s d with
    | some .text => 1
    | some (.bytes _) => 2
    | some .toU => 1
    | some (.ofU _) => 1
    | some .same => 3
    | some (.int _) => 0
    | some .str => 0
    | some .rune => 0
    | none => 3
  | .slice t .. => (match slKind P t with | some (.arr _ _) => 1 | _ => 0)
  | .binOp o t _ _ _ => match o with
    | .eql => (match P.underlying t with | some (.pointer _) => 1 | _ => 0)
    | .neq => (match P.underlying t with | some (.pointer _) => 1 | _ => 0)
    | _ => 0
  | _ => cls P o
/-- What stands before each operation, as bits. -/
def masks : List Oper → List Nat → List Nat
  | [], acc => acc
  | o :: os, acc => masks os (acc ++ [o.after.toList.foldl (fun s e => if Region.binds .any e then s ||| 2 ^ e.on ||| acc.getD e.on 0 else s) 0])
def looksAt (ops : Array Oper) (o : Oper) : List Tmp :=
  (o.op.operands.toList.filterMap fun | .tmp t => some t | _ => none) ++ (match o.guard with | some (g, _) => ((ops[g]?).bind (·.dst)).toList | none => [])
inductive Stage where
  | mk (quiet again : List Oper) (loud : Option Oper)
noncomputable def stagesOf (P : Program) (ops : Array Oper) : Option (List Stage) :=
  let l := ops.toList
  let n := l.length
  let bm := masks l []
  let bf (i j : Nat) : Bool := (bm.getD j 0).testBit i
  let idx := List.range n
  let c (i : Nat) : Nat := ((l[i]?).map fun o => cls' P o.op).getD 3
  let loud := idx.filter fun i => c i == 3
  let m := loud.length
  let lo (i : Nat) : Nat := ((loud.zip (List.range m)).filter fun q => bf q.1 i).foldl (fun a q => max a (q.2 + 1)) 0
  let hi (i : Nat) : Nat := ((loud.zip (List.range m)).filter fun q => bf i q.1).foldl (fun a q => min a q.2) m
  let made (s : Nat) : Bool := idx.any fun i => c i == 2 && lo i == s
  let quiet (s : Nat) : List Nat := idx.filter fun i => c i != 3 && lo i == s
  let again (s : Nat) : List Nat := idx.filter fun i => c i == 1 && ((lo i < s && s ≤ hi i) || (lo i == s && made s))
  let seq : List Nat := (List.range (m + 1)).flatMap fun s => quiet s ++ (loud[s]?).toList
  let op (i : Nat) : List Oper := (l[i]?).toList
  let edges := idx.all fun j => ((l[j]?).map fun o => o.after.toList.all fun e => !Region.binds .any e || decide (e.on < j)).getD false
  let dsts := l.filterMap (·.dst)
  let looks := idx.all fun r => ((l[r]?).map fun o => (looksAt ops o).all fun t => idx.all fun a => ((l[a]?).bind (·.dst)) != some t || bf a r || ((a == r || bf r a) && !(List.range (m + 1)).any fun s => (again s).contains r)).getD false
  let order := (seq.foldl (fun (q : Nat × Bool) i => (q.1 ||| 2 ^ i, q.2 && ((bm.getD i 0) &&& q.1 == bm.getD i 0))) (0, true))
  let chain := (loud.zip (loud.drop 1)).all fun (i, j) => bf i j
  let guards := idx.all fun i => c i != 1 || ((l[i]?).map fun o => o.guard.isNone).getD false || !(List.range (m + 1)).any fun s => (again s).contains i
  if edges && decide (dsts.Nodup) && looks && order.2 && (order.1 == 2 ^ n - 1) && decide (seq.length = n) && chain && guards then
    some ((List.range (m + 1)).map fun s => .mk ((quiet s).flatMap op) ((again s).flatMap op) ((loud[s]?).bind fun i => l[i]?))
  else none
noncomputable def againK (C : Cx) (l : List Oper) : Env → Heap → A → A := List.rec (motive := fun _ => Env → Heap → A → A) (fun _ _ k => k) (fun o _ ih e h k =>
  execK o.op C e h (fun v _ => obK o.dst fun t => egK t e fun w => bbK (sameV 65536 v w) (ih e h k)) no) l
noncomputable def stagesK (C : Cx) (l : List Stage) : Array Oper → X → Env → Heap → List ADefer → KS → A := List.rec (motive := fun _ => Array Oper → X → Env → Heap → List ADefer → KS → A) (fun _ _ e h d k => k e h d)
  (fun s _ ih ops x e h d k => Stage.rec (fun q a l => opsK C q ops x e h d fun e h d => againK C a e h (Option.rec (ih ops x e h d k) (fun o => oneK C ops o x e h d fun e h d => ih ops x e h d k) l)) s) l
noncomputable def drawK (C : Cx) (ops : Array Oper) (x : X) (e : Env) (h : Heap) (d : List ADefer) (k : KS) : A := obK (stagesOf C.P ops) fun l => stagesK C l ops x e h d k

/-! ### code -/
abbrev CM := X → Env → Heap → List ADefer → KS → KX → A
noncomputable def exitIs (id : Nat) (q : AExit) (kn : KS) (kx : KX) : KS := AExit.rec (fun j => Bool.rec (kx q) kn (Nat.beq j id)) (fun _ => kx q) (kx q) q
noncomputable def notGoto (q : AExit) (kx : KX) : KS := AExit.rec (fun _ => kx q) (fun _ _ _ _ => no) (kx q) q
noncomputable def loopK (a : Env → Heap → List ADefer → KS → A) (n : Nat) : KS := Nat.rec (motive := fun _ => KS) (fun _ _ _ => no) (fun _ ih e h d => a e h d ih) n
noncomputable def asLoopK (o : AObj) (k : ALoopState → Option Code → FuncId → Env → Nat → List Tmp → Code → Code → Bid → A) : A := AObj.rec (motive := fun _ => (ALoopState → Option Code → FuncId → Env → Nat → List Tmp → Code → Code → Bid → A) → A) (fun _ => no) (fun _ _ _ _ _ => no) (fun _ _ _ _ _ _ => no) (fun _ _ _ => no) (fun _ _ _ _ => no) (fun _ _ _ _ _ => no) (fun s p f e nt ps as bd df k => k s p f e nt ps as bd df) (fun _ _ => no) (fun _ => no) o k
noncomputable def endLoopK (b : Bid) (e : Env) (h : Heap) (d : List ADefer) (kn : KS) (kx : KX) : A := hgK b h fun o => asLoopK o fun s p f e0 nt ps as bd df =>
  ALoopState.rec (fun k => k) (fun _ => no) (fun k => k) (fun k => k) s (hsK b (.loop .exhausted p f e0 nt ps as bd df) h fun h => Option.rec (kn e h d) (fun c => match c with | .exit id => kx (.exit id) e h d | .goto l => kx (.goto l) e h d | .ret => kx .ret e h d | _ => no) p)
noncomputable def rangeFuncK (g : Operand) (ps : Array Tmp) (as bd : Code) (C : Cx) (x : X) (e : Env) (h : Heap) (d : List ADefer) (kn : KS) (kx : KX) : A :=
  bbK (notB x.round) (hnewK (.deferred (some [])) h fun db h => hnewK (.loop .ready none x.fn e x.nt ps.toList as bd db) h fun lb h => opdK g e fun g => asFuncK g no fun fn a c =>
    AFn.rec (fun f => Option.rec (x.call false f (app a (.func (.yield lb) [] [] :: c)) h fun _ h => endLoopK lb e h (.mk (.collected db) [] :: d) kn kx) (fun _ => no) (C.special f)) (fun _ => no) (fun _ => no) fn)
noncomputable def evK (C : Cx) (c : Code) : CM := Code.rec (motive := fun _ => CM) (fun _ e h d kn _ => kn e h d)
  (fun _ ops draw x e h d kn _ => Bool.rec (opsK C ops.toList ops x e h d kn) (drawK C ops x e h d kn) draw)
  (fun _ _ a b x e h d kn kx => a x e h d (fun e h d => b x e h d kn kx) kx)
  (fun c _ _ a b x e h d kn kx => opdK c e fun v => asBoolK v fun t => Bool.rec (b x e h d kn kx) (a x e h d kn kx) t)
  (fun id _ a x e h d kn kx => a x e h d kn fun q => exitIs id q kn kx)
  (fun _ a x e h d kn kx => loopK (fun e h d kn => a x e h d kn kx) x.lf e h d)
  (fun g ps as bd _ _ x e h d kn kx => rangeFuncK g ps as bd C x e h d kn kx)
  (fun id _ e h d _ kx => kx (.exit id) e h d)
  (fun _ a x e h d kn kx => a x e h d kn fun q => notGoto q kx)
  (fun _ _ e h d kn _ => kn e h d) (fun l _ e h d _ kx => kx (.goto l) e h d) (fun _ e h d _ kx => kx .ret e h d) (fun _ _ _ _ _ _ _ => no) c

/-! ### functions -/
noncomputable def putArgsK (nt : Nat) (args : List AV) : Nat → Env → (Env → A) → A := List.rec (motive := fun _ => Nat → Env → (Env → A) → A) (fun _ e k => k e) (fun v _ ih i e k => esK nt i v e fun e => ih (Nat.succ i) e k) args
noncomputable def colK (o : AObj) (k : A) : A := AObj.rec (motive := fun _ => A → A) (fun _ => no) (fun _ _ _ _ _ => no) (fun _ _ _ _ _ _ => no) (fun _ _ _ => no) (fun _ _ _ _ => no) (fun _ _ _ _ _ => no) (fun _ _ _ _ _ _ _ _ _ _ => no) (fun c k => Option.rec no (fun l => List.rec k (fun _ _ _ => no) l) c) (fun _ => no) o k
noncomputable def runDefersK (C : Cx) (call : CallM) (d : List ADefer) : Heap → (Heap → A) → A := List.rec (motive := fun _ => Heap → (Heap → A) → A) (fun h k => k h)
  (fun d _ ih h k => ADefer.rec (fun t args => ATarget.rec
    (fun fn cap => AFn.rec (fun f => Option.rec (call true f (app args cap) h fun _ h => ih h k) (fun s => Special.rec (fun q => runExt q (app args cap) h fun _ h => ih h k) no s) (C.special f)) (fun _ => no) (fun _ => no) fn)
    (fun b => hgK b h fun o => colK o (hsK b (.deferred none) h fun h => ih h k)) t) d) d
noncomputable def resK (P : Program) (r : ResultVar) (e : Env) (h : Heap) (k : AV → A) : A := ResultVar.rec (fun t => egK t e k) (fun a t => egK a e fun v => asPtrK v fun b i => hgK b h fun o => ldVarK P t o i k) r
noncomputable def ressK (P : Program) (rs : List ResultVar) : Env → Heap → (List AV → A) → A := List.rec (motive := fun _ => Env → Heap → (List AV → A) → A) (fun _ _ k => k []) (fun r _ ih e h k => resK P r e h fun v => ih e h fun vs => k (v :: vs)) rs
noncomputable def tup (vs : List AV) : AV := List.rec (.tuple []) (fun v t _ => List.rec v (fun _ _ _ => .tuple (v :: t)) t) vs
noncomputable def finishK (C : Cx) (call : CallM) (rs : List ResultVar) (k : AV → Heap → A) (e : Env) (h : Heap) (d : List ADefer) : A := runDefersK C call d h fun h => ressK C.P rs e h fun vs => k (tup vs) h
noncomputable def bodyK (C : Cx) (fn : Func) (x : X) (args : List AV) (h : Heap) (c : Code) (k : AV → Heap → A) : A :=
  bbK (Nat.ble fn.ntmps 256) (putArgsK fn.ntmps args 0 Env.empty fun e =>
    evK C c x e h [] (finishK C x.call fn.results.toList k) (fun q => AExit.rec (fun _ _ _ _ => no) (fun _ _ _ _ => no) (finishK C x.call fn.results.toList k) q))
noncomputable def putPs (nt : Nat) (ps : List Tmp) : List AV → Env → (Env → A) → A := List.rec (motive := fun _ => List AV → Env → (Env → A) → A) (fun args e k => List.rec (k e) (fun _ _ _ => no) args)
  (fun p _ ih args e k => List.rec no (fun v vs _ => esK nt p v e fun e => ih vs e k) args) ps
inductive Lvl where
  | mk (call : CallM) (rnd : RndM)
noncomputable def Lvl.call (l : Lvl) : CallM := Lvl.rec (fun c _ => c) l
noncomputable def Lvl.rnd (l : Lvl) : RndM := Lvl.rec (fun _ c => c) l
noncomputable def callL (C : Cx) (lf : Nat) (ih : Lvl) : CallM := fun dk f args h k => obK (C.P.funcs[f]?) fun fn => obK fn.body fun c => bodyK C fn (.mk ih.call ih.rnd dk f fn.ntmps false lf) args h c k
noncomputable def jumpOf (q : AExit) : Code := AExit.rec .exit .goto .ret q
noncomputable def endRoundK (b : Bid) (j : Option Code) (k : AV → Heap → A) (h : Heap) (d : List ADefer) : A := List.rec (hgK b h fun o => asLoopK o fun _ _ f e nt ps as bd df =>
  hsK b (.loop (Option.rec .ready (fun _ => .done) j) j f e nt ps as bd df) h fun h => bK (isNo j) fun v => k v h) (fun _ _ _ => no) d
noncomputable def rndL (C : Cx) (lf : Nat) (ih : Lvl) : RndM := fun b args h k => hgK b h fun o => asLoopK o fun s p f e0 nt ps as bd df => bbK (Nat.ble nt 256) (putPs nt ps args e0 fun e =>
  evK C as (.mk ih.call ih.rnd false f nt true lf) e h [] (fun e h d => List.rec (hgK b h fun o => asLoopK o fun s p f0 e0 nt0 ps0 as0 bd0 df0 => ALoopState.rec
      (hsK b (.loop .busy p f0 e0 nt0 ps0 as0 bd0 df0) h fun h => evK C bd (.mk ih.call ih.rnd false f nt true lf) e h [] (fun _ h d => endRoundK b none k h d) (fun q _ h d => endRoundK b (some (jumpOf q)) k h d)) no no no s) (fun _ _ _ => no) d) (fun _ _ _ _ => no))
noncomputable def level (C : Cx) (lf : Nat) (n : Nat) : Lvl := Nat.rec (.mk (fun _ _ _ _ _ => no) (fun _ _ _ _ => no)) (fun _ ih => .mk (callL C lf ih) (rndL C lf ih)) n

end Go.Ev
end
