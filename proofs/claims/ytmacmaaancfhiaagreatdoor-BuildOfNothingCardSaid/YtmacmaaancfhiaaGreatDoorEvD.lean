/- Part of the proof: a verified evaluator of the model (its definitions, and that it is sound). -/
import Derived.Test.YtmacmaaancfhiaaGreatDoorEvC
import Derived.Laws.Sem
section
set_option maxRecDepth 2000
set_option autoImplicit false
namespace Go.Ev

/-! ### what an operation owes -/
structure HS (h : Heap) (H : Bid → AObj) (nx : Bid) : Prop where
  is : HeapIs h H nx
  ok : ∀ b, ObjOk (H b)
/-- What the machine's slots give, and what is known of it. -/
structure VRho (φ : Phi) (f : Nat → AV) (ρ : Operand → Value) : Prop where
  tmp : ∀ t, t ≤ 255 → VR φ (f t) (ρ (.tmp t))
  const : ∀ v, ρ (.const v) = v
  global : ∀ g, ρ (.global g) = .pointer (some ⟨g, 0, none⟩)
  func : ∀ g, ρ (.func g) = .func (.func g) #[] #[]
theorem VRho.opd {φ : Phi} {f : Nat → AV} {ρ : Operand → Value} {H : Bid → AObj} {nx : Bid} {w : World} (h : VRho φ f ρ) (hR : R φ H nx w) {x : Operand} (hx : opdOk x) : VR φ (opdS x f) (ρ x) := by
  cases x with
  | tmp t => exact h.tmp t hx
  | const v => rw [h.const]; exact ofValue_VR φ v
  | global g =>
    rw [h.global]
    obtain ⟨p, hp, h1, h2⟩ := hR.glob g hx
    have := VR.ptr (φ := φ) 0 hp
    simpa only [opdS, PB.addr, h1, h2] using this
  | func g => rw [h.func]; exact .func (.func g) .nil .nil
theorem VRho.opds {φ : Phi} {f : Nat → AV} {ρ : Operand → Value} {H : Bid → AObj} {nx : Bid} {w : World} (h : VRho φ f ρ) (hR : R φ H nx w) : ∀ {l : List Operand}, (∀ x ∈ l, opdOk x) → VRs φ (l.map (opdS · f)) (l.map ρ)
  | [], _ => .nil
  | x :: l, hx => .cons (h.opd hR (hx x (by simp))) (VRho.opds h hR fun y hy => hx y (by simp [hy]))
def NxR (φ : Phi) (v : AV) (n : Next) : Prop := ∃ v', VR φ v v' ∧ (n = .value v' ∨ (n = .skip ∧ v' = undef))
/-- The operation comes to v, and the memory to H'. -/
def OpS (P : Program) (o : Oper) (f : Nat → AV) (H : Bid → AObj) (nx : Bid) (v : AV) (H' : Bid → AObj) (nx' : Bid) : Prop :=
  ∀ φ w ρ, R φ H nx w → VRho φ f ρ → ∃ φ' w' n, (execOp ρ o).run P w = .ok n w' ∧ NxR φ' v n ∧ R φ' H' nx' w' ∧ Grows φ H nx w φ' H' nx' w'
/-- It gives v, whatever the memory is. -/
def PureS (P : Program) (o : Oper) (f : Nat → AV) (v : AV) : Prop :=
  ∀ (φ : Phi) (w : World) (ρ : Operand → Value) (H : Bid → AObj) (nx : Bid), R φ H nx w → VRho φ f ρ → ∃ v', (execOp ρ o).run P w = .ok (.value v') w ∧ VR φ v v'
/-- It gives v, where the memory is this. -/
def ReadS (P : Program) (o : Oper) (f : Nat → AV) (H : Bid → AObj) (v : AV) : Prop :=
  ∀ (φ : Phi) (w : World) (ρ : Operand → Value) (nx : Bid), R φ H nx w → VRho φ f ρ → ∃ v', (execOp ρ o).run P w = .ok (.value v') w ∧ VR φ v v'
/-- It makes the block b, which holds ob, and gives v. -/
def AllocS (P : Program) (o : Oper) (f : Nat → AV) (b : Bid) (v : AV) (ob : AObj) : Prop :=
  ∀ (φ : Phi) (w : World) (ρ : Operand → Value) (H : Bid → AObj) (nx : Bid), R φ H nx w → φ b = none → VRho φ f ρ →
    ∃ v' c cs n, (execOp ρ o).run P w = .ok (.value v') { w.push c with drawn := n } ∧ VR (updP φ b ⟨w.heap.size, 0, cs⟩) v v' ∧ OR (updP φ b ⟨w.heap.size, 0, cs⟩) ob ⟨w.heap.size, 0, cs⟩ (some c)
theorem PureS.read {P : Program} {o : Oper} {f : Nat → AV} {v : AV} (h : PureS P o f v) (H : Bid → AObj) : ReadS P o f H v := fun φ w ρ nx hR hρ => h φ w ρ H nx hR hρ
theorem ReadS.op {P : Program} {o : Oper} {f : Nat → AV} {H : Bid → AObj} {v : AV} (h : ReadS P o f H v) (nx : Bid) : OpS P o f H nx v H nx := by
  intro φ w ρ hR hρ
  obtain ⟨v', hr, hv⟩ := h φ w ρ nx hR hρ
  exact ⟨φ, w, _, hr, ⟨v', hv, .inl rfl⟩, hR, .refl _ _ _ _⟩
theorem R.drew {φ : Phi} {H : Bid → AObj} {nx : Bid} {w : World} (h : R φ H nx w) (n : Nat) : R φ H nx { w with drawn := n } := ⟨h.obj, h.inj, h.below, h.inside, h.glob⟩
theorem Grows.drew {φ φ' : Phi} {H H' : Bid → AObj} {nx nx' : Bid} {w w' : World} (h : Grows φ H nx w φ' H' nx' w') (n : Nat) : Grows φ H nx w φ' H' nx' { w' with drawn := n } :=
  ⟨h.le, h.unmapped, h.next, h.size, h.frame, h.owned, h.os, h.tape, h.output⟩

theorem AllocS.op {P : Program} {o : Oper} {f : Nat → AV} {H : Bid → AObj} {nx nx' : Bid} {v : AV} {ob : AObj} (h : AllocS P o f nx v ob) (hnx : nx'.num = nx.num + 1) : OpS P o f H nx v (updB H nx ob) nx' := by
  intro φ w ρ hR hρ
  obtain ⟨v', c, cs, n, hr, hv, ho⟩ := h φ w ρ H nx hR hR.fresh hρ
  exact ⟨_, _, _, hr, ⟨v', hv, .inl rfl⟩, (hR.push hnx cs ho).drew n, (Grows.push hR hnx ob c cs).drew n⟩
theorem HS.push {h : Heap} {H : Bid → AObj} {nx : Bid} (hh : HS h H nx) {o : AObj} (ho : ObjOk o) {k : Bid → Heap → A} (hk : hnewK o h k = .good) :
    ∃ nx', nx'.num = nx.num + 1 ∧ ∃ h', HS h' (updB H nx o) nx' ∧ k nx h' = .good := by
  obtain ⟨nx', hn, h', hi, hk⟩ := hnewK_good hh.is hk
  refine ⟨nx', hn, h', ⟨hi, fun b => ?_⟩, hk⟩
  by_cases hb : b = nx
  · subst hb; rw [updB_same]; exact ho
  · rw [updB_other _ _ hb]; exact hh.ok b
theorem HS.set {h : Heap} {H : Bid → AObj} {nx : Bid} (hh : HS h H nx) (b : Bid) {o : AObj} (ho : ObjOk o) (k : Heap → A) :
    ∃ h', HS h' (updB H b o) nx ∧ hsK b o h k = k h' := by
  obtain ⟨h', hi, hk⟩ := hsK_eq (b := b) (o := o) hh.is k
  refine ⟨h', ⟨hi, fun c => ?_⟩, hk⟩
  by_cases hb : c = b
  · subst hb; rw [updB_same]; exact ho
  · rw [updB_other _ _ hb]; exact hh.ok c
theorem HS.get {h : Heap} {H : Bid → AObj} {nx : Bid} (hh : HS h H nx) (b : Bid) (k : AObj → A) : hgK b h k = k (H b) := hgK_eq hh.is k

/-! ### what a value that is known is -/
section
variable {φ : Phi} {x : Value}
theorem VR.bool_inv {b : Bool} (h : VR φ (.bool b) x) : x = .bool b := by cases h; rfl
theorem VR.int_inv {j : IntKind} {n : Nat} (h : VR φ (.int j n) x) : x = .int j (n : Int) := by cases h; rfl
theorem VR.neg_inv {j : IntKind} {n : Nat} (h : VR φ (.neg j n) x) : x = .int j (Int.negSucc n) := by cases h; rfl
theorem VR.str_inv {l d : Nat} (h : VR φ (.str l d) x) : ∃ s, x = .string s ∧ PackIs s l d := by cases h with | str h => exact ⟨_, rfl, h⟩
theorem VR.nilp_inv (h : VR φ .nilp x) : x = .pointer none := by cases h; rfl
theorem VR.ptr_inv {b : Bid} {i : Nat} (h : VR φ (.ptr b i) x) : ∃ p, φ b = some p ∧ x = .pointer (some (p.addr i)) := by cases h with | ptr i h => exact ⟨_, h, rfl⟩
theorem VR.nils_inv (h : VR φ .nils x) : x = .slice none 0 0 := by cases h; rfl
theorem VR.slice_inv {b : Bid} {o n lo hi z : Nat} (h : VR φ (.slice b o n lo hi z) x) : ∃ p a c, φ b = some p ∧ x = .slice (some a) n c ∧ n ≤ c ∧ lo ≤ c ∧ (hi = 0 ∨ c < hi) ∧ (c = 0 ∨ (a = p.addr o ∧ o + p.sh + c * z ≤ p.cs)) := by
  cases h with | slice o n lo hi z c h hn hlo hhi ha => exact ⟨_, _, c, h, rfl, hn, hlo, hhi, ha⟩
theorem VR.nilm_inv (h : VR φ .nilm x) : x = .map none := by cases h; rfl
theorem VR.map_inv {b : Bid} (h : VR φ (.map b) x) : ∃ p, φ b = some p ∧ x = .map (some p.blk) := by cases h with | map h => exact ⟨_, h, rfl⟩
theorem VR.nilf_inv (h : VR φ .nilf x) : x = .nilFunc := by cases h; rfl
theorem VR.func_inv {fn : AFn} {a c : List AV} (h : VR φ (.func fn a c) x) : ∃ fn' a' c', x = .func fn' a' c' ∧ FR φ fn fn' ∧ VRs φ a a'.toList ∧ VRs φ c c'.toList := by cases h with | func h ha hc => exact ⟨_, _, _, rfl, h, ha, hc⟩
theorem VR.nili_inv (h : VR φ .nili x) : x = .nilIface := by cases h; rfl
theorem VR.iface_inv {t : TypeId} {v : AV} (h : VR φ (.iface t v) x) : ∃ y, x = .iface t y ∧ VR φ v y := by cases h with | iface t h => exact ⟨_, rfl, h⟩
theorem VR.agg_inv {cs : List AV} (h : VR φ (.agg cs) x) : ∃ c, x = .agg c ∧ VRs φ cs c.toList := by cases h with | agg h => exact ⟨_, rfl, h⟩
theorem VR.tuple_inv {cs : List AV} (h : VR φ (.tuple cs) x) : ∃ c, x = .tuple c ∧ VRs φ cs c.toList := by cases h with | tuple h => exact ⟨_, rfl, h⟩
theorem VR.cells {v : AV} (h : VR φ v x) (hk : v.known = true) : VRs φ v.cells x.cells.toList := by
  cases h <;> first
    | (simp [AV.known] at hk; done)
    | (rename_i h; exact h)
    | (refine .cons ?_ .nil; constructor <;> assumption)
    | (refine .cons ?_ .nil; constructor)
end
end Go.Ev
end

section
set_option maxRecDepth 2000
set_option autoImplicit false
namespace Go.Ev

/-! ### types, asked on the machine -/
section
variable {P : Program} {t : TypeId}
theorem runU {d : TypeDesc} (h : P.underlying t = some d) (w : World) : (underlying t).run P w = .ok d w := by simp [underlying, h]
theorem runI {i : TypeInfo} (h : P.info? t = some i) (w : World) : (typeInfo t).run P w = .ok i w := by simp [typeInfo, h]
theorem tSize_some {n : Nat} (h : tSize P t = some n) : ∃ i, P.info? t = some i ∧ i.size = n := by
  simp only [tSize, ob_some, Option.some.injEq] at h; exact h
theorem runS {n : Nat} (h : tSize P t = some n) (w : World) : (sizeOf t).run P w = .ok n w := by
  obtain ⟨i, hi, rfl⟩ := tSize_some h
  simp [sizeOf, runI hi]
theorem tCell_some {g : Bool} (h : tCell P t = some g) : (∃ d, P.underlying t = some d ∧ g = (match d with | .struct _ => true | .array _ _ => true | _ => false)) ∧ (g = false → tSize P t = some 1) := by
  simp only [tCell, ob_some] at h
  obtain ⟨d, hd, h⟩ := h
  split at h <;> simp only [ob_some, bb_some, beqB, decide_eq_true_eq, Option.some.injEq] at h
  · exact ⟨⟨_, hd, h.symm⟩, by simp [← h]⟩
  · exact ⟨⟨_, hd, h.symm⟩, by simp [← h]⟩
  · obtain ⟨n, hn, rfl, rfl⟩ := h
    refine ⟨⟨_, hd, ?_⟩, fun _ => hn⟩
    split <;> simp_all
theorem runAgg {g : Bool} (h : tCell P t = some g) (w : World) : (isAgg t).run P w = .ok g w := by
  obtain ⟨⟨d, hd, rfl⟩, _⟩ := tCell_some h
  simp only [isAgg, Sem.run_bind, runU hd, Result.andThen_ok]
  split <;> simp_all
theorem tZero_some {z : AV} (h : tZero P t = some z) : ∃ v, z = ofValue v ∧ ∀ w, (zeroValue t).run P w = .ok v w := by
  simp only [tZero, ob_some, Option.some.injEq] at h
  obtain ⟨i, hi, v, hv, rfl⟩ := h
  exact ⟨v, rfl, fun w => by simp [zeroValue, runI hi, hv]⟩
theorem tSlice_some {el : TypeId} (h : tSlice P t = some el) : P.underlying t = some (.slice el) := by
  simp only [tSlice, ob_some] at h
  obtain ⟨d, hd, h⟩ := h
  split at h <;> simp_all
end

section
variable {C : Cx} {e : Env} {f : Nat → AV} {h : Heap} {k : AV → Heap → A} {o : Oper}
theorem moveF_good (he : EnvIs e f) {a : Operand} (ho : o.op = .move a ∨ o.op = .assign a) (hk : moveF a C e h k = .good) : ∃ v, k v h = .good ∧ PureS C.P o f v := by
  simp only [moveF, opdK_good he] at hk
  refine ⟨_, hk.2, fun φ w ρ H nx hR hρ => ⟨ρ a, ?_, hρ.opd hR hk.1⟩⟩
  rcases ho with ho | ho <;> simp [execOp, ho]
theorem pickF_good (he : EnvIs e f) {c a b : Operand} (ho : o.op = .pick c a b) (hk : pickF c a b C e h k = .good) : ∃ v, k v h = .good ∧ PureS C.P o f v := by
  simp only [pickF, opdK_good he, asBoolK_good, boolRec_good] at hk
  obtain ⟨hc, t, ht, hk⟩ := hk
  have hb : ∀ (φ : Phi) (w : World) (ρ : Operand → Value) {H : Bid → AObj} {nx : Bid}, R φ H nx w → VRho φ f ρ → ρ c = .bool t := by
    intro φ w ρ H nx hR hρ
    have := hρ.opd hR hc
    rw [ht] at this
    generalize ρ c = x at this
    cases this; rfl
  rcases hk with ⟨rfl, hx, hk⟩ | ⟨rfl, hx, hk⟩
  · exact ⟨_, hk, fun φ w ρ H nx hR hρ => ⟨ρ a, by simp [execOp, ho, asBool, hb φ w ρ hR hρ], hρ.opd hR hx⟩⟩
  · exact ⟨_, hk, fun φ w ρ H nx hR hρ => ⟨ρ b, by simp [execOp, ho, asBool, hb φ w ρ hR hρ], hρ.opd hR hx⟩⟩
theorem nilK_good {v : AV} {a b : A} (h : nilK v a b = .good) : (v.known = true ∧ b = .good ∧ v ≠ .nilp ∧ v ≠ .nili ∧ v ≠ .nilf ∧ ∀ n a c, v ≠ .func (.method n) a c) ∨ a = .good := by
  cases v <;> first
    | (exact absurd h no_good)
    | (exact .inr h)
    | (exact .inl ⟨rfl, h, by simp, by simp, by simp, by simp⟩)
    | skip
  rename_i fn a c
  cases fn <;> first
    | (exact absurd h no_good)
    | (exact .inl ⟨rfl, h, by simp, by simp, by simp, by simp⟩)
theorem nilCheckF_good (he : EnvIs e f) {x : Operand} (ho : o.op = .nilCheck x) (hk : nilCheckF x C e h k = .good) : ∃ v, k v h = .good ∧ PureS C.P o f v := by
  simp only [nilCheckF, opdK_good he] at hk
  obtain ⟨hx, hk⟩ := hk
  rcases nilK_good hk with ⟨hkn, hk, h1, h2, h3, h4⟩ | h0
  · refine ⟨_, hk, fun φ w ρ H nx hR hρ => ⟨ρ x, ?_, hρ.opd hR hx⟩⟩
    have hv := hρ.opd hR hx
    simp only [execOp, ho]
    generalize ρ x = y at hv
    generalize opdS x f = v at hv hkn h1 h2 h3 h4
    cases hv <;> first | rfl | (exact absurd rfl h1) | (exact absurd rfl h2) | (exact absurd rfl h3) | (simp [AV.known] at hkn; done) | skip
    rename_i hfr _ _
    cases hfr <;> first | rfl | (exact absurd rfl (h4 _ _ _))
  · exact absurd h0 no_good
theorem makeIfaceF_good (he : EnvIs e f) {t : TypeId} {x : Operand} (ho : o.op = .makeInterface t x) (hk : makeIfaceF t x C e h k = .good) : ∃ v, k v h = .good ∧ PureS C.P o f v := by
  simp only [makeIfaceF, obK_good, bbK_good, notB_eq, opdK_good he, isIface, ob_some] at hk
  obtain ⟨b, ⟨d, hd, hb⟩, hb', hx, hk⟩ := hk
  refine ⟨_, hk, fun φ w ρ H nx hR hρ => ⟨.iface t (ρ x), ?_, .iface t (hρ.opd hR hx)⟩⟩
  simp only [execOp, ho, Instr.makeInterface, Sem.run_bind, runU hd, Result.andThen_ok]
  split
  · simp_all
  · rfl
theorem toList_map {l : Array Operand} {ρ : Operand → Value} : (l.map ρ).toList = l.toList.map ρ := by simp
theorem makeFuncF_good (he : EnvIs e f) {fn : Fn} {a c : Array Operand} (ho : o.op = .makeFunc fn a c) (hk : makeFuncF fn a c C e h k = .good) : ∃ v, k v h = .good ∧ PureS C.P o f v := by
  simp only [makeFuncF, opdsK_good he] at hk
  obtain ⟨ha, hc, hk⟩ := hk
  cases fn <;> first | (exact absurd hk no_good) | skip
  · exact ⟨_, hk, fun φ w ρ H nx hR hρ => ⟨.func _ (a.map ρ) (c.map ρ), by simp [execOp, ho, Instr.makeFunc], .func (.func _) (by rw [toList_map]; exact hρ.opds hR ha) (by rw [toList_map]; exact hρ.opds hR hc)⟩⟩
  · exact ⟨_, hk, fun φ w ρ H nx hR hρ => ⟨.func _ (a.map ρ) (c.map ρ), by simp [execOp, ho, Instr.makeFunc], .func (.method _) (by rw [toList_map]; exact hρ.opds hR ha) (by rw [toList_map]; exact hρ.opds hR hc)⟩⟩
theorem extractF_good (he : EnvIs e f) {t : Operand} {i : Nat} (ho : o.op = .extract t i) (hk : extractF t i C e h k = .good) : ∃ v, k v h = .good ∧ PureS C.P o f v := by
  simp only [extractF, opdK_good he, asTupleK_good, obK_good, lnth_eq] at hk
  obtain ⟨ht, vs, hv, v, hi, hk⟩ := hk
  refine ⟨_, hk, fun φ w ρ H nx hR hρ => ?_⟩
  have := hρ.opd hR ht
  rw [hv] at this
  obtain ⟨c, hc, hs⟩ := this.tuple_inv
  obtain ⟨y, hy, hvy⟩ := hs.get hi
  have hy : c[i]? = some y := by simpa using hy
  exact ⟨y, by simp [execOp, ho, hc, Instr.extract, hy], hvy⟩
end
end Go.Ev
end

section
set_option maxRecDepth 2000
set_option autoImplicit false
namespace Go.Ev

section
variable {C : Cx} {e : Env} {f : Nat → AV} {h : Heap} {k : AV → Heap → A} {o : Oper}
theorem ldrop_eq {α : Type} : ∀ (n : Nat) (l : List α), ldrop n l = l.drop n
  | 0, _ => rfl
  | _ + 1, [] => rfl
  | n + 1, _ :: l => ldrop_eq n l
theorem ltake_some {α : Type} : ∀ {n : Nat} {l r : List α}, ltake n l = some r → r = l.take n ∧ n ≤ l.length
  | 0, l, r, h => by
    have h : some [] = some r := h
    cases h; exact ⟨by simp, by simp⟩
  | n + 1, [], r, h => by cases h
  | n + 1, x :: l, r, h => by
    have h : ob (ltake n l) (fun r => some (x :: r)) = some r := h
    simp only [ob_some, Option.some.injEq] at h
    obtain ⟨r', h', rfl⟩ := h
    obtain ⟨h1, h2⟩ := ltake_some h'
    exact ⟨by simp [h1], by simp [h2]⟩
theorem VRs.drop {φ : Phi} : ∀ {v : List AV} {v' : List Value}, VRs φ v v' → ∀ n, VRs φ (v.drop n) (v'.drop n)
  | _, _, .nil, n => by simp; exact .nil
  | _, _, .cons h hs, 0 => .cons h hs
  | _, _, .cons h hs, n + 1 => hs.drop n
theorem VRs.take {φ : Phi} : ∀ {v : List AV} {v' : List Value}, VRs φ v v' → ∀ n, VRs φ (v.take n) (v'.take n)
  | _, _, .nil, n => by simp; exact .nil
  | _, _, .cons h hs, 0 => .nil
  | _, _, .cons h hs, n + 1 => .cons h (hs.take n)
theorem partK_good {P : Program} {t : TypeId} {cs : List AV} {off : Nat} {k : AV → A} (hk : partK P t cs off k = .good) :
    ∃ v, k v = .good ∧ ∀ (φ : Phi) (c : Array Value) (w : World), VRs φ cs c.toList → ∃ v', (part t c off).run P w = .ok v' w ∧ VR φ v v' := by
  simp only [partK, obK_good, boolRec_good, lnth_eq] at hk
  obtain ⟨g, hg, ⟨rfl, n, hn, l, hl, hk⟩ | ⟨rfl, v, hv, hk⟩⟩ := hk
  · rw [ldrop_eq] at hl
    obtain ⟨rfl, hle⟩ := ltake_some hl
    refine ⟨_, hk, fun φ c w hc => ⟨.agg (c.extract off (off + n)), ?_, .agg ?_⟩⟩
    · simp [part, runAgg hg, runS hn]
    · have := (hc.drop off).take n
      simpa [Array.toList_extract, List.extract] using this
  · refine ⟨v, hk, fun φ c w hc => ?_⟩
    obtain ⟨y, hy, hr⟩ := hc.get hv
    have hy : c[off]? = some y := by simpa using hy
    exact ⟨y, by simp [part, runAgg hg, hy], hr⟩
theorem fieldAt_some {P : Program} {t : TypeId} {i : Nat} {q : Nat × TypeId} (h : fieldAt P t i = some q) : ∃ fs fd, P.underlying t = some (.struct fs) ∧ fs[i]? = some fd ∧ q = (fd.offset, fd.type) := by
  simp only [fieldAt] at h
  split at h
  · simp only [ob_some, Option.some.injEq] at h
    obtain ⟨fd, h1, h2⟩ := h
    exact ⟨_, fd, by assumption, h1, h2.symm⟩
  · cases h
theorem fieldF_good (he : EnvIs e f) {t : TypeId} {x : Operand} {i : Nat} (ho : o.op = .field t x i) (hk : fieldF t x i C e h k = .good) : ∃ v, k v h = .good ∧ PureS C.P o f v := by
  simp only [fieldF, obK_good, opdK_good he, asAggK_good] at hk
  obtain ⟨q, hq, hx, cs, hcs, hk⟩ := hk
  obtain ⟨fs, fd, h1, h2, rfl⟩ := fieldAt_some hq
  obtain ⟨v, hk, hp⟩ := partK_good hk
  refine ⟨v, hk, fun φ w ρ H nx hR hρ => ?_⟩
  have := hρ.opd hR hx
  rw [hcs] at this
  obtain ⟨c, hc, hs⟩ := this.agg_inv
  obtain ⟨v', hr, hv⟩ := hp φ c w hs
  exact ⟨v', by simp [execOp, ho, Instr.field, runU h1, h2, hc, asAgg, hr], hv⟩
theorem add_spot (p : PB) (i n : Nat) : (p.addr i).add n = p.addr (i + n) := by
  simp only [PB.addr, add_addr]; congr 1; omega
theorem fieldAddrF_good (he : EnvIs e f) {t : TypeId} {x : Operand} {i : Nat} (ho : o.op = .fieldAddr t x i) (hk : fieldAddrF t x i C e h k = .good) : ∃ v, k v h = .good ∧ PureS C.P o f v := by
  simp only [fieldAddrF, obK_good, opdK_good he, asPtrK_good, fieldOff, ob_some, bb_some, notB_eq, beqB, fN_eq] at hk
  obtain ⟨n, ⟨q, hq, s, hs, hne, hoff⟩, hx, b, j, hv, hk⟩ := hk
  obtain ⟨fs, fd, h1, h2, rfl⟩ := fieldAt_some hq
  simp only [Option.some.injEq] at hoff
  subst hoff
  refine ⟨_, hk, fun φ w ρ H nx hR hρ => ?_⟩
  have := hρ.opd hR hx
  rw [hv] at this
  obtain ⟨p, hp, hy⟩ := this.ptr_inv
  have hs0 : ¬ s = 0 := by simpa using hne
  exact ⟨.pointer (some (p.addr (j + fd.offset))), by simp [execOp, ho, Instr.fieldAt, runU h1, h2, hy, Instr.sureAddr, fieldPlace, runS hs, hs0, add_spot], .ptr _ hp⟩
theorem indexAddrF_good (he : EnvIs e f) {t : TypeId} {x i : Operand} (ho : o.op = .indexAddr t x i) (hk : indexAddrF t x i C e h k = .good) : ∃ v, k v h = .good ∧ PureS C.P o f v := by
  simp only [indexAddrF, obK_good, opdK_good he, asNatK_good] at hk
  obtain ⟨q, hq, hi, j, n, hn, hx, hk⟩ := hk
  have hin : ∀ (φ : Phi) (w : World) (ρ : Operand → Value) {H : Bid → AObj} {nx : Bid}, R φ H nx w → VRho φ f ρ → ρ i = .int j (n : Int) := by
    intro φ w ρ H nx hR hρ
    have := hρ.opd hR hi
    rw [hn] at this; exact this.int_inv
  simp only [ixKind] at hq
  split at hq
  · rename_i len el hu
    simp only [ob_some, Option.some.injEq] at hq
    obtain ⟨sz, hs, rfl⟩ := hq
    simp only [asPtrK_good, bbK_good, ltB, decide_eq_true_eq, fN_eq] at hk
    obtain ⟨b, off, hv, hlt, hk⟩ := hk
    refine ⟨_, hk, fun φ w ρ H nx hR hρ => ?_⟩
    have := hρ.opd hR hx
    rw [hv] at this
    obtain ⟨p, hp, hy⟩ := this.ptr_inv
    exact ⟨.pointer (some (p.addr (off + n * sz))), by simp [execOp, ho, Instr.indexAt, asIntOf, hin φ w ρ hR hρ, runU hu, hy, Instr.sureAddr, runS hs, add_spot]; intro hle; omega, .ptr _ hp⟩
  · rename_i el hu
    simp only [ob_some, Option.some.injEq] at hq
    obtain ⟨sz, hs, rfl⟩ := hq
    simp only [asSlK_good, bbK_good, ltB, beqB, decide_eq_true_eq, fN_eq] at hk
    rcases hk with ⟨_, hk⟩ | ⟨b, off, len, lo, hi', z, hv, hlt, rfl, hk⟩
    · exact absurd hk no_good
    refine ⟨_, hk, fun φ w ρ H nx hR hρ => ?_⟩
    have := hρ.opd hR hx
    rw [hv] at this
    obtain ⟨p, a, c, hp, hy, hnc, hlo, hhi, ha⟩ := this.slice_inv
    rcases ha with h0 | ⟨rfl, ha⟩
    · omega
    exact ⟨.pointer (some (p.addr (off + n * z))), by simp [execOp, ho, Instr.indexAt, asIntOf, hin φ w ρ hR hρ, runU hu, hy, runS hs, add_spot]; intro hle; omega, .ptr _ hp⟩
  · cases hq; exact absurd hk no_good
  · cases hq
end
end Go.Ev
end

section
set_option maxRecDepth 2000
set_option autoImplicit false
namespace Go.Ev

section
variable {C : Cx} {e : Env} {f : Nat → AV} {h : Heap} {k : AV → Heap → A} {o : Oper}
theorem byteOf_some {s : ByteArray} {i : Nat} (hi : i < s.size) : ∃ b, s[i]? = some b ∧ b.toNat = byteOf s i := by
  refine ⟨s[i], by simp [hi], ?_⟩
  have : i < s.data.size := hi
  simp only [byteOf, List.getD_eq_getElem?_getD, ByteArray.getElem_eq_getElem_data, List.getElem?_map, Array.getElem?_toList, Array.getElem?_eq_getElem this, Option.map_some, Option.getD_some]
theorem indexF_good (he : EnvIs e f) {t : TypeId} {x i : Operand} (ho : o.op = .index t x i) (hk : indexF t x i C e h k = .good) : ∃ v, k v h = .good ∧ PureS C.P o f v := by
  simp only [indexF, obK_good, opdK_good he, asNatK_good] at hk
  obtain ⟨q, hq, hi, j, n, hn, hx, hk⟩ := hk
  have hin : ∀ (φ : Phi) (w : World) (ρ : Operand → Value) {H : Bid → AObj} {nx : Bid}, R φ H nx w → VRho φ f ρ → ρ i = .int j (n : Int) := by
    intro φ w ρ H nx hR hρ
    have := hρ.opd hR hi
    rw [hn] at this; exact this.int_inv
  simp only [ixKind] at hq
  split at hq
  · rename_i len el hu
    simp only [ob_some, Option.some.injEq] at hq
    obtain ⟨sz, hs, rfl⟩ := hq
    simp only [asAggK_good, bbK_good, ltB, decide_eq_true_eq] at hk
    obtain ⟨cs, hcs, hlt, hk⟩ := hk
    obtain ⟨v, hk, hp⟩ := partK_good hk
    refine ⟨v, hk, fun φ w ρ H nx hR hρ => ?_⟩
    have := hρ.opd hR hx
    rw [hcs] at this
    obtain ⟨c, hc, hcr⟩ := this.agg_inv
    obtain ⟨v', hr, hv⟩ := hp φ c w hcr
    have hr : (part el c (n * sz)).run C.P w = .ok v' w := hr
    exact ⟨v', by simp [execOp, ho, Instr.index, asIntOf, hin φ w ρ hR hρ, runU hu, hc, hlt, runS hs, hr], hv⟩
  · simp only [ob_some, Option.some.injEq] at hq
    obtain ⟨sz, hs, rfl⟩ := hq
    exact absurd hk no_good
  · rename_i hu
    simp only [Option.some.injEq] at hq
    subst hq
    simp only [asStrK_good, bbK_good, ltB, decide_eq_true_eq, fN_eq] at hk
    obtain ⟨l, d, hv, hlt, hk⟩ := hk
    refine ⟨_, hk, fun φ w ρ H nx hR hρ => ?_⟩
    have := hρ.opd hR hx
    rw [hv] at this
    obtain ⟨s, hsx, hp⟩ := this.str_inv
    obtain ⟨b, hb, hbt⟩ := byteOf_some (s := s) (i := n) (by rw [hp.1]; exact hlt)
    refine ⟨.int .u8 (b.toNat : Nat), by simp [execOp, ho, Instr.index, asIntOf, hin φ w ρ hR hρ, runU hu, hsx, hb], ?_⟩
    rw [hbt, ← hp.byte]
    exact .int _ _
  · cases hq
theorem onatK_good (he : EnvIs e f) {x : Option Operand} {z : Nat} {k : Nat → A} (hk : onatK x z e k = .good) :
    ∃ n, k n = .good ∧ (x = none ∧ n = z ∨ ∃ a, x = some a ∧ ∀ (φ : Phi) (w : World) (ρ : Operand → Value) (H : Bid → AObj) (nx : Bid), R φ H nx w → VRho φ f ρ → ∃ j, ρ a = .int j (n : Int)) := by
  cases x with
  | none => exact ⟨z, hk, .inl ⟨rfl, rfl⟩⟩
  | some a =>
    have hk : opdK a e (fun v => asNatK v fun _ n => k n) = .good := hk
    simp only [opdK_good he, asNatK_good] at hk
    obtain ⟨ha, j, n, hn, hk⟩ := hk
    refine ⟨n, hk, .inr ⟨a, rfl, fun φ w ρ H nx hR hρ => ?_⟩⟩
    have := hρ.opd hR ha
    rw [hn] at this
    exact ⟨j, this.int_inv⟩
/-- What a bound is on the machine's side. -/
def BndR (x : Option Value) (z n : Nat) : Prop := (x = none ∧ n = z) ∨ ∃ j, x = some (.int j (n : Int))
theorem run_sliceBound {P : Program} {j : IntKind} {n y : Nat} (c : BoundsCode) (h : n ≤ y) (w : World) : (Instr.sliceBound (.int j (n : Int)) y c).run P w = .ok n w := by
  have h1 : (0 : Int) ≤ (n : Int) ∧ (n : Int) ≤ (y : Int) := by omega
  simp [Instr.sliceBound, asIntOf]
  intro h2; omega
theorem run_sliceBounds {P : Program} {isSlice : Bool} {len cap l h m : Nat} {lo hi mx : Option Value} (hm : (mx = none ∧ m = cap) ∨ (hi.isSome = true ∧ m ≤ cap ∧ ∃ j, mx = some (.int j (m : Int))))
    (hh : BndR hi len h) (hl : BndR lo 0 l) (h1 : l ≤ h) (h2 : h ≤ m) (w : World) : (Instr.sliceBounds isSlice len cap lo hi mx).run P w = .ok (l, h, m) w := by
  rcases hm with ⟨rfl, rfl⟩ | ⟨hs, hmc, j, rfl⟩
  · rcases hh with ⟨rfl, rfl⟩ | ⟨j, rfl⟩ <;> rcases hl with ⟨rfl, rfl⟩ | ⟨j', rfl⟩ <;> simp [Instr.sliceBounds, run_sliceBound, h1, h2]
  · rcases hh with ⟨rfl, rfl⟩ | ⟨j, rfl⟩
    · cases hs
    · rcases hl with ⟨rfl, rfl⟩ | ⟨j', rfl⟩ <;> simp [Instr.sliceBounds, run_sliceBound, h1, h2, hmc]
end
end Go.Ev
end

section
set_option maxRecDepth 2000
set_option autoImplicit false
set_option linter.unusedSimpArgs false
set_option linter.unusedVariables false
namespace Go.Ev

section
variable {C : Cx} {e : Env} {f : Nat → AV} {h : Heap} {k : AV → Heap → A} {o : Oper}
theorem byteOf_extract {s : ByteArray} {i j m : Nat} (hm : m < j - i) : byteOf (s.extract i j) m = byteOf s (i + m) := by
  simp only [byteOf, ByteArray.data_extract, Array.toList_extract, List.extract_eq_take_drop, List.map_take, List.map_drop, List.getD_eq_getElem?_getD, List.getElem?_take, List.getElem?_drop, if_pos hm]
theorem extract_pack {s : ByteArray} {l d i j : Nat} (h : PackIs s l d) (hj : j ≤ l) : PackIs (s.extract i j) (j - i) (byteCut d i (j - i)) := by
  have hl := h.1
  have hs : (s.extract i j).size = j - i := by rw [ByteArray.size_extract]; omega
  refine .of hs (byteCut_lt _ _ _) fun m hm => ?_
  rw [byteAt_cut, if_pos hm, h.byte, byteOf_extract hm]
theorem onat_bnd {x : Option Operand} {z n : Nat} {φ : Phi} {w : World} {ρ : Operand → Value} {H : Bid → AObj} {nx : Bid}
    (h : x = none ∧ n = z ∨ ∃ a, x = some a ∧ ∀ (φ : Phi) (w : World) (ρ : Operand → Value) (H : Bid → AObj) (nx : Bid), R φ H nx w → VRho φ f ρ → ∃ j, ρ a = .int j (n : Int)) (hR : R φ H nx w) (hρ : VRho φ f ρ) : BndR (x.map ρ) z n := by
  rcases h with ⟨rfl, rfl⟩ | ⟨a, rfl, h⟩
  · exact .inl ⟨rfl, rfl⟩
  · obtain ⟨j, hj⟩ := h φ w ρ H nx hR hρ
    exact .inr ⟨j, by simp [hj]⟩
theorem sub0_eq (a b : Nat) : sub0 a b = if a = 0 then 0 else a - b := by
  simp only [sub0, beqB]
  by_cases h : a = 0
  · simp [h]
  · simp [h]
theorem roomB_OR {φ : Phi} {o : AObj} {p : PB} {c : Option Obj} {n : Nat} (h : roomB o n = true) (hO : OR φ o p c) : n + p.sh ≤ p.cs := by
  cases o <;> simp only [roomB, bleB, decide_eq_true_eq, Bool.false_eq_true] at h
  · obtain ⟨cc, fr, h1, h2, h3, _⟩ := hO; omega
  · obtain ⟨cc, fr, h1, h2, h3, _⟩ := hO; omega
theorem mkSl_good {b : Bid} {o i sz l lo hi : Nat} {k : AV → A} (hk : mkSl b o i sz l lo hi k = .good) : k (.slice b (o + i * sz) l lo hi sz) = .good := by
  simpa only [mkSl, fN_eq, addE, mulE] using hk
theorem sliceAddr {p : PB} {o i sz c : Nat} {a : Addr} (ha : c = 0 ∨ a = p.addr o) (hic : i ≤ c) : c - i = 0 ∨ (if c = i then a else a.add (i * sz)) = p.addr (o + i * sz) := by
  by_cases h : c = i
  · exact .inl (by omega)
  · rw [if_neg h]
    rcases ha with h0 | rfl
    · exact .inl (by omega)
    · exact .inr (add_spot _ _ _)
theorem sliceF_good {H : Bid → AObj} {nx : Bid} (hh : HS h H nx) (he : EnvIs e f) {t : TypeId} {x : Operand} {lo hi mx : Option Operand} (ho : o.op = .slice t x lo hi mx) (hk : sliceF t x lo hi mx C e h k = .good) :
    ∃ v, k v h = .good ∧ ReadS C.P o f H v ∧ (cls' C.P o.op = 0 → PureS C.P o f v) := by
  have hc : cls' C.P o.op = (match slKind C.P t with | some (.arr _ _) => 1 | _ => 0) := by rw [ho]; rfl
  simp only [sliceF, obK_good, opdK_good he] at hk
  obtain ⟨q, hq, hx, hk⟩ := hk
  have hq' := hq
  -- a row of an array's cells
  have arr : ∀ len sz, q = .arr len sz → (∀ (ρ : Operand → Value) (a : Addr) (l h' : Nat) (w : World), ρ x = .pointer (some a) → (Instr.sliceBounds false len len (lo.map ρ) (hi.map ρ) (mx.map ρ)).run C.P w = .ok (l, h', len) w →
      (execOp ρ o).run C.P w = .ok (.value (.slice (some (if len = l then a else a.add (l * sz))) (h' - l) (len - l))) w) → ∃ v, k v h = .good ∧ ReadS C.P o f H v ∧ (cls' C.P o.op = 0 → PureS C.P o f v) := by
    intro len sz hqa hrun
    subst hqa
    simp only [bbK_good, isNo_eq, asPtrK_good, hh.get] at hk
    obtain ⟨hmx, b, off, hv, hroom, hk⟩ := hk
    obtain ⟨j, hk, hj⟩ := onatK_good he hk
    obtain ⟨i, hk, hi'⟩ := onatK_good he hk
    simp only [bbK_good, bleB, decide_eq_true_eq] at hk
    obtain ⟨hij, hjl, hk⟩ := hk
    have hk := mkSl_good hk
    have hmx : mx = none := by simpa using hmx
    subst hmx
    refine ⟨_, hk, fun φ w ρ nx hR hρ => ?_, fun h0 => ?_⟩
    · have hvx := hρ.opd hR hx
      rw [hv] at hvx
      obtain ⟨p, hp, hy⟩ := hvx.ptr_inv
      have hcs := roomB_OR hroom (hR.obj _ _ hp)
      have hcs : off + len * sz + p.sh ≤ p.cs := hcs
      refine ⟨_, hrun ρ _ i j w hy (run_sliceBounds (.inl ⟨rfl, rfl⟩) (onat_bnd hj hR hρ) (onat_bnd hi' hR hρ) hij hjl w), ?_⟩
      have e1 : i * sz + (len - i) * sz = len * sz := by rw [← Nat.add_mul]; congr 1; omega
      simp only [subE, succE]
      refine .slice _ _ _ _ _ (len - i) hp (by omega) (Nat.le_refl _) (.inr (Nat.lt_succ_self _)) ?_
      rcases sliceAddr (p := p) (o := off) (i := i) (sz := sz) (c := len) (a := p.addr off) (.inr rfl) (by omega) with h0 | ha
      · exact .inl h0
      · exact .inr ⟨ha, by omega⟩
    · rw [hc, hq'] at h0; simp at h0
  simp only [slKind] at hq
  split at hq
  · rename_i hu
    cases hq
    clear arr
    simp only [bbK_good, isNo_eq, asStrK_good] at hk
    obtain ⟨hmx, l, d, hv, hk⟩ := hk
    obtain ⟨j, hk, hj⟩ := onatK_good he hk
    obtain ⟨i, hk, hi'⟩ := onatK_good he hk
    simp only [bbK_good, bleB, decide_eq_true_eq, fN_eq] at hk
    obtain ⟨hij, hjl, hk⟩ := hk
    have hmx : mx = none := by simpa using hmx
    subst hmx
    have hP : PureS C.P o f (.str (j - i) (byteCut d i (j - i))) := by
      intro φ w ρ H nx hR hρ
      have hvx := hρ.opd hR hx
      rw [hv] at hvx
      obtain ⟨s, hy, hp⟩ := hvx.str_inv
      have hb := run_sliceBounds (P := C.P) (isSlice := false) (len := s.size) (cap := s.size) (l := i) (h := j) (m := s.size) (mx := none) (.inl ⟨rfl, rfl⟩) (hp.1 ▸ onat_bnd hj hR hρ) (onat_bnd hi' hR hρ) hij (by rw [hp.1]; exact hjl) w
      exact ⟨.string (s.extract i j), by simp [execOp, ho, Instr.sliceAt, Instr.slice, runU hu, hy, hb], .str (extract_pack hp hjl)⟩
    exact ⟨_, hk, hP.read _, fun _ => hP⟩
  · rename_i el hu
    simp only [ob_some, Option.some.injEq] at hq
    obtain ⟨sz, hs, rfl⟩ := hq
    clear arr
    simp only [asSlK_good] at hk
    rcases hk with ⟨hv, hk⟩ | ⟨b, off, n, cl, ch, z, hv, hk⟩
    · obtain ⟨j, hk, hj⟩ := onatK_good he hk
      obtain ⟨i, hk, hi'⟩ := onatK_good he hk
      simp only [bbK_good, andB_eq, isNo_eq, beqB, Bool.and_eq_true, decide_eq_true_eq] at hk
      obtain ⟨⟨hmx, hj0, hi0⟩, hk3⟩ := hk
      have hmx : mx = none := by simpa using hmx
      subst hmx hj0 hi0
      have hP : PureS C.P o f .nils := by
        intro φ w ρ H nx hR hρ
        have hvx := hρ.opd hR hx
        rw [hv] at hvx
        have hy := hvx.nils_inv
        have hb := run_sliceBounds (P := C.P) (isSlice := true) (len := 0) (cap := 0) (l := 0) (h := 0) (m := 0) (mx := none) (.inl ⟨rfl, rfl⟩) (onat_bnd hj hR hρ) (onat_bnd hi' hR hρ) (Nat.le_refl _) (Nat.le_refl _) w
        exact ⟨.slice none 0 0, by simp [execOp, ho, Instr.sliceAt, Instr.slice, runU hu, hy, hb, runS hs], .nils⟩
      exact ⟨_, hk3, hP.read _, fun _ => hP⟩
    · simp only [bbK_good, beqB, decide_eq_true_eq] at hk
      obtain ⟨rfl, hk⟩ := hk
      obtain ⟨j, hk, hj⟩ := onatK_good he hk
      obtain ⟨i, hk, hi'⟩ := onatK_good he hk
      simp only [bbK_good, bleB, decide_eq_true_eq] at hk
      obtain ⟨hij, hk⟩ := hk
      cases mx with
      | none =>
        simp only [bbK_good, bleB, decide_eq_true_eq] at hk
        obtain ⟨hjc, hk⟩ := hk
        have hk := mkSl_good hk
        have hP : PureS C.P o f (.slice b (off + i * z) (j - i) (cl - i) (sub0 ch i) z) := by
          intro φ w ρ H nx hR hρ
          have hvx := hρ.opd hR hx
          rw [hv] at hvx
          obtain ⟨p, a, c, hp, hy, hnc, hlo, hhi, ha⟩ := hvx.slice_inv
          have hb := run_sliceBounds (P := C.P) (isSlice := true) (len := n) (cap := c) (l := i) (h := j) (m := c) (mx := none) (.inl ⟨rfl, rfl⟩) (onat_bnd hj hR hρ) (onat_bnd hi' hR hρ) hij (by omega) w
          refine ⟨.slice (some (if c = i then a else a.add (i * z))) (j - i) (c - i), ?_, ?_⟩
          · simp only [execOp, ho, Instr.sliceAt, Instr.slice, Sem.run_bind, runU hu, Result.andThen_ok, hy, Option.map_none, hb, runS hs, Sem.run_pure]
            split <;> rfl
          · have e1 : i * z + (c - i) * z = c * z := by rw [← Nat.add_mul]; congr 1; omega
            refine .slice _ _ _ _ _ (c - i) hp (by omega) (by omega) ?_ ?_
            · rw [sub0_eq]
              rcases hhi with h0 | h0
              · exact .inl (if_pos h0)
              · rw [if_neg (by omega)]; exact .inr (by omega)
            · rcases ha with h0 | ⟨rfl, ha⟩
              · exact .inl (by omega)
              · rcases sliceAddr (p := p) (o := off) (i := i) (sz := z) (c := c) (.inr rfl) (by omega) with h0 | h1
                · exact .inl h0
                · exact .inr ⟨h1, by omega⟩
        exact ⟨_, hk, hP.read _, fun _ => hP⟩
      | some mm =>
        simp only [bbK_good, notB_eq, isNo_eq, opdK_good he, asNatK_good, andB_eq, bleB, Bool.and_eq_true, decide_eq_true_eq] at hk
        obtain ⟨hhi0, hmm, jk, m, hvm, ⟨hjm, hmc⟩, hk⟩ := hk
        have hk := mkSl_good hk
        have hP : PureS C.P o f (.slice b (off + i * z) (j - i) (m - i) (m - i + 1) z) := by
          intro φ w ρ H nx hR hρ
          have hvx := hρ.opd hR hx
          rw [hv] at hvx
          obtain ⟨p, a, c, hp, hy, hnc, hlo, hhi, ha⟩ := hvx.slice_inv
          have hvm' := hρ.opd hR hmm
          rw [hvm] at hvm'
          have hm := hvm'.int_inv
          have hb := run_sliceBounds (P := C.P) (isSlice := true) (len := n) (cap := c) (l := i) (h := j) (m := m) (mx := some (ρ mm)) (.inr ⟨by simpa [Option.isSome_map] using hhi0, by omega, jk, by rw [hm]⟩) (onat_bnd hj hR hρ) (onat_bnd hi' hR hρ) hij hjm w
          refine ⟨.slice (some (if m = i then a else a.add (i * z))) (j - i) (m - i), ?_, ?_⟩
          · simp only [execOp, ho, Instr.sliceAt, Instr.slice, Sem.run_bind, runU hu, Result.andThen_ok, hy, Option.map_some, hb, runS hs, Sem.run_pure]
            split <;> rfl
          · have e1 : i * z + (m - i) * z = m * z := by rw [← Nat.add_mul]; congr 1; omega
            have e2 : m * z ≤ c * z := Nat.mul_le_mul_right _ (by omega)
            refine .slice _ _ _ _ _ (m - i) hp (by omega) (Nat.le_refl _) (.inr (Nat.lt_succ_self _)) ?_
            rcases ha with h0 | ⟨rfl, ha⟩
            · exact .inl (by omega)
            · rcases sliceAddr (p := p) (o := off) (i := i) (sz := z) (c := m) (.inr rfl) (by omega) with h0 | h1
              · exact .inl h0
              · exact .inr ⟨h1, by omega⟩
        exact ⟨_, hk, hP.read _, fun _ => hP⟩
  · rename_i len el hu
    simp only [ob_some, Option.some.injEq] at hq
    obtain ⟨sz, hs, rfl⟩ := hq
    refine arr len sz rfl fun ρ a l h' w hy hb => ?_
    simp only [execOp, ho, Instr.sliceAt, Instr.sureAddr, Sem.run_bind, runU hu, Result.andThen_ok, hy, hb, runS hs, Sem.run_pure]
  · rename_i a hu
    split at hq
    · rename_i len el hu'
      simp only [ob_some, Option.some.injEq] at hq
      obtain ⟨sz, hs, rfl⟩ := hq
      refine arr len sz rfl fun ρ a' l h' w hy hb => ?_
      simp only [execOp, ho, Instr.sliceAt, Instr.slice, asAddr, Sem.run_bind, runU hu, runU hu', Result.andThen_ok, hy, hb, runS hs, Sem.run_pure]
    · cases hq
  · cases hq
end
end Go.Ev
end

section
set_option maxRecDepth 2000
set_option autoImplicit false
set_option linter.unusedSimpArgs false
set_option linter.unusedVariables false
namespace Go.Ev

section
variable {C : Cx} {e : Env} {f : Nat → AV} {h : Heap} {k : AV → Heap → A} {o : Oper}
theorem ldVarK_good {P : Program} {t : TypeId} {o : AObj} {i : Nat} {k : AV → A} (ho : ObjOk o) (hk : ldVarK P t o i k = .good) :
    ∃ v, k v = .good ∧ ∀ (φ : Phi) (p : PB) (w : World), OR φ o p w.heap[p.blk]? → ∃ v', (loadVar t (p.addr i)).run P w = .ok v' w ∧ VR φ v v' := by
  simp only [ldVarK, obK_good, boolRec_good] at hk
  obtain ⟨g, hg, ⟨rfl, n, hn, hk⟩ | ⟨rfl, hk⟩⟩ := hk
  · obtain ⟨vs, hl, hvl, hk1⟩ := ldLK_good ho hk
    subst hvl
    refine ⟨_, hk1, fun φ p w hO => ?_⟩
    obtain ⟨l, hv, hr, _⟩ := hl.run P hO
    exact ⟨.agg l.toArray, by simp only [loadVar, Sem.run_bind, runAgg hg, Result.andThen_ok, if_true, runS hn, hr, Sem.run_pure], .agg hv⟩
  · obtain ⟨v, hl, hk⟩ := ldK_good ho hk
    refine ⟨_, hk, fun φ p w hO => ?_⟩
    obtain ⟨v', hv, hc⟩ := hl.run1 hO
    exact ⟨v', by simp only [loadVar, Sem.run_bind, runAgg hg, Result.andThen_ok, Bool.false_eq_true, if_false, run_load, hc], hv⟩
theorem loadF_good {H : Bid → AObj} {nx : Bid} (hh : HS h H nx) (he : EnvIs e f) {t : TypeId} {a : Operand} (ho : o.op = .load t a) (hk : loadF t a C e h k = .good) : ∃ v, k v h = .good ∧ ReadS C.P o f H v := by
  simp only [loadF, opdK_good he, asPtrK_good, hh.get] at hk
  obtain ⟨ha, b, i, hv, hk⟩ := hk
  obtain ⟨v, hk, hl⟩ := ldVarK_good (hh.ok b) hk
  refine ⟨v, hk, fun φ w ρ nx hR hρ => ?_⟩
  have := hρ.opd hR ha
  rw [hv] at this
  obtain ⟨p, hp, hy⟩ := this.ptr_inv
  obtain ⟨v', hr, hv'⟩ := hl φ p w (hR.obj _ _ hp)
  exact ⟨v', by simp only [execOp, ho, Instr.loadAt, Instr.sureAddr, hy, Sem.run_bind, Sem.run_pure, Result.andThen_ok, hr], hv'⟩
theorem one_cells {v : Value} (h : v.oneCell' = true) : v.cells = #[v] := by cases v <;> first | rfl | (simp [Value.oneCell'] at h)
theorem StL.one {o o' : AObj} {i : Nat} {vs : List AV} (h : StL o i vs o') : allOne vs = true := by
  cases h with
  | cells _ _ h1 _ _ => exact h1
  | bytes hn hf hb =>
    rw [allOne_iff]
    intro v hv
    obtain ⟨j, hj, rfl⟩ := List.getElem_of_mem hv
    have := hb.2 j hj
    rw [List.getElem?_eq_getElem hj] at this
    simp only [Option.some.injEq] at this
    rw [this]; rfl
theorem stVarK_good {P : Program} {t : TypeId} {v : AV} {o : AObj} {i : Nat} {k : AObj → A} (ho : ObjOk o) (hk : stVarK P t v o i k = .good) :
    ∃ o', k o' = .good ∧ ObjOk o' ∧ ∀ (φ : Phi) (H : Bid → AObj) (nx : Bid) (w : World) (b : Bid) (p : PB) (v' : Value), R φ H nx w → φ b = some p → H b = o → VR φ v v' →
      ∃ w', (storeVar t (p.addr i) v').run P w = .ok () w' ∧ R φ (updB H b o') nx w' ∧ Grows φ H nx w φ (updB H b o') nx w' := by
  simp only [stVarK, obK_good, boolRec_good] at hk
  obtain ⟨g, hg, ⟨rfl, hk⟩ | ⟨rfl, hk⟩⟩ := hk
  · simp only [asAggK_good, obK_good, bbK_good, lenIs_eq, decide_eq_true_eq] at hk
    obtain ⟨cs, rfl, n, hn, rfl, hk⟩ := hk
    obtain ⟨o', hs, hk⟩ := stLK_good ho hk
    refine ⟨o', hk, hs.ok, fun φ H nx w b p v' hR hp hH hv => ?_⟩
    obtain ⟨c, rfl, hc⟩ := hv.agg_inv
    subst hH
    obtain ⟨w', hr, h1, h2⟩ := hs.run P hR hp hc
    refine ⟨w', ?_, h1, h2⟩
    have hl : c.size = cs.length := by rw [hc.length]; simp
    simp only [storeVar, Sem.run_bind, runS hn, Result.andThen_ok, Value.cells, hl, ne_eq, not_true_eq_false, if_false, hr]
  · obtain ⟨o', hs, hk⟩ := stK_good ho hk
    refine ⟨o', hk, hs.ok, fun φ H nx w b p v' hR hp hH hv => ?_⟩
    subst hH
    have h1 := (VRs.cons hv .nil).oneCell hs.one v' (by simp)
    obtain ⟨w', hr, h2, h3⟩ := hs.run P hR hp (.cons hv .nil)
    refine ⟨w', ?_, h2, h3⟩
    have hn := (tCell_some hg).2 rfl
    have hz : (#[v'] : Array Value).size = 1 := rfl
    simp only [storeVar, Sem.run_bind, runS hn, Result.andThen_ok, one_cells h1, hz, ne_eq, not_true_eq_false, if_false, hr]
theorem storeF_good {H : Bid → AObj} {nx : Bid} (hh : HS h H nx) (he : EnvIs e f) {t : TypeId} {a v : Operand} (ho : o.op = .store t a v) (hk : storeF t a v C e h k = .good) :
    ∃ v' h' H', k v' h' = .good ∧ HS h' H' nx ∧ OpS C.P o f H nx v' H' nx := by
  simp only [storeF, opdK_good he, asPtrK_good, hh.get] at hk
  obtain ⟨ha, b, i, hva, hv, hk⟩ := hk
  obtain ⟨o', hk, hok, hs⟩ := stVarK_good (hh.ok b) hk
  obtain ⟨h', hh', e'⟩ := hh.set b hok (fun h => k .undef h)
  rw [e'] at hk
  refine ⟨_, _, _, hk, hh', fun φ w ρ hR hρ => ?_⟩
  have hya := hρ.opd hR ha
  rw [hva] at hya
  obtain ⟨p, hp, hy⟩ := hya.ptr_inv
  obtain ⟨w', hr, h1, h2⟩ := hs φ H nx w b p _ hR hp rfl (hρ.opd hR hv)
  exact ⟨φ, w', .skip, by simp only [execOp, ho, Instr.storeAt, Instr.sureAddr, hy, Sem.run_bind, Sem.run_pure, Result.andThen_ok, hr], ⟨undef, .tuple .nil, .inr ⟨rfl, rfl⟩⟩, h1, h2⟩
theorem tByte_some {P : Program} {t : TypeId} (h : tByte P t = true) : P.underlying t = some (.int .u8) ∧ ∃ i, P.info? t = some i ∧ i.zero = some (.int .u8 0) ∧ i.size = 1 := by
  simp only [tByte] at h
  split at h
  · rename_i hu
    split at h
    · rename_i i hi
      split at h
      · rename_i hz
        simp only [beqB, decide_eq_true_eq] at h
        exact ⟨hu, i, hi, hz, h⟩
      · cases h
    · cases h
  · cases h
/-- A row that is made. -/
def RowOf (ob : AObj) (ty : TypeId) (cs : List AV) : Prop := ObjOk ob ∧ ∀ (φ : Phi) (r : Nat) (l : List Value), VRs φ cs l → OR φ ob ⟨r, 0, l.length⟩ (some (.cells l.toArray ty))
theorem mkRowK_good {P : Program} {ty : TypeId} {cs : List AV} {k : AObj → A} (hk : mkRowK P ty cs k = .good) : ∃ ob, RowOf ob ty cs ∧ k ob = .good := by
  simp only [mkRowK, fN_eq, boolRec_good, bbK_good, llen_eq] at hk
  rcases hk with ⟨hb, hk⟩ | ⟨hb, h1, hk⟩
  · obtain ⟨x, hx, hk⟩ := bytesOfLK_good hk
    refine ⟨.bytes ty cs.length x 0 false, ⟨trivial, fun φ r l hl => ⟨_, (0, 0), rfl, by simp, by simp [hl.length], .inl (.inl rfl), fun i hi => ?_⟩⟩, hk⟩
    obtain ⟨y, hy, hr⟩ := hl.get (hx.2 i hi)
    have := hr.int_inv
    subst this
    simpa using hy
  · obtain ⟨c, hc, hk⟩ := ctofK_good hk
    refine ⟨.cells ty cs.length c .whole, ⟨⟨_, hc⟩, fun φ r l hl => ⟨_, (0, 0), rfl, by simp, by simp [hl.length], fun _ i _ hi => absurd hi (Nat.not_lt_zero i), fun _ => ⟨rfl, by simp [hl.length]⟩, fun g hg i hi => ?_⟩⟩, hk⟩
    rw [hg.uniq hc hi]
    obtain ⟨y, hy, hr⟩ := hl.get (i := i) (x := cs[i]) (List.getElem?_eq_getElem hi)
    refine ⟨y, by simpa using hy, ?_⟩
    have : ofL cs i = cs[i] := by simp [ofL, List.getD_eq_getElem?_getD, hi]
    rw [this]; exact hr
theorem zeroK_good {P : Program} {t : TypeId} {k : List AV → A} (hk : zeroK P t k = .good) :
    ∃ cs, k cs = .good ∧ ∃ z : Value, (∀ w, (zeroValue t).run P w = .ok z w) ∧ ∀ φ, VRs φ cs z.cells.toList := by
  simp only [zeroK, obK_good, cellsK_good] at hk
  obtain ⟨z, hz, hkn, hk⟩ := hk
  obtain ⟨v, rfl, hr⟩ := tZero_some hz
  exact ⟨_, hk, v, hr, fun φ => (ofValue_VR φ v).cells hkn⟩
theorem allocF_good {H : Bid → AObj} {nx : Bid} (hh : HS h H nx) {t : TypeId} (ho : o.op = .alloc t) (hk : allocF t C e h k = .good) :
    ∃ v h' nx' ob, k v h' = .good ∧ nx'.num = nx.num + 1 ∧ HS h' (updB H nx ob) nx' ∧ AllocS C.P o f nx v ob := by
  simp only [allocF] at hk
  obtain ⟨cs, hk, z, hz, hv⟩ := zeroK_good hk
  obtain ⟨ob, hob, hk⟩ := mkRowK_good hk
  obtain ⟨nx', hn, h', hh', hk⟩ := hh.push hob.1 hk
  refine ⟨_, _, _, ob, hk, hn, hh', fun φ w ρ H nx hR hfr hρ => ?_⟩
  refine ⟨.pointer (some ⟨w.heap.size, 0, none⟩), .cells z.cells t, z.cells.size, w.drawn, ?_, ?_, ?_⟩
  · simp only [execOp, ho, Instr.alloc, Sem.run_bind, hz, Result.andThen_ok, newVar, newRow, run_newObj, Sem.run_pure]; rfl
  · exact .ptr (p := ⟨w.heap.size, 0, z.cells.size⟩) 0 (updP_same _ _ _)
  · have := hob.2 (updP φ _ ⟨w.heap.size, 0, z.cells.size⟩) w.heap.size z.cells.toList ((hv φ).mono (updP_le hfr))
    simpa using this
theorem boxF_good {H : Bid → AObj} {nx : Bid} (hh : HS h H nx) (he : EnvIs e f) {t : TypeId} {x : Operand} (ho : o.op = .box t x) (hk : boxF t x C e h k = .good) :
    ∃ v h' nx' ob, k v h' = .good ∧ nx'.num = nx.num + 1 ∧ HS h' (updB H nx ob) nx' ∧ AllocS C.P o f nx v ob := by
  simp only [boxF, opdK_good he, cellsK_good] at hk
  obtain ⟨hx, hkn, hk⟩ := hk
  obtain ⟨ob, hob, hk⟩ := mkRowK_good hk
  obtain ⟨nx', hn, h', hh', hk⟩ := hh.push hob.1 hk
  refine ⟨_, _, _, ob, hk, hn, hh', fun φ w ρ H nx hR hfr hρ => ?_⟩
  refine ⟨.pointer (some ⟨w.heap.size, 0, none⟩), .cells (ρ x).cells t, (ρ x).cells.size, w.drawn, ?_, ?_, ?_⟩
  · simp only [execOp, ho, Instr.box, Sem.run_bind, Result.andThen_ok, newVar, newRow, run_newObj, Sem.run_pure]; rfl
  · exact .ptr (p := ⟨w.heap.size, 0, (ρ x).cells.size⟩) 0 (updP_same _ _ _)
  · have := hob.2 (updP φ _ ⟨w.heap.size, 0, (ρ x).cells.size⟩) w.heap.size (ρ x).cells.toList (((hρ.opd hR hx).cells hkn).mono (updP_le hfr))
    simpa using this
theorem makeMapF_good {H : Bid → AObj} {nx : Bid} (hh : HS h H nx) {t : TypeId} {r : Option Operand} (ho : o.op = .makeMap t r) (hk : makeMapF r C e h k = .good) :
    ∃ v h' nx' ob, k v h' = .good ∧ nx'.num = nx.num + 1 ∧ HS h' (updB H nx ob) nx' ∧ AllocS C.P o f nx v ob := by
  simp only [makeMapF, bbK_good, isNo_eq] at hk
  obtain ⟨hr, hk⟩ := hk
  have hr : r = none := by simpa using hr
  subst hr
  obtain ⟨nx', hn, h', hh', hk⟩ := hh.push (o := .map [] 0) trivial hk
  refine ⟨_, _, _, _, hk, hn, hh', fun φ w ρ H nx hR hfr hρ => ?_⟩
  refine ⟨.map (some w.heap.size), .map #[] 0, 0, w.drawn, ?_, ?_, ?_⟩
  · simp only [execOp, ho, Instr.makeMap, Option.map_none, Sem.run_bind, Result.andThen_ok, run_newObj, Sem.run_pure]; rfl
  · exact .map (p := ⟨w.heap.size, 0, 0⟩) (updP_same _ _ _)
  · exact ⟨rfl, #[], rfl, .nil⟩
end
end Go.Ev
end
