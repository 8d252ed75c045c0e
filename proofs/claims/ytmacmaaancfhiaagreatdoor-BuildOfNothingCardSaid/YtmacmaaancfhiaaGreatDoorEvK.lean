/- Part of the proof: a verified evaluator of the model (its definitions, and that it is sound). -/
import Derived.Test.YtmacmaaancfhiaaGreatDoorEvI
import Derived.Test.YtmacmaaancfhiaaGreatDoorEvJ
section
set_option maxRecDepth 2000
set_option autoImplicit false
set_option linter.unusedSimpArgs false
set_option linter.unusedVariables false
namespace Go.Ev

/-! ### what an operation looks at -/
noncomputable def NV.of (u : D → AV) : NV := fun z => z (u .d0) (u .d1) (u .d2) (u .d3) (u .d4) (u .d5) (u .d6) (u .d7) (u .d8) (u .d9) (u .da) (u .db) (u .dc) (u .dd) (u .de) (u .df)
noncomputable def NVV.of (u : D → NV) : NVV := fun z => z (u .d0) (u .d1) (u .d2) (u .d3) (u .d4) (u .d5) (u .d6) (u .d7) (u .d8) (u .d9) (u .da) (u .db) (u .dc) (u .dd) (u .de) (u .df)
theorem env_of (f : Nat → AV) : ∃ e : Env, EnvIs e f := by
  refine ⟨NVV.of fun a => NV.of fun b => f (a.num * 16 + b.num), fun a => NV.of fun b => f (a.num * 16 + b.num), fun _ => rfl, fun a b => f (a.num * 16 + b.num), fun _ _ => rfl, fun t ht => ?_⟩
  show f t = f ((D.nat (t / 16)).num * 16 + (D.nat (t % 16)).num)
  rw [D.nat_num _ (by omega), D.nat_num _ (by omega)]
  congr 1; omega
theorem egK_fn {e : Env} {f : Nat → AV} (h : EnvIs e f) (t : Nat) (k : AV → A) : egK t e k = bbK (Nat.ble t 255) (k (f t)) := by
  obtain ⟨g, hg, u, hu, hf⟩ := h
  simp only [egK]
  by_cases ht : t ≤ 255
  · rw [NVV.pk_eq _ hg, NV.pk_eq _ (hu _), hf t (by omega)]; rfl
  · have : Nat.ble t 255 = false := by simpa using ht
    rw [this]; rfl
def opTmps (op : Op) : List Nat := op.operands.toList.filterMap fun | .tmp t => some t | _ => none
def loc (l : List Nat) (f : Nat → AV) : Nat → AV := fun t => if t ∈ l then f t else .poison
theorem mem_opTmps {op : Op} {t : Nat} (h : Operand.tmp t ∈ op.operands.toList) : t ∈ opTmps op := by
  simp only [opTmps, List.mem_filterMap]
  exact ⟨_, h, rfl⟩
theorem opdK_congr {e e' : Env} {f f' : Nat → AV} (he : EnvIs e f) (he' : EnvIs e' f') {x : Operand} (hx : ∀ t, x = .tmp t → f t = f' t) : opdK x e = opdK x e' := by
  funext k
  cases x with
  | tmp t =>
    show egK t e k = egK t e' k
    rw [egK_fn he, egK_fn he', hx t rfl]
  | const v => rfl
  | global g => rfl
  | func g => rfl
theorem opdsK_congr {e e' : Env} : ∀ {l : List Operand}, (∀ x ∈ l, opdK x e = opdK x e') → opdsK l e = opdsK l e'
  | [], _ => rfl
  | x :: l, h => by
    funext k
    have e1 : ∀ e, opdsK (x :: l) e k = opdK x e fun v => opdsK l e fun vs => k (v :: vs) := fun _ => rfl
    rw [e1, e1, h x (by simp), opdsK_congr fun y hy => h y (by simp [hy])]
theorem partsK_congr {e e' : Env} {P : Program} {t : TypeId} {zl : Nat} : ∀ {ps : List (Nat × Operand)}, (∀ x ∈ ps, opdK x.2 e = opdK x.2 e') → partsK P t zl ps e = partsK P t zl ps e'
  | [], _ => rfl
  | p :: ps, h => by
    funext cs k
    have e1 : ∀ e, partsK P t zl (p :: ps) e cs k = obK (place P t p.1) fun q => bbK (Nat.ble (Nat.add q.1 q.2) zl) (opdK p.2 e fun v => cellsK v fun vs => bbK (lenIs vs q.2) (partsK P t zl ps e (lput vs q.1 cs) k)) := fun _ => rfl
    rw [e1, e1, h p (by simp), partsK_congr fun y hy => h y (by simp [hy])]
theorem onatK_congr {e e' : Env} {x : Option Operand} (h : ∀ a, x = some a → opdK a e = opdK a e') (z : Nat) : onatK x z e = onatK x z e' := by
  cases x with
  | none => rfl
  | some a =>
    funext k
    show opdK a e (fun v => asNatK v fun _ n => k n) = opdK a e' (fun v => asNatK v fun _ n => k n)
    rw [h a rfl]
theorem execK_congr {op : Op} {C : Cx} {e e' : Env} {h : Heap} {k : AV → Heap → A} {z : A} (hx : ∀ x ∈ op.operands.toList, opdK x e = opdK x e') : execK op C e h k z = execK op C e' h k z := by
  cases op with
  | move a => have := hx a (by simp [Op.operands]); simp only [execK, moveF, this]
  | assign a => have := hx a (by simp [Op.operands]); simp only [execK, moveF, this]
  | pick c a b =>
    have h1 := hx c (by simp [Op.operands]); have h2 := hx a (by simp [Op.operands]); have h3 := hx b (by simp [Op.operands])
    simp only [execK, pickF, h1, h2, h3]
  | alloc t => rfl
  | box t x => have := hx x (by simp [Op.operands]); simp only [execK, boxF, this]
  | build t ps =>
    have := fun zl => partsK_congr (P := C.P) (t := t) (zl := zl) (ps := ps.toList) (e := e) (e' := e') (fun x hx' => hx x.2 (by simp [Op.operands]; exact ⟨x.1, by simpa using hx'⟩))
    simp only [execK, buildF, this]
  | buildSlice t n ps =>
    have := fun zl => partsK_congr (P := C.P) (t := t) (zl := zl) (ps := ps.toList) (e := e) (e' := e') (fun x hx' => hx x.2 (by simp [Op.operands]; exact ⟨x.1, by simpa using hx'⟩))
    simp only [execK, buildSliceF, this]
  | insert t m i v =>
    have h1 := hx m (by simp [Op.operands]); have h2 := hx i (by simp [Op.operands]); have h3 := hx v (by simp [Op.operands])
    simp only [execK, mapUpdateF, h1, h2, h3]
  | load t a => have := hx a (by simp [Op.operands]); simp only [execK, loadF, this]
  | store t a v => have h1 := hx a (by simp [Op.operands]); have h2 := hx v (by simp [Op.operands]); simp only [execK, storeF, h1, h2]
  | nilCheck x => have := hx x (by simp [Op.operands]); simp only [execK, nilCheckF, this]
  | binOp op t x y u => have h1 := hx x (by simp [Op.operands]); have h2 := hx y (by simp [Op.operands]); simp only [execK, binF, h1, h2]
  | unOp op t x => have := hx x (by simp [Op.operands]); simp only [execK, unF, this]
  | convert s d x => have := hx x (by simp [Op.operands]); simp only [execK, convertF, this]
  | makeInterface t x => have := hx x (by simp [Op.operands]); simp only [execK, makeIfaceF, this]
  | makeFunc fn a c =>
    have h1 := opdsK_congr (l := a.toList) (fun x hx' => hx x (by simp [Op.operands]; exact .inl (by simpa using hx')))
    have h2 := opdsK_congr (l := c.toList) (fun x hx' => hx x (by simp [Op.operands]; exact .inr (by simpa using hx')))
    simp only [execK, makeFuncF, h1, h2]
  | makeSlice t l c => have h1 := hx l (by simp [Op.operands]); have h2 := hx c (by simp [Op.operands]); simp only [execK, makeSliceF, h1, h2]
  | slice t x lo hi mx =>
    have h1 := hx x (by simp [Op.operands])
    have h2 := fun z => onatK_congr (x := lo) (e := e) (e' := e') (fun a ha => hx a (by simp [Op.operands, ha])) z
    have h3 := fun z => onatK_congr (x := hi) (e := e) (e' := e') (fun a ha => hx a (by simp [Op.operands, ha])) z
    cases mx with
    | none => simp only [execK, sliceF, h1, h2, h3]
    | some m => have h4 := hx m (by simp [Op.operands]); simp only [execK, sliceF, h1, h2, h3, h4]
  | fieldAddr t x i => have := hx x (by simp [Op.operands]); simp only [execK, fieldAddrF, this]
  | field t x i => have := hx x (by simp [Op.operands]); simp only [execK, fieldF, this]
  | indexAddr t x i => have h1 := hx x (by simp [Op.operands]); have h2 := hx i (by simp [Op.operands]); simp only [execK, indexAddrF, h1, h2]
  | index t x i => have h1 := hx x (by simp [Op.operands]); have h2 := hx i (by simp [Op.operands]); simp only [execK, indexF, h1, h2]
  | lookup t x i ok => have h1 := hx x (by simp [Op.operands]); have h2 := hx i (by simp [Op.operands]); simp only [execK, lookupF, h1, h2]
  | mapUpdate t m i v =>
    have h1 := hx m (by simp [Op.operands]); have h2 := hx i (by simp [Op.operands]); have h3 := hx v (by simp [Op.operands])
    simp only [execK, mapUpdateF, h1, h2, h3]
  | mapEntry t m i => have h1 := hx m (by simp [Op.operands]); have h2 := hx i (by simp [Op.operands]); simp only [execK, mapEntryF, h1, h2]
  | entryStore t m s v =>
    have h1 := hx m (by simp [Op.operands]); have h2 := hx s (by simp [Op.operands]); have h3 := hx v (by simp [Op.operands])
    simp only [execK, entryStoreF, h1, h2, h3]
  | range t x => have := hx x (by simp [Op.operands]); simp only [execK, rangeF, this]
  | next it s => have := hx it (by simp [Op.operands]); simp only [execK, nextF, this]
  | entry it => have := hx it (by simp [Op.operands]); simp only [execK, entryF, this]
  | typeAssert x t u ok => have := hx x (by simp [Op.operands]); simp only [execK, typeAssertF, this]
  | extract t i => have := hx t (by simp [Op.operands]); simp only [execK, extractF, this]
  | call c =>
    have := opdsK_congr (l := c.args.toList) (fun x hx' => hx x (by simp [Op.operands, Call.operands]; exact .inr (by simpa using hx')))
    simp only [execK, this]
  | _ => rfl
/-- An operation by itself, by what it looks at alone. -/
theorem execK_loc {C : Cx} {e : Env} {f : Nat → AV} {h : Heap} {H : Bid → AObj} {nx : Bid} {k : AV → Heap → A} {z : A} {o : Oper} (hh : HS h H nx) (he : EnvIs e f) {l : List Nat} (hl : ∀ t ∈ opTmps o.op, t ∈ l) (hk : execK o.op C e h k z = .good) :
    (∃ v h' H' nx', k v h' = .good ∧ HS h' H' nx' ∧ Cls C.P o (loc l f) H nx v H' nx') ∨ (z = .good ∧ ((∃ c, o.op = .call c ∧ ∀ b, c.callee = .builtin b → b = .recover) ∨ ∃ c, o.op = .defer c)) := by
  obtain ⟨e', he'⟩ := env_of (loc l f)
  rw [execK_congr (e' := e') fun x hx => opdK_congr he he' fun t ht => by
    have : t ∈ l := hl t (mem_opTmps (ht ▸ hx))
    simp [loc, this]] at hk
  exact execK_good hh he' hk
end Go.Ev
end

section
set_option maxRecDepth 2000
set_option autoImplicit false
set_option linter.unusedSimpArgs false
set_option linter.unusedVariables false
namespace Go.Ev

/-! ### calls -/
/-- What a call of function f comes to. -/
def CallS (P : Program) (dk : Bool) (f : FuncId) (args : List AV) (H : Bid → AObj) (nx : Bid) (v : AV) (H' : Bid → AObj) (nx' : Bid) : Prop :=
  ∀ (φ : Phi) (w : World) (args' : Array Value) (c : Frame) (cs : List Frame), R φ H nx w → VRs φ args args'.toList → (dk = true → c.mode = .returning) →
    ∃ φ' w' v', VR φ' v v' ∧ R φ' H' nx' w' ∧ Grows φ H nx w φ' H' nx' w' ∧ Steps P (lone (Frame.enter P f args' (if dk then .deferred else .normal)) (c :: cs) w) (lone (if dk then c else c.finish v') cs w')
def HasBody (P : Program) (f : FuncId) : Prop := ∃ fn, P.funcs[f]? = some fn ∧ fn.body.isSome = true
def CallOk (P : Program) (call : CallM) : Prop := ∀ (dk : Bool) (f : FuncId) (args : List AV) (h : Heap) (H : Bid → AObj) (nx : Bid) (k : AV → Heap → A), HS h H nx → call dk f args h k = .good →
  ∃ v h' H' nx', k v h' = .good ∧ HS h' H' nx' ∧ CallS P dk f args H nx v H' nx' ∧ HasBody P f
/-- What a round of a loop comes to. -/
def RndS (P : Program) (b : Bid) (args : List AV) (H : Bid → AObj) (nx : Bid) (v : AV) (H' : Bid → AObj) (nx' : Bid) : Prop :=
  ∀ (φ : Phi) (w : World) (p : PB) (args' : Array Value) (c : Frame) (cs : List Frame), R φ H nx w → φ b = some p → VRs φ args args'.toList →
    ∃ fn tmps as bd, (Instr.yield p.blk args').run P w = .ok (.round p.blk fn tmps as bd) w ∧ ∃ φ' w' v', VR φ' v v' ∧ R φ' H' nx' w' ∧ Grows φ H nx w φ' H' nx' w' ∧
      Steps P (lone (Frame.round p.blk fn tmps as bd .normal) (c :: cs) w) (lone (c.finish v') cs w')
def RndOk (P : Program) (rnd : RndM) : Prop := ∀ (b : Bid) (args : List AV) (h : Heap) (H : Bid → AObj) (nx : Bid) (k : AV → Heap → A), HS h H nx → rnd b args h k = .good →
  ∃ v h' H' nx', k v h' = .good ∧ HS h' H' nx' ∧ RndS P b args H nx v H' nx'
/-- What must be true of the program and the list of special functions. -/
structure COk (C : Cx) : Prop where
  mix : C.P.follows .mixedOrders = true
  name : ∀ (f : FuncId) (fn : Func), C.P.funcs[f]? = some fn → (fn.name == "runtime.NumGoroutine") = false
  ext : ∀ (f : FuncId) (q : Ext), C.special f = some (.ext q) → ∃ fn e, C.P.funcs[f]? = some fn ∧ fn.body = none ∧ Extern.findNext fn = none ∧ Extern.find fn = some e ∧ ExtIs C.P q e
structure XOk (C : Cx) (x : X) : Prop where
  small : x.nt ≤ 256
  call : CallOk C.P x.call
  rnd : RndOk C.P x.rnd
/-- Where a call that has been resolved comes to, with the frame c that has called. -/
def Lands (P : Program) (c : Frame) (cs : List Frame) (r : Result Next) (v' : Value) (w' : World) : Prop :=
  (r = .ok (.value v') w' ∨ (r = .ok .skip w' ∧ v' = undef)) ∨ (∃ f args w₁, r = .ok (.enter f args) w₁ ∧ Steps P (lone (Frame.enter P f args .normal) (c :: cs) w₁) (lone (c.finish v') cs w')) ∨
    (∃ l fn tmps as bd w₁, r = .ok (.round l fn tmps as bd) w₁ ∧ Steps P (lone (Frame.round l fn tmps as bd .normal) (c :: cs) w₁) (lone (c.finish v') cs w'))
def EnterS (P : Program) (s : Array Value → Sem Next) (args : List AV) (H : Bid → AObj) (nx : Bid) (v : AV) (H' : Bid → AObj) (nx' : Bid) : Prop :=
  ∀ (φ : Phi) (w : World) (args' : Array Value) (c : Frame) (cs : List Frame), R φ H nx w → VRs φ args args'.toList →
    ∃ φ' w' v', VR φ' v v' ∧ R φ' H' nx' w' ∧ Grows φ H nx w φ' H' nx' w' ∧ Lands P c cs ((s args').run P w) v' w'
section
variable {C : Cx} {x : X} {h : Heap} {H : Bid → AObj} {nx : Bid} {k : AV → Heap → A}
theorem callFunc_body {f : FuncId} {args : Array Value} {w : World} (hC : COk C) (hb : HasBody C.P f) : (callFunc f args).run C.P w = .ok (.enter f args) w := by
  obtain ⟨fn, hf, hb⟩ := hb
  have hn := hC.name f fn hf
  have hb' : fn.body.isNone = false := by cases h : fn.body <;> simp [h] at hb ⊢
  simp only [callFunc, Sem.run_bind, run_program, Result.andThen_ok, hf, hn, Bool.false_eq_true, if_false, hb', Sem.run_pure]
theorem CallS.enter (hC : COk C) {f : FuncId} {args : List AV} {v : AV} {H' : Bid → AObj} {nx' : Bid} (h : CallS C.P false f args H nx v H' nx') (hb : HasBody C.P f) : EnterS C.P (callFunc f) args H nx v H' nx' := by
  intro φ w args' c cs hR hv
  obtain ⟨φ', w', v', h1, h2, h3, h4⟩ := h φ w args' c cs hR hv (by simp)
  exact ⟨φ', w', v', h1, h2, h3, .inr (.inl ⟨f, args', w, callFunc_body hC hb, h4⟩)⟩
theorem enterExt_good (hC : COk C) {f : FuncId} {q : Ext} (hs : C.special f = some (.ext q)) (hh : HS h H nx) {args : List AV} (hk : runExt q args h k = .good) :
    ∃ v h' H' nx', k v h' = .good ∧ HS h' H' nx' ∧ (∀ (φ : Phi) (w : World) (args' : Array Value), R φ H nx w → VRs φ args args'.toList → ∃ φ' w' v', VR φ' v v' ∧ R φ' H' nx' w' ∧ Grows φ H nx w φ' H' nx' w' ∧ (callFunc f args').run C.P w = .ok (.value v') w') := by
  obtain ⟨fn, e, hf, hb, h1, h2, h3⟩ := hC.ext f q hs
  obtain ⟨v, h', H', nx', hk, hh', hx⟩ := runExt_good hh h3 hk
  refine ⟨v, h', H', nx', hk, hh', fun φ w args' hR hv => ?_⟩
  obtain ⟨φ', w', v', g1, g2, g3, g4⟩ := hx φ w args' hR hv
  refine ⟨φ', w', v', g2, g3, g4, ?_⟩
  have hn := hC.name f fn hf
  simp only [callFunc, Sem.run_bind, run_program, Result.andThen_ok, hf, hn, Bool.false_eq_true, if_false, hb, Option.isNone_none, if_true, run_mark, h1, h2, g1, Sem.run_pure]
end
end Go.Ev
end

section
set_option maxRecDepth 2000
set_option autoImplicit false
set_option linter.unusedSimpArgs false
set_option linter.unusedVariables false
namespace Go.Ev

/-! ### a call whose way hangs on a capacity -/
theorem blt_iff (a b : Nat) : Nat.blt a b = true ↔ a < b := by simp [Nat.blt_eq]
mutual
theorem sameV_eq {nx : Nat} : ∀ {v w : AV}, sameV nx v w = true → v = w
  | .bool a, w, h => by cases w <;> simp_all [sameV]
  | .int j a, w, h => by cases w <;> simp_all [sameV]
  | .neg j a, w, h => by cases w <;> simp_all [sameV]
  | .str l a, w, h => by cases w <;> simp_all [sameV]
  | .nilp, w, h => by cases w <;> simp_all [sameV]
  | .ptr b i, w, h => by cases w <;> simp_all [sameV, bidEq_eq]
  | .nils, w, h => by cases w <;> simp_all [sameV]
  | .slice _ _ _ _ _ _, w, h => by cases w <;> simp_all [sameV, bidEq_eq]
  | .nilm, w, h => by cases w <;> simp_all [sameV]
  | .map _, w, h => by cases w <;> simp_all [sameV, bidEq_eq]
  | .nilf, w, h => by cases w <;> simp_all [sameV]
  | .func fn a c, w, h => by
    cases w <;> first | (cases fn <;> simp [sameV] at h; done) | skip
    rename_i fn' a' c'
    cases fn <;> cases fn' <;> first | (simp [sameV] at h; done) | skip
    simp only [sameV, Bool.and_eq_true, beq_iff_eq] at h
    rw [h.1.1, sameVs_eq h.1.2, sameVs_eq h.2]
  | .nili, w, h => by cases w <;> simp_all [sameV]
  | .iface t v, w, h => by
    cases w <;> first | (simp [sameV] at h; done) | skip
    simp only [sameV, Bool.and_eq_true, beq_iff_eq] at h
    rw [h.1, sameV_eq h.2]
  | .agg xs, w, h => by
    cases w <;> first | (simp [sameV] at h; done) | skip
    simp only [sameV] at h
    rw [sameVs_eq h]
  | .tuple xs, w, h => by
    cases w <;> first | (simp [sameV] at h; done) | skip
    simp only [sameV] at h
    rw [sameVs_eq h]
  | .poison, w, h => by cases w <;> simp [sameV] at h
  | .cap _ _, w, h => by cases w <;> simp [sameV] at h
theorem sameVs_eq {nx : Nat} : ∀ {v w : List AV}, sameVs nx v w = true → v = w
  | [], w, h => by cases w <;> simp_all [sameVs]
  | x :: xs, w, h => by
    cases w with
    | nil => simp [sameVs] at h
    | cons y ys =>
      simp only [sameVs, Bool.and_eq_true] at h
      rw [sameV_eq h.1, sameVs_eq h.2]
end
mutual
/-- A value that names old blocks alone. -/
theorem VR.back {φ φ' : Phi} {nx : Nat} (hold : ∀ b p, φ' b = some p → b.num < nx → φ b = some p) : ∀ (v w : AV) (v' : Value), sameV nx v w = true → VR φ' v v' → VR φ v v'
  | .bool _, _, _, _, h => by cases h; constructor
  | .int _ _, _, _, _, h => by cases h; constructor
  | .neg _ _, _, _, _, h => by cases h; constructor
  | .str _ _, _, _, _, h => by cases h; constructor; assumption
  | .nilp, _, _, _, h => by cases h; constructor
  | .ptr _ _, w, _, hs, h => by cases h with | ptr _ h => exact .ptr _ (hold _ _ h (by cases w <;> simp [sameV] at hs; exact (blt_iff _ _).1 (by simpa using hs.2)))
  | .nils, _, _, _, h => by cases h; constructor
  | .slice _ _ _ _ _ _, w, _, hs, h => by cases h with | slice _ _ _ _ _ _ h hn hlo hhi ha => exact .slice _ _ _ _ _ _ (hold _ _ h (by cases w <;> simp [sameV] at hs; exact (blt_iff _ _).1 (by simpa using hs.2))) hn hlo hhi ha
  | .nilm, _, _, _, h => by cases h; constructor
  | .map _, w, _, hs, h => by cases h with | map h => exact .map (hold _ _ h (by cases w <;> simp [sameV] at hs; exact (blt_iff _ _).1 (by simpa using hs.2)))
  | .nilf, _, _, _, h => by cases h; constructor
  | .func fn a c, w, _, hs, h => by
    cases h with
    | func hf ha hc =>
    cases w <;> first | (cases fn <;> simp [sameV] at hs; done) | skip
    rename_i fn' a' c'
    cases fn <;> cases fn' <;> first | (simp [sameV] at hs; done) | skip
    simp only [sameV, Bool.and_eq_true, beq_iff_eq] at hs
    cases hf
    exact .func (.func _) (VRs.back hold _ _ _ hs.1.2 ha) (VRs.back hold _ _ _ hs.2 hc)
  | .nili, _, _, _, h => by cases h; constructor
  | .iface t v, w, _, hs, h => by
    cases h with
    | iface _ h =>
    cases w <;> first | (simp [sameV] at hs; done) | skip
    simp only [sameV, Bool.and_eq_true, beq_iff_eq] at hs
    exact .iface t (VR.back hold _ _ _ hs.2 h)
  | .agg xs, w, _, hs, h => by
    cases h with
    | agg h =>
    cases w <;> first | (simp [sameV] at hs; done) | skip
    simp only [sameV] at hs
    exact .agg (VRs.back hold _ _ _ hs h)
  | .tuple xs, w, _, hs, h => by
    cases h with
    | tuple h =>
    cases w <;> first | (simp [sameV] at hs; done) | skip
    simp only [sameV] at hs
    exact .tuple (VRs.back hold _ _ _ hs h)
  | .poison, w, _, hs, _ => by cases w <;> simp [sameV] at hs
  | .cap _ _, w, _, hs, _ => by cases w <;> simp [sameV] at hs
theorem VRs.back {φ φ' : Phi} {nx : Nat} (hold : ∀ b p, φ' b = some p → b.num < nx → φ b = some p) : ∀ (v w : List AV) (v' : List Value), sameVs nx v w = true → VRs φ' v v' → VRs φ v v'
  | [], _, _, _, h => by cases h; exact .nil
  | x :: xs, w, _, hs, h => by
    cases h with
    | cons h h' =>
    cases w with
    | nil => simp [sameVs] at hs
    | cons y ys =>
      simp only [sameVs, Bool.and_eq_true] at hs
      exact .cons (VR.back hold _ _ _ hs.1 h) (VRs.back hold _ _ _ hs.2 h')
end
theorem cellsOk_own {o : AObj} (h : cellsOk o = true) : o.own = true := by
  cases o <;> first | (simp [cellsOk] at h; done) | skip
  rename_i kd
  cases kd <;> first | (simp [cellsOk, kdOk] at h; done) | rfl
theorem own_some {o : AObj} (h : o.own = true) : o.isNone = false := by cases o <;> simp_all [AObj.own, AObj.isNone]
theorem later_le (a b : Bid) : a.num ≤ (later a b).num ∧ b.num ≤ (later a b).num := by
  simp only [later]
  cases h : Nat.ble a.num b.num
  · have : ¬ a.num ≤ b.num := by simpa using h
    exact ⟨Nat.le_refl _, by show b.num ≤ a.num; omega⟩
  · have : a.num ≤ b.num := by simpa using h
    exact ⟨this, Nat.le_refl _⟩
theorem fork_OR {φ φ' : Phi} {o : AObj} {p : PB} {c₀ : Option Obj} {el o1 m : Nat} {c1 : List AV} {t : CT} (hO : OR φ' o p c₀) (hty : tyIs o el = true) (hok : cellsOk o = true) (hld : LdL o o1 c1) (hc : c1.length = m)
    (hv : ∀ l, VRs φ' c1 l → VRs φ c1 l) (ht : CTIs t m (ofL c1)) : OR φ (.cells el m t .plain) ⟨p.blk, p.sh + o1, p.cs⟩ c₀ := by
  obtain ⟨cc, e, fr, h1, h2, h3, h4⟩ := hld.sound hO
  replace h4 := hv _ h4
  cases o <;> first | (simp [cellsOk] at hok; done) | skip
  rename_i ty n t0 kd
  obtain ⟨cc', fr', g1, g2, g3, g4, g5, g6⟩ := hO
  have hr : kd.isRead = false := by cases kd <;> simp_all [cellsOk, kdOk, Kd.isRead]
  have he : ty = el := by simpa [tyIs] using hty
  rw [g1] at h1; cases h1
  subst he
  refine ⟨cc, fr, g1, g2, by show p.sh + o1 + m ≤ p.cs; omega, fun _ => g4 hr, (by intro h; cases h), fun f hf i hi => ?_⟩
  have e1 : f i = c1[i]'(by omega) := by
    rw [hf.uniq ht hi]; simp [ofL, List.getD_eq_getElem?_getD, show i < c1.length by omega]
  obtain ⟨y, hy, hr⟩ := h4.get (i := i) (x := c1[i]'(by omega)) (List.getElem?_eq_getElem _)
  rw [rowCut_get, if_pos (by omega)] at hy
  exact ⟨y, by show cc[p.sh + o1 + i]? = _; rw [← hy]; congr 1; omega, e1 ▸ hr⟩
theorem fork_fin {el z l o1 lo hi : Nat} {φ φ' : Phi} {H Hx H' : Bid → AObj} {nx nx' nxf nxg : Bid} {w w' : World} {b vb b1 : Bid} {v' : Value} {c1 c2 : List AV} {t : CT} (hR : R φ H nx w) (hR' : R φ' H' nx' w') (hG : Grows φ Hx nx w φ' H' nx' w')
    (hx : ∀ c, (Hx c).own = true → (H c).own = true ∧ (c = b ∨ c = vb)) (hb : φ b ≠ none) (hvb : φ vb ≠ none) (hv : VR φ' (.slice b1 o1 l lo hi z) v') (hl : 0 < l) (hty : tyIs (H' b1) el = true) (hok : cellsOk (H' b1) = true)
    (hld : LdL (H' b1) o1 c1) (hc : c1.length = l * z) (hs : sameVs nx.num c1 c2 = true) (ht : CTIs t (l * z) (ofL c1)) (hnx : nx.num ≤ nxf.num) (hg : nxg.num = nxf.num + 1) :
    ∃ φf, VR φf (.slice nxf 0 l l 0 z) v' ∧ R φf (updB (updB (updB H vb .none) b .none) nxf (.cells el (l * z) t .plain)) nxg w' ∧
      Grows φ H nx w φf (updB (updB (updB H vb .none) b .none) nxf (.cells el (l * z) t .plain)) nxg w' := by
  obtain ⟨p1, a, c, hp1, rfl, hnc, hlo, hhi, ha⟩ := hv.slice_inv
  have hfree : φ nxf = none := by
    cases h : φ nxf with
    | none => rfl
    | some p => have := hR.below _ _ h; omega
  have hold : ∀ c p, φ' c = some p → c.num < nx.num → φ c = some p := by
    intro c p h hn
    cases h0 : φ c with
    | none => rw [(hG.unmapped c h0 hn).1] at h; cases h
    | some p0 => rw [hG.le _ _ h0] at h; exact h
  have hne : ∀ c p, φ c = some p → c ≠ nxf := fun c p h e => by rw [e, hfree] at h; cases h
  have own1 := cellsOk_own hok
  -- who has what b1 has
  have key : ∀ c p, φ c = some p → (H c).isNone = false → c ≠ b → c ≠ vb → p.blk ≠ p1.blk := by
    intro c p h hn h1 h2 e
    obtain ⟨b₀, p₀, k1, k2, k3⟩ := hG.owned b1 p1 hp1 own1 (e ▸ hR.inside _ _ h hn)
    obtain ⟨k4, k5⟩ := hx b₀ k2
    have : c = b₀ := hR.inj _ _ _ _ h k1 hn (own_some k4) (e.trans k3.symm)
    subst this
    rcases k5 with rfl | rfl
    · exact h1 rfl
    · exact h2 rfl
  have hH : ∀ c, c ≠ nxf → (updB (updB (updB H vb .none) b .none) nxf (.cells el (l * z) t .plain)) c = if c = b ∨ c = vb then .none else H c := by
    intro c hc
    rw [updB_other _ _ hc]
    by_cases h1 : c = b
    · subst h1; simp [updB_same]
    · rw [updB_other _ _ h1]
      by_cases h2 : c = vb
      · subst h2; simp [updB_same]
      · rw [updB_other _ _ h2]; simp [h1, h2]
  refine ⟨updP φ nxf ⟨p1.blk, p1.sh + o1, p1.cs⟩, ?_, ⟨?_, ?_, ?_, ?_, ?_⟩, ⟨updP_le hfree, ?_, by omega, hG.size, ?_, ?_, hG.os, hG.tape, hG.output⟩⟩
  · rcases ha with h0 | ⟨rfl, h1⟩
    · omega
    · refine .slice _ _ _ _ _ _ (updP_same _ _ _) hnc hnc (.inl rfl) (.inr ⟨?_, ?_⟩)
      · simp only [PB.addr]; congr 1; omega
      · show 0 + (p1.sh + o1) + c * z ≤ p1.cs; omega
  · intro c p h
    by_cases hc : c = nxf
    · subst hc
      rw [updP_same] at h; cases h
      rw [updB_same]
      exact fork_OR (hR'.obj _ _ hp1) hty hok hld (by assumption) (fun l h => (VRs.back hold _ _ _ hs h).mono (updP_le hfree)) ht
    · rw [updP_other _ _ hc] at h
      rw [hH c hc]
      split
      · trivial
      · rename_i hn
        cases hN : (H c).isNone with
        | true =>
          have : H c = .none := by
            cases hh : H c <;> first | rfl | (rw [hh] at hN; cases hN)
          rw [this]; trivial
        | false =>
          rw [hG.frame p.blk (hR.inside _ _ h hN) fun b' p' h' ho e => ?_]
          · exact (hR.obj _ _ h).mono (updP_le hfree)
          · obtain ⟨k4, k5⟩ := hx b' ho
            have := hR.inj _ _ _ _ h' h (own_some k4) hN e
            subst this
            exact hn k5
  · intro c c' p p' h h' hN hN' e
    by_cases hc : c = nxf
    · by_cases hc' : c' = nxf
      · rw [hc, hc']
      · rw [hc, updP_same] at h; cases h
        rw [updP_other _ _ hc'] at h'
        rw [hH _ hc'] at hN'
        split at hN'
        · cases hN'
        · rename_i hn
          exact absurd e.symm (key _ _ h' hN' (fun h => hn (.inl h)) fun h => hn (.inr h))
    · rw [updP_other _ _ hc] at h
      rw [hH _ hc] at hN
      split at hN
      · cases hN
      · rename_i hn
        by_cases hc' : c' = nxf
        · rw [hc', updP_same] at h'; cases h'
          exact absurd e (key _ _ h hN (fun h => hn (.inl h)) fun h => hn (.inr h))
        · rw [updP_other _ _ hc'] at h'
          rw [hH _ hc'] at hN'
          split at hN'
          · cases hN'
          · exact hR.inj _ _ _ _ h h' hN hN' e
  · intro c p h
    by_cases hc : c = nxf
    · subst hc; omega
    · rw [updP_other _ _ hc] at h
      have := hR.below _ _ h; omega
  · intro c p h hN
    by_cases hc : c = nxf
    · subst hc
      rw [updP_same] at h; cases h
      exact hR'.inside b1 p1 hp1 (own_some own1)
    · rw [updP_other _ _ hc] at h
      rw [hH _ hc] at hN
      split at hN
      · cases hN
      · exact Nat.lt_of_lt_of_le (hR.inside _ _ h hN) hG.size
  · intro g hg
    obtain ⟨p, h, h'⟩ := hR.glob g hg
    exact ⟨p, updP_le hfree _ _ h, h'⟩
  · intro c h hn
    have hc : c ≠ nxf := fun e => by subst e; omega
    refine ⟨by rw [updP_other _ _ hc]; exact h, ?_⟩
    rw [hH _ hc, if_neg]
    rintro (rfl | rfl)
    · exact hb h
    · exact hvb h
  · intro c hc hf
    exact hG.frame c hc fun b' p' h' ho => hf b' p' h' (hx b' ho).1
  · intro c p h ho hlt
    by_cases hc : c = nxf
    · subst hc
      rw [updP_same] at h; cases h
      obtain ⟨b₀, p₀, k1, k2, k3⟩ := hG.owned b1 p1 hp1 own1 hlt
      exact ⟨b₀, p₀, k1, (hx b₀ k2).1, k3⟩
    · rw [updP_other _ _ hc] at h
      rw [hH _ hc] at ho
      split at ho
      · cases ho
      · exact ⟨c, p, h, ho, rfl⟩
/-- What is known of more cells than those that are known: nothing. -/
inductive MoreO : AObj → Nat → Nat → AObj → Prop
  | mk {ty q m n : Nat} {t t' : CT} {kd : Kd} {f : Nat → AV} (h : CTIs t q f) (hm : m ≤ q) (h' : CTIs t' (m + n) (ofL (cut f 0 m ++ List.replicate n .poison))) : MoreO (.cells ty q t kd) m n (.cells ty (m + n) t' .plain)
theorem moreCellsK_good {o : AObj} {m n : Nat} {k : AObj → A} (ho : ObjOk o) (h : moreCellsK o m n k = .good) : ∃ o', MoreO o m n o' ∧ k o' = .good := by
  cases o <;> first | exact absurd h no_good | skip
  rename_i ty q t kd
  obtain ⟨vs, hl, hn, h⟩ := ldLK_good ho (show ldLK _ m 0 _ = .good from h)
  obtain ⟨t', ht', h2⟩ := ctofK_good h
  simp only [fN_eq] at h2
  rw [app_eq] at ht'
  cases hl with
  | @cells _ _ _ _ f _ j hf hq =>
    rw [cut_length] at hn; subst hn
    refine ⟨_, .mk hf (by omega) ?_, h2⟩
    simpa [cut_length] using ht'
theorem MoreO.ok {o o' : AObj} {m n : Nat} (h : MoreO o m n o') : ObjOk o' := by
  cases h with | mk _ _ h' => exact ⟨_, h'⟩
theorem MoreO.sound {φ : Phi} {o o' : AObj} {m n : Nat} {p : PB} {c₀ : Option Obj} (h : MoreO o m n o') (hO : OR φ o p c₀) (hok : cellsOk o = true) (hc : p.sh + (m + n) ≤ p.cs) : OR φ o' p c₀ := by
  cases h with
  | @mk ty q _ _ t t' kd f hf hm h' =>
    obtain ⟨cc, fr, g1, g2, g3, g4, g5, g6⟩ := hO
    have hr : kd.isRead = false := by cases kd <;> simp_all [cellsOk, kdOk, Kd.isRead]
    refine ⟨cc, fr, g1, g2, hc, fun _ => g4 hr, (by intro h; cases h), fun g hg i hi => ?_⟩
    rw [hg.uniq h' hi]
    by_cases him : i < m
    · obtain ⟨v, hv, hr⟩ := g6 f hf i (by omega)
      refine ⟨v, hv, ?_⟩
      have : ofL (cut f 0 m ++ List.replicate n .poison) i = f i := by
        simp only [ofL, List.getD_eq_getElem?_getD]
        rw [List.getElem?_append_left (by rw [cut_length]; exact him), cut_get _ _ _ _ him]
        simp
      rw [this]; exact hr
    · have : ofL (cut f 0 m ++ List.replicate n .poison) i = .poison := by
        simp only [ofL, List.getD_eq_getElem?_getD]
        rw [List.getElem?_append_right (by rw [cut_length]; omega), List.getElem?_replicate]
        split <;> rfl
      rw [this]
      exact ⟨cc[p.sh + i]'(by omega), by simp [show p.sh + i < cc.size by omega], .poison _⟩
theorem R.keep {φ : Phi} {H Hx : Bid → AObj} {nx : Bid} {w : World} (hR : R φ H nx w) (hx : ∀ c p, φ c = some p → Hx c = .none ∨ (OR φ (Hx c) p w.heap[p.blk]? ∧ (H c).isNone = false)) : R φ Hx nx w where
  obj c p h := by
    rcases hx c p h with e | ⟨e, _⟩
    · rw [e]; trivial
    · exact e
  inj c c' p p' h h' hN hN' e := by
    rcases hx c p h with e1 | ⟨_, e1⟩
    · rw [e1] at hN; cases hN
    rcases hx c' p' h' with e2 | ⟨_, e2⟩
    · rw [e2] at hN'; cases hN'
    exact hR.inj _ _ _ _ h h' e1 e2 e
  below := hR.below
  inside c p h hN := by
    rcases hx c p h with e1 | ⟨_, e1⟩
    · rw [e1] at hN; cases hN
    · exact hR.inside _ _ h e1
  glob := hR.glob
theorem HS.setG {h : Heap} {H : Bid → AObj} {nx b : Bid} (hh : HS h H nx) {o : AObj} (ho : ObjOk o) {k : Heap → A} (hk : hsK b o h k = .good) : ∃ h', HS h' (updB H b o) nx ∧ k h' = .good := by
  obtain ⟨h', hi, e⟩ := hh.set b ho k
  exact ⟨h', hi, e ▸ hk⟩
theorem HS.nextG {h : Heap} {H : Bid → AObj} {nx n : Bid} (hh : HS h H nx) {k : Heap → A} (hk : withNext h n k = .good) : ∃ h', HS h' H n ∧ k h' = .good := by
  obtain ⟨h', hi, e⟩ := withNext_eq (n := n) hh.is k
  exact ⟨h', ⟨hi, hh.ok⟩, e ▸ hk⟩
section
variable {C : Cx} {h : Heap} {H : Bid → AObj} {nx : Bid} {k : AV → Heap → A}
theorem forkIn_good {call : CallM} (hC : CallOk C.P call) (hh : HS h H nx) {f : FuncId} {b vb : Bid} {off n lo z vo vn vl vh vz : Nat} {i : AV} (hlo : lo < n + vn)
    (hk : forkIn C call f b off n lo z i (.slice vb vo vn vl vh vz) vb vn h k = .good) : ∃ v h' H' nx', k v h' = .good ∧ HS h' H' nx' ∧ CallS C.P false f [.slice b off n lo 0 z, i, .slice vb vo vn vl vh vz] H nx v H' nx' ∧ HasBody C.P f := by
  simp only [forkIn, obK_good] at hk
  obtain ⟨fn, hfn, pt, hpt, el, hel, hk⟩ := hk
  rw [hh.get, hh.get, hNext_eq hh.is] at hk
  simp only [bbK_good, andB_eq, notB_eq, bidEq_eq, beqB, Bool.and_eq_true, Bool.not_eq_true', decide_eq_false_iff_not] at hk
  obtain ⟨⟨⟨hok, hty⟩, hne, hz⟩, hk⟩ := hk
  obtain ⟨o2, ho2, hk2⟩ := moreCellsK_good (hh.ok b) hk
  clear hk
  have hE : HS Heap.empty (fun _ => .none) (.mk .d0 .d1 .d0 .d0) := ⟨.empty, fun _ => trivial⟩
  obtain ⟨h0, hh0, hk3⟩ := hE.setG (hh.ok vb) hk2
  obtain ⟨h1, hh1, hk4⟩ := hh0.setG (hh.ok b) hk3
  obtain ⟨h1', hh1', hk5⟩ := hh1.nextG hk4
  obtain ⟨h2, hh2, hk6⟩ := hh0.setG ho2.ok hk5
  obtain ⟨h2', hh2', hk7⟩ := hh2.nextG hk6
  clear hk2 hk3 hk4 hk5 hk6
  obtain ⟨r1, g1, H1, x1, hk8, hg1, c1, hb1⟩ := hC false f _ _ _ _ _ hh1' hk7
  obtain ⟨r2, g2, H2, x2, hk9, hg2, c2, hb2⟩ := hC false f _ _ _ _ _ hh2' hk8
  clear hk7 hk8
  simp only [asSlK_good, no_good, and_false, false_or] at hk9
  obtain ⟨b1, o1, n1, l1, u1, z1, rfl, b2, o2', n2, l2, u2, z2, rfl, hk⟩ := hk9
  rw [hg1.get, hg2.get, hNext_eq hg1.is, hNext_eq hg2.is] at hk
  simp only [bbK_good, andB_eq, bidEq_eq, beqB, bleB, Bool.and_eq_true, decide_eq_true_eq] at hk
  obtain ⟨⟨⟨⟨rfl, rfl⟩, rfl, rfl⟩, ⟨rfl, t1, t2⟩, ⟨k1, k2⟩, hb1n⟩, hk⟩ := hk
  obtain ⟨cs1, hl1, hn1, hk10⟩ := ldLK_good (hg1.ok _) hk
  clear hk
  obtain ⟨cs2, hl2, hn2, hk11⟩ := ldLK_good (hg2.ok _) hk10
  clear hk10
  simp only [bbK_good] at hk11
  obtain ⟨hs, hk12⟩ := hk11
  have hcs := sameVs_eq hs
  subst hcs
  obtain ⟨t, ht, hk⟩ := ctofK_good hk12
  clear hk12
  simp only [fN_eq] at hk
  rw [hn1] at ht
  obtain ⟨q1, hq1, hk1⟩ := hh.setG (o := .none) trivial hk
  obtain ⟨q2, hq2, hk2⟩ := hq1.setG (o := .none) trivial hk1
  obtain ⟨q3, hq3, hk3⟩ := hq2.nextG hk2
  obtain ⟨nxg, hng, q4, hq4, hk4⟩ := hq3.push (o := .cells el _ t .plain) ⟨_, ht⟩ hk3
  clear hk hk1 hk2 hk3
  refine ⟨_, q4, _, nxg, hk4, hq4, ?_, hb1⟩
  have hN0 : ∀ c, c ≠ b2 → c ≠ vb → updB (updB (fun _ => AObj.none) vb (H vb)) b2 (H b2) c = .none := fun c h1 h2 => by rw [updB_other _ _ h1, updB_other _ _ h2]
  have hN1 : updB (updB (fun _ => AObj.none) vb (H vb)) b2 (H b2) b2 = H b2 := updB_same _ _ _
  have hN2 : updB (updB (fun _ => AObj.none) vb (H vb)) b2 (H b2) vb = H vb := by
    rw [updB_other _ _ (fun h => hne h.symm), updB_same]
  have hM0 : ∀ c, c ≠ b2 → c ≠ vb → updB (updB (fun _ => AObj.none) vb (H vb)) b2 o2 c = .none := fun c h1 h2 => by rw [updB_other _ _ h1, updB_other _ _ h2]
  have hM1 : updB (updB (fun _ => AObj.none) vb (H vb)) b2 o2 b2 = o2 := updB_same _ _ _
  have hM2 : updB (updB (fun _ => AObj.none) vb (H vb)) b2 o2 vb = H vb := by
    rw [updB_other _ _ (fun h => hne h.symm), updB_same]
  have hl : 0 < n + vn := by omega
  have own2 := cellsOk_own hok
  intro φ w args' c cs hR hv _
  cases hv' : args'.toList with
  | nil => rw [hv'] at hv; cases hv
  | cons s' rest =>
  rw [hv'] at hv
  cases hv with
  | cons hs1 hrest =>
  obtain ⟨p, a, cp, hp, rfl, hnc, hlo', hhi', ha⟩ := hs1.slice_inv
  have hvb : φ vb ≠ none := by
    cases hrest with
    | cons _ hr2 => cases hr2 with
      | cons hv2 _ =>
        obtain ⟨pv, _, _, hpv, _⟩ := hv2.slice_inv
        rw [hpv]; simp
  have hb : φ b2 ≠ none := by rw [hp]; simp
  by_cases hcap : cp < n + vn
  · obtain ⟨φ', w', v', d1, d2, d3, d4⟩ := c1 φ w args' c cs (hR.keep fun c p h => by
      by_cases h1 : c = b2
      · subst h1; rw [hN1]
        cases hN : (H c).isNone with
        | true => cases hh : H c <;> first | exact .inl rfl | (rw [hh] at hN; cases hN)
        | false => exact .inr ⟨hR.obj _ _ h, rfl⟩
      · by_cases h2 : c = vb
        · subst h2; rw [hN2]
          cases hN : (H c).isNone with
          | true => cases hh : H c <;> first | exact .inl rfl | (rw [hh] at hN; cases hN)
          | false => exact .inr ⟨hR.obj _ _ h, rfl⟩
        · exact .inl (hN0 c h1 h2)) (by rw [hv']; exact .cons (.slice _ _ _ _ _ _ hp hnc hlo' (.inr hcap) ha) hrest) (by simp)
    obtain ⟨φf, f1, f2, f3⟩ := fork_fin (b := b2) (vb := vb) (H := H) (nxf := later x1 x2) (nxg := nxg) hR d2 d3 (fun c hc => by
      by_cases h1 : c = b2
      · subst h1; exact ⟨own2, .inl rfl⟩
      · by_cases h2 : c = vb
        · subst h2; rw [hN2] at hc; exact ⟨hc, .inr rfl⟩
        · rw [hN0 c h1 h2] at hc; cases hc) hb hvb d1 hl t1 k1 hl1 hn1 hs ht (Nat.le_trans d3.next (later_le x1 x2).1) hng
    exact ⟨φf, w', v', f1, f2, f3, d4⟩
  · obtain ⟨φ', w', v', d1, d2, d3, d4⟩ := c2 φ w args' c cs (hR.keep fun c p' h => by
      by_cases h1 : c = b2
      · subst h1; rw [hM1]
        rw [hp] at h; cases h
        refine .inr ⟨ho2.sound (hR.obj _ _ hp) hok ?_, own_some own2⟩
        rcases ha with ha | ⟨_, ha⟩
        · omega
        · have : (n + vn) * z2 ≤ cp * z2 := Nat.mul_le_mul_right _ (by omega)
          rw [Nat.add_mul] at this; omega
      · by_cases h2 : c = vb
        · subst h2; rw [hM2]
          cases hN : (H c).isNone with
          | true => cases hh : H c <;> first | exact .inl rfl | (rw [hh] at hN; cases hN)
          | false => exact .inr ⟨hR.obj _ _ h, rfl⟩
        · exact .inl (hM0 c h1 h2)) (by rw [hv']; exact .cons (.slice _ _ _ _ _ _ hp hnc (by omega) (.inl rfl) ha) hrest) (by simp)
    obtain ⟨φf, f1, f2, f3⟩ := fork_fin (b := b2) (vb := vb) (H := H) (nxf := later x1 x2) (nxg := nxg) hR d2 d3 (fun c hc => by
      by_cases h1 : c = b2
      · subst h1; exact ⟨own2, .inl rfl⟩
      · by_cases h2 : c = vb
        · subst h2; rw [hM2] at hc; exact ⟨hc, .inr rfl⟩
        · rw [hM0 c h1 h2] at hc; cases hc) hb hvb d1 hl t2 k2 hl2 hn2 hs ht (Nat.le_trans d3.next (later_le x1 x2).2) hng
    exact ⟨φf, w', v', f1, f2, f3, d4⟩
theorem forkK_good {call : CallM} (hC : CallOk C.P call) (hh : HS h H nx) {f : FuncId} {args : List AV} (hk : forkK C call f args h k = .good) : ∃ v h' H' nx', k v h' = .good ∧ HS h' H' nx' ∧ CallS C.P false f args H nx v H' nx' ∧ HasBody C.P f := by
  unfold forkK at hk
  split at hk
  · rename_i b off n lo z i vb vo vn vl vh vz
    cases hb : Nat.ble (n + vn) lo with
    | true => rw [hb] at hk; exact hC false f _ _ _ _ _ hh hk
    | false =>
      rw [hb] at hk
      exact forkIn_good hC hh (by have : ¬ n + vn ≤ lo := by simpa using hb
                                  omega) hk
  · exact hC false f _ _ _ _ _ hh hk
end
end Go.Ev
end

section
set_option maxRecDepth 2000
set_option autoImplicit false
set_option linter.unusedSimpArgs false
set_option linter.unusedVariables false
namespace Go.Ev

/-! ### operations that call -/
def putF (f : Nat → AV) (dst : Option Tmp) (v : AV) : Nat → AV := match dst with | none => f | some t => upd f t v
theorem putK_good {nt : Nat} {dst : Option Tmp} {v : AV} {e : Env} {f : Nat → AV} {k : Env → A} (h : EnvIs e f) (hnt : nt ≤ 256) (hk : putK nt dst v e k = .good) : (∀ t, dst = some t → t < nt) ∧ ∃ e', EnvIs e' (putF f dst v) ∧ k e' = .good := by
  cases dst with
  | none => exact ⟨(by intro t h; cases h), e, h, hk⟩
  | some t =>
    obtain ⟨h1, e', h2, h3⟩ := esK_good h hnt (show esK nt t v e k = .good from hk)
    exact ⟨(by intro t' h; cases h; exact h1), e', h2, h3⟩
theorem ER.put {φ : Phi} {f : Nat → AV} {a : Act} {nt : Nat} (h : ER φ f a.tmps nt) {dst : Option Tmp} (hd : ∀ t, dst = some t → t < nt) {v : AV} {v' : Value} (hv : VR φ v v') : ER φ (putF f dst v) (a.put dst v').tmps nt := by
  cases dst with
  | none => exact h
  | some d =>
    have hd := hd d rfl
    refine ⟨by simp [Act.put, h.size], h.small, fun t ht => ?_⟩
    simp only [putF, upd, Act.put]
    by_cases e : t = d
    · subst e
      rw [if_pos rfl, Array.getD_eq_getD_getElem?, Array.getElem?_setIfInBounds_self_of_lt (by rw [h.size]; exact hd)]
      exact hv
    · rw [if_neg e, Array.getD_eq_getD_getElem?, Array.getElem?_setIfInBounds_ne (Ne.symm e), ← Array.getD_eq_getD_getElem?]
      exact h.at_ t ht
theorem Act.put_defers (a : Act) (dst : Option Tmp) (v : Value) : (a.put dst v).defers = a.defers := by cases dst <;> rfl
/-- What is looked at is known. -/
def Sees (φ : Phi) (l : List Nat) (f : Nat → AV) (tmps : Array Value) : Prop := ∀ t ∈ l, t ≤ 255 → VR φ (f t) (tmps.getD t undef)
theorem Sees.mono {φ φ' : Phi} {l : List Nat} {f : Nat → AV} {tmps : Array Value} (h : Sees φ l f tmps) (hφ : φ.le φ') : Sees φ' l f tmps := fun t ht h' => (h t ht h').mono hφ
theorem Sees.rho {φ : Phi} {l : List Nat} {f : Nat → AV} {a : Act} (h : Sees φ l f a.tmps) : VRho φ (loc l f) a.eval := by
  refine ⟨fun t h' => ?_, fun _ => rfl, fun _ => rfl, fun _ => rfl⟩
  simp only [loc]
  split
  · rename_i ht; exact h t ht h'
  · exact .poison _
theorem Sees.opd {φ : Phi} {f : Nat → AV} {H : Bid → AObj} {nx : Bid} {w : World} {a : Act} {op : Op} {l : List Nat} (hl : ∀ t ∈ opTmps op, t ∈ l) (h : Sees φ l f a.tmps) (hR : R φ H nx w) {x : Operand} (hx : x ∈ op.operands.toList) (ho : opdOk x) : VR φ (opdS x f) (a.eval x) := by
  cases x with
  | tmp t => exact h t (hl t (mem_opTmps hx)) ho
  | const v => exact ofValue_VR φ v
  | global g =>
    obtain ⟨p, hp, h1, h2⟩ := hR.glob g ho
    have := VR.ptr (φ := φ) 0 hp
    simpa only [opdS, Act.eval, PB.addr, h1, h2] using this
  | func g => exact .func (.func g) .nil .nil
theorem Sees.opds {φ : Phi} {f : Nat → AV} {H : Bid → AObj} {nx : Bid} {w : World} {a : Act} {op : Op} {l : List Nat} (hl : ∀ t ∈ opTmps op, t ∈ l) (h : Sees φ l f a.tmps) (hR : R φ H nx w) : ∀ {xs : List Operand}, (∀ x ∈ xs, x ∈ op.operands.toList) → (∀ x ∈ xs, opdOk x) → VRs φ (xs.map (opdS · f)) (xs.map a.eval)
  | [], _, _ => .nil
  | x :: xs, hx, ho => .cons (h.opd hl hR (hx x (by simp)) (ho x (by simp))) (Sees.opds hl h hR (fun y hy => hx y (by simp [hy])) fun y hy => ho y (by simp [hy]))

/-! #### guards -/
def gdT (ops : Array Oper) (o : Oper) : List Nat := match o.guard with | some (g, _) => ((ops[g]?).bind (·.dst)).toList | none => []
def WantS (ops : Array Oper) (o : Oper) (f : Nat → AV) (b : Bool) : Prop := ∀ (φ : Phi) (tmps : Array Value), Sees φ (gdT ops o) f tmps → Region.wanted o (yielded ops tmps) = b
theorem getD_bool {tmps : Array Value} {t : Nat} {b : Bool} (h : tmps.getD t undef = .bool b) : tmps[t]? = some (.bool b) := by
  rw [Array.getD_eq_getD_getElem?] at h
  cases hh : tmps[t]? with
  | none => rw [hh] at h; cases h
  | some v => rw [hh] at h; simp only [Option.getD_some] at h; rw [h]
theorem wantK_good {ops : Array Oper} {o : Oper} {e : Env} {f : Nat → AV} {a z : A} (he : EnvIs e f) (hk : wantK ops o.guard e a z = .good) : (a = .good ∧ WantS ops o f true) ∨ (z = .good ∧ WantS ops o f false) := by
  cases hg : o.guard with
  | none =>
    rw [hg] at hk
    exact .inl ⟨hk, fun φ tmps _ => by simp [Region.wanted, hg]⟩
  | some q =>
    obtain ⟨j, b⟩ := q
    rw [hg] at hk
    have hk : obK (guardT ops j) (fun t => egK t e fun v => boolK v (fun c => Bool.rec (Bool.rec a z c) (Bool.rec z a c) b) z) = .good := hk
    simp only [obK_good, egK_good he, boolK_good] at hk
    obtain ⟨t, ht, ht255, hk⟩ := hk
    have hgd : gdT ops o = [t] := by
      have : (ops[j]?).bind (·.dst) = some t := ht
      simp [gdT, hg, this]
    have key : ∀ (φ : Phi) (tmps : Array Value), Sees φ (gdT ops o) f tmps → VR φ (f t) (tmps.getD t undef) := fun φ tmps h => h t (by rw [hgd]; simp) ht255
    have hy : ∀ tmps, yielded ops tmps j = match tmps[t]? with | some (.bool b) => some b | _ => none := by
      intro tmps
      have : (ops[j]?).bind (·.dst) = some t := ht
      simp only [yielded, this, Option.bind_some]
      rfl
    rcases hk with ⟨c, hc, hk⟩ | ⟨vs, hc, hk⟩
    · have hval : ∀ (φ : Phi) (tmps : Array Value), Sees φ (gdT ops o) f tmps → Region.wanted o (yielded ops tmps) = (c == b) := by
        intro φ tmps h
        have := key φ tmps h
        rw [hc] at this
        simp only [Region.wanted, hg, hy, getD_bool this.bool_inv]
        cases c <;> cases b <;> rfl
      cases b <;> cases c
      · exact .inl ⟨hk, fun φ tmps h => hval φ tmps h⟩
      · exact .inr ⟨hk, fun φ tmps h => hval φ tmps h⟩
      · exact .inr ⟨hk, fun φ tmps h => hval φ tmps h⟩
      · exact .inl ⟨hk, fun φ tmps h => hval φ tmps h⟩
    · refine .inr ⟨hk, fun φ tmps h => ?_⟩
      have := key φ tmps h
      rw [hc] at this
      obtain ⟨c', hc', _⟩ := this.tuple_inv
      simp only [Region.wanted, hg, hy]
      rw [Array.getD_eq_getD_getElem?] at hc'
      cases hh : tmps[t]? with
      | none => rfl
      | some v => rw [hh] at hc'; simp only [Option.getD_some] at hc'; rw [hc']; rfl

/-! #### calls -/
section
variable {C : Cx} {x : X} {h : Heap} {H : Bid → AObj} {nx : Bid} {k : AV → Heap → A}
theorem enterK_good (hC : COk C) (hx : XOk C x) (hh : HS h H nx) {f : FuncId} {args : List AV} (hk : enterK C x f args h k = .good) : ∃ v h' H' nx', k v h' = .good ∧ HS h' H' nx' ∧ EnterS C.P (callFunc f) args H nx v H' nx' := by
  simp only [enterK] at hk
  cases hs : C.special f with
  | none =>
    rw [hs] at hk
    obtain ⟨v, h', H', nx', h1, h2, h3, h4⟩ := hx.call false f args h H nx k hh hk
    exact ⟨v, h', H', nx', h1, h2, h3.enter hC h4⟩
  | some s =>
    rw [hs] at hk
    cases s with
    | ext q =>
      obtain ⟨v, h', H', nx', h1, h2, h3⟩ := enterExt_good hC hs hh (args := args) hk
      refine ⟨v, h', H', nx', h1, h2, fun φ w args' c cs hR hv => ?_⟩
      obtain ⟨φ', w', v', g1, g2, g3, g4⟩ := h3 φ w args' hR hv
      exact ⟨φ', w', v', g1, g2, g3, .inl (.inl g4)⟩
    | fork =>
      obtain ⟨v, h', H', nx', h1, h2, h3, h4⟩ := forkK_good hx.call hh (args := args) hk
      exact ⟨v, h', H', nx', h1, h2, h3.enter hC h4⟩
theorem methodAt_run {P : Program} {t : TypeId} {n : String} {f : FuncId} (h : methodAt P t n = some f) (fuel : Nat) (v : Value) (w : World) : (method (fuel + 1) t v n).run P w = .ok (f, v) w := by
  simp only [methodAt] at h
  cases hi : P.info? t with
  | none => rw [hi] at h; cases h
  | some i =>
  rw [hi] at h
  cases hm : i.methods.find? (·.name == n) with
  | none => simp only [ob, hm] at h; cases h
  | some m =>
  simp only [ob, hm, bb] at h
  cases hp : m.path.isEmpty with
  | false => rw [hp] at h; cases h
  | true =>
  rw [hp] at h
  cases hf : m.func with
  | none => rw [hf] at h; cases h
  | some q =>
  rw [hf] at h
  simp only at h
  have hpl : m.path.toList = [] := by simpa using hp
  have e0 : (typeInfo t).run P w = .ok i w := by
    simp [typeInfo, hi, run_program]
  obtain ⟨g, pr⟩ := q
  simp only [method, Sem.run_bind, e0, Result.andThen_ok, hm, hpl, follow, Sem.run_pure, hf]
  cases hu : P.underlying t with
  | none => rw [hu] at h; cases h
  | some d =>
  rw [hu] at h
  have e1 : (underlying t).run P w = .ok d w := by simp [underlying, hu, run_program]
  simp only [receiverAt, Sem.run_bind, e1, Result.andThen_ok]
  cases pr with
  | true =>
    cases d <;> first | (cases h; done) | skip
    cases h
    simp [Place.get]
  | false =>
    cases d <;> first | (cases h; done) | (cases h; simp [Place.get]; done)
theorem VRs.cons_inv {φ : Phi} {v : AV} {vs : List AV} {l : List Value} (h : VRs φ (v :: vs) l) : ∃ v' vs', l = v' :: vs' ∧ VR φ v v' ∧ VRs φ vs vs' := by
  cases h with | cons h h' => exact ⟨_, _, rfl, h, h'⟩
theorem invK_good (hC : COk C) (hx : XOk C x) (hh : HS h H nx) {fn : AFn} {a c as : List AV} (hk : invK C x fn a c as h k = .good) :
    ∃ v h' H' nx', k v h' = .good ∧ HS h' H' nx' ∧ ∀ (φ : Phi) (w : World) (fn' : Fn) (c' args' : Array Value) (fr : Frame) (cs : List Frame), R φ H nx w → FR φ fn fn' → VRs φ c c'.toList → VRs φ (a ++ as) args'.toList →
      ∃ φ' w' v', VR φ' v v' ∧ R φ' H' nx' w' ∧ Grows φ H nx w φ' H' nx' w' ∧ Lands C.P fr cs ((invoke (.fn fn' c') args').run C.P w) v' w' := by
  cases fn with
  | func f =>
    have hk : enterK C x f (app a (app as c)) h k = .good := hk
    obtain ⟨v, h', H', nx', h1, h2, h3⟩ := enterK_good hC hx hh hk
    refine ⟨v, h', H', nx', h1, h2, fun φ w fn' c' args' fr cs hR hf hc ha => ?_⟩
    cases hf
    exact h3 φ w (args' ++ c') fr cs hR (by
      have := ha.append hc
      simpa [app_eq] using this)
  | method n =>
    have hk : (List.rec (motive := fun _ => A) no (fun r rest _ => asIfaceK r no fun t v => obK (methodAt C.P t n) fun f => enterK C x f (v :: rest) h k) (app a as) : A) = .good := hk
    rw [app_eq] at hk
    cases hl : a ++ as with
    | nil => rw [hl] at hk; exact absurd hk no_good
    | cons r rest =>
    rw [hl] at hk
    simp only [asIfaceK_good, obK_good, no_good, and_false, false_or] at hk
    obtain ⟨t, u, rfl, f, hf, hk⟩ := hk
    obtain ⟨v, h', H', nx', h1, h2, h3⟩ := enterK_good hC hx hh hk
    refine ⟨v, h', H', nx', h1, h2, fun φ w fn' c' args' fr cs hR hfr hc ha => ?_⟩
    cases hfr
    obtain ⟨r', rest', e, hr, hrest⟩ := ha.cons_inv
    obtain ⟨u', rfl, hu⟩ := hr.iface_inv
    obtain ⟨φ', w', v', g1, g2, g3, g4⟩ := h3 φ w (#[u'] ++ args'.extract 1 args'.size) fr cs hR (by
      have hl : args'.size = rest'.length + 1 := by rw [← Array.length_toList, e]; rfl
      have : (#[u'] ++ args'.extract 1 args'.size).toList = u' :: rest' := by simp [e, hl]
      rw [this]; exact .cons hu hrest)
    refine ⟨φ', w', v', g1, g2, g3, ?_⟩
    have e0 : args'[0]? = some (.iface t u') := by rw [← Array.getElem?_toList, e]; rfl
    have : (invoke (.fn (.method n) c') args').run C.P w = (callFunc f (#[u'] ++ args'.extract 1 args'.size)).run C.P w := by
      simp only [invoke, e0, callMethod, Sem.run_bind, run_program, Result.andThen_ok]
      rw [show C.P.types.size + Made.depth = (C.P.types.size + 99) + 1 from rfl, methodAt_run hf]
      rfl
    rw [this]; exact g4
  | yield b =>
    have hk : x.rnd b (app a as) h k = .good := hk
    rw [app_eq] at hk
    obtain ⟨v, h', H', nx', h1, h2, h3⟩ := hx.rnd b _ h H nx k hh hk
    refine ⟨v, h', H', nx', h1, h2, fun φ w fn' c' args' fr cs hR hf hc ha => ?_⟩
    cases hf with
    | yield hp =>
    obtain ⟨fn, tmps, as', bd, g0, φ', w', v', g1, g2, g3, g4⟩ := h3 φ w _ args' fr cs hR hp ha
    exact ⟨φ', w', v', g1, g2, g3, .inr (.inr ⟨_, fn, tmps, as', bd, w, g0, g4⟩)⟩
/-- What is done with what an operation comes to. -/
theorem Lands.steps {P : Program} {fr : Frame} {cs : List Frame} {w w' : World} {v' : Value} {s : Sem Next} (hl : Lands P fr cs (s.run P w) v' w')
    (ht : ∀ d w r sv k, fr.todo ≠ .call d w r sv :: k) (hs : stepG P true { frame := fr, callers := cs, status := .running, dying := none } w = stepG.apply P true fr cs none s w) : Steps P (lone fr cs w) (lone (fr.finish v') cs w') := by
  rcases hl with (hr | ⟨hr, rfl⟩) | ⟨f, args, w₁, hr, hst⟩ | ⟨l, fn, tmps, as, bd, w₁, hr, hst⟩
  · exact .one (step_lone_go (by rw [hs]; simp [stepG.apply, Sem.runT_eq, hr]))
  · exact .one (step_lone_go (by rw [hs]; simp [stepG.apply, Sem.runT_eq, hr]))
  · exact .trans (.one (step_lone_go (by
      rw [hs]; simp [stepG.apply, Sem.runT_eq, hr]
      split
      · rename_i h; exact absurd h (ht _ _ _ _ _)
      · rfl))) hst
  · exact .trans (.one (step_lone_go (by rw [hs]; simp [stepG.apply, Sem.runT_eq, hr]))) hst
end
/-- One operation of a region. -/
def OneR (P : Program) (x : X) (ops : Array Oper) (o : Oper) (f : Nat → AV) (H : Bid → AObj) (nx : Bid) (d : List ADefer) (v : AV) (H' : Bid → AObj) (nx' : Bid) (d' : List ADefer) : Prop :=
  ∀ (φ : Phi) (w : World) (b : Frame) (a : Act) (cs : List Frame) (i : Nat) (rest : List Nat) (k : List Item), ops[i]? = some o → BK x b cs → R φ H nx w → Sees φ (looksAt ops o) f a.tmps → DsR φ d a.defers →
    ∃ φ' w' v' ds, R φ' H' nx' w' ∧ VR φ' v v' ∧ DsR φ' d' ds ∧ Grows φ H nx w φ' H' nx' w' ∧
      Steps P (lone (b.atR a (.inRegion ops (i :: rest) :: k)) cs w) (lone (b.atR ({ a with defers := ds }.put o.dst v') (.inRegion ops rest :: k)) cs w')
theorem look_op {ops : Array Oper} {o : Oper} : ∀ t ∈ opTmps o.op, t ∈ looksAt ops o := fun t ht => List.mem_append_left _ ht
theorem look_gd {ops : Array Oper} {o : Oper} : ∀ t ∈ gdT ops o, t ∈ looksAt ops o := fun t ht => List.mem_append_right _ ht
theorem Sees.sub {φ : Phi} {l l' : List Nat} {f : Nat → AV} {tmps : Array Value} (h : Sees φ l f tmps) (hl : ∀ t ∈ l', t ∈ l) : Sees φ l' f tmps := fun t ht => h t (hl t ht)
/-- What an operation that is carried out comes to. -/
theorem OneR.lands {P : Program} {x : X} {ops : Array Oper} {o : Oper} {f : Nat → AV} {H H' : Bid → AObj} {nx nx' : Bid} {d : List ADefer} {v : AV} (hd : ∀ c, o.op ≠ .defer c) (hw : WantS ops o f true)
    (h : ∀ (φ : Phi) (w : World) (a : Act) (fr : Frame) (cs : List Frame), R φ H nx w → Sees φ (looksAt ops o) f a.tmps → ∃ φ' w' v', VR φ' v v' ∧ R φ' H' nx' w' ∧ Grows φ H nx w φ' H' nx' w' ∧ Lands P fr cs ((execOp a.eval o).run P w) v' w') :
    OneR P x ops o f H nx d v H' nx' d := by
  intro φ w b a cs i rest k hi hb hR hs hds
  obtain ⟨φ', w', v', h1, h2, h3, h4⟩ := h φ w a (b.atR a (.inRegion ops (i :: rest) :: k)) cs hR hs
  refine ⟨φ', w', v', a.defers, h2, h1, hds.mono h3.le, h3, ?_⟩
  have hst := stepGR_op (P := P) (b := b) (a := a) (k := k) (cs := cs) (w := w) (rest := rest) hi (hw φ a.tmps (hs.sub look_gd))
  rw [Oper.semAt_eq _ _ _ hd] at hst
  have := Lands.steps h4 (by intro _ _ _ _ _ h; cases h) hst
  rwa [Frame.finish_atR, hi] at this
section
variable {C : Cx} {x : X} {e : Env} {h : Heap} {H : Bid → AObj} {nx : Bid} {f : Nat → AV} {ops : Array Oper} {o : Oper} {d : List ADefer}
/-- What an operation comes to, be it carried out or not. -/
structure OneIs (C : Cx) (x : X) (ops : Array Oper) (o : Oper) (f : Nat → AV) (H : Bid → AObj) (nx : Bid) (d : List ADefer) (v : AV) (H' : Bid → AObj) (nx' : Bid) (d' : List ADefer) : Prop where
  one : OneR C.P x ops o f H nx d v H' nx' d'
  way : (WantS ops o f false ∧ v = .tuple [] ∧ H' = H ∧ nx' = nx ∧ d' = d) ∨ (WantS ops o f true ∧ (cls' C.P o.op ≠ 3 → Cls C.P o (loc (looksAt ops o) f) H nx v H' nx' ∧ d' = d))
theorem OneR.skip {P : Program} (hw : WantS ops o f false) : OneR P x ops o f H nx d (.tuple []) H nx d := by
  intro φ w b a cs i rest k hi hb hR hs hds
  refine ⟨φ, w, undef, a.defers, hR, .tuple .nil, hds, .refl _ _ _ _, ?_⟩
  have := stepR_op_skip (P := P) (b := b) (a := a) (k := k) (cs := cs) (w := w) (ops := ops) (i := i) (rest := rest) (by rw [hi]; exact hw φ a.tmps (hs.sub look_gd))
  rw [hi] at this
  exact .one this
theorem Cls.one {v : AV} {H' : Bid → AObj} {nx' : Bid} (hc : Cls C.P o (loc (looksAt ops o) f) H nx v H' nx') (hd : ∀ c, o.op ≠ .defer c) (hw : WantS ops o f true) : OneR C.P x ops o f H nx d v H' nx' d := by
  refine .lands hd hw fun φ w a fr cs hR hs => ?_
  obtain ⟨φ', w', n, h1, ⟨v', hv, hn⟩, h3, h4⟩ := hc.op φ w a.eval hR hs.rho
  rcases hn with rfl | ⟨rfl, rfl⟩
  · exact ⟨φ', w', v', hv, h3, h4, .inl (.inl h1)⟩
  · exact ⟨φ', w', undef, hv, h3, h4, .inl (.inr ⟨h1, rfl⟩)⟩
theorem Sees.cxs {φ : Phi} {a : Act} {w : World} (hs : Sees φ (looksAt ops o) f a.tmps) (hR : R φ H nx w) {xs : List Operand} (hx : ∀ x ∈ xs, x ∈ o.op.operands.toList) (ho : ∀ x ∈ xs, opdOk x) : VRs φ (xs.map (opdS · f)) (xs.map a.eval) := hs.opds look_op hR hx ho
/-- A call. -/
theorem callOp_good (hC : COk C) (hx : XOk C x) (hh : HS h H nx) (he : EnvIs e f) {c : Call} (ho : o.op = .call c) (hw : WantS ops o f true) {k : AV → Heap → A} {z : A} (hk : callOp c C x e h k z = .good) :
    (∃ v h' H' nx', k v h' = .good ∧ HS h' H' nx' ∧ OneR C.P x ops o f H nx d v H' nx' d) ∨ (z = .good ∧ ∃ b, c.callee = .builtin b) := by
  have hd : ∀ c, o.op ≠ .defer c := fun c' h => by rw [ho] at h; cases h
  have hops : o.op.operands = c.operands := by rw [ho]; rfl
  cases hc : c.callee with
  | builtin b => simp only [callOp, hc] at hk; exact .inr ⟨hk, b, rfl⟩
  | value g =>
    simp only [callOp, hc, opdK_good he, asFuncK_good, opdsK_good he, no_good, and_false, false_or] at hk
    obtain ⟨hg, fn, a, cap, hf, has, hk⟩ := hk
    obtain ⟨v, h', H', nx', h1, h2, h3⟩ := invK_good hC hx hh hk
    refine .inl ⟨v, h', H', nx', h1, h2, .lands hd hw fun φ w act fr cs hR hs => ?_⟩
    have e1 : VR φ (opdS g f) (act.eval g) := hs.opd look_op hR (by rw [hops]; simp [Call.operands, hc]) hg
    rw [hf] at e1
    obtain ⟨fn', a', c', hv, hfr, ha, hcap⟩ := e1.func_inv
    have e2 : VRs φ (c.args.toList.map (opdS · f)) (c.args.toList.map act.eval) := hs.cxs hR (fun y hy => by rw [hops]; simp [Call.operands, hc]; exact .inr (by simpa using hy)) has
    obtain ⟨φ', w', v', g1, g2, g3, g4⟩ := h3 φ w fn' c' (a' ++ c.args.map act.eval) fr cs hR hfr hcap (by
      have := ha.append e2
      simpa using this)
    refine ⟨φ', w', v', g1, g2, g3, ?_⟩
    have : (execOp act.eval o).run C.P w = (invoke (.fn fn' c') (a' ++ c.args.map act.eval)).run C.P w := by
      simp only [execOp, ho, resolve, hc, hv, Deferred.ofValue, Sem.run_bind, Sem.run_pure, Result.andThen_ok]
    rw [this]; exact g4
  | invoke r n =>
    simp only [callOp, hc, opdK_good he, asIfaceK_good, obK_good, opdsK_good he, no_good, and_false, false_or] at hk
    obtain ⟨hr, t, u, hu, g, hg, has, hk⟩ := hk
    obtain ⟨v, h', H', nx', h1, h2, h3⟩ := enterK_good hC hx hh hk
    refine .inl ⟨v, h', H', nx', h1, h2, .lands hd hw fun φ w act fr cs hR hs => ?_⟩
    have e1 : VR φ (opdS r f) (act.eval r) := hs.opd look_op hR (by rw [hops]; simp [Call.operands, hc]) hr
    rw [hu] at e1
    obtain ⟨u', hv, hu'⟩ := e1.iface_inv
    have e2 : VRs φ (c.args.toList.map (opdS · f)) (c.args.toList.map act.eval) := hs.cxs hR (fun y hy => by rw [hops]; simp [Call.operands, hc]; exact .inr (by simpa using hy)) has
    obtain ⟨φ', w', v', g1, g2, g3, g4⟩ := h3 φ w (#[u'] ++ c.args.map act.eval) fr cs hR (by
      have := VRs.cons hu' e2
      simpa using this)
    refine ⟨φ', w', v', g1, g2, g3, ?_⟩
    have : (execOp act.eval o).run C.P w = (callFunc g (#[u'] ++ c.args.map act.eval)).run C.P w := by
      have e0 : (#[act.eval r] ++ c.args.map act.eval)[0]? = some (.iface t u') := by rw [hv, ← Array.getElem?_toList, Array.toList_append]; rfl
      simp only [execOp, ho, resolve, hc, Sem.run_bind, Sem.run_pure, Result.andThen_ok, invoke, e0, callMethod, run_program]
      rw [show C.P.types.size + Made.depth = (C.P.types.size + 99) + 1 from rfl, methodAt_run hg]
      have : (#[act.eval r] ++ Array.map act.eval c.args).extract 1 (#[act.eval r] ++ Array.map act.eval c.args).size = Array.map act.eval c.args := by
        apply Array.ext'
        rw [Array.toList_extract, Array.toList_append]
        simp [List.take_of_length_le]
      rw [this]; rfl
    rw [this]; exact g4
theorem isRec_iff {c : Callee} (h : isRec c = true) : c = .builtin .recover := by
  cases c with
  | value g => cases h
  | invoke r n => cases h
  | builtin b => cases b <;> first | rfl | cases h
theorem recover_good (hx : XOk C x) (he : EnvIs e f) {c : Call} (ho : o.op = .call c) (hw : WantS ops o f true) {k : KS} (hk : recoverK c x o.dst e h d k = .good) :
    (∀ t, o.dst = some t → t < x.nt) ∧ ∃ e', EnvIs e' (putF f o.dst .nili) ∧ k e' h d = .good ∧ OneR C.P x ops o f H nx d .nili H nx d := by
  simp only [recoverK, bbK_good, andB_eq, notB_eq, Bool.and_eq_true, Bool.not_eq_true', List.isEmpty_iff] at hk
  obtain ⟨⟨⟨hrec, hargs⟩, hdk, hround⟩, hk⟩ := hk
  have hc := isRec_iff hrec
  obtain ⟨h1, e', h2, h3⟩ := putK_good he hx.small hk
  refine ⟨h1, e', h2, h3, ?_⟩
  intro φ w b a cs i rest k hi hb hR hs hds
  refine ⟨φ, w, .nilIface, a.defers, hR, .nili, hds, .refl _ _ _ _, ?_⟩
  have hst := stepGR_op (P := C.P) (b := b) (a := a) (k := k) (cs := cs) (w := w) (rest := rest) hi (hw φ a.tmps (hs.sub look_gd))
  rw [Oper.semAt_eq _ _ _ (fun c' h => by rw [ho] at h; cases h)] at hst
  have hr : (execOp a.eval o).run C.P w = .ok .recover w := by
    simp only [execOp, ho, resolve, hc, Sem.run_bind, Sem.run_pure, Result.andThen_ok, invoke, builtin]
  obtain ⟨hkd, c', rest', rfl, hm⟩ := hb.late hdk
  have hfl := hb.flat hround
  have e1 : tryRecover (b.atR a (.inRegion ops (i :: rest) :: k)) (c' :: rest') = none := by
    simp [tryRecover, Frame.atR, hkd, hm]
  have e2 : (b.atR a (.inRegion ops (i :: rest) :: k)).roundOf = none := hfl
  have hfin := Frame.finish_atR b a ops i rest k .nilIface
  rw [hi] at hfin
  refine .one ?_
  rw [show ({ a with defers := a.defers } : Act) = a from rfl, ← show _ = b.atR (a.put o.dst .nilIface) (.inRegion ops rest :: k) from hfin]
  exact step_lone_go (by rw [hst]; simp [stepG.apply, Sem.runT_eq, hr, e1, e2])
theorem defer_good (hx : XOk C x) (he : EnvIs e f) {c : Call} (ho : o.op = .defer c) (hw : WantS ops o f true) {k : KS} (hk : deferK c x o.dst e h d k = .good) :
    (∀ t, o.dst = some t → t < x.nt) ∧ ∃ v e' d', EnvIs e' (putF f o.dst v) ∧ k e' h d' = .good ∧ OneR C.P x ops o f H nx d v H nx d' := by
  have hops : o.op.operands = c.operands := by rw [ho]; rfl
  cases hc : c.callee with
  | builtin b => simp only [deferK, hc] at hk; exact absurd hk no_good
  | invoke r n => simp only [deferK, hc] at hk; exact absurd hk no_good
  | value g =>
    simp only [deferK, hc, bbK_good, opdK_good he, asFuncK_good, opdsK_good he, no_good, and_false, false_or, notB_eq, Bool.not_eq_true'] at hk
    obtain ⟨hround, hg, fn, a, cap, hf, has, hk⟩ := hk
    obtain ⟨h1, e', h2, h3⟩ := putK_good he hx.small hk
    refine ⟨h1, _, e', _, h2, h3, ?_⟩
    intro φ w b act cs i rest k hi hb hR hs hds
    have e1 : VR φ (opdS g f) (act.eval g) := hs.opd look_op hR (by rw [hops]; simp [Call.operands, hc]) hg
    rw [hf] at e1
    obtain ⟨fn', a', c', hv, hfr, ha, hcap⟩ := e1.func_inv
    have e2 : VRs φ (c.args.toList.map (opdS · f)) (c.args.toList.map act.eval) := hs.cxs hR (fun y hy => by rw [hops]; simp [Call.operands, hc]; exact .inr (by simpa using hy)) has
    refine ⟨φ, w, undef, { target := .fn fn' c', args := a' ++ c.args.map act.eval } :: act.defers, hR, .tuple .nil, .cons (.fn hfr hcap ?_) hds, .refl _ _ _ _, ?_⟩
    · have := ha.append e2
      simpa [app_eq] using this
    have hst := stepGR_op (P := C.P) (b := b) (a := act) (k := k) (cs := cs) (w := w) (rest := rest) hi (hw φ act.tmps (hs.sub look_gd))
    have hfl := hb.flat hround
    rw [hfl, Oper.semAt_none] at hst
    have hr : (execOp act.eval o).run C.P w = .ok (.defer { target := .fn fn' c', args := a' ++ c.args.map act.eval }) w := by
      simp only [execOp, ho, resolve, hc, hv, Deferred.ofValue, Sem.run_bind, Sem.run_pure, Result.andThen_ok]
    have hfin := Frame.finish_atR b { act with defers := { target := .fn fn' c', args := a' ++ c.args.map act.eval } :: act.defers } ops i rest k undef
    rw [hi] at hfin
    refine .one ?_
    rw [← show _ = b.atR (({ act with defers := { target := .fn fn' c', args := a' ++ c.args.map act.eval } :: act.defers } : Act).put o.dst undef) (.inRegion ops rest :: k) from hfin]
    exact step_lone_go (by rw [hst]; simp [stepG.apply, Sem.runT_eq, hr, Frame.atR])
theorem cls_loud {P : Program} {o : Oper} (h : (∃ c, o.op = .call c ∧ ∀ b, c.callee = .builtin b → b = .recover) ∨ ∃ c, o.op = .defer c) : cls' P o.op = 3 := by
  rcases h with ⟨c, h, hb⟩ | ⟨c, h⟩
  · rw [h]
    obtain ⟨cal, as, ts⟩ := c
    cases cal with
    | value g => rfl
    | invoke r n => rfl
    | builtin b => rw [hb b rfl]; rfl
  · rw [h]; rfl
theorem OpS.noDefer {P : Program} {o : Oper} {f : Nat → AV} {H : Bid → AObj} {nx : Bid} {v : AV} {H' : Bid → AObj} {nx' : Bid} (h : OpS P o f H nx v H' nx') {φ : Phi} {w : World} {ρ : Operand → Value} (hR : R φ H nx w) (hρ : VRho φ f ρ) (c : Call) : o.op ≠ .defer c := by
  intro ho
  obtain ⟨φ', w', n, h1, ⟨v', hv, hn⟩, h3, h4⟩ := h φ w ρ hR hρ
  simp only [execOp, ho, Sem.run_bind] at h1
  cases hr : (resolve ρ c o.type).run P w with
  | ok dd w₁ => rw [hr] at h1; simp only [Result.andThen_ok, Sem.run_pure] at h1; cases h1; rcases hn with h | ⟨h, _⟩ <;> cases h
  | halt q w₁ => rw [hr] at h1; cases h1
/-- One operation of a region. -/
theorem oneK_good (hC : COk C) (hx : XOk C x) (hh : HS h H nx) (he : EnvIs e f) {k : KS} (hk : oneK C ops o x e h d k = .good) :
    (∀ t, o.dst = some t → t < x.nt) ∧ ∃ v e' h' H' nx' d', EnvIs e' (putF f o.dst v) ∧ k e' h' d' = .good ∧ HS h' H' nx' ∧ OneIs C x ops o f H nx d v H' nx' d' := by
  rcases wantK_good he hk with ⟨hk, hw⟩ | ⟨hk, hw⟩
  · rcases execK_loc hh he (l := looksAt ops o) look_op hk with ⟨v, h', H', nx', hk, hh', hc⟩ | ⟨hk, ho⟩
    · obtain ⟨h1, e', h2, h3⟩ := putK_good he hx.small hk
      refine ⟨h1, v, e', h', H', nx', d, h2, h3, hh', ⟨?_, .inr ⟨hw, fun _ => ⟨hc, rfl⟩⟩⟩⟩
      intro φ w b a cs i rest k hi hb hR hs hds
      exact hc.one (hc.op.noDefer hR hs.rho) hw φ w b a cs i rest k hi hb hR hs hds
    · have h3 := cls_loud (P := C.P) ho
      rcases ho with ⟨c, ho, hb⟩ | ⟨c, ho⟩
      · have hk : callOp c C x e h (fun v h => putK x.nt o.dst v e fun e => k e h d) (recoverK c x o.dst e h d k) = .good := by
          have := hk; rw [ho] at this; exact this
        rcases callOp_good hC hx hh he ho hw (d := d) hk with ⟨v, h', H', nx', hk1, hh', hone⟩ | ⟨hk1, _⟩
        · obtain ⟨h1, e', h2, h3'⟩ := putK_good he hx.small hk1
          exact ⟨h1, v, e', h', H', nx', d, h2, h3', hh', hone, .inr ⟨hw, fun h => absurd h3 h⟩⟩
        · obtain ⟨h1, e', h2, h3', hone⟩ := recover_good (H := H) (nx := nx) hx he ho hw hk1
          exact ⟨h1, .nili, e', h, H, nx, d, h2, h3', hh, hone, .inr ⟨hw, fun h => absurd h3 h⟩⟩
      · have hk : deferK c x o.dst e h d k = .good := by
          have := hk; rw [ho] at this; exact this
        obtain ⟨h1, v, e', d', h2, h3', hone⟩ := defer_good (H := H) (nx := nx) hx he ho hw hk
        exact ⟨h1, v, e', h, H, nx, d', h2, h3', hh, hone, .inr ⟨hw, fun h => absurd h3 h⟩⟩
  · obtain ⟨h1, e', h2, h3⟩ := putK_good he hx.small hk
    exact ⟨h1, _, e', h, H, nx, d, h2, h3, hh, .skip hw, .inl ⟨hw, rfl, rfl, rfl, rfl⟩⟩
end
end Go.Ev
end

section
set_option maxRecDepth 2000
set_option autoImplicit false
set_option linter.unusedSimpArgs false
set_option linter.unusedVariables false
namespace Go.Ev

/-! ### regions in the order of the text -/
theorem ER.rho {φ : Phi} {f : Nat → AV} {a : Act} {nt : Nat} (h : ER φ f a.tmps nt) : VRho φ f a.eval :=
  ⟨fun t ht => h.at_ t (by omega), fun _ => rfl, fun _ => rfl, fun _ => rfl⟩
theorem ER.sees {φ : Phi} {f : Nat → AV} {tmps : Array Value} {nt : Nat} (h : ER φ f tmps nt) (l : List Nat) : Sees φ l f tmps := fun t _ ht => h.at_ t (by omega)
section
variable {C : Cx} {x : X} {ops : Array Oper}
theorem OneIs.goes {o : Oper} {f : Nat → AV} {H H' : Bid → AObj} {nx nx' : Bid} {d d' : List ADefer} {v : AV} (h : OneIs C x ops o f H nx d v H' nx' d') (hd : ∀ t, o.dst = some t → t < x.nt) {i : Nat} (hi : ops[i]? = some o) (rest : List Nat) (k : List Item) :
    Goes C.P x (.inRegion ops (i :: rest) :: k) (.inRegion ops rest :: k) ⟨f, H, nx, d⟩ ⟨putF f o.dst v, H', nx', d'⟩ := by
  intro φ w b a cs hb hs
  obtain ⟨φ', w', v', ds, h1, h2, h3, h4, h5⟩ := h.one φ w b a cs i rest k hi hb hs.mem (hs.env.sees _) hs.ds
  refine ⟨φ', w', { a with defers := ds }.put o.dst v', ⟨h1, ?_, ?_⟩, h4, h5⟩
  · exact (ER.put (a := { a with defers := ds }) (hs.env.mono h4.le) hd h2)
  · rw [Act.put_defers]; exact h3
theorem ops_good (hC : COk C) (hx : XOk C x) {kn : KS} : ∀ (l : List Oper) (j : Nat), ops.toList.drop j = l → ∀ (e : Env) (h : Heap) (s : AS), EnvIs e s.f → HS h s.H s.nx → opsK C l ops x e h s.d kn = .good →
    ∃ s' e' h', EnvIs e' s'.f ∧ HS h' s'.H s'.nx ∧ kn e' h' s'.d = .good ∧ ∀ k, Goes C.P x (.inRegion ops (List.range' j l.length) :: k) (.inRegion ops [] :: k) s s'
  | [], j, _, e, h, s, he, hh, hk => ⟨s, e, h, he, hh, hk, fun k => .refl _ _ _ _⟩
  | o :: l, j, hl, e, h, s, he, hh, hk => by
    have hk : oneK C ops o x e h s.d (fun e h d => opsK C l ops x e h d kn) = .good := hk
    obtain ⟨hd, v, e', h', H', nx', d', he', hk', hh', hone⟩ := oneK_good hC hx hh he hk
    have hi : ops[j]? = some o := by
      have : (ops.toList.drop j)[0]? = some o := by rw [hl]; rfl
      simpa using this
    have hl' : ops.toList.drop (j + 1) = l := by
      rw [← List.drop_drop, hl]; rfl
    obtain ⟨s', e'', h'', h1, h2, h3, h4⟩ := ops_good hC hx l (j + 1) hl' e' h' ⟨putF s.f o.dst v, H', nx', d'⟩ he' hh' hk'
    refine ⟨s', e'', h'', h1, h2, h3, fun k => ?_⟩
    rw [List.length_cons, List.range'_succ]
    exact (hone.goes hd hi _ k).trans (h4 k)
theorem straight_good (hC : COk C) (hx : XOk C x) {kn : KS} {e : Env} {h : Heap} {s : AS} (he : EnvIs e s.f) (hh : HS h s.H s.nx) {id : Nat} (hk : opsK C ops.toList ops x e h s.d kn = .good) :
    ∃ s' e' h', EnvIs e' s'.f ∧ HS h' s'.H s'.nx ∧ kn e' h' s'.d = .good ∧ Ends C.P x (.region id ops false) s s' := by
  obtain ⟨s', e', h', h1, h2, h3, h4⟩ := ops_good hC hx ops.toList 0 (by simp) e h s he hh hk
  refine ⟨s', e', h', h1, h2, h3, fun k => ?_⟩
  refine (Goes.step s fun _ _ _ _ => stepR_region).trans ?_
  rw [List.range_eq_range', ← Array.length_toList]
  exact (h4 k).trans (.step s' fun _ _ _ _ => stepR_region_end)
end
end Go.Ev
end
