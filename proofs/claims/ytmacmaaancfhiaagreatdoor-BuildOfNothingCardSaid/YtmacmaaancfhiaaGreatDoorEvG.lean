/- Part of the proof: a verified evaluator of the model (its definitions, and that it is sound). -/
import Derived.Test.YtmacmaaancfhiaaGreatDoorEvE
import Derived.Test.YtmacmaaancfhiaaGreatDoorEvF
import Derived.Laws.StructEq
section
set_option maxRecDepth 2000
set_option autoImplicit false
set_option linter.unusedSimpArgs false
set_option linter.unusedVariables false
set_option maxHeartbeats 1000000
namespace Go.Ev

/-! ### equality -/
theorem isCells_OR {φ : Phi} {o : AObj} {p : PB} {c : Option Obj} (h : isCells o = true) (hO : OR φ o p c) : ∃ cc ty fr, c = some (.cells cc ty fr) ∧ ∀ i, fr.1 ≤ i → ¬ i < fr.2 := by
  cases o <;> simp only [isCells, Bool.false_eq_true] at h
  rename_i ty n t kd
  obtain ⟨cc, fr, h1, _, _, h4, _⟩ := hO
  exact ⟨cc, ty, fr, h1, h4 (by cases kd <;> simp_all [kdOk, Kd.isRead])⟩
theorem sameAddr_apart {P : Program} {w : World} {a b : Addr} {cc cc' : Array Value} {ty ty' : TypeId} {fr fr' : Nat × Nat} (hab : a.block ≠ b.block) (ha : w.heap[a.block]? = some (.cells cc ty fr)) (hb : w.heap[b.block]? = some (.cells cc' ty' fr'))
    (hf : ∀ i, fr.1 ≤ i → ¬ i < fr.2) (hf' : ∀ i, fr'.1 ≤ i → ¬ i < fr'.2) : (sameAddr a b).run P w = .ok false w := by
  have f1 : ∀ i s, w.frozen? ⟨a.block, i, s⟩ = false := by
    intro i s
    simp only [World.frozen?, ha]
    by_cases h : fr.1 ≤ i
    · simp [hf i h]
    · simp [h]
  have f2 : ∀ i s, w.frozen? ⟨b.block, i, s⟩ = false := by
    intro i s
    simp only [World.frozen?, hb]
    by_cases h : fr'.1 ≤ i
    · simp [hf' i h]
    · simp [h]
  have s1 : w.shape? a.block = some (ty, cc.size) := by simp [World.shape?, ha]
  have s2 : w.shape? b.block = some (ty', cc'.size) := by simp [World.shape?, hb]
  have g1 : w.frozen? a = false := f1 a.off a.spot
  have g2 : w.frozen? b = false := f2 b.off b.spot
  have hne : (a.block == b.block) = false := by simpa using hab
  simp [sameAddr, hne, noView, viewAt, mayBeOne, stringish, s1, s2, g1, g2, f1, f2]
def EqK.isPtr : EqK → Bool
  | .ptr => true
  | _ => false
/-- Two cells of numbers. -/
theorem intsEqK_good : ∀ {xs ys : List AV} {k : Bool → A}, intsEqK xs ys k = .good → ∃ r, k r = .good ∧ ∀ (φ : Phi) (l m : List Value), VRs φ xs l → VRs φ ys m → l.length = m.length ∧
    (∀ i, i < l.length → ∃ j a b, l[i]? = some (.int j a) ∧ m[i]? = some (.int j b)) ∧ (r = true ↔ ∀ i, i < l.length → l[i]? = m[i]?)
  | [], [], k, hk => ⟨true, hk, fun φ l m hl hm => by cases hl; cases hm; simp⟩
  | [], y :: ys, k, hk => absurd hk no_good
  | x :: xs, [], k, hk => absurd hk no_good
  | x :: xs, y :: ys, k, hk => by
    have hk : asNatK x (fun j a => asNatK y fun j' b => bbK (kindEq j j') (intsEqK xs ys fun t => k (andB (Nat.beq a b) t))) = .good := hk
    simp only [asNatK_good, bbK_good, kindEq_eq, decide_eq_true_eq] at hk
    obtain ⟨j, a, hxa, j', b, hyb, hjj, hk1⟩ := hk
    obtain ⟨r, hk2, hr⟩ := intsEqK_good hk1
    subst hxa hyb hjj
    refine ⟨_, hk2, fun φ l m hl hm => ?_⟩
    cases hl with
    | @cons _ x' _ l hx hl =>
    cases hm with
    | @cons _ y' _ m hy hm =>
    have ex := hx.int_inv
    have ey := hy.int_inv
    subst ex ey
    obtain ⟨h1, h2, h3⟩ := hr φ l m hl hm
    refine ⟨by simp [h1], fun i hi => ?_, ?_⟩
    · cases i with
      | zero => exact ⟨j, _, _, rfl, rfl⟩
      | succ i => exact h2 i (by simpa using hi)
    · simp only [andB_eq, beqB, Bool.and_eq_true, decide_eq_true_eq]
      constructor
      · rintro ⟨rfl, hr⟩ i hi
        cases i with
        | zero => rfl
        | succ i => exact h3.1 hr i (by simpa using hi)
      · intro h
        refine ⟨?_, h3.2 fun i hi => ?_⟩
        · have := h 0 (by simp)
          simp only [List.getElem?_cons_zero, Option.some.injEq, Value.int.injEq, true_and] at this
          exact Int.ofNat_inj.1 this
        · have := h (i + 1) (by simpa using hi)
          simpa using this
/-- The model's own loop over an array of numbers. -/
theorem run_eqLoop {P : Program} {el : TypeId} {len : Nat} {k : IntKind} (hel : P.underlying el = some (.int k)) (hag : tCell P el = some false) (d : Nat) {xs ys : Array Value}
    (hi : ∀ i, i < len → ∃ j a b, xs[i]? = some (.int j a) ∧ ys[i]? = some (.int j b)) (w : World) : ∀ (n i : Nat), i + n = len →
    ∃ r : Option Bool, (r = none ∨ r = some false) ∧ (r = none ↔ ∀ j, i ≤ j → j < len → xs[j]? = ys[j]?) ∧
      (forIn (m := Sem) (List.range' i n 1) ((none : Option Bool), ()) fun i __s => do
            let __do_lift ← part el xs (i * 1)
            let __do_lift_1 ← part el ys (i * 1)
            let __do_lift ← Op.equalIn (d + 1) el __do_lift __do_lift_1
            if (!__do_lift) = true then pure (ForInStep.done (some false, ())) else pure (ForInStep.yield (none, ()))).run P w = .ok (r, ()) w
  | 0, i, h => ⟨none, .inl rfl, by simp; intro j h1 h2; omega, by simp⟩
  | n + 1, i, h => by
    obtain ⟨j, a, b, hx, hy⟩ := hi i (by omega)
    have hx' : (part el xs (i * 1)).run P w = .ok (.int j a) w := by simp [part, runAgg hag, hx]
    have hy' : (part el ys (i * 1)).run P w = .ok (.int j b) w := by simp [part, runAgg hag, hy]
    have he := run_equalIn_int (P := P) w d el j k a b hel
    rw [List.range'_succ]
    simp only [List.forIn_cons, Sem.run_bind, hx', hy', he, Result.andThen_ok, Sem.run_ite, Sem.run_pure]
    by_cases hab : a = b
    · subst hab
      obtain ⟨r, h1, h2, h3⟩ := run_eqLoop hel hag d hi w n (i + 1) (by omega)
      refine ⟨r, h1, h2.trans ⟨fun h j h3 h4 => ?_, fun h j h3 h4 => h j (by omega) h4⟩, ?_⟩
      · by_cases hj : j = i
        · subst hj; rw [hx, hy]
        · exact h j (by omega) h4
      · simp only [BEq.rfl, Bool.not_true, Bool.false_eq_true, if_false, Result.andThen_ok]
        exact h3
    · refine ⟨some false, .inr rfl, ⟨fun h => (by cases h), fun h => ?_⟩, ?_⟩
      · have := h i (Nat.le_refl _) (by omega)
        rw [hx, hy] at this
        simp only [Option.some.injEq, Value.int.injEq, true_and] at this
        exact absurd this hab
      · have : (a == b) = false := by simpa using hab
        simp [this]
theorem run_eqArr {P : Program} {t el : TypeId} {len : Nat} {k : IntKind} (hu : P.underlying t = some (.array len el)) (hel : P.underlying el = some (.int k)) (hn : tSize P el = some 1) (d : Nat) {xs ys : Array Value} {r : Bool}
    (hi : ∀ i, i < len → ∃ j a b, xs[i]? = some (.int j a) ∧ ys[i]? = some (.int j b)) (hr : r = true ↔ ∀ i, i < len → xs[i]? = ys[i]?) (w : World) :
    (Op.equalIn (d + 2) t (.agg xs) (.agg ys)).run P w = .ok r w := by
  have hag : tCell P el = some false := by simp [tCell, hel, hn, ob, bb]
  unfold Op.equalIn
  simp only [Sem.run_bind, runU hu, Result.andThen_ok, runS hn]
  obtain ⟨q, h1, h2, h3⟩ := run_eqLoop hel hag d hi w len 0 (by omega)
  rw [Std.Legacy.Range.forIn_eq_forIn_range']
  have e : List.range' (⟨0, len, 1, by decide⟩ : Std.Legacy.Range).start (⟨0, len, 1, by decide⟩ : Std.Legacy.Range).size (⟨0, len, 1, by decide⟩ : Std.Legacy.Range).step = List.range' 0 len 1 := by
    simp [Std.Legacy.Range.size]
  rw [e, h3]
  simp only [Result.andThen_ok]
  have h2' : q = none ↔ ∀ i, i < len → xs[i]? = ys[i]? := h2.trans ⟨fun h i hi => h i (Nat.zero_le _) hi, fun h i _ hi => h i hi⟩
  rcases h1 with rfl | rfl
  · have : r = true := hr.2 (h2'.1 rfl)
    subst this; rfl
  · have : r = false := by
      cases r with
      | false => rfl
      | true => exact absurd (h2'.2 (hr.1 rfl)) (by simp)
    subst this; rfl
section
variable {P : Program} {t : TypeId} (d : Nat) (w : World)
theorem eqP1 {el : TypeId} (hu : P.underlying t = some (.pointer el)) (b : Option Addr) : (Op.equalIn (d + 1) t (.pointer none) (.pointer b)).run P w = .ok b.isNone w := by simp [Op.equalIn, runU hu]
theorem eqP2 {el : TypeId} (hu : P.underlying t = some (.pointer el)) (a : Addr) : (Op.equalIn (d + 1) t (.pointer (some a)) (.pointer none)).run P w = .ok false w := by simp [Op.equalIn, runU hu]
theorem eqP3 {el : TypeId} (hu : P.underlying t = some (.pointer el)) {n : Nat} (hn : tSize P el = some n) (h0 : ¬ n = 0) (a b : Addr) {r : Bool} (hr : (sameAddr a b).run P w = .ok r w) : (Op.equalIn (d + 1) t (.pointer (some a)) (.pointer (some b))).run P w = .ok r w := by simp [Op.equalIn, runU hu, runS hn, h0, hr]
theorem eqS1 {el : TypeId} (hu : P.underlying t = some (.slice el)) (b : Option Addr) (n m n' m' : Nat) : (Op.equalIn (d + 1) t (.slice none n m) (.slice b n' m')).run P w = .ok b.isNone w := by simp [Op.equalIn, runU hu]
theorem eqS2 {el : TypeId} (hu : P.underlying t = some (.slice el)) (a : Addr) (n m n' m' : Nat) : (Op.equalIn (d + 1) t (.slice (some a) n m) (.slice none n' m')).run P w = .ok false w := by simp [Op.equalIn, runU hu]
theorem eqM1 {kt el : TypeId} (hu : P.underlying t = some (.map kt el)) (b : Option Nat) : (Op.equalIn (d + 1) t (.map none) (.map b)).run P w = .ok b.isNone w := by simp [Op.equalIn, runU hu]
theorem eqM2 {kt el : TypeId} (hu : P.underlying t = some (.map kt el)) (a : Nat) : (Op.equalIn (d + 1) t (.map (some a)) (.map none)).run P w = .ok false w := by simp [Op.equalIn, runU hu]
theorem eqF1 {ps rs : Array TypeId} {v : Bool} (hu : P.underlying t = some (.func ps rs v)) : (Op.equalIn (d + 1) t .nilFunc .nilFunc).run P w = .ok true w := by simp [Op.equalIn, runU hu]
theorem eqF2 {ps rs : Array TypeId} {v : Bool} (hu : P.underlying t = some (.func ps rs v)) (f : Fn) (a c : Array Value) : (Op.equalIn (d + 1) t .nilFunc (.func f a c)).run P w = .ok false w := by simp [Op.equalIn, runU hu]
theorem eqF3 {ps rs : Array TypeId} {v : Bool} (hu : P.underlying t = some (.func ps rs v)) (f : Fn) (a c : Array Value) : (Op.equalIn (d + 1) t (.func f a c) .nilFunc).run P w = .ok false w := by simp [Op.equalIn, runU hu]
theorem eqI1 {ms : Array (String × TypeId)} (hu : P.underlying t = some (.interface ms)) : (Op.equalIn (d + 1) t .nilIface .nilIface).run P w = .ok true w := by simp [Op.equalIn, runU hu]
theorem eqI2 {ms : Array (String × TypeId)} (hu : P.underlying t = some (.interface ms)) (u : TypeId) (v : Value) : (Op.equalIn (d + 1) t .nilIface (.iface u v)).run P w = .ok false w := by simp [Op.equalIn, runU hu]
theorem eqI3 {ms : Array (String × TypeId)} (hu : P.underlying t = some (.interface ms)) (u : TypeId) (v : Value) : (Op.equalIn (d + 1) t (.iface u v) .nilIface).run P w = .ok false w := by simp [Op.equalIn, runU hu]
theorem eqI4 {ms : Array (String × TypeId)} (hu : P.underlying t = some (.interface ms)) {u u' : TypeId} (hne : ¬ u = u') (v v' : Value) : (Op.equalIn (d + 1) t (.iface u v) (.iface u' v')).run P w = .ok false w := by simp [Op.equalIn, runU hu, hne]
theorem eqI5 {ms : Array (String × TypeId)} (hu : P.underlying t = some (.interface ms)) {u : TypeId} {i : TypeInfo} (hi : P.info? u = some i) (hc : i.comparable = true) {v v' : Value} {r : Bool} (hr : (Op.equalIn d u v v').run P w = .ok r w) :
    (Op.equalIn (d + 1) t (.iface u v) (.iface u v')).run P w = .ok r w := by simp [Op.equalIn, runU hu, runI hi, hc, hr]
theorem eqG1 {ms : Array (String × TypeId)} (hu : P.underlying t = some (.interface ms)) : (Op.eqGuardIn (d + 1) t .nilIface .nilIface).run P w = .ok (!ms.isEmpty) w := by simp [Op.eqGuardIn, runU hu]
end
theorem eqOf {P : Program} {t : TypeId} {x y : Value} {w : World} {r r' : Bool} (h : (Op.equalIn (9999 + 1) t x y).run P w = .ok r w) (e : r = r' := by rfl) : (Op.equal t x y).run P w = .ok r' w := e ▸ h
/-- What an equality comes to. -/
def EqIs (P : Program) (t : TypeId) (kx : Bool) (x' y' : Value) (r : Bool) (w : World) : Prop :=
  (Op.equal t x' y').run P w = .ok r w ∧ (∀ (ox oy : Operand) (op : BinOp), kx = (isK ox || isK oy) → (eqGuard op t ox oy x' y').run P w = .ok () w) ∧
    binOp .eql t x' y' = (do pure (.bool (← Op.equal t x' y'))) ∧ binOp .neq t x' y' = (do pure (.bool (!(← Op.equal t x' y'))))
theorem isK_eq (o : Operand) : isK o = (match o with | .const _ => true | _ => false) := by cases o <;> rfl
theorem eqVK_good {P : Program} {t : TypeId} {q : EqK} {kx : Bool} {x y : AV} {h : Heap} {H : Bid → AObj} {nx : Bid} {k : Bool → A} (hh : HS h H nx) (hq : eqKind P t = some q) (hk : eqVK P q kx x y h k = .good) :
    ∃ r, k r = .good ∧ ∀ (φ : Phi) (w : World) (H' : Bid → AObj) (nx' : Bid) (x' y' : Value), (H' = H ∨ q.isPtr = false) → R φ H' nx' w → VR φ x x' → VR φ y y' → EqIs P t kx x' y' r w := by
  simp only [eqKind] at hq
  split at hq
  · rename_i hu
    cases hq
    simp only [eqVK, asBoolK_good] at hk
    obtain ⟨a, rfl, b, rfl, hk⟩ := hk
    refine ⟨_, hk, fun φ w H' nx' x' y' _ hR hx hy => ?_⟩
    rw [hx.bool_inv, hy.bool_inv]
    refine ⟨?_, fun ox oy op _ => by cases op <;> simp [eqGuard], rfl, rfl⟩
    rw [Op.equal, Op.maxDepth, run_equalIn_bool' w 9999 t a b hu]
    congr 1
    cases a <;> cases b <;> rfl
  · rename_i el hu
    simp only [ob_some, bb_some, notB_eq, beqB, Option.some.injEq] at hq
    obtain ⟨n, hn, hne, rfl⟩ := hq
    have hn0 : ¬ n = 0 := by simpa using hne
    simp only [eqVK, asPtrZ_good, hh.get, bidEq_eq, boolRec_good, bbK_good, andB_eq, Bool.and_eq_true, decide_eq_true_eq, decide_eq_false_iff_not] at hk
    rcases hk with ⟨rfl, ⟨rfl, hk⟩ | ⟨b, i, rfl, hk⟩⟩ | ⟨b, i, rfl, ⟨rfl, hk⟩ | ⟨c, j, rfl, ⟨rfl, hk⟩ | ⟨hbc, ⟨hb, hc⟩, hk⟩⟩⟩
    · refine ⟨_, hk, fun φ w H' nx' x' y' _ hR hx hy => ?_⟩
      rw [hx.nilp_inv, hy.nilp_inv]
      exact ⟨eqOf (eqP1 _ w hu _), fun ox oy op _ => by cases op <;> simp [eqGuard], rfl, rfl⟩
    · refine ⟨_, hk, fun φ w H' nx' x' y' _ hR hx hy => ?_⟩
      obtain ⟨p, hp, rfl⟩ := hy.ptr_inv
      rw [hx.nilp_inv]
      exact ⟨eqOf (eqP1 _ w hu _), fun ox oy op _ => by cases op <;> simp [eqGuard], rfl, rfl⟩
    · refine ⟨_, hk, fun φ w H' nx' x' y' _ hR hx hy => ?_⟩
      obtain ⟨p, hp, rfl⟩ := hx.ptr_inv
      rw [hy.nilp_inv]
      exact ⟨eqOf (eqP2 _ w hu _), fun ox oy op _ => by cases op <;> simp [eqGuard], rfl, rfl⟩
    · refine ⟨_, hk, fun φ w H' nx' x' y' _ hR hx hy => ?_⟩
      obtain ⟨p, hp, rfl⟩ := hx.ptr_inv
      obtain ⟨p', hp', rfl⟩ := hy.ptr_inv
      rw [hp] at hp'; cases hp'
      refine ⟨eqOf (eqP3 _ w hu hn hn0 _ _ (r := Nat.beq i j) ?_), fun ox oy op _ => by cases op <;> simp [eqGuard], rfl, rfl⟩
      have e : (p.addr i == p.addr j) = Nat.beq i j := by
        rw [Bool.eq_iff_iff]
        simp [PB.addr]
      have e2 : ((p.addr i).block == (p.addr j).block) = true := by simp [PB.addr]
      simp [sameAddr, e2, e]
    · refine ⟨_, hk, fun φ w H' nx' x' y' hH hR hx hy => ?_⟩
      rcases hH with rfl | hH
      · obtain ⟨p, hp, rfl⟩ := hx.ptr_inv
        obtain ⟨p', hp', rfl⟩ := hy.ptr_inv
        obtain ⟨cc, ty, fr, h1, h2⟩ := isCells_OR hb (hR.obj _ _ hp)
        obtain ⟨cc', ty', fr', h3, h4⟩ := isCells_OR hc (hR.obj _ _ hp')
        have live : ∀ o, isCells o = true → o.isNone = false := by intro o; cases o <;> simp [isCells, AObj.isNone]
        have hne : p.blk ≠ p'.blk := fun e => hbc (hR.inj _ _ _ _ hp hp' (live _ hb) (live _ hc) e)
        refine ⟨eqOf (eqP3 _ w hu hn hn0 _ _ (r := false) ?_), fun ox oy op _ => by cases op <;> simp [eqGuard], rfl, rfl⟩
        have := sameAddr_apart (P := P) (w := w) (a := p.addr i) (b := p'.addr j) hne h1 h3 h2 h4
        exact this
      · cases hH
  · rename_i el hu
    cases hq
    simp only [eqVK, asSlK_good, no_good', and_false, exists_false, or_false] at hk
    rcases hk with ⟨rfl, ⟨rfl, hk⟩ | ⟨b, o, n, l, u, s, rfl, hk⟩⟩ | ⟨b, o, n, l, u, s, rfl, rfl, hk⟩
    · refine ⟨_, hk, fun φ w H' nx' x' y' _ hR hx hy => ?_⟩
      rw [hx.nils_inv, hy.nils_inv]
      exact ⟨eqOf (eqS1 _ w hu _ _ _ _ _), fun ox oy op _ => by cases op <;> simp [eqGuard], rfl, rfl⟩
    · refine ⟨_, hk, fun φ w H' nx' x' y' _ hR hx hy => ?_⟩
      obtain ⟨p, a, c, hp, rfl, _⟩ := hy.slice_inv
      rw [hx.nils_inv]
      exact ⟨eqOf (eqS1 _ w hu _ _ _ _ _), fun ox oy op _ => by cases op <;> simp [eqGuard], rfl, rfl⟩
    · refine ⟨_, hk, fun φ w H' nx' x' y' _ hR hx hy => ?_⟩
      obtain ⟨p, a, c, hp, rfl, _⟩ := hx.slice_inv
      rw [hy.nils_inv]
      exact ⟨eqOf (eqS2 _ w hu _ _ _ _ _), fun ox oy op _ => by cases op <;> simp [eqGuard], rfl, rfl⟩
  · rename_i kt el hu
    cases hq
    simp only [eqVK, asMapK_good, no_good', and_false, exists_false, or_false] at hk
    rcases hk with ⟨rfl, ⟨rfl, hk⟩ | ⟨b, rfl, hk⟩⟩ | ⟨b, rfl, rfl, hk⟩
    · refine ⟨_, hk, fun φ w H' nx' x' y' _ hR hx hy => ?_⟩
      rw [hx.nilm_inv, hy.nilm_inv]
      exact ⟨eqOf (eqM1 _ w hu _), fun ox oy op _ => by cases op <;> simp [eqGuard], rfl, rfl⟩
    · refine ⟨_, hk, fun φ w H' nx' x' y' _ hR hx hy => ?_⟩
      obtain ⟨p, hp, rfl⟩ := hy.map_inv
      rw [hx.nilm_inv]
      exact ⟨eqOf (eqM1 _ w hu _), fun ox oy op _ => by cases op <;> simp [eqGuard], rfl, rfl⟩
    · refine ⟨_, hk, fun φ w H' nx' x' y' _ hR hx hy => ?_⟩
      obtain ⟨p, hp, rfl⟩ := hx.map_inv
      rw [hy.nilm_inv]
      exact ⟨eqOf (eqM2 _ w hu _), fun ox oy op _ => by cases op <;> simp [eqGuard], rfl, rfl⟩
  · rename_i ps rs va hu
    cases hq
    simp only [eqVK, asFuncK_good, no_good', and_false, exists_false, or_false] at hk
    rcases hk with ⟨rfl, ⟨rfl, hk⟩ | ⟨fn, a, c, rfl, hk⟩⟩ | ⟨fn, a, c, rfl, rfl, hk⟩
    · refine ⟨_, hk, fun φ w H' nx' x' y' _ hR hx hy => ?_⟩
      rw [hx.nilf_inv, hy.nilf_inv]
      exact ⟨eqOf (eqF1 _ w hu), fun ox oy op _ => by cases op <;> simp [eqGuard], rfl, rfl⟩
    · refine ⟨_, hk, fun φ w H' nx' x' y' _ hR hx hy => ?_⟩
      obtain ⟨fn', a', c', rfl, _⟩ := hy.func_inv
      rw [hx.nilf_inv]
      exact ⟨eqOf (eqF2 _ w hu _ _ _), fun ox oy op _ => by cases op <;> simp [eqGuard], rfl, rfl⟩
    · refine ⟨_, hk, fun φ w H' nx' x' y' _ hR hx hy => ?_⟩
      obtain ⟨fn', a', c', rfl, _⟩ := hx.func_inv
      rw [hy.nilf_inv]
      exact ⟨eqOf (eqF3 _ w hu _ _ _), fun ox oy op _ => by cases op <;> simp [eqGuard], rfl, rfl⟩
  · rename_i ms hu
    cases hq
    simp only [eqVK, asIfaceK_good, boolRec_good, bbK_good, orB_eq, Bool.or_eq_true, beqB, decide_eq_true_eq, decide_eq_false_iff_not, asNatK_good, kindEq_eq] at hk
    rcases hk with ⟨rfl, ⟨rfl, hkx, hk⟩ | ⟨u, v, rfl, hk⟩⟩ | ⟨u, v, rfl, ⟨rfl, hk⟩ | ⟨u', v', rfl, ⟨rfl, hid, j, a, rfl, j', b, rfl, rfl, hk⟩ | ⟨hne, hk⟩⟩⟩
    · refine ⟨_, hk, fun φ w H' nx' x' y' _ hR hx hy => ?_⟩
      rw [hx.nili_inv, hy.nili_inv]
      refine ⟨eqOf (eqI1 _ w hu), fun ox oy op hko => ?_, rfl, rfl⟩
      have hg : (Op.eqGuardIn Op.maxDepth t .nilIface .nilIface).run P w = .ok (!ms.isEmpty) w := eqG1 9999 w hu
      cases op <;> first | (simp [eqGuard]; done) | skip
      all_goals
        cases ox <;> cases oy <;> first
          | (simp [eqGuard]; done)
          | (have hkx' : kx = false := hko
             rcases hkx with h | h
             · rw [hkx'] at h; cases h
             · have h' : ms = #[] := by simpa using h
               simp [eqGuard, hg, h'])
    · refine ⟨_, hk, fun φ w H' nx' x' y' _ hR hx hy => ?_⟩
      obtain ⟨z, rfl, hz⟩ := hy.iface_inv
      rw [hx.nili_inv]
      exact ⟨eqOf (eqI2 _ w hu _ _), fun ox oy op _ => by cases op <;> simp [eqGuard], rfl, rfl⟩
    · refine ⟨_, hk, fun φ w H' nx' x' y' _ hR hx hy => ?_⟩
      obtain ⟨z, rfl, hz⟩ := hx.iface_inv
      rw [hy.nili_inv]
      exact ⟨eqOf (eqI3 _ w hu _ _), fun ox oy op _ => by cases op <;> simp [eqGuard], rfl, rfl⟩
    · refine ⟨_, hk, fun φ w H' nx' x' y' _ hR hx hy => ?_⟩
      obtain ⟨z, rfl, hz⟩ := hx.iface_inv
      obtain ⟨z', rfl, hz'⟩ := hy.iface_inv
      rw [hz.int_inv, hz'.int_inv]
      simp only [intDyn] at hid
      split at hid
      · rename_i i hi
        simp only [andB_eq, Bool.and_eq_true, intElem] at hid
        obtain ⟨hcmp, hint⟩ := hid
        split at hint
        · rename_i k' hk'
          have he := run_equalIn_int (P := P) w 9998 u j k' (a : Int) (b : Int) hk'
          have e : ((a : Int) == (b : Int)) = Nat.beq a b := by rw [Bool.eq_iff_iff]; simp; omega
          rw [e] at he
          exact ⟨eqOf (eqI5 _ w hu hi hcmp he) (by simp), fun ox oy op _ => by cases op <;> simp [eqGuard], rfl, rfl⟩
        · cases hint
      · cases hid
    · refine ⟨_, hk, fun φ w H' nx' x' y' _ hR hx hy => ?_⟩
      obtain ⟨z, rfl, hz⟩ := hx.iface_inv
      obtain ⟨z', rfl, hz'⟩ := hy.iface_inv
      exact ⟨eqOf (eqI4 _ w hu hne _ _), fun ox oy op _ => by cases op <;> simp [eqGuard], rfl, rfl⟩
  · rename_i len el hu
    simp only [ob_some, bb_some, andB_eq, notB_eq, Bool.and_eq_true, beqB, decide_eq_true_eq, Option.some.injEq, intElem] at hq
    obtain ⟨⟨hg, hel⟩, n, hn, rfl, rfl⟩ := hq
    split at hel
    · rename_i k' hk'
      simp only [eqVK, asAggK_good, bbK_good, andB_eq, Bool.and_eq_true, lenIs_eq, decide_eq_true_eq] at hk
      obtain ⟨xs, rfl, ys, rfl, ⟨hxl, hyl⟩, hk⟩ := hk
      obtain ⟨r, hk, hr⟩ := intsEqK_good hk
      refine ⟨r, hk, fun φ w H' nx' x' y' _ hR hx hy => ?_⟩
      obtain ⟨c, rfl, hc⟩ := hx.agg_inv
      obtain ⟨c', rfl, hc'⟩ := hy.agg_inv
      obtain ⟨h1, h2, h3⟩ := hr φ _ _ hc hc'
      have hcs : c.size = len := by have := hc.size; omega
      simp only [Array.length_toList, Array.getElem?_toList, hcs] at h2 h3
      refine ⟨run_eqArr hu hk' hn 9998 h2 h3 w, fun ox oy op _ => ?_, rfl, rfl⟩
      have hg' : P.eqGuardType P.depth t = false := by simpa using hg
      cases op <;> simp [eqGuard, hg']
    · cases hel
  · cases hq
end Go.Ev
end

section
set_option maxRecDepth 2000
set_option autoImplicit false
set_option linter.unusedSimpArgs false
set_option linter.unusedVariables false
namespace Go.Ev

section
variable {C : Cx} {e : Env} {f : Nat → AV} {h : Heap} {k : AV → Heap → A} {o : Oper}
/-- What an operator on two values comes to. -/
def B2Is (P : Program) (op : BinOp) (t : TypeId) (kx : Bool) (x y : AV) (H : Bid → AObj) (v : AV) (q : Bool) : Prop :=
  ∀ (φ : Phi) (w : World) (H' : Bid → AObj) (nx' : Bid) (x' y' : Value), (H' = H ∨ q = false) → R φ H' nx' w → VR φ x x' → VR φ y y' → ∀ (ox oy : Operand), kx = (isK ox || isK oy) →
    (eqGuard op t ox oy x' y').run P w = .ok () w ∧ ∃ v', (binOp op t x' y').run P w = .ok v' w ∧ VR φ v v'
/-- May the operator look at memory? -/
def ptrOp (P : Program) (op : BinOp) (t : TypeId) : Bool := (match op with | .eql => true | .neq => true | _ => false) && (match P.underlying t with | some (.pointer _) => true | _ => false)
theorem eqKind_ptr {P : Program} {t : TypeId} {q : EqK} (h : eqKind P t = some q) (hp : (match P.underlying t with | some (.pointer _) => true | _ => false) = false) : q.isPtr = false := by
  simp only [eqKind] at h
  split at h
  · cases h; rfl
  · rename_i hu; rw [hu] at hp; cases hp
  · cases h; rfl
  · cases h; rfl
  · cases h; rfl
  · cases h; rfl
  · simp only [ob_some, bb_some, Option.some.injEq] at h
    obtain ⟨_, _, _, _, rfl⟩ := h; rfl
  · cases h
theorem eqBinK_good {P : Program} {op : BinOp} {t : TypeId} {kx : Bool} {x y : AV} {H : Bid → AObj} {nx : Bid} {k : AV → A} (hh : HS h H nx) (hk : eqBinK P op t kx x y h k = .good) : ∃ v, k v = .good ∧ B2Is P op t kx x y H v (ptrOp P op t) := by
  cases op <;> first | (exact absurd hk no_good) | skip
  · simp only [eqBinK, obK_good, bK_eq] at hk
    obtain ⟨q, hq, hk⟩ := hk
    obtain ⟨r, hk, hr⟩ := eqVK_good hh hq hk
    refine ⟨_, hk, fun φ w H' nx' x' y' hH hR hx hy ox oy hko => ?_⟩
    obtain ⟨h1, h2, h3, h4⟩ := hr φ w H' nx' x' y' (hH.imp id fun h => eqKind_ptr hq (by simpa [ptrOp] using h)) hR hx hy
    exact ⟨h2 ox oy _ hko, .bool r, by rw [h3]; simp [h1], .bool r⟩
  · simp only [eqBinK, obK_good, bK_eq] at hk
    obtain ⟨q, hq, hk⟩ := hk
    obtain ⟨r, hk, hr⟩ := eqVK_good hh hq hk
    refine ⟨_, hk, fun φ w H' nx' x' y' hH hR hx hy ox oy hko => ?_⟩
    obtain ⟨h1, h2, h3, h4⟩ := hr φ w H' nx' x' y' (hH.imp id fun h => eqKind_ptr hq (by simpa [ptrOp] using h)) hR hx hy
    exact ⟨h2 ox oy _ hko, .bool (!r), by rw [h4]; simp [h1], by rw [notB_eq]; exact .bool (!r)⟩
theorem guard_int {P : Program} {op : BinOp} {t : TypeId} {ox oy : Operand} {j : IntKind} {a : Int} {y : Value} {w : World} : (eqGuard op t ox oy (.int j a) y).run P w = .ok () w := by
  cases op <;> simp [eqGuard]
theorem BinIs.b2 {P : Program} {op : BinOp} {t : TypeId} {kx : Bool} {j j' : IntKind} {a b : Int} {x y v : AV} {H : Bid → AObj} {q : Bool} (h : BinIs op j a j' b v) (hx : ∀ φ x', VR φ x x' → x' = .int j a) (hy : ∀ φ y', VR φ y y' → y' = .int j' b) : B2Is P op t kx x y H v q := by
  intro φ w H' nx' x' y' _ _ h1 h2 ox oy _
  rw [hx φ x' h1, hy φ y' h2]
  exact ⟨guard_int, h P t φ w⟩
theorem binK_good {P : Program} {op : BinOp} {t : TypeId} {kx : Bool} {x y : AV} {H : Bid → AObj} {nx : Bid} {k : AV → A} (hh : HS h H nx) (hk : binK x y op P t kx h k = .good) : ∃ v, k v = .good ∧ B2Is P op t kx x y H v (ptrOp P op t) := by
  cases x with
  | int j a =>
    have hk : bInt j a y op k = .good := hk
    cases y <;> first | (exact absurd hk no_good) | skip
    · obtain ⟨v, hk, hv⟩ := intBinK_good (show intBinK op j a _ _ k = .good from hk)
      exact ⟨v, hk, hv.b2 (fun φ x' h => h.int_inv) (fun φ y' h => h.int_inv)⟩
    · obtain ⟨v, hk, hv⟩ := zBinK_good (show zBinK op j (.ofNat a) _ (.negSucc _) k = .good from hk)
      exact ⟨v, hk, hv.b2 (fun φ x' h => h.int_inv) (fun φ y' h => h.neg_inv)⟩
    · rename_i lo hi _
      have hk : bbK (kindEq j .i64) (capBinK op a lo hi k) = .good := hk
      simp only [bbK_good, kindEq_eq, decide_eq_true_eq] at hk
      obtain ⟨hj, hk2⟩ := hk
      subst hj
      cases op <;> first | (exact absurd hk2 no_good) | skip
      simp only [capBinK, boolRec_good, bbK_good, andB_eq, notB_eq, beqB, bleB, Bool.and_eq_true, Bool.not_eq_true', decide_eq_true_eq, decide_eq_false_iff_not] at hk2
      rcases hk2 with ⟨h1, hk⟩ | ⟨h1, ⟨h2, h3⟩, hk⟩
      · refine ⟨_, hk, fun φ w H' nx' x' y' _ _ hx hy ox oy _ => ?_⟩
        rw [hx.int_inv]
        cases hy with
        | cap lo hi c hlo hhi =>
          refine ⟨guard_int, .bool false, ?_, .bool false⟩
          have : ¬ ((c : Int) < (a : Int)) := by omega
          simp [binOp, Op.intCmp, this]
      · refine ⟨_, hk, fun φ w H' nx' x' y' _ _ hx hy ox oy _ => ?_⟩
        rw [hx.int_inv]
        cases hy with
        | cap lo hi c hlo hhi =>
          refine ⟨guard_int, .bool true, ?_, .bool true⟩
          have : (c : Int) < (a : Int) := by omega
          simp [binOp, Op.intCmp, this]
  | neg j a =>
    have hk : bNeg j a y op k = .good := hk
    cases y <;> first | (exact absurd hk no_good) | skip
    · obtain ⟨v, hk, hv⟩ := zBinK_good (show zBinK op j (.negSucc a) _ (.ofNat _) k = .good from hk)
      exact ⟨v, hk, hv.b2 (fun φ x' h => h.neg_inv) (fun φ y' h => h.int_inv)⟩
    · obtain ⟨v, hk, hv⟩ := zBinK_good (show zBinK op j (.negSucc a) _ (.negSucc _) k = .good from hk)
      exact ⟨v, hk, hv.b2 (fun φ x' h => h.neg_inv) (fun φ y' h => h.neg_inv)⟩
  | str l d =>
    have hk : asStrK y (fun m c => strBinK op l d m c k) = .good := hk
    simp only [asStrK_good] at hk
    obtain ⟨m, c, rfl, hk⟩ := hk
    obtain ⟨v, hk, hv⟩ := strBinK_good hk
    refine ⟨v, hk, fun φ w H' nx' x' y' _ _ hx hy ox oy _ => ?_⟩
    obtain ⟨s, rfl, hs⟩ := hx.str_inv
    obtain ⟨s', rfl, hs'⟩ := hy.str_inv
    exact ⟨by cases op <;> simp [eqGuard], hv P t φ w s s' hs hs'⟩
  | _ => exact eqBinK_good hh hk
theorem binF_good {H : Bid → AObj} {nx : Bid} (hh : HS h H nx) (he : EnvIs e f) {op : BinOp} {t u : TypeId} {x y : Operand} (ho : o.op = .binOp op t x y u) (hk : binF op t x y u C e h k = .good) :
    ∃ v, k v h = .good ∧ ReadS C.P o f H v ∧ (cls' C.P o.op = 0 → PureS C.P o f v) := by
  simp only [binF, opdK_good he] at hk
  obtain ⟨hx, hy, hk⟩ := hk
  obtain ⟨v, hk, hv⟩ := binK_good hh hk
  have run : ∀ (φ : Phi) (w : World) (ρ : Operand → Value) (H' : Bid → AObj) (nx' : Bid), (H' = H ∨ ptrOp C.P op t = false) → R φ H' nx' w → VRho φ f ρ → ∃ v', (execOp ρ o).run C.P w = .ok (.value v') w ∧ VR φ v v' := by
    intro φ w ρ H' nx' hH hR hρ
    obtain ⟨h1, v', h2, h3⟩ := hv φ w H' nx' _ _ hH hR (hρ.opd hR hx) (hρ.opd hR hy) x y (by simp)
    exact ⟨v', by simp only [execOp, ho, Sem.run_bind, h1, h2, Result.andThen_ok, Sem.run_pure], h3⟩
  refine ⟨v, hk, fun φ w ρ nx hR hρ => run φ w ρ H nx (.inl rfl) hR hρ, fun h0 φ w ρ H' nx hR hρ => run φ w ρ H' nx (.inr ?_) hR hρ⟩
  rw [ho] at h0
  cases op <;> first | rfl | skip
  all_goals
    simp only [cls'] at h0
    simp only [ptrOp, Bool.true_and]
    split at h0
    · cases h0
    · rename_i hu
      split
      · rename_i hu'; exact absurd hu' (hu _)
      · rfl
theorem ones (j : IntKind) : BitVec.ofInt j.bits (if j.signed then -1 else j.max) = BitVec.allOnes j.bits := by cases j <;> decide
theorem not_run {j : IntKind} {n : Nat} (hn : n ≤ imax j) : Op.unary .xor (.int j (n : Int)) = pure (.int j (j.wrap ((pow2 j - 1 - n : Nat) : Int))) := by
  have e : (~~~(BitVec.ofInt j.bits (n : Int))).toNat = pow2 j - 1 - n := by rw [BitVec.toNat_not, zbits_eq, zbits_small hn, pow2_eq]
  simp only [Op.unary, Op.intBits, ones, BitVec.allOnes_xor, e]
theorem unF_good (he : EnvIs e f) {op : UnOp} {t : TypeId} {x : Operand} (ho : o.op = .unOp op t x) (hk : unF op t x C e h k = .good) : ∃ v, k v h = .good ∧ PureS C.P o f v := by
  simp only [unF, opdK_good he] at hk
  obtain ⟨hx, hk⟩ := hk
  have fin : ∀ v, (∀ (φ : Phi) (x' : Value), VR φ (opdS x f) x' → ∃ v', Op.unary op x' = pure v' ∧ VR φ v v') → k v h = .good → ∃ v, k v h = .good ∧ PureS C.P o f v := by
    intro v hv hk
    refine ⟨v, hk, fun φ w ρ H nx hR hρ => ?_⟩
    obtain ⟨v', h1, h2⟩ := hv φ _ (hρ.opd hR hx)
    exact ⟨v', by simp only [execOp, ho, h1, Sem.run_bind, Sem.run_pure, Result.andThen_ok], h2⟩
  cases op
  · simp only [unK, asIntK_good] at hk
    rcases hk with ⟨j, n, hv, hk⟩ | ⟨j, n, hv, hk⟩
    · obtain ⟨v, hk, hn⟩ := mkNegK_good hk
      refine fin v (fun φ x' hx' => ?_) hk
      rw [hv] at hx'
      refine ⟨_, ?_, hn φ⟩
      rw [hx'.int_inv]
      have : (0 : Int) - (n : Int) = -(n : Int) := by omega
      simp only [Op.unary, Op.intArith, this]
    · obtain ⟨v, hk, hn⟩ := mkK_good hk
      refine fin v (fun φ x' hx' => ?_) hk
      rw [hv] at hx'
      refine ⟨_, ?_, hn φ⟩
      rw [hx'.neg_inv]
      have : (0 : Int) - Int.negSucc n = ((n.succ : Nat) : Int) := by omega
      simp only [Op.unary, Op.intArith, this]
  · simp only [unK, asNatK_good, bbK_good, bleB, decide_eq_true_eq, boolRec_good, fN_eq] at hk
    obtain ⟨j, n, hv, hn, ⟨hs, hk⟩ | ⟨hs, hk⟩⟩ := hk
    · refine fin _ (fun φ x' hx' => ?_) hk
      rw [hv] at hx'
      rw [hx'.int_inv]
      refine ⟨_, not_run hn, ?_⟩
      have : j.wrap ((pow2 j - 1 - n : Nat) : Int) = Int.negSucc n := by
        cases j <;> simp [IntKind.signed] at hs <;> simp only [imax] at hn <;> simp only [pow2, IntKind.bits, IntKind.wrap, IntKind.signed] <;> simp <;> omega
      rw [this]; exact .neg j n
    · refine fin _ (fun φ x' hx' => ?_) hk
      rw [hv] at hx'
      rw [hx'.int_inv]
      refine ⟨_, not_run hn, ?_⟩
      have : j.wrap ((pow2 j - 1 - n : Nat) : Int) = ((Nat.sub (imax j) n : Nat) : Int) := by
        rw [subE]
        cases j <;> simp [IntKind.signed] at hs <;> simp only [imax] at hn <;> simp only [imax, pow2, IntKind.bits, IntKind.wrap, IntKind.signed] <;> simp <;> omega
      rw [this]; exact .int j _
  · simp only [unK, asBoolK_good, bK_eq] at hk
    obtain ⟨b, hv, hk⟩ := hk
    refine fin _ (fun φ x' hx' => ?_) hk
    rw [hv] at hx'
    rw [hx'.bool_inv, notB_eq]
    exact ⟨_, rfl, .bool _⟩
  · exact absurd hk no_good
end
end Go.Ev
end
