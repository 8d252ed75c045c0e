/- Part of the proof: a verified evaluator of the model (its definitions, and that it is sound). -/
import Derived.Test.YtmacmaaancfhiaaGreatDoorEvL
section
set_option maxRecDepth 2000
set_option autoImplicit false
set_option linter.unusedSimpArgs false
set_option linter.unusedVariables false
namespace Go.Ev

/-! ### code -/
section
variable {C : Cx} {x : X}
/-- What the evaluator says of a piece of code is what the machine does. -/
def EvOk (C : Cx) (x : X) (c : Code) : Prop := ∀ (e : Env) (h : Heap) (s : AS) (kn : KS) (kx : KX), EnvIs e s.f → HS h s.H s.nx → evK C c x e h s.d kn kx = .good →
  (∃ s' e' h', EnvIs e' s'.f ∧ HS h' s'.H s'.nx ∧ kn e' h' s'.d = .good ∧ Ends C.P x c s s') ∨
  (∃ q s' e' h', EnvIs e' s'.f ∧ HS h' s'.H s'.nx ∧ kx q e' h' s'.d = .good ∧ Leaves C.P x [.code c] q s s')
theorem loopK_good {c : Code} (ih : EvOk C x c) {kx : KX} : ∀ (n : Nat) (e : Env) (h : Heap) (s : AS), EnvIs e s.f → HS h s.H s.nx → loopK (fun e h d kn => evK C c x e h d kn kx) n e h s.d = .good →
    ∃ q s' e' h', EnvIs e' s'.f ∧ HS h' s'.H s'.nx ∧ kx q e' h' s'.d = .good ∧ Leaves C.P x [.code c, .inLoop c] q s s'
  | 0, e, h, s, _, _, hk => absurd hk no_good
  | n + 1, e, h, s, he, hh, hk => by
    have hk : evK C c x e h s.d (loopK (fun e h d kn => evK C c x e h d kn kx) n) kx = .good := hk
    rcases ih e h s _ _ he hh hk with ⟨s₁, e₁, h₁, he₁, hh₁, hk₁, h1⟩ | ⟨q, s₁, e₁, h₁, he₁, hh₁, hk₁, h1⟩
    · obtain ⟨q, s', e', h', he', hh', hk', h2⟩ := loopK_good ih n e₁ h₁ s₁ he₁ hh₁ hk₁
      refine ⟨q, s', e', h', he', hh', hk', .head (fun k => ?_) h2⟩
      exact (h1 (.inLoop c :: k)).trans (.step s₁ fun _ _ _ _ => stepR_inLoop)
    · exact ⟨q, s₁, e₁, h₁, he₁, hh₁, hk₁, h1.behind (l' := [.inLoop c]) fun k => .pass k rfl⟩
theorem evOk (hC : COk C) (hx : XOk C x) : ∀ c : Code, EvOk C x c := by
  intro c
  induction c with
  | skip => exact fun e h s kn kx he hh hk => .inl ⟨s, e, h, he, hh, hk, fun k => .step s fun _ _ _ _ => stepR_skip⟩
  | region id ops draw =>
    intro e h s kn kx he hh hk
    obtain ⟨s', e', h', he', hh', hk', h1⟩ := region_good hC hx he hh (id := id) hk
    exact .inl ⟨s', e', h', he', hh', hk', h1⟩
  | seq a b iha ihb =>
    intro e h s kn kx he hh hk
    have hk : evK C a x e h s.d (fun e h d => evK C b x e h d kn kx) kx = .good := hk
    rcases iha e h s _ _ he hh hk with ⟨s₁, e₁, h₁, he₁, hh₁, hk₁, h1⟩ | ⟨q, s₁, e₁, h₁, he₁, hh₁, hk₁, h1⟩
    · rcases ihb e₁ h₁ s₁ _ _ he₁ hh₁ hk₁ with ⟨s₂, e₂, h₂, he₂, hh₂, hk₂, h2⟩ | ⟨q, s₂, e₂, h₂, he₂, hh₂, hk₂, h2⟩
      · exact .inl ⟨s₂, e₂, h₂, he₂, hh₂, hk₂, fun k => (Goes.step s fun _ _ _ _ => stepR_seq).trans ((h1 (.code b :: k)).trans (h2 k))⟩
      · exact .inr ⟨q, s₂, e₂, h₂, he₂, hh₂, hk₂, .head (l' := [.code b]) (fun k => (Goes.step s fun _ _ _ _ => stepR_seq).trans (h1 (.code b :: k))) h2⟩
    · exact .inr ⟨q, s₁, e₁, h₁, he₁, hh₁, hk₁, .head (l' := [.code a, .code b]) (fun k => Goes.step s fun _ _ _ _ => stepR_seq) (h1.behind (l' := [.code b]) fun k => .pass k rfl)⟩
  | cond c a b iha ihb =>
    intro e h s kn kx he hh hk
    have hk : opdK c e (fun v => asBoolK v fun t => Bool.rec (evK C b x e h s.d kn kx) (evK C a x e h s.d kn kx) t) = .good := hk
    simp only [opdK_good he, asBoolK_good, boolRec_good] at hk
    obtain ⟨hc, t, hv, hk⟩ := hk
    have go : ∀ k, Goes C.P x (.code (.cond c a b) :: k) (.code (if t then a else b) :: k) s s := by
      intro k φ w bb act cs hb hs
      refine ⟨φ, w, act, hs, .refl _ _ _ _, .one (stepR_cond ?_)⟩
      have := (hs.env.rho).opd hs.mem hc
      rw [hv] at this
      exact this.bool_inv
    rcases hk with ⟨rfl, hk⟩ | ⟨rfl, hk⟩
    · rcases iha e h s _ _ he hh hk with ⟨s₁, e₁, h₁, he₁, hh₁, hk₁, h1⟩ | ⟨q, s₁, e₁, h₁, he₁, hh₁, hk₁, h1⟩
      · exact .inl ⟨s₁, e₁, h₁, he₁, hh₁, hk₁, fun k => (go k).trans (h1 k)⟩
      · exact .inr ⟨q, s₁, e₁, h₁, he₁, hh₁, hk₁, .head (l' := [.code a]) (fun k => (go k : Goes C.P x (.code (.cond c a b) :: k) (.code a :: k) s s)) h1⟩
    · rcases ihb e h s _ _ he hh hk with ⟨s₁, e₁, h₁, he₁, hh₁, hk₁, h1⟩ | ⟨q, s₁, e₁, h₁, he₁, hh₁, hk₁, h1⟩
      · exact .inl ⟨s₁, e₁, h₁, he₁, hh₁, hk₁, fun k => (go k).trans (h1 k)⟩
      · exact .inr ⟨q, s₁, e₁, h₁, he₁, hh₁, hk₁, .head (l' := [.code b]) (fun k => (go k : Goes C.P x (.code (.cond c a b) :: k) (.code b :: k) s s)) h1⟩
  | block id a iha =>
    intro e h s kn kx he hh hk
    have hk : evK C a x e h s.d kn (fun q => exitIs id q kn kx) = .good := hk
    have go : ∀ k, Goes C.P x ([.code (.block id a)] ++ k) ([.code a, .inBlock id] ++ k) s s := fun k => Goes.step s fun _ _ _ _ => stepR_block
    rcases iha e h s _ _ he hh hk with ⟨s₁, e₁, h₁, he₁, hh₁, hk₁, h1⟩ | ⟨q, s₁, e₁, h₁, he₁, hh₁, hk₁, h1⟩
    · exact .inl ⟨s₁, e₁, h₁, he₁, hh₁, hk₁, fun k => (go k).trans ((h1 (.inBlock id :: k)).trans (.step s₁ fun _ _ _ _ => stepR_inBlock))⟩
    · cases q with
      | exit j =>
        have hk₁ : (Bool.rec (kx (.exit j)) kn (Nat.beq j id) : KS) e₁ h₁ s₁.d = .good := hk₁
        by_cases hj : j = id
        · subst hj
          have hb : Nat.beq j j = true := by simp
          rw [hb] at hk₁
          refine .inl ⟨s₁, e₁, h₁, he₁, hh₁, hk₁, fun k => ?_⟩
          obtain ⟨k', hs, hg⟩ := h1 (.inBlock j :: k)
          have hs : exitTo j k' = some k := by
            have : exitTo j (.inBlock j :: k) = some k := by simp [exitTo]
            rw [← this]; exact hs
          exact (go k).trans (hg.trans (.step s₁ fun _ _ _ _ => stepR_exit hs))
        · have hb : Nat.beq j id = false := by simpa using hj
          rw [hb] at hk₁
          refine .inr ⟨.exit j, s₁, e₁, h₁, he₁, hh₁, hk₁, .head go (h1.behind (l' := [.inBlock id]) fun k => ?_)⟩
          have : (id == j) = false := by simpa using fun h => hj h.symm
          show exitTo j (.inBlock id :: k) = exitTo j k
          simp [exitTo, this]
      | goto l => exact .inr ⟨.goto l, s₁, e₁, h₁, he₁, hh₁, hk₁, .head go (h1.behind (l' := [.inBlock id]) fun k => rfl)⟩
      | ret => exact .inr ⟨.ret, s₁, e₁, h₁, he₁, hh₁, hk₁, .head go (h1.behind (l' := [.inBlock id]) fun k => trivial)⟩
  | loop a iha =>
    intro e h s kn kx he hh hk
    obtain ⟨q, s₁, e₁, h₁, he₁, hh₁, hk₁, h1⟩ := loopK_good iha x.lf e h s he hh hk
    exact .inr ⟨q, s₁, e₁, h₁, he₁, hh₁, hk₁, .head (fun k => Goes.step s fun _ _ _ _ => stepR_loop) h1⟩
  | rangeFunc g ps as bd _ _ => exact fun e h s kn kx he hh hk => rangeFunc_good hC hx he hh hk
  | exit id => exact fun e h s kn kx he hh hk => .inr ⟨.exit id, s, e, h, he, hh, hk, fun k => ⟨k, .refl _ _, .refl _ _ _ _⟩⟩
  | scope a iha =>
    intro e h s kn kx he hh hk
    have hk : evK C a x e h s.d kn (fun q => notGoto q kx) = .good := hk
    have go : ∀ k, Goes C.P x ([.code (.scope a)] ++ k) ([.code a, .inScope a] ++ k) s s := fun k => Goes.step s fun _ _ _ _ => stepR_scope
    rcases iha e h s _ _ he hh hk with ⟨s₁, e₁, h₁, he₁, hh₁, hk₁, h1⟩ | ⟨q, s₁, e₁, h₁, he₁, hh₁, hk₁, h1⟩
    · exact .inl ⟨s₁, e₁, h₁, he₁, hh₁, hk₁, fun k => (go k).trans ((h1 (.inScope a :: k)).trans (.step s₁ fun _ _ _ _ => stepR_inScope))⟩
    · cases q with
      | exit j => exact .inr ⟨.exit j, s₁, e₁, h₁, he₁, hh₁, hk₁, .head go (h1.behind (l' := [.inScope a]) fun k => rfl)⟩
      | goto l => exact absurd hk₁ no_good
      | ret => exact .inr ⟨.ret, s₁, e₁, h₁, he₁, hh₁, hk₁, .head go (h1.behind (l' := [.inScope a]) fun k => trivial)⟩
  | label l => exact fun e h s kn kx he hh hk => .inl ⟨s, e, h, he, hh, hk, fun k => .step s fun _ _ _ _ => stepR_label⟩
  | goto l => exact fun e h s kn kx he hh hk => .inr ⟨.goto l, s, e, h, he, hh, hk, fun k => ⟨k, .refl _ _, .refl _ _ _ _⟩⟩
  | ret => exact fun e h s kn kx he hh hk => .inr ⟨.ret, s, e, h, he, hh, hk, fun k => ⟨k, .refl _ _, .refl _ _ _ _⟩⟩
  | refuse why => exact fun e h s kn kx he hh hk => absurd hk no_good
end
end Go.Ev
end

section
set_option maxRecDepth 2000
set_option autoImplicit false
set_option linter.unusedSimpArgs false
set_option linter.unusedVariables false
namespace Go.Ev

/-! ### functions -/
theorem putArgs_good {nt : Nat} (hnt : nt ≤ 256) {k : Env → A} : ∀ (args : List AV) (i : Nat) (e : Env) (f : Nat → AV), EnvIs e f → putArgsK nt args i e k = .good →
    (args ≠ [] → i + args.length ≤ nt) ∧ ∃ e' f', EnvIs e' f' ∧ k e' = .good ∧ ∀ t, f' t = if i ≤ t ∧ t < i + args.length then args.getD (t - i) .poison else f t
  | [], i, e, f, he, hk => ⟨fun h => absurd rfl h, e, f, he, hk, fun t => by rw [if_neg (by simp)]⟩
  | v :: args, i, e, f, he, hk => by
    have hk : esK nt i v e (fun e => putArgsK nt args (Nat.succ i) e k) = .good := hk
    obtain ⟨h1, e1, he1, hk1⟩ := esK_good he hnt hk
    obtain ⟨h2, e', f', he', hk', hf⟩ := putArgs_good hnt args (i + 1) e1 _ he1 hk1
    refine ⟨fun _ => ?_, e', f', he', hk', fun t => ?_⟩
    · by_cases ha : args = []
      · subst ha; simp; omega
      · have := h2 ha; simp; omega
    · rw [hf t]
      by_cases h3 : i + 1 ≤ t ∧ t < i + 1 + args.length
      · rw [if_pos h3, if_pos (by simp; omega), show t - i = (t - (i + 1)) + 1 by omega]; rfl
      · rw [if_neg h3]
        by_cases h4 : t = i
        · subst h4; rw [upd_same, if_pos (by simp)]; simp
        · rw [upd_other _ _ h4, if_neg (by simp; omega)]
section
variable {C : Cx}
/-- A frame that returns runs its deferred calls. -/
theorem runDefers_good (hC : COk C) {call : CallM} (hcall : CallOk C.P call) {K : Heap → A} : ∀ (d : List ADefer) (h : Heap) (H : Bid → AObj) (nx : Bid), HS h H nx → runDefersK C call d h K = .good →
    ∃ h' H' nx', K h' = .good ∧ HS h' H' nx' ∧ ∀ (φ : Phi) (w : World) (fr : Frame) (cs : List Frame), R φ H nx w → DsR φ d fr.defers → fr.mode = .returning →
      ∃ φ' w', R φ' H' nx' w' ∧ Grows φ H nx w φ' H' nx' w' ∧ Steps C.P (lone fr cs w) (lone { fr with defers := [] } cs w')
  | [], h, H, nx, hh, hk => ⟨h, H, nx, hk, hh, fun φ w fr cs hR hd hm => by
      have : fr.defers = [] := by cases hd' : fr.defers with | nil => rfl | cons => rw [hd'] at hd; cases hd
      refine ⟨φ, w, hR, .refl _ _ _ _, ?_⟩
      rw [← this]; exact .refl _ _⟩
  | .mk (.fn fn cap) args :: d, h, H, nx, hh, hk => by
    cases fn with
    | method n => exact absurd hk no_good
    | yield b => exact absurd hk no_good
    | func f =>
    have hk : (Option.rec (call true f (app args cap) h fun _ h => runDefersK C call d h K) (fun s => Special.rec (fun q => runExt q (app args cap) h fun _ h => runDefersK C call d h K) no s) (C.special f) : A) = .good := hk
    cases hs : C.special f with
    | none =>
      rw [hs] at hk
      obtain ⟨v, h1, H1, nx1, hk1, hh1, hc, hb⟩ := hcall true f _ _ _ _ _ hh hk
      obtain ⟨h', H', nx', hk', hh', hd⟩ := runDefers_good hC hcall d h1 H1 nx1 hh1 hk1
      refine ⟨h', H', nx', hk', hh', fun φ w fr cs hR hds hm => ?_⟩
      cases hfd : fr.defers with
      | nil => rw [hfd] at hds; cases hds
      | cons d0 ds =>
      rw [hfd] at hds
      cases hds with
      | cons hd0 hds =>
      cases hd0 with
      | @fn _ f' _ _ c' a' hf hc' ha' =>
      cases hf
      obtain ⟨φ1, w1, v1, g1, g2, g3, g4⟩ := hc φ w (a' ++ c') { fr with defers := ds } cs hR (by
        have := ha'.append hc'
        simpa [app_eq] using this) (fun _ => hm)
      obtain ⟨φ2, w2, q1, q2, q3⟩ := hd φ1 w1 { fr with defers := ds } cs g2 (hds.mono g3.le) hm
      refine ⟨φ2, w2, q1, g3.trans q2, .trans (.head ?_ g4) q3⟩
      have hr : (invoke (.fn (.func f) c') a').run C.P w = .ok (.enter f (a' ++ c')) w := callFunc_body hC hb
      exact step_lone_go (by simp [stepG, unwind, hm, hfd, callDeferred, Sem.runT_eq, hr])
    | some s =>
      rw [hs] at hk
      cases s with
      | fork => exact absurd hk no_good
      | ext q =>
      obtain ⟨v, h1, H1, nx1, hk1, hh1, hc⟩ := enterExt_good hC hs hh (args := app args cap) hk
      obtain ⟨h', H', nx', hk', hh', hd⟩ := runDefers_good hC hcall d h1 H1 nx1 hh1 hk1
      refine ⟨h', H', nx', hk', hh', fun φ w fr cs hR hds hm => ?_⟩
      cases hfd : fr.defers with
      | nil => rw [hfd] at hds; cases hds
      | cons d0 ds =>
      rw [hfd] at hds
      cases hds with
      | cons hd0 hds =>
      cases hd0 with
      | @fn _ f' _ _ c' a' hf hc' ha' =>
      cases hf
      obtain ⟨φ1, w1, v1, g1, g2, g3, g4⟩ := hc φ w (a' ++ c') hR (by
        have := ha'.append hc'
        simpa [app_eq] using this)
      obtain ⟨φ2, w2, q1, q2, q3⟩ := hd φ1 w1 { fr with defers := ds } cs g2 (hds.mono g3.le) hm
      refine ⟨φ2, w2, q1, g3.trans q2, .head ?_ q3⟩
      have hr : (invoke (.fn (.func f) c') a').run C.P w = .ok (.value v1) w1 := g4
      exact step_lone_go (by simp [stepG, unwind, hm, hfd, callDeferred, Sem.runT_eq, hr])
  | .mk (.collected b) args :: d, h, H, nx, hh, hk => by
    have hk : hgK b h (fun o => colK o (hsK b (.deferred none) h fun h => runDefersK C call d h K)) = .good := hk
    rw [hh.get] at hk
    cases hH : H b with
    | deferred c =>
      rw [hH] at hk
      cases c with
      | none => exact absurd hk no_good
      | some l =>
      cases l with
      | cons d0 l => exact absurd hk no_good
      | nil =>
      obtain ⟨h1, hh1, hk1⟩ := hh.setG (o := .deferred none) trivial (show hsK b (.deferred none) h (fun h => runDefersK C call d h K) = .good from hk)
      obtain ⟨h', H', nx', hk', hh', hd⟩ := runDefers_good hC hcall d h1 _ nx hh1 hk1
      refine ⟨h', H', nx', hk', hh', fun φ w fr cs hR hds hm => ?_⟩
      cases hfd : fr.defers with
      | nil => rw [hfd] at hds; cases hds
      | cons d0 ds =>
      rw [hfd] at hds
      cases hds with
      | cons hd0 hds =>
      cases hd0 with
      | @collected _ p hp =>
      have hO := hR.obj _ _ hp
      rw [hH] at hO
      obtain ⟨h0, l', hl, hl'⟩ := hO
      cases hl'
      obtain ⟨r1, r2⟩ := obj_put (ob := .deferred none) (c := .deferred none) hR hp (by rw [hH]; rfl) ⟨h0, rfl⟩
      obtain ⟨φ2, w2, q1, q2, q3⟩ := hd φ (w.put p.blk (.deferred none)) { fr with defers := ds } cs r1 hds hm
      refine ⟨φ2, w2, q1, r2.trans q2, .head ?_ q3⟩
      have hr : (Instr.takeDeferred p.blk).run C.P w = .ok [] (w.put p.blk (.deferred none)) := by
        simp only [Instr.takeDeferred, Sem.run_bind, getObj_of hl (by simp), Result.andThen_ok, setObj_put hl (by simp), Sem.run_pure]
      exact step_lone_go (by simp [stepG, unwind, hm, hfd, Sem.runT_eq, hr])
    | _ => rw [hH] at hk; exact absurd hk no_good
/-- What a function gives. -/
def resS (tmps : Array Value) (r : ResultVar) : Sem Value := match r with
  | .tmp t => pure (tmps.getD t undef)
  | .cell a t => do loadVar t (← asAddr (tmps.getD a undef))
theorem res_good {e : Env} {f : Nat → AV} {h : Heap} {H : Bid → AObj} {nx : Bid} (he : EnvIs e f) (hh : HS h H nx) {K : AV → A} {r : ResultVar} (hk : resK C.P r e h K = .good) :
    ∃ v, K v = .good ∧ ∀ (φ : Phi) (w : World) (tmps : Array Value) (nt : Nat), R φ H nx w → ER φ f tmps nt → ∃ v', VR φ v v' ∧ (resS tmps r).run C.P w = .ok v' w := by
  cases r with
  | tmp t =>
    obtain ⟨ht, hk⟩ := (egK_good he K).1 (show egK t e K = .good from hk)
    exact ⟨f t, hk, fun φ w tmps nt hR hE => ⟨_, hE.at_ t (by omega), rfl⟩⟩
  | cell a t =>
    obtain ⟨ha, hk⟩ := (egK_good he _).1 (show egK a e (fun v => asPtrK v fun b i => hgK b h fun o => ldVarK C.P t o i K) = .good from hk)
    simp only [asPtrK_good, hh.get] at hk
    obtain ⟨b, i, hv, hk⟩ := hk
    obtain ⟨v, hk, hl⟩ := ldVarK_good (hh.ok b) hk
    refine ⟨v, hk, fun φ w tmps nt hR hE => ?_⟩
    have := hE.at_ a (by omega)
    rw [hv] at this
    obtain ⟨p, hp, hy⟩ := this.ptr_inv
    obtain ⟨v', hr, hv'⟩ := hl φ p w (hR.obj _ _ hp)
    exact ⟨v', hv', by simp only [resS, hy, asAddr, Sem.run_bind, Sem.run_pure, Result.andThen_ok, hr]⟩
theorem ress_good {e : Env} {f : Nat → AV} {h : Heap} {H : Bid → AObj} {nx : Bid} (he : EnvIs e f) (hh : HS h H nx) : ∀ (rs : List ResultVar) (K : List AV → A), ressK C.P rs e h K = .good →
    ∃ vs, K vs = .good ∧ ∀ (φ : Phi) (w : World) (tmps : Array Value) (nt : Nat), R φ H nx w → ER φ f tmps nt → ∃ vs', VRs φ vs vs' ∧ (rs.mapM (resS tmps)).run C.P w = .ok vs' w
  | [], K, hk => ⟨[], hk, fun φ w tmps nt hR hE => ⟨[], .nil, rfl⟩⟩
  | r :: rs, K, hk => by
    have hk : resK C.P r e h (fun v => ressK C.P rs e h fun vs => K (v :: vs)) = .good := hk
    obtain ⟨v, hk1, h1⟩ := res_good he hh hk
    obtain ⟨vs, hk2, h2⟩ := ress_good he hh rs _ hk1
    refine ⟨v :: vs, hk2, fun φ w tmps nt hR hE => ?_⟩
    obtain ⟨v', g1, g2⟩ := h1 φ w tmps nt hR hE
    obtain ⟨vs', g3, g4⟩ := h2 φ w tmps nt hR hE
    exact ⟨v' :: vs', .cons g1 g3, by rw [List.mapM_cons]; simp only [Sem.run_bind, g2, g4, Result.andThen_ok, Sem.run_pure]⟩
theorem results_good {fn : Func} {tmps : Array Value} {w : World} {φ : Phi} {vs : List AV} {vs' : List Value} {P : Program} (hv : VRs φ vs vs') (hr : (fn.results.toList.mapM (resS tmps)).run P w = .ok vs' w) : ∃ v', (results fn tmps).run P w = .ok v' w ∧ VR φ (tup vs) v' := by
  have e : results fn tmps = (do
      let l ← fn.results.mapM (resS tmps)
      pure (if h : l.size = 1 then l[0] else .tuple l)) := by
    unfold results
    congr 1
  rw [e, Array.mapM_eq_mapM_toList]
  simp only [Sem.run_bind, map_eq_pure_bind, hr, Result.andThen_ok, Sem.run_pure]
  refine ⟨_, rfl, ?_⟩
  cases hv with
  | nil => exact .tuple .nil
  | cons h hs =>
    cases hs with
    | nil => exact h
    | @cons v1 v1' vs1 vs1' h' hs =>
      rw [dif_neg (by simp)]
      exact .tuple (by simpa using .cons h (.cons h' hs))
/-- A frame that returns leaves. -/
theorem step_leave_to {P : Program} {fr c : Frame} {cs : List Frame} {w : World} {v : Value} {fn : Func} (dk : Bool) (hm : fr.mode = .returning) (hd : fr.defers = []) (hk : fr.kind = if dk then .deferred else .normal) (hc : dk = true → c.mode = .returning)
    (hf : P.funcs[fr.fn]? = some fn) (hr : (results fn fr.tmps).run P w = .ok v w) : step P (lone fr (c :: cs) w) = .next (lone (if dk then c else c.finish v) cs w) := by
  cases dk with
  | false => exact step_lone_go (by simp [stepG, unwind, doReturn, hm, hd, hk, hf, hr])
  | true => exact step_lone_go (by simp [stepG, unwind, doReturn, hm, hd, hk, hf, hr, hc rfl])
end
end Go.Ev
end

section
set_option maxRecDepth 2000
set_option autoImplicit false
set_option linter.unusedSimpArgs false
set_option linter.unusedVariables false
namespace Go.Ev

/-! ### functions, level by level -/
section
variable {C : Cx}
/-- What a frame that returns comes to. -/
theorem finishK_good (hC : COk C) {call : CallM} (hcall : CallOk C.P call) {rs : List ResultVar} {k : AV → Heap → A} {e : Env} {h : Heap} {s : AS} (he : EnvIs e s.f) (hh : HS h s.H s.nx) (hk : finishK C call rs k e h s.d = .good) :
    ∃ v h' H' nx', k v h' = .good ∧ HS h' H' nx' ∧ ∀ (φ : Phi) (w : World) (dk : Bool) (fr c : Frame) (cs : List Frame) (fn : Func) (nt : Nat), R φ s.H s.nx w → ER φ s.f fr.tmps nt → DsR φ s.d fr.defers → fr.mode = .returning → fr.kind = (if dk then .deferred else .normal) →
      (dk = true → c.mode = .returning) → C.P.funcs[fr.fn]? = some fn → fn.results.toList = rs →
      ∃ φ' w' v', VR φ' v v' ∧ R φ' H' nx' w' ∧ Grows φ s.H s.nx w φ' H' nx' w' ∧ Steps C.P (lone fr (c :: cs) w) (lone (if dk then c else c.finish v') cs w') := by
  obtain ⟨h1, H1, nx1, hk1, hh1, hd⟩ := runDefers_good hC hcall s.d h s.H s.nx hh hk
  obtain ⟨vs, hk2, hr⟩ := ress_good he hh1 rs _ hk1
  refine ⟨_, h1, H1, nx1, hk2, hh1, fun φ w dk fr c cs fn nt hR hE hds hm hki hc hf hrs => ?_⟩
  obtain ⟨φ1, w1, g1, g2, g3⟩ := hd φ w fr (c :: cs) hR hds hm
  obtain ⟨vs', q1, q2⟩ := hr φ1 w1 fr.tmps nt g1 (hE.mono g2.le)
  rw [← hrs] at q2
  obtain ⟨v', q3, q4⟩ := results_good q1 q2
  exact ⟨φ1, w1, v', q4, g1, g2, g3.trans (.one (step_leave_to dk (fr := { fr with defers := [] }) hm rfl hki hc hf q3))⟩
theorem enter_ER {φ : Phi} {args : List AV} {args' : Array Value} {nt : Nat} {f : Nat → AV} (hnt : nt ≤ 256) (hv : VRs φ args args'.toList) (hle : args.length ≤ nt) (hf : ∀ t, f t = if 0 ≤ t ∧ t < 0 + args.length then args.getD (t - 0) .poison else .undef) :
    ER φ f (args' ++ Array.replicate (nt - args'.size) undef) nt := by
  have hl : args.length = args'.size := by rw [hv.length, Array.length_toList]
  refine ⟨by simp; omega, hnt, fun t ht => ?_⟩
  rw [hf t]
  by_cases h : t < args.length
  · rw [if_pos (by omega)]
    obtain ⟨y, hy, hr⟩ := hv.get (i := t) (x := args[t]) (List.getElem?_eq_getElem h)
    rw [Array.getElem?_toList] at hy
    have : (args' ++ Array.replicate (nt - args'.size) undef).getD t undef = y := by
      rw [Array.getD_eq_getD_getElem?, Array.getElem?_append_left (by omega), hy]; rfl
    rw [this]
    simpa [h] using hr
  · rw [if_neg (by omega)]
    have : (args' ++ Array.replicate (nt - args'.size) undef).getD t undef = undef := by
      rw [Array.getD_eq_getD_getElem?, Array.getElem?_append_right (by omega), Array.getElem?_replicate]
      split <;> rfl
    rw [this]
    exact .tuple (cs' := #[]) .nil
theorem callL_good (hC : COk C) {lf : Nat} {ih : Lvl} (h1 : CallOk C.P ih.call) (h2 : RndOk C.P ih.rnd) : CallOk C.P (callL C lf ih) := by
  intro dk f args h H nx k hh hk
  simp only [callL, obK_good] at hk
  obtain ⟨fn, hf, c, hc, hk⟩ := hk
  simp only [bodyK, bbK_good, bleB, decide_eq_true_eq] at hk
  obtain ⟨hnt, hk⟩ := hk
  obtain ⟨hlen, e, f0, he, hk1, hf0⟩ := putArgs_good hnt args 0 _ _ .empty hk
  have hle : args.length ≤ fn.ntmps := by
    cases args with
    | nil => simp
    | cons a as => have := hlen (by simp); omega
  have hx : XOk C (.mk ih.call ih.rnd dk f fn.ntmps false lf) := ⟨hnt, h1, h2⟩
  have main : ∃ s' e' h', EnvIs e' s'.f ∧ HS h' s'.H s'.nx ∧ finishK C ih.call fn.results.toList k e' h' s'.d = .good ∧
      ∀ (φ : Phi) (w : World) (b : Frame) (a : Act) (cs : List Frame), BK (.mk ih.call ih.rnd dk f fn.ntmps false lf) b cs → SRel φ ⟨f0, H, nx, []⟩ fn.ntmps w a →
        ∃ φ' w' a' todo, SRel φ' s' fn.ntmps w' a' ∧ Grows φ H nx w φ' s'.H s'.nx w' ∧ Steps C.P (lone (b.atR a [.code c]) cs w) (lone { b.atR a' todo with mode := .returning } cs w') := by
    rcases evOk hC hx c e h ⟨f0, H, nx, []⟩ _ _ he hh hk1 with ⟨s', e', h', he', hh', hk', hend⟩ | ⟨q, s', e', h', he', hh', hk', hlv⟩
    · refine ⟨s', e', h', he', hh', hk', fun φ w b a cs hb hs => ?_⟩
      obtain ⟨φ', w', a', g1, g2, g3⟩ := hend [] φ w b a cs hb hs
      exact ⟨φ', w', a', [], g1, g2, g3.trans (.one (stepR_end (hb.flat rfl)))⟩
    · cases q with
      | exit id => exact absurd hk' no_good
      | goto l => exact absurd hk' no_good
      | ret =>
        refine ⟨s', e', h', he', hh', hk', fun φ w b a cs hb hs => ?_⟩
        obtain ⟨k', _, hg⟩ := hlv []
        obtain ⟨φ', w', a', g1, g2, g3⟩ := hg φ w b a cs hb hs
        exact ⟨φ', w', a', _, g1, g2, g3.trans (.one (stepR_ret (hb.flat rfl)))⟩
  obtain ⟨s', e', h', he', hh', hk', hgo⟩ := main
  obtain ⟨v, h3, H3, nx3, hk3, hh3, hfin⟩ := finishK_good hC h1 he' hh' hk'
  refine ⟨v, h3, H3, nx3, hk3, hh3, ?_, fn, hf, by rw [hc]; rfl⟩
  intro φ w args' cf cs hR hv hcm
  have hE := enter_ER hnt hv hle hf0
  have hfr : Frame.enter C.P f args' (if dk then .deferred else .normal) = (Frame.enter C.P f args' (if dk then .deferred else .normal)).atR ⟨args' ++ Array.replicate (fn.ntmps - args'.size) undef, []⟩ [.code c] := by
    simp [Frame.enter, Frame.atR, hf, hc]
  obtain ⟨φ1, w1, a1, todo, g1, g2, g3⟩ := hgo φ w (Frame.enter C.P f args' (if dk then .deferred else .normal)) ⟨args' ++ Array.replicate (fn.ntmps - args'.size) undef, []⟩ (cf :: cs)
    ⟨rfl, fun _ => rfl, (by intro h; have h : dk = false := h; subst h; rfl), (by intro h; have h : dk = true := h; subst h; exact ⟨rfl, cf, cs, rfl, hcm rfl⟩)⟩ ⟨hR, hE, .nil⟩
  obtain ⟨φ2, w2, v2, q1, q2, q3, q4⟩ := hfin φ1 w1 dk { (Frame.enter C.P f args' (if dk then .deferred else .normal)).atR a1 todo with mode := .returning } cf cs fn fn.ntmps g1.mem g1.env g1.ds rfl rfl hcm hf rfl
  refine ⟨φ2, w2, v2, q1, q2, g2.trans q3, ?_⟩
  rw [hfr]
  exact g3.trans q4
/-! #### rounds -/
theorem putPs_good {nt : Nat} (hnt : nt ≤ 256) {k : Env → A} : ∀ (ps : List Tmp) (args : List AV) (e : Env) (f : Nat → AV), EnvIs e f → putPs nt ps args e k = .good →
    ps.length = args.length ∧ ∃ e' f', EnvIs e' f' ∧ k e' = .good ∧ ∀ (φ : Phi) (tmps : Array Value) (args' : List Value), ER φ f tmps nt → VRs φ args args' → ER φ f' ((ps.zip args').foldl (fun tmps (t, a) => tmps.setIfInBounds t a) tmps) nt
  | [], args, e, f, he, hk => by
    cases args with
    | nil => exact ⟨rfl, e, f, he, hk, fun φ tmps args' hE hv => by cases hv; exact hE⟩
    | cons a as => exact absurd hk no_good
  | p :: ps, args, e, f, he, hk => by
    cases args with
    | nil => exact absurd hk no_good
    | cons v vs =>
      have hk : esK nt p v e (fun e => putPs nt ps vs e k) = .good := hk
      obtain ⟨hp, e1, he1, hk1⟩ := esK_good he hnt hk
      obtain ⟨hl, e', f', he', hk', hf⟩ := putPs_good hnt ps vs e1 _ he1 hk1
      refine ⟨by simp [hl], e', f', he', hk', fun φ tmps args' hE hv => ?_⟩
      cases hv with
      | cons h hs =>
        exact hf φ _ _ (ER.put (a := ⟨tmps, []⟩) (dst := some p) hE (by intro t h; cases h; exact hp) h) hs
theorem endRoundK_good {b : Bid} {j : Option Code} {k : AV → Heap → A} {h : Heap} {H : Bid → AObj} {nx : Bid} (hh : HS h H nx) {d : List ADefer} (hk : endRoundK b j k h d = .good) :
    d = [] ∧ ∃ h' H', k (.bool j.isNone) h' = .good ∧ HS h' H' nx ∧ ∀ φ w p, R φ H nx w → φ b = some p → ∃ w', (Instr.endRound p.blk j).run C.P w = .ok (.bool j.isNone) w' ∧ R φ H' nx w' ∧ Grows φ H nx w φ H' nx w' := by
  cases d with
  | cons d0 d => exact absurd hk no_good
  | nil =>
  refine ⟨rfl, ?_⟩
  replace hk : hgK b h (fun o => asLoopK o fun _ _ f e nt ps as bd df => hsK b (.loop (Option.rec .ready (fun _ => .done) j) j f e nt ps as bd df) h fun h => bK (isNo j) fun v => k v h) = .good := hk
  rw [hh.get] at hk
  cases hH : H b with
  | loop st p f e0 nt ps as bd df =>
    rw [hH] at hk
    have hok := hh.ok b
    rw [hH] at hok
    obtain ⟨h', hh', hk'⟩ := hh.setG (o := .loop (Option.rec .ready (fun _ => .done) j) j f e0 nt ps as bd df) hok (show hsK b (.loop (Option.rec .ready (fun _ => .done) j) j f e0 nt ps as bd df) h (fun h => bK (isNo j) fun v => k v h) = .good from hk)
    refine ⟨h', _, ?_, hh', fun φ w p hR hp => ?_⟩
    · cases j <;> exact hk'
    · have hO := hR.obj _ _ hp
      rw [hH] at hO
      obtain ⟨h0, l, h1, h2, h3, h4, h5, h6, h7, h8, h9⟩ := hO
      refine ⟨w.put p.blk (.loop { l with state := if j.isNone then .ready else .done, pending := j }), ?_, obj_put hR hp (by rw [hH]; rfl) ⟨h0, _, rfl, ?_, rfl, h4, h5, h6, h7, h8, h9⟩⟩
      · simp only [Instr.endRound, Instr.getLoop, Sem.run_bind, getObj_of h1 (by simp), Result.andThen_ok, Sem.run_pure, setObj_put h1 (by simp)]
      · cases j <;> rfl
  | _ => rw [hH] at hk; exact absurd hk no_good
theorem rndL_good (hC : COk C) {lf : Nat} {ih : Lvl} (h1 : CallOk C.P ih.call) (h2 : RndOk C.P ih.rnd) : RndOk C.P (rndL C lf ih) := by
  intro b args h H nx k hh hk
  simp only [rndL] at hk
  rw [hh.get] at hk
  cases hH : H b with
  | loop st p f e0 nt ps as bd df =>
    rw [hH] at hk
    replace hk : bbK (Nat.ble nt 256) (putPs nt ps args e0 fun e =>
      evK C as (.mk ih.call ih.rnd false f nt true lf) e h [] (fun e h d => List.rec (hgK b h fun o => asLoopK o fun s p f0 e0 nt0 ps0 as0 bd0 df0 => ALoopState.rec
        (hsK b (.loop .busy p f0 e0 nt0 ps0 as0 bd0 df0) h fun h => evK C bd (.mk ih.call ih.rnd false f nt true lf) e h [] (fun _ h d => endRoundK b none k h d) (fun q _ h d => endRoundK b (some (jumpOf q)) k h d)) no no no s) (fun _ _ _ => no) d) (fun _ _ _ _ => no)) = .good := hk
    simp only [bbK_good, bleB, decide_eq_true_eq] at hk
    obtain ⟨hnt, hk⟩ := hk
    have hok := hh.ok b
    rw [hH] at hok
    obtain ⟨f00, he00⟩ := hok
    obtain ⟨hlen, e1, f1, he1, hk1, hf1⟩ := putPs_good hnt ps args e0 f00 he00 hk
    have hx : XOk C (.mk ih.call ih.rnd false f nt true lf) := ⟨hnt, h1, h2⟩
    rcases evOk hC hx as e1 h ⟨f1, H, nx, []⟩ _ _ he1 hh hk1 with ⟨s2, e2, h2', he2, hh2, hk2, hend⟩ | ⟨q, s2, e2, h2', he2, hh2, hk2, hlv⟩
    · obtain ⟨f2, H2, nx2, d2⟩ := s2
      replace hh2 : HS h2' H2 nx2 := hh2
      cases d2 with
      | cons d0 d => exact absurd hk2 no_good
      | nil =>
      replace hk2 : hgK b h2' (fun o => asLoopK o fun s p f0 e0 nt0 ps0 as0 bd0 df0 => ALoopState.rec
        (hsK b (.loop .busy p f0 e0 nt0 ps0 as0 bd0 df0) h2' fun h => evK C bd (.mk ih.call ih.rnd false f nt true lf) e2 h [] (fun _ h d => endRoundK b none k h d) (fun q _ h d => endRoundK b (some (jumpOf q)) k h d)) no no no s) = .good := hk2
      rw [hh2.get] at hk2
      cases hH2 : H2 b with
      | loop st' p' f' e' nt' ps' as' bd' df' =>
        replace hH2 : H2 b = .loop st' p' f' e' nt' ps' as' bd' df' := hH2
        rw [hH2] at hk2
        cases st' with
        | ready =>
          have hok2 := hh2.ok b
          replace hok2 : ObjOk (H2 b) := hok2
          rw [hH2] at hok2
          obtain ⟨h3, hh3, hk3⟩ := hh2.setG (o := .loop .busy p' f' e' nt' ps' as' bd' df') hok2 (show hsK b (.loop .busy p' f' e' nt' ps' as' bd' df') h2' (fun h => evK C bd (.mk ih.call ih.rnd false f nt true lf) e2 h [] (fun _ h d => endRoundK b none k h d) (fun q _ h d => endRoundK b (some (jumpOf q)) k h d)) = .good from hk2)
          have body : ∃ (j : Option Code) (s4 : AS) (e4 : Env) (h4 : Heap), HS h4 s4.H s4.nx ∧ endRoundK b j k h4 s4.d = .good ∧ ∀ (φ : Phi) (w : World) (bb : Frame) (a : Act) (c : Frame) (cs : List Frame) (l : Nat), BK (.mk ih.call ih.rnd false f nt true lf) bb (c :: cs) → bb.roundOf = some l → bb.kind = .normal →
              SRel φ ⟨f2, updB H2 b (.loop .busy p' f' e' nt' ps' as' bd' df'), nx2, []⟩ nt w a →
              ∃ φ' w', R φ' s4.H s4.nx w' ∧ Grows φ (updB H2 b (.loop .busy p' f' e' nt' ps' as' bd' df')) nx2 w φ' s4.H s4.nx w' ∧ ∀ v w'', (Instr.endRound l j).run C.P w' = .ok v w'' → Steps C.P (lone (bb.atR a [.code bd]) (c :: cs) w) (lone (c.finish v) cs w'') := by
            rcases evOk hC hx bd e2 h3 ⟨f2, updB H2 b (.loop .busy p' f' e' nt' ps' as' bd' df'), nx2, []⟩ _ _ he2 hh3 hk3 with ⟨s4, e4, h4, he4, hh4, hk4, hend4⟩ | ⟨q, s4, e4, h4, he4, hh4, hk4, hlv4⟩
            · refine ⟨none, s4, e4, h4, hh4, hk4, fun φ w bb a c cs l hb hr hkd hs => ?_⟩
              obtain ⟨φ', w', a', g1, g2, g3⟩ := hend4 [] φ w bb a (c :: cs) hb hs
              exact ⟨φ', w', g1.mem, g2, fun v w'' hv => g3.trans (.one (stepR_round_end hr hkd hv))⟩
            · refine ⟨some (jumpOf q), s4, e4, h4, hh4, hk4, fun φ w bb a c cs l hb hr hkd hs => ?_⟩
              obtain ⟨k', hso, hg⟩ := hlv4 []
              obtain ⟨φ', w', a', g1, g2, g3⟩ := hg φ w bb a (c :: cs) hb hs
              refine ⟨φ', w', g1.mem, g2, fun v w'' hv => g3.trans (.one ?_)⟩
              cases q with
              | exit id => exact stepR_round_exit hr hkd hso hv
              | goto l' => exact stepR_round_goto hr hkd hso hv
              | ret => exact stepR_round_ret hr hkd hv
          obtain ⟨j, s4, e4, h4, hh4, hk4, hbody⟩ := body
          obtain ⟨hd4, h5, H5, hk5, hh5, hE5⟩ := endRoundK_good (C := C) hh4 hk4
          refine ⟨_, h5, H5, s4.nx, hk5, hh5, ?_⟩
          intro φ w pb args' c cs hR hpb hv
          have hO := hR.obj _ _ hpb
          rw [hH] at hO
          obtain ⟨g0, L, g1, g2, g3, g4, g5, g6, g7, g8, g9⟩ := hO
          have hsz : args'.size = L.params.size := by
            rw [← Array.length_toList, ← hv.length, ← Array.length_toList, g5, hlen]
          refine ⟨L.fn, (L.params.zip args').foldl (fun tmps (t, a) => tmps.setIfInBounds t a) L.tmps, L.assign, L.body, ?_, ?_⟩
          · simp only [Instr.yield, Instr.getLoop, Sem.run_bind, getObj_of g1 (by simp), Result.andThen_ok, Sem.run_pure, hsz, ne_eq, not_true_eq_false, if_false]
          have hE1 : ER φ f1 ((L.params.zip args').foldl (fun tmps (t, a) => tmps.setIfInBounds t a) L.tmps) nt := by
            have := hf1 φ L.tmps args'.toList (g9 _ he00) hv
            rw [← g5] at this
            rwa [← Array.toList_zip, Array.foldl_toList] at this
          let bb : Frame := Frame.round pb.blk L.fn ((L.params.zip args').foldl (fun tmps (t, a) => tmps.setIfInBounds t a) L.tmps) L.assign L.body .normal
          have hBK : BK (.mk ih.call ih.rnd false f nt true lf) bb (c :: cs) := ⟨g4, (by intro h; cases h), fun _ => rfl, (by intro h; cases h)⟩
          obtain ⟨φ2, w2, a2, q1, q2, q3⟩ := hend [.beginRound, .code bd] φ w bb ⟨_, []⟩ (c :: cs) hBK ⟨hR, hE1, .nil⟩
          have hpb2 := q2.le _ _ hpb
          have hO2 := q1.mem.obj _ _ hpb2
          replace hO2 : OR φ2 (H2 b) pb w2.heap[pb.blk]? := hO2
          rw [hH2] at hO2
          obtain ⟨u0, L2, u1, u2, u3, u4, u5, u6, u7, u8, u9⟩ := hO2
          obtain ⟨r1, r2⟩ := obj_put (ob := .loop .busy p' f' e' nt' ps' as' bd' df') (c := .loop { L2 with state := .busy }) q1.mem hpb2 (by show (H2 b).own = true; rw [hH2]; rfl) ⟨u0, _, rfl, rfl, u3, u4, u5, u6, u7, u8, u9⟩
          have hbr : (Instr.beginRound pb.blk).run C.P w2 = .ok () (w2.put pb.blk (.loop { L2 with state := .busy })) := by
            have : L2.state = .ready := u2
            simp only [Instr.beginRound, Instr.getLoop, Sem.run_bind, getObj_of u1 (by simp), Result.andThen_ok, Sem.run_pure, setObj_put u1 (by simp), this]
          obtain ⟨φ4, w4, t1, t2, t3⟩ := hbody φ2 _ bb a2 c cs pb.blk hBK rfl rfl ⟨r1, q1.env, q1.ds⟩
          obtain ⟨w5, y1, y2, y3⟩ := hE5 φ4 w4 pb t1 (t2.le _ _ hpb2)
          refine ⟨φ4, w5, _, .bool _, y2, ((q2.trans r2).trans t2).trans y3, ?_⟩
          have hbb : Frame.round pb.blk L.fn ((L.params.zip args').foldl (fun tmps (t, a) => tmps.setIfInBounds t a) L.tmps) L.assign L.body .normal = bb.atR ⟨(L.params.zip args').foldl (fun tmps (t, a) => tmps.setIfInBounds t a) L.tmps, []⟩ [.code as, .beginRound, .code bd] := by
            simp only [bb, Frame.round, Frame.atR, g6, g7]
          rw [hbb]
          exact q3.trans (.head (stepR_beginRound (l := pb.blk) rfl hbr) (t3 _ _ y1))
        | _ => exact absurd hk2 no_good
      | _ => rw [hH2] at hk2; exact absurd hk2 no_good
    · exact absurd hk2 no_good
  | _ => rw [hH] at hk; exact absurd hk no_good
theorem level_good (hC : COk C) (lf : Nat) : ∀ n, CallOk C.P (level C lf n).call ∧ RndOk C.P (level C lf n).rnd
  | 0 => ⟨fun _ _ _ _ _ _ _ _ hk => absurd hk no_good, fun _ _ _ _ _ _ _ hk => absurd hk no_good⟩
  | n + 1 => let ⟨h1, h2⟩ := level_good hC lf n; ⟨callL_good hC h1 h2, rndL_good hC h1 h2⟩
end
end Go.Ev
end

section
set_option maxRecDepth 2000
set_option autoImplicit false
set_option linter.unusedSimpArgs false
set_option linter.unusedVariables false
namespace Go.Ev

/-! ### from a run of the evaluator to a call of the machine -/
section
variable {C : Cx}
/-- A call that is seen whole: it stands before its return. -/
def TopS (P : Program) (f : FuncId) (args : List AV) (H : Bid → AObj) (nx : Bid) (v : AV) (H' : Bid → AObj) (nx' : Bid) : Prop :=
  ∀ (φ : Phi) (w : World) (args' : Array Value) (cs : List Frame), R φ H nx w → VRs φ args args'.toList →
    ∃ φ' w' v' fr, VR φ' v v' ∧ R φ' H' nx' w' ∧ Grows φ H nx w φ' H' nx' w' ∧ Steps P (lone (Frame.enter P f args' .normal) cs w) (lone fr cs w') ∧ fr.fn = f ∧ fr.leaving P w' (.returned v')
theorem top_good (hC : COk C) {lf n : Nat} {f : FuncId} {args : List AV} {h : Heap} {H : Bid → AObj} {nx : Bid} {k : AV → Heap → A} (hh : HS h H nx) (hk : (level C lf (n + 1)).call false f args h k = .good) :
    ∃ v h' H' nx', k v h' = .good ∧ HS h' H' nx' ∧ TopS C.P f args H nx v H' nx' := by
  obtain ⟨h1, h2⟩ := level_good hC lf n
  replace hk : callL C lf (level C lf n) false f args h k = .good := hk
  simp only [callL, obK_good] at hk
  obtain ⟨fn, hf, c, hc, hk⟩ := hk
  simp only [bodyK, bbK_good, bleB, decide_eq_true_eq] at hk
  obtain ⟨hnt, hk⟩ := hk
  obtain ⟨hlen, e, f0, he, hk1, hf0⟩ := putArgs_good hnt args 0 _ _ .empty hk
  have hle : args.length ≤ fn.ntmps := by
    cases args with
    | nil => simp
    | cons a as => have := hlen (by simp); omega
  have hx : XOk C (.mk (level C lf n).call (level C lf n).rnd false f fn.ntmps false lf) := ⟨hnt, h1, h2⟩
  have main : ∃ s' e' h', EnvIs e' s'.f ∧ HS h' s'.H s'.nx ∧ finishK C (level C lf n).call fn.results.toList k e' h' s'.d = .good ∧
      ∀ (φ : Phi) (w : World) (b : Frame) (a : Act) (cs : List Frame), BK (.mk (level C lf n).call (level C lf n).rnd false f fn.ntmps false lf) b cs → SRel φ ⟨f0, H, nx, []⟩ fn.ntmps w a →
        ∃ φ' w' a' todo, SRel φ' s' fn.ntmps w' a' ∧ Grows φ H nx w φ' s'.H s'.nx w' ∧ Steps C.P (lone (b.atR a [.code c]) cs w) (lone { b.atR a' todo with mode := .returning } cs w') := by
    rcases evOk hC hx c e h ⟨f0, H, nx, []⟩ _ _ he hh hk1 with ⟨s', e', h', he', hh', hk', hend⟩ | ⟨q, s', e', h', he', hh', hk', hlv⟩
    · refine ⟨s', e', h', he', hh', hk', fun φ w b a cs hb hs => ?_⟩
      obtain ⟨φ', w', a', g1, g2, g3⟩ := hend [] φ w b a cs hb hs
      exact ⟨φ', w', a', [], g1, g2, g3.trans (.one (stepR_end (hb.flat rfl)))⟩
    · cases q with
      | exit id => exact absurd hk' no_good
      | goto l => exact absurd hk' no_good
      | ret =>
        refine ⟨s', e', h', he', hh', hk', fun φ w b a cs hb hs => ?_⟩
        obtain ⟨k', _, hg⟩ := hlv []
        obtain ⟨φ', w', a', g1, g2, g3⟩ := hg φ w b a cs hb hs
        exact ⟨φ', w', a', _, g1, g2, g3.trans (.one (stepR_ret (hb.flat rfl)))⟩
  obtain ⟨s', e', h', he', hh', hk', hgo⟩ := main
  obtain ⟨h3, H3, nx3, hk3, hh3, hd⟩ := runDefers_good hC h1 s'.d h' s'.H s'.nx hh' hk'
  obtain ⟨vs, hk4, hr⟩ := ress_good he' hh3 fn.results.toList _ hk3
  refine ⟨_, h3, H3, nx3, hk4, hh3, ?_⟩
  intro φ w args' cs hR hv
  have hE := enter_ER hnt hv hle hf0
  have hfr : Frame.enter C.P f args' .normal = (Frame.enter C.P f args' .normal).atR ⟨args' ++ Array.replicate (fn.ntmps - args'.size) undef, []⟩ [.code c] := by
    simp [Frame.enter, Frame.atR, hf, hc]
  obtain ⟨φ1, w1, a1, todo, g1, g2, g3⟩ := hgo φ w (Frame.enter C.P f args' .normal) ⟨args' ++ Array.replicate (fn.ntmps - args'.size) undef, []⟩ cs
    ⟨rfl, fun _ => rfl, fun _ => rfl, (by intro h; cases h)⟩ ⟨hR, hE, .nil⟩
  obtain ⟨φ2, w2, q1, q2, q3⟩ := hd φ1 w1 { (Frame.enter C.P f args' .normal).atR a1 todo with mode := .returning } cs g1.mem g1.ds rfl
  obtain ⟨vs', q4, q5⟩ := hr φ2 w2 a1.tmps fn.ntmps q1 (g1.env.mono q2.le)
  obtain ⟨v', q6, q7⟩ := results_good q4 q5
  refine ⟨φ2, w2, v', { (Frame.enter C.P f args' .normal).atR a1 todo with mode := .returning, defers := [] }, q7, q1, g2.trans q2, ?_, rfl, rfl, rfl, rfl, fn, hf, q6⟩
  rw [hfr]
  exact g3.trans q3
/-- A world of which nothing is known. -/
noncomputable def Phi0 (w : World) : Phi := fun b => if b.num ≤ 255 then some ⟨b.num, 0, 0⟩ else none
theorem gbid_num {g : Nat} (h : g ≤ 255) : (gbid g).num = g := by
  have h1 : Nat.mod (Nat.div g 16) 16 = g / 16 % 16 := rfl
  have h2 : Nat.mod g 16 = g % 16 := rfl
  have e : (gbid g).num = D.d0.num * 4096 + D.d0.num * 256 + (D.nat (Nat.mod (Nat.div g 16) 16)).num * 16 + (D.nat (Nat.mod g 16)).num := by
    simp only [gbid, Bid.num]
  have h0 : D.d0.num = 0 := rfl
  rw [e, h1, h2, D.nat_num _ (by omega), D.nat_num _ (by omega), h0]
  omega
theorem R0 (w : World) : R (Phi0 w) (fun _ => .none) (.mk .d0 .d1 .d0 .d0) w where
  obj b p h := trivial
  inj b b' p p' h h' n := by cases n
  below b p h := by
    simp only [Phi0] at h
    split at h
    · show b.num < 256; omega
    · cases h
  inside b p h n := by cases n
  glob g hg := ⟨⟨g, 0, 0⟩, by simp only [Phi0]; rw [gbid_num hg, if_pos hg], rfl, rfl⟩
/-- A call of nothing that is known of the memory. -/
theorem calls_good (hC : COk C) {lf n : Nat} {f : FuncId} {k : AV → Heap → A} (hk : (level C lf (n + 1)).call false f [] Heap.empty k = .good) :
    ∃ v h', k v h' = .good ∧ ∀ w : World, Calls C.P f #[] w fun e w' => ∃ v' φ, e = .returned v' ∧ VR φ v v' ∧ w.heap.size ≤ w'.heap.size ∧ (∀ c, c < w.heap.size → w'.heap[c]? = w.heap[c]?) ∧ w'.os = w.os ∧ w'.tape = w.tape ∧ w'.output = w.output := by
  have hE : HS Heap.empty (fun _ => .none) (.mk .d0 .d1 .d0 .d0) := ⟨.empty, fun _ => trivial⟩
  obtain ⟨v, h', H', nx', hk', hh', ht⟩ := top_good hC hE hk
  refine ⟨v, h', hk', fun w cs => ?_⟩
  obtain ⟨φ', w', v', fr, h1, h2, h3, h4, h5, h6⟩ := ht (Phi0 w) w #[] cs (R0 w) .nil
  exact ⟨.returned v', w', fr, ⟨v', φ', rfl, h1, h3.size, (fun c hc => h3.frame c hc fun b p _ ho => by cases ho), h3.os, h3.tape, h3.output⟩, h4, h5, h6⟩
/-- A call of which the arguments are known in part, and nothing of the memory. -/
theorem calls_args_good (hC : COk C) {lf n : Nat} {f : FuncId} {args : List AV} {k : AV → Heap → A} (hk : (level C lf (n + 1)).call false f args Heap.empty k = .good) :
    ∃ v h', k v h' = .good ∧ ∀ (w : World) (args' : Array Value), VRs (Phi0 w) args args'.toList → Calls C.P f args' w fun e w' => ∃ v' φ, e = .returned v' ∧ VR φ v v' ∧ w.heap.size ≤ w'.heap.size ∧ (∀ c, c < w.heap.size → w'.heap[c]? = w.heap[c]?) ∧ w'.os = w.os ∧ w'.tape = w.tape ∧ w'.output = w.output := by
  have hE : HS Heap.empty (fun _ => .none) (.mk .d0 .d1 .d0 .d0) := ⟨.empty, fun _ => trivial⟩
  obtain ⟨v, h', H', nx', hk', hh', ht⟩ := top_good hC hE hk
  refine ⟨v, h', hk', fun w args' hv cs => ?_⟩
  obtain ⟨φ', w', v', fr, h1, h2, h3, h4, h5, h6⟩ := ht (Phi0 w) w args' cs (R0 w) hv
  exact ⟨.returned v', w', fr, ⟨v', φ', rfl, h1, h3.size, (fun c hc => h3.frame c hc fun b p _ ho => by cases ho), h3.os, h3.tape, h3.output⟩, h4, h5, h6⟩
end
/-! #### a world of which some package variables are known -/
/-- Variables laid as rows that may only be read: the number, the type, the cells. -/
noncomputable def globK (l : List (Nat × TypeId × List AV)) (h : Heap) (k : Heap → A) : A := List.rec (motive := fun _ => Heap → A) k (fun x _ ih h => ctofK x.2.2 fun t => fN (llen x.2.2) fun m => hsK (gbid x.1) (.cells x.2.1 m t .read) h ih) l h
def GlobIs (l : List (Nat × TypeId × List AV)) (b : Bid) (o : AObj) : Prop := ∃ x ∈ l, b = gbid x.1 ∧ ∃ t, o = .cells x.2.1 x.2.2.length t .read ∧ CTIs t x.2.2.length (ofL x.2.2)
theorem globK_good {k : Heap → A} : ∀ (l : List (Nat × TypeId × List AV)) (h : Heap) (H : Bid → AObj) (nx : Bid), HS h H nx → globK l h k = .good → ∃ h' H', HS h' H' nx ∧ k h' = .good ∧ ∀ b, H' b = H b ∨ GlobIs l b (H' b)
  | [], h, H, nx, hh, hk => ⟨h, H, hh, hk, fun b => .inl rfl⟩
  | x :: l, h, H, nx, hh, hk => by
    have hk : ctofK x.2.2 (fun t => fN (llen x.2.2) fun m => hsK (gbid x.1) (.cells x.2.1 m t .read) h fun h => globK l h k) = .good := hk
    obtain ⟨t, ht, hk1⟩ := ctofK_good hk
    simp only [fN_eq, llen_eq] at hk1
    obtain ⟨h1, hh1, hk2⟩ := hh.setG (o := .cells x.2.1 x.2.2.length t .read) ⟨_, ht⟩ hk1
    obtain ⟨h', H', hh', hk', hH⟩ := globK_good l h1 _ nx hh1 hk2
    refine ⟨h', H', hh', hk', fun b => ?_⟩
    rcases hH b with e | ⟨y, hy, e1, e2⟩
    · by_cases hb : b = gbid x.1
      · subst hb
        rw [e, updB_same]
        exact .inr ⟨x, by simp, rfl, t, rfl, ht⟩
      · rw [e, updB_other _ _ hb]; exact .inl rfl
    · exact .inr ⟨y, by simp [hy], e1, e2⟩
def GlobAt (w : World) (l : List (Nat × TypeId × List AV)) : Prop := ∀ x ∈ l, x.1 ≤ 255 ∧ ∃ cc fr, w.heap[x.1]? = some (.cells cc x.2.1 fr) ∧ VRs (fun _ => none) x.2.2 cc.toList
def csz (w : World) (g : Nat) : Nat := match w.heap[g]? with | some (.cells c _ _) => c.size | _ => 0
noncomputable def PhiG (w : World) : Phi := fun b => if b.num ≤ 255 then some ⟨b.num, 0, csz w b.num⟩ else none
theorem RG {w : World} {l : List (Nat × TypeId × List AV)} {H : Bid → AObj} (hl : GlobAt w l) (hH : ∀ b, H b = .none ∨ GlobIs l b (H b)) : R (PhiG w) H (.mk .d0 .d1 .d0 .d0) w where
  obj b p h := by
    rcases hH b with e | ⟨x, hx, rfl, t, e, ht⟩
    · rw [e]; trivial
    · obtain ⟨h1, cc, fr, h2, h3⟩ := hl x hx
      simp only [PhiG] at h
      rw [gbid_num h1, if_pos h1] at h
      cases h
      rw [e]
      have hlen : cc.size = x.2.2.length := by rw [h3.length, Array.length_toList]
      refine ⟨cc, fr, h2, by simp [csz, h2], by simp [csz, h2, hlen], (by intro h; cases h), (by intro h; cases h), fun f hf i hi => ?_⟩
      obtain ⟨y, hy, hr⟩ := h3.get (i := i) (x := x.2.2[i]) (List.getElem?_eq_getElem hi)
      rw [Array.getElem?_toList] at hy
      refine ⟨y, by simpa using hy, ?_⟩
      rw [hf.uniq ht hi]
      have : ofL x.2.2 i = x.2.2[i] := by simp [ofL, List.getD_eq_getElem?_getD, hi]
      rw [this]
      exact hr.mono (fun b p h => by cases h)
  inj b b' p p' h h' _ _ e := by
    simp only [PhiG] at h h'
    split at h
    · split at h'
      · cases h; cases h'
        exact Bid.num_inj e
      · cases h'
    · cases h
  below b p h := by
    simp only [PhiG] at h
    split at h
    · show b.num < 256; omega
    · cases h
  inside b p h n := by
    rcases hH b with e | ⟨x, hx, rfl, t, e, ht⟩
    · rw [e] at n; cases n
    · obtain ⟨h1, cc, fr, h2, h3⟩ := hl x hx
      simp only [PhiG] at h
      rw [gbid_num h1, if_pos h1] at h
      cases h
      exact (Array.getElem?_eq_some_iff.1 h2).1
  glob g hg := ⟨⟨g, 0, csz w g⟩, by simp only [PhiG]; rw [gbid_num hg, if_pos hg], rfl, rfl⟩
/-- A call of which the arguments are known in part, and of the memory some package variables. -/
theorem calls_glob_good {C : Cx} (hC : COk C) {lf n : Nat} {f : FuncId} {args : List AV} {l : List (Nat × TypeId × List AV)} {k : AV → Heap → A} (hk : globK l Heap.empty (fun h => (level C lf (n + 1)).call false f args h k) = .good) :
    ∃ v h', k v h' = .good ∧ ∀ (w : World) (args' : Array Value), GlobAt w l → VRs (PhiG w) args args'.toList → Calls C.P f args' w fun e w' => ∃ v' φ, e = .returned v' ∧ VR φ v v' ∧ w.heap.size ≤ w'.heap.size ∧ (∀ c, c < w.heap.size → w'.heap[c]? = w.heap[c]?) ∧ w'.os = w.os ∧ w'.tape = w.tape ∧ w'.output = w.output := by
  have hE : HS Heap.empty (fun _ => .none) (.mk .d0 .d1 .d0 .d0) := ⟨.empty, fun _ => trivial⟩
  obtain ⟨h0, H0, hh0, hk0, hH0⟩ := globK_good l _ _ _ hE hk
  obtain ⟨v, h', H', nx', hk', hh', ht⟩ := top_good hC hh0 hk0
  refine ⟨v, h', hk', fun w args' hw hv cs => ?_⟩
  obtain ⟨φ', w', v', fr, h1, h2, h3, h4, h5, h6⟩ := ht (PhiG w) w args' cs (RG hw hH0) hv
  refine ⟨.returned v', w', fr, ⟨v', φ', rfl, h1, h3.size, (fun c hc => h3.frame c hc fun b p _ ho => ?_), h3.os, h3.tape, h3.output⟩, h4, h5, h6⟩
  rcases hH0 b with e | ⟨x, _, _, t, e, _⟩ <;> rw [e] at ho <;> cases ho
/-- The special functions of a program, out of a list. -/
noncomputable def specOf (l : List (Nat × Special)) (f : Nat) : Option Special := List.rec none (fun p _ ih => Bool.rec ih (some p.2) (Nat.beq p.1 f)) l
theorem specOf_mem {l : List (Nat × Special)} {f : Nat} {s : Special} (h : specOf l f = some s) : (f, s) ∈ l := by
  induction l with
  | nil => cases h
  | cons p l ih =>
    replace h : (Bool.rec (specOf l f) (some p.2) (Nat.beq p.1 f) : Option Special) = some s := h
    cases hb : Nat.beq p.1 f with
    | true =>
      rw [hb] at h
      have : p.1 = f := by simpa using hb
      cases h
      subst this
      simp
    | false => rw [hb] at h; exact List.mem_cons_of_mem _ (ih h)
noncomputable def ovOk (P : Program) (ps : Array TypeId) : Bool := match ps[0]? with
  | none => false
  | some t => (match P.underlying t with | some (.slice el) => (tSize P el).isSome | _ => false)
theorem overlaps_ok {P : Program} {ps rs : Array TypeId} (h : ovOk P ps = true) : ExtIs P .overlaps (Extern.SlicesOverlaps.overlaps ps rs) := by
  unfold ovOk at h
  cases ht : ps[0]? with
  | none => rw [ht] at h; cases h
  | some t =>
    rw [ht] at h
    cases hu : P.underlying t with
    | none => simp only [hu] at h; cases h
    | some d =>
      simp only [hu] at h
      cases d <;> first | (cases h; done) | skip
      rename_i el
      cases hn : tSize P el with
      | none => simp only [hn] at h; cases h
      | some n => exact ⟨ps, rs, t, el, n, rfl, ht, hu, hn⟩
theorem name_ok {P : Program} (h : (P.funcs.toList.all fun fn => !(fn.name == "runtime.NumGoroutine")) = true) (f : FuncId) (fn : Func) (hf : P.funcs[f]? = some fn) : (fn.name == "runtime.NumGoroutine") = false := by
  rw [List.all_eq_true] at h
  have := h fn (by rw [Array.mem_toList_iff]; exact Array.mem_of_getElem? hf)
  simpa using this
end Go.Ev
end
