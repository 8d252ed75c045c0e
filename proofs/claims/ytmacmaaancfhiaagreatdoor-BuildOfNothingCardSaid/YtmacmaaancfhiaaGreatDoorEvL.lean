/- Part of the proof: a verified evaluator of the model (its definitions, and that it is sound). -/
import Derived.Test.YtmacmaaancfhiaaGreatDoorEvK
import Derived.Orders
section
set_option maxRecDepth 2000
set_option autoImplicit false
set_option linter.unusedSimpArgs false
set_option linter.unusedVariables false
namespace Go.Ev

/-! ### memory, where names are laid before blocks -/
section
variable {φ φ' : Phi} {H H' H'' : Bid → AObj} {nx nx' nx'' : Bid} {w w' : World}
theorem R.ext (hR : R φ H nx w) (hn : nx.num ≤ nx'.num) (hH : ∀ b, b.num < nx.num → H' b = H b) : R φ H' nx' w where
  obj b p h := by rw [hH b (hR.below _ _ h)]; exact hR.obj _ _ h
  inj b b' p p' h h' n n' e := by
    rw [hH b (hR.below _ _ h)] at n; rw [hH b' (hR.below _ _ h')] at n'
    exact hR.inj _ _ _ _ h h' n n' e
  below b p h := Nat.lt_of_lt_of_le (hR.below _ _ h) hn
  inside b p h n := by rw [hH b (hR.below _ _ h)] at n; exact hR.inside _ _ h n
  glob := hR.glob
theorem Grows.ext (hg : Grows φ H nx w φ' H' nx' w') (hR : R φ' H' nx' w') (hn : nx'.num ≤ nx''.num) (hH : ∀ b, b.num < nx'.num → H'' b = H' b) : Grows φ H nx w φ' H'' nx'' w' where
  le := hg.le
  unmapped b h h' := by
    obtain ⟨h1, h2⟩ := hg.unmapped b h h'
    exact ⟨h1, by rw [hH b (Nat.lt_of_lt_of_le h' hg.next), h2]⟩
  next := Nat.le_trans hg.next hn
  size := hg.size
  frame := hg.frame
  owned b p h ho hl := by
    rw [hH b (hR.below _ _ h)] at ho
    exact hg.owned b p h ho hl
  os := hg.os
  tape := hg.tape
  output := hg.output
theorem R.place (hR : R φ H nx w) {b : Bid} (hb : φ b = none) (hn : b.num < nx.num) {c : Obj} {cs : Nat} (ho : OR (updP φ b ⟨w.heap.size, 0, cs⟩) (H b) ⟨w.heap.size, 0, cs⟩ (some c)) : R (updP φ b ⟨w.heap.size, 0, cs⟩) H nx (w.push c) where
  obj b' p h := by
    by_cases e : b' = b
    · subst e
      rw [updP_same] at h; cases h
      rw [push_new]; exact ho
    · rw [updP_other _ _ e] at h
      by_cases hn : (H b').isNone = true
      · have : H b' = .none := by cases hH : H b' <;> simp [hH, AObj.isNone] at hn ⊢
        rw [this]; trivial
      · have hn : (H b').isNone = false := by simpa using hn
        rw [push_old _ _ (hR.inside _ _ h hn)]
        exact (hR.obj _ _ h).mono (updP_le hb)
  inj b₁ b₂ p₁ p₂ h₁ h₂ n₁ n₂ e := by
    by_cases e₁ : b₁ = b <;> by_cases e₂ : b₂ = b
    · rw [e₁, e₂]
    · subst e₁
      rw [updP_same] at h₁; cases h₁
      rw [updP_other _ _ e₂] at h₂
      have := hR.inside _ _ h₂ n₂
      simp only at e; omega
    · subst e₂
      rw [updP_same] at h₂; cases h₂
      rw [updP_other _ _ e₁] at h₁
      have := hR.inside _ _ h₁ n₁
      simp only at e; omega
    · rw [updP_other _ _ e₁] at h₁
      rw [updP_other _ _ e₂] at h₂
      exact hR.inj _ _ _ _ h₁ h₂ n₁ n₂ e
  below b' p h := by
    by_cases e : b' = b
    · subst e; exact hn
    · rw [updP_other _ _ e] at h; exact hR.below _ _ h
  inside b' p h n := by
    rw [push_size]
    by_cases e : b' = b
    · subst e; rw [updP_same] at h; cases h; exact Nat.lt_succ_self _
    · rw [updP_other _ _ e] at h
      have := hR.inside _ _ h n
      omega
  glob g hg := let ⟨p, h, h'⟩ := hR.glob g hg; ⟨p, updP_le hb _ _ h, h'⟩
/-- A block whose name was laid after the first state. -/
theorem Grows.place {φ₀ : Phi} {H₀ : Bid → AObj} {nx₀ : Bid} {w₀ : World} (hg : Grows φ₀ H₀ nx₀ w₀ φ H nx w) {b : Bid} (hb : φ b = none) (hn : nx₀.num ≤ b.num) (c : Obj) (cs : Nat) : Grows φ₀ H₀ nx₀ w₀ (updP φ b ⟨w.heap.size, 0, cs⟩) H nx (w.push c) where
  le := Phi.le_trans hg.le (updP_le hb)
  unmapped b' h h' := by
    have : b' ≠ b := by rintro rfl; omega
    rw [updP_other _ _ this]; exact hg.unmapped b' h h'
  next := hg.next
  size := by rw [push_size]; have := hg.size; omega
  frame r hr hf := by rw [push_old _ _ (Nat.lt_of_lt_of_le hr hg.size)]; exact hg.frame r hr hf
  owned b' p h ho hl := by
    by_cases e : b' = b
    · subst e; rw [updP_same] at h; cases h
      have := hg.size
      simp only at hl; omega
    · rw [updP_other _ _ e] at h; exact hg.owned b' p h ho hl
  os := hg.os
  tape := hg.tape
  output := hg.output
end

/-! ### the orders that are drawn -/
/-- An order of what is left. -/
inductive Sched (ops : Array Oper) : List Nat → List Nat → Prop
  | nil {X : List Nat} (h : ∀ i, i < ops.size → i ∈ X) : Sched ops X []
  | cons {X : List Nat} {i : Nat} {rest : List Nat} {o : Oper} (hi : ops[i]? = some o) (hX : i ∉ X) (he : ∀ e ∈ o.after.toList, Region.binds .any e = true → e.on ∈ X) (h : Sched ops (i :: X) rest) : Sched ops X (i :: rest)
def EdgesLow (ops : Array Oper) : Prop := ∀ j o, ops[j]? = some o → ∀ e ∈ o.after.toList, Region.binds .any e = true → e.on < j
theorem nodup_len : ∀ (n : Nat) (l : List Nat), l.Nodup → (∀ i ∈ l, i < n) → l.length ≤ n
  | 0, l, _, h => by
    cases l with
    | nil => simp
    | cons x l => exact absurd (h x (by simp)) (by omega)
  | n + 1, l, hn, h => by
    have h1 := nodup_len n (l.erase n) (hn.erase n) (fun i hi => by
      have := h i (List.mem_of_mem_erase hi)
      have : i ≠ n := fun e => by subst e; exact (hn.not_mem_erase) hi
      omega)
    have := List.length_erase (a := n) (l := l)
    split at this <;> omega
theorem sched_go {ops : Array Oper} (hE : EdgesLow ops) : ∀ (fuel t : Nat) (listed : Array Bool) (X : List Nat), listed.size = ops.size → (∀ i, i < ops.size → listed[i]? = some (decide (i ∈ X))) → X.Nodup → (∀ i ∈ X, i < ops.size) → X.length + fuel = ops.size →
    Sched ops X (Region.linearise.go .any ops fuel t listed [])
  | 0, t, listed, X, hs, hl, hn, hb, hf => by
    refine .nil fun i hi => ?_
    apply Classical.byContradiction
    intro hc
    have := nodup_len ops.size (i :: X) (List.nodup_cons.2 ⟨hc, hn⟩) (by simpa using ⟨hi, hb⟩)
    simp at this; omega
  | fuel + 1, t, listed, X, hs, hl, hn, hb, hf => by
    simp only [Region.linearise.go]
    change Sched ops X (match (Region.ready .any ops listed)[t % (Region.ready .any ops listed).length]? with
      | some i => Region.linearise.go .any ops fuel (t / (Region.ready .any ops listed).length) (listed.setIfInBounds i true) [i]
      | none => [].reverse)
    have hget : ∀ i, i < ops.size → ∀ b, listed.getD i b = decide (i ∈ X) := fun i hi b => by
      rw [Array.getD_eq_getD_getElem?, hl i hi]; rfl
    have hmem : ∀ i, i ∈ Region.ready .any ops listed ↔ i < ops.size ∧ i ∉ X ∧ ∃ o, ops[i]? = some o ∧ ∀ e ∈ o.after.toList, Region.binds .any e = true → e.on ∈ X := by
      intro i
      simp only [Region.ready, List.mem_filter, List.mem_range, Bool.and_eq_true, Bool.not_eq_true']
      constructor
      · rintro ⟨hi, h1, h2⟩
        rw [hget i hi] at h1
        refine ⟨hi, by simpa using h1, ops[i], by simp [hi], fun e he hbd => ?_⟩
        rw [show ops[i]? = some ops[i] by simp [hi]] at h2
        simp only [Option.map_some, Option.getD_some] at h2
        have h2 := (Array.all_eq_true_iff_forall_mem.1 h2) e (by simpa using he)
        simp only [hbd, Bool.not_true, Bool.false_or] at h2
        have hlt := hE i _ (show ops[i]? = some ops[i] by simp [hi]) e he hbd
        rw [hget e.on (by omega)] at h2
        simpa using h2
      · rintro ⟨hi, h1, o, ho, h2⟩
        refine ⟨hi, by rw [hget i hi]; simpa using h1, ?_⟩
        rw [ho]
        simp only [Option.map_some, Option.getD_some]
        refine Array.all_eq_true_iff_forall_mem.2 fun e he => ?_
        cases hbd : Region.binds .any e with
        | false => simp
        | true =>
          have := h2 e (by simpa using he) hbd
          rw [hget e.on (hb _ this)]; simpa using this
    cases hi : (Region.ready .any ops listed)[t % (Region.ready .any ops listed).length]? with
    | none =>
      have hnil : Region.ready .any ops listed = [] := by
        cases hr : Region.ready .any ops listed with
        | nil => rfl
        | cons x xs =>
          rw [hr] at hi
          have hlt : t % (x :: xs).length < (x :: xs).length := Nat.mod_lt _ (by simp)
          simp at hi
          simp at hlt
          omega
      refine .nil fun i hlt => ?_
      have : ∀ i, i < ops.size → i ∈ X := by
        intro i
        induction i using Nat.strongRecOn with
        | ind i ih =>
          intro hlt
          apply Classical.byContradiction
          intro hc
          have : i ∈ Region.ready .any ops listed := (hmem i).2 ⟨hlt, hc, ops[i], by simp [hlt], fun e he hbd => by
            have hl := hE i _ (show ops[i]? = some ops[i] by simp [hlt]) e he hbd
            exact ih _ hl (by omega)⟩
          rw [hnil] at this; cases this
      exact this i hlt
    | some i =>
      simp only []
      obtain ⟨hlt, hX, o, ho, he⟩ := (hmem i).1 (List.mem_of_getElem? hi)
      rw [linearise_go_acc, List.reverse_singleton, List.singleton_append]
      refine .cons ho hX he (sched_go hE fuel _ _ (i :: X) (by simpa using hs) (fun j hj => ?_) (List.nodup_cons.2 ⟨hX, hn⟩) (by simpa using ⟨hlt, hb⟩) (by simp; omega))
      by_cases e : j = i
      · subst e
        rw [Array.getElem?_setIfInBounds_self_of_lt (by omega)]; simp
      · rw [Array.getElem?_setIfInBounds_ne (Ne.symm e), hl j hj]
        simp [e]
theorem sched_any {ops : Array Oper} (hE : EdgesLow ops) (t : Nat) : Sched ops [] (Region.schedule true ops t) := by
  simp only [Region.schedule, Bool.true_or, if_true, Region.linearise]
  exact sched_go hE _ _ _ [] (by simp) (fun i hi => by simp [hi]) .nil (by simp) (by simp)
end Go.Ev
end

section
set_option maxRecDepth 2000
set_option autoImplicit false
set_option linter.unusedSimpArgs false
set_option linter.unusedVariables false
namespace Go.Ev

/-! ### a region in whatever order -/
theorem cls_le0 (P : Program) (o : Op) : cls P o ≤ 3 := by
  unfold cls
  split <;> first | omega | skip
  split <;> omega
theorem cls_le (P : Program) (o : Op) : cls' P o ≤ 3 := by
  unfold cls'
  split
  · split <;> omega
  · split <;> omega
  · split
    · split <;> omega
    · split <;> omega
    · omega
  · exact cls_le0 P _
section
open Classical
/-- The slots after those in X, of the last ones F and the first ones f0. -/
noncomputable def envX (ops : Array Oper) (F f0 : Nat → AV) (X : List Nat) : Nat → AV := fun t => if ∃ a ∈ X, ∃ o, ops[a]? = some o ∧ o.dst = some t then F t else f0 t
/-- What operation i may look at. -/
noncomputable def gOf (ops : Array Oper) (F f0 : Nat → AV) (bf : Nat → Nat → Prop) (i : Nat) : Nat → AV := fun t => if ∃ a, (∃ o, ops[a]? = some o ∧ o.dst = some t) ∧ bf a i then F t else f0 t
def Al (C : Cx) (ops : Array Oper) (wn : Nat → Bool) (i : Nat) : Prop := ∃ o : Oper, ops[i]? = some o ∧ cls' C.P o.op = 2 ∧ wn i = true
structure QuietS (C : Cx) (ops : Array Oper) (m : Nat) (lv : Nat → Nat) (bf : Nat → Nat → Prop) (B E : Nat → AS) (g : Nat → AV) (lo : Nat) (b : Bid) (ob : AObj) (i : Nat) (o : Oper) (v : AV) : Prop where
  pure : cls' C.P o.op = 0 → PureS C.P o (loc (looksAt ops o) g) v
  read : cls' C.P o.op = 1 → ∀ k, lo ≤ k → k ≤ m → (∀ s, lo ≤ s → s < k → ¬ bf i (lv s)) → ReadS C.P o (loc (looksAt ops o) g) (E k).H v
  alloc : cls' C.P o.op = 2 → AllocS C.P o (loc (looksAt ops o) g) b v ob
structure Pl (C : Cx) (x : X) (ops : Array Oper) (m : Nat) (lv : Nat → Nat) (bf : Nat → Nat → Prop) (B E : Nat → AS) (F f0 : Nat → AV) (lo : Nat → Nat) (wn : Nat → Bool) (bI : Nat → Bid) (oI : Nat → AObj) : Prop where
  bfe : ∀ i j, bf i j → ∃ (o : Oper) (e : Edge), ops[j]? = some o ∧ e ∈ o.after.toList ∧ Region.binds .any e = true ∧ (i = e.on ∨ bf i e.on)
  nod : ∀ (i j : Nat) (o o' : Oper) (t : Tmp), ops[i]? = some o → ops[j]? = some o' → o.dst = some t → o'.dst = some t → i = j
  look : ∀ (r : Nat) (o : Oper) (t : Tmp) (a : Nat) (o' : Oper), ops[r]? = some o → t ∈ looksAt ops o → ops[a]? = some o' → o'.dst = some t → bf a r ∨ a = r ∨ bf r a
  dst : ∀ (i : Nat) (o : Oper) (t : Tmp), ops[i]? = some o → o.dst = some t → t < x.nt
  still : ∀ t : Tmp, (∀ (i : Nat) (o : Oper), ops[i]? = some o → o.dst ≠ some t) → F t = f0 t
  quiet : ∀ (i : Nat) (o : Oper), ops[i]? = some o → cls' C.P o.op ≠ 3 → lo i ≤ m ∧ (0 < lo i → bf (lv (lo i - 1)) i) ∧ ∃ v, (∀ t, o.dst = some t → F t = v) ∧
    ((wn i = false ∧ WantS ops o (gOf ops F f0 bf i) false ∧ v = .tuple []) ∨ (wn i = true ∧ WantS ops o (gOf ops F f0 bf i) true ∧ QuietS C ops m lv bf B E (gOf ops F f0 bf i) (lo i) (bI i) (oI i) i o v))
  made : ∀ i, Al C ops wn i → (B (lo i)).nx.num ≤ (bI i).num ∧ (bI i).num < (E (lo i)).nx.num ∧ (E (lo i)).H (bI i) = oI i
  dist : ∀ i j, i ≠ j → Al C ops wn i → Al C ops wn j → lo i = lo j → bI i ≠ bI j
  ext : ∀ k, k ≤ m → (B k).nx.num ≤ (E k).nx.num ∧ (∀ b : Bid, b.num < (B k).nx.num → (E k).H b = (B k).H b) ∧ (E k).d = (B k).d
  loud : ∀ s, s < m → ∃ o : Oper, ops[lv s]? = some o ∧ cls' C.P o.op = 3 ∧ ∃ v, (∀ t, o.dst = some t → F t = v) ∧ OneR C.P x ops o (gOf ops F f0 bf (lv s)) (E s).H (E s).nx (E s).d v (B (s + 1)).H (B (s + 1)).nx (B (s + 1)).d
  all : ∀ (i : Nat) (o : Oper), ops[i]? = some o → cls' C.P o.op = 3 → ∃ s, s < m ∧ lv s = i
  inj : ∀ s s', s < m → s' < m → lv s = lv s' → s = s'
  chain : ∀ s, s + 1 < m → bf (lv s) (lv (s + 1))
structure Inv (C : Cx) (x : X) (ops : Array Oper) (m : Nat) (lv : Nat → Nat) (bf : Nat → Nat → Prop) (B E : Nat → AS) (F f0 : Nat → AV) (lo : Nat → Nat) (wn : Nat → Bool) (bI : Nat → Bid) (oI : Nat → AObj) (φ₀ : Phi) (w₀ : World) (X : List Nat) (k : Nat) (φ : Phi) (w : World) (a : Act) : Prop where
  le : k ≤ m
  louds : ∀ s, s < m → (lv s ∈ X ↔ s < k)
  closed : ∀ i j, bf i j → j ∈ X → i ∈ X
  mem : R φ (E k).H (E k).nx w
  grows : Grows φ₀ (B 0).H (B 0).nx w₀ φ (E k).H (E k).nx w
  env : ER φ (envX ops F f0 X) a.tmps x.nt
  ds : DsR φ (E k).d a.defers
  al : ∀ i, i ∉ X → Al C ops wn i → lo i ≤ k → φ (bI i) = none ∧ (bI i).num < (E k).nx.num ∧ (E k).H (bI i) = oI i ∧ (B 0).nx.num ≤ (bI i).num
  dist : ∀ i j, i ∉ X → j ∉ X → i ≠ j → Al C ops wn i → Al C ops wn j → lo i ≤ k → lo j ≤ k → bI i ≠ bI j
variable {C : Cx} {x : X} {ops : Array Oper} {m : Nat} {lv : Nat → Nat} {bf : Nat → Nat → Prop} {B E : Nat → AS} {F f0 : Nat → AV} {lo : Nat → Nat} {wn : Nat → Bool} {bI : Nat → Bid} {oI : Nat → AObj} {φ₀ : Phi} {w₀ : World}
theorem envX_cons {X : List Nat} {i : Nat} {o : Oper} (hp : Pl C x ops m lv bf B E F f0 lo wn bI oI) (ho : ops[i]? = some o) {v : AV} (hv : ∀ t, o.dst = some t → F t = v) : putF (envX ops F f0 X) o.dst v = envX ops F f0 (i :: X) := by
  funext t
  cases hd : o.dst with
  | none =>
    show envX ops F f0 X t = _
    simp only [envX]
    congr 1
    apply propext
    constructor
    · rintro ⟨a, ha, h⟩; exact ⟨a, by simp [ha], h⟩
    · rintro ⟨a, ha, o', h1, h2⟩
      rcases List.mem_cons.1 ha with rfl | ha
      · rw [ho] at h1; cases h1; rw [hd] at h2; cases h2
      · exact ⟨a, ha, o', h1, h2⟩
  | some u =>
    show upd (envX ops F f0 X) u v t = _
    simp only [upd]
    by_cases e : t = u
    · subst e
      rw [if_pos rfl, ← hv t hd, envX, if_pos ⟨i, by simp, o, ho, hd⟩]
    · rw [if_neg e]
      simp only [envX]
      congr 1
      apply propext
      constructor
      · rintro ⟨a, ha, h⟩; exact ⟨a, by simp [ha], h⟩
      · rintro ⟨a, ha, o', h1, h2⟩
        rcases List.mem_cons.1 ha with rfl | ha
        · rw [ho] at h1; cases h1; rw [hd] at h2; cases h2; exact absurd rfl e
        · exact ⟨a, ha, o', h1, h2⟩
theorem Inv.sees {X : List Nat} {k : Nat} {φ : Phi} {w : World} {a : Act} (hp : Pl C x ops m lv bf B E F f0 lo wn bI oI) (hI : Inv C x ops m lv bf B E F f0 lo wn bI oI φ₀ w₀ X k φ w a) {i : Nat} {o : Oper} (ho : ops[i]? = some o) (hX : i ∉ X)
    (hpre : ∀ a, bf a i → a ∈ X) : Sees φ (looksAt ops o) (gOf ops F f0 bf i) a.tmps := by
  intro t ht h255
  have := hI.env.at_ t (by omega)
  have e : envX ops F f0 X t = gOf ops F f0 bf i t := by
    simp only [envX, gOf]
    congr 1
    apply propext
    constructor
    · rintro ⟨c, hc, o', h1, h2⟩
      rcases hp.look i o t c o' ho ht h1 h2 with h | rfl | h
      · exact ⟨c, ⟨o', h1, h2⟩, h⟩
      · exact absurd hc hX
      · exact absurd (hI.closed _ _ h hc) hX
    · rintro ⟨c, ⟨o', h1, h2⟩, h⟩
      exact ⟨c, hpre c h, o', h1, h2⟩
  rw [← e]; exact this
theorem quiet_step {P : Program} {b : Frame} {a : Act} {cs : List Frame} {i : Nat} {rest : List Nat} {k : List Item} {w w' : World} {v' : Value} {o : Oper} (ho : ops[i]? = some o) (hc : cls' P o.op ≠ 3) (hw : Region.wanted o (yielded ops a.tmps) = true) (hr : (execOp a.eval o).run P w = .ok (.value v') w') :
    Steps P (lone (b.atR a (.inRegion ops (i :: rest) :: k)) cs w) (lone (b.atR (a.put o.dst v') (.inRegion ops rest :: k)) cs w') := by
  have hst := stepGR_op (P := P) (b := b) (a := a) (k := k) (cs := cs) (w := w) (rest := rest) ho hw
  rw [Oper.semAt_eq _ _ _ (fun c h => hc (by rw [h]; rfl))] at hst
  have := Lands.steps (fr := b.atR a (.inRegion ops (i :: rest) :: k)) (cs := cs) (.inl (.inl hr)) (by intro _ _ _ _ _ h; cases h) hst
  rwa [Frame.finish_atR, ho] at this
/-- One operation, in whatever order. -/
theorem Inv.step {X : List Nat} {k : Nat} {φ : Phi} {w : World} {a : Act} (hp : Pl C x ops m lv bf B E F f0 lo wn bI oI) (hI : Inv C x ops m lv bf B E F f0 lo wn bI oI φ₀ w₀ X k φ w a) {b : Frame} {cs : List Frame} (hb : BK x b cs) {i : Nat} {o : Oper} (ho : ops[i]? = some o) (hX : i ∉ X)
    (he : ∀ e ∈ o.after.toList, Region.binds .any e = true → e.on ∈ X) (rest : List Nat) (q : List Item) :
    ∃ k' φ' w' a', Inv C x ops m lv bf B E F f0 lo wn bI oI φ₀ w₀ (i :: X) k' φ' w' a' ∧ Steps C.P (lone (b.atR a (.inRegion ops (i :: rest) :: q)) cs w) (lone (b.atR a' (.inRegion ops rest :: q)) cs w') := by
  have hpre : ∀ a, bf a i → a ∈ X := by
    intro c hc
    obtain ⟨o', e, h1, h2, h3, h4⟩ := hp.bfe c i hc
    rw [ho] at h1; cases h1
    rcases h4 with rfl | h4
    · exact he e h2 h3
    · exact hI.closed _ _ h4 (he e h2 h3)
  have hcl : ∀ c j, bf c j → j ∈ i :: X → c ∈ i :: X := by
    intro c j h hj
    rcases List.mem_cons.1 hj with rfl | hj
    · exact List.mem_cons_of_mem _ (hpre c h)
    · exact List.mem_cons_of_mem _ (hI.closed _ _ h hj)
  have hsee := hI.sees hp ho hX hpre
  by_cases hc : cls' C.P o.op = 3
  · obtain ⟨s, hs, rfl⟩ := hp.all i o ho hc
    have hsk : s = k := by
      have h1 : ¬ s < k := fun h => hX ((hI.louds s hs).2 h)
      have h2 : s ≤ k := by
        rcases Nat.eq_zero_or_pos s with h0 | h0
        · omega
        · have := hp.chain (s - 1) (by omega)
          rw [Nat.sub_add_cancel h0] at this
          have := (hI.louds (s - 1) (by omega)).1 (hpre _ this)
          omega
      omega
    subst hsk
    obtain ⟨o', ho', _, v, hv, hone⟩ := hp.loud s hs
    rw [ho] at ho'; cases ho'
    obtain ⟨φ', w', v', ds, h1, h2, h3, h4, h5⟩ := hone φ w b a cs (lv s) rest q ho hb hI.mem hsee hI.ds
    obtain ⟨x1, x2, x3⟩ := hp.ext (s + 1) (by omega)
    have hg0 := hI.grows.trans h4
    refine ⟨s + 1, φ', w', { a with defers := ds }.put o.dst v', ⟨by omega, ?_, hcl, h1.ext x1 x2, hg0.ext h1 x1 x2, ?_, ?_, ?_, ?_⟩, h5⟩
    · intro s' hs'
      rw [List.mem_cons, hI.louds s' hs']
      constructor
      · rintro (h | h)
        · have := hp.inj _ _ hs' hs h; omega
        · omega
      · intro h
        rcases Nat.lt_or_ge s' s with h' | h'
        · exact .inr h'
        · have : s' = s := by omega
          subst this; exact .inl rfl
    · rw [← envX_cons hp ho hv]
      exact ER.put (a := { a with defers := ds }) (hI.env.mono h4.le) (fun t h => hp.dst _ _ t ho h) h2
    · rw [Act.put_defers, x3]; exact h3
    · intro j hj hal hlo
      have hjX : j ∉ X := fun h => hj (List.mem_cons_of_mem _ h)
      rcases Nat.lt_or_ge (lo j) (s + 1) with hl | hl
      · obtain ⟨a1, a2, a3, a4⟩ := hI.al j hjX hal (by omega)
        obtain ⟨u1, u2⟩ := h4.unmapped _ a1 a2
        have := h4.next
        exact ⟨u1, by omega, by rw [x2 _ (by omega), u2, a3], a4⟩
      · have hlo' : lo j = s + 1 := by omega
        obtain ⟨b1, b2, b3⟩ := hp.made j hal
        rw [hlo'] at b1 b2 b3
        refine ⟨?_, b2, b3, ?_⟩
        · cases hφ : φ' (bI j) with
          | none => rfl
          | some p => have := h1.below _ _ hφ; omega
        · have := hg0.next; omega
    · intro i' j hi' hj hne hali halj hloi hloj
      have hjX : j ∉ X := fun h => hj (List.mem_cons_of_mem _ h)
      have hiX : i' ∉ X := fun h => hi' (List.mem_cons_of_mem _ h)
      have hnx := h4.next
      rcases Nat.lt_or_ge (lo i') (s + 1) with hl | hl <;> rcases Nat.lt_or_ge (lo j) (s + 1) with hl' | hl'
      · exact hI.dist i' j hiX hjX hne hali halj (by omega) (by omega)
      · obtain ⟨_, a2, _⟩ := hI.al i' hiX hali (by omega)
        obtain ⟨b1, _, _⟩ := hp.made j halj
        rw [show lo j = s + 1 by omega] at b1
        intro e; rw [e] at a2; omega
      · obtain ⟨_, a2, _⟩ := hI.al j hjX halj (by omega)
        obtain ⟨b1, _, _⟩ := hp.made i' hali
        rw [show lo i' = s + 1 by omega] at b1
        intro e; rw [← e] at a2; omega
      · exact hp.dist i' j hne hali halj (by omega)
  · obtain ⟨hlm, hlp, v, hv, hq⟩ := hp.quiet i o ho hc
    have hlk : lo i ≤ k := by
      rcases Nat.eq_zero_or_pos (lo i) with h0 | h0
      · omega
      · have := (hI.louds _ (by omega)).1 (hpre _ (hlp h0))
        omega
    have hlouds : ∀ s, s < m → (lv s ∈ i :: X ↔ s < k) := by
      intro s hs
      rw [List.mem_cons, hI.louds s hs]
      constructor
      · rintro (h | h)
        · obtain ⟨o', h1, h2, _⟩ := hp.loud s hs
          rw [h, ho] at h1; cases h1; exact absurd h2 hc
        · exact h
      · exact .inr
    -- nothing is made
    have still : ∀ (a' : Act), ER φ (envX ops F f0 (i :: X)) a'.tmps x.nt → a'.defers = a.defers → Inv C x ops m lv bf B E F f0 lo wn bI oI φ₀ w₀ (i :: X) k φ w a' := fun a' h1 h2 =>
      ⟨hI.le, hlouds, hcl, hI.mem, hI.grows, h1, h2 ▸ hI.ds, fun j hj => hI.al j fun h => hj (List.mem_cons_of_mem _ h), fun i' j hi' hj => hI.dist i' j (fun h => hi' (List.mem_cons_of_mem _ h)) fun h => hj (List.mem_cons_of_mem _ h)⟩
    rcases hq with ⟨_, hw, rfl⟩ | ⟨hwn, hw, hq⟩
    · refine ⟨k, φ, w, a.put o.dst undef, still _ ?_ (Act.put_defers _ _ _), ?_⟩
      · rw [← envX_cons hp ho hv]
        exact ER.put hI.env (fun t h => hp.dst _ _ t ho h) (.tuple (cs' := #[]) .nil)
      · have := stepR_op_skip (P := C.P) (b := b) (a := a) (k := q) (cs := cs) (w := w) (ops := ops) (i := i) (rest := rest) (by rw [ho]; exact hw φ a.tmps (hsee.sub look_gd))
        rw [ho] at this
        exact .one this
    · have hwd := hw φ a.tmps (hsee.sub look_gd)
      have hcls : cls' C.P o.op = 0 ∨ cls' C.P o.op = 1 ∨ cls' C.P o.op = 2 := by
        have := cls_le C.P o.op
        omega
      have same : (∃ v', (execOp a.eval o).run C.P w = .ok (.value v') w ∧ VR φ v v') → ∃ k' φ' w' a', Inv C x ops m lv bf B E F f0 lo wn bI oI φ₀ w₀ (i :: X) k' φ' w' a' ∧ Steps C.P (lone (b.atR a (.inRegion ops (i :: rest) :: q)) cs w) (lone (b.atR a' (.inRegion ops rest :: q)) cs w') := by
        rintro ⟨v', hr, hvr⟩
        refine ⟨k, φ, w, a.put o.dst v', still _ ?_ (Act.put_defers _ _ _), quiet_step ho hc hwd hr⟩
        rw [← envX_cons hp ho hv]
        exact ER.put hI.env (fun t h => hp.dst _ _ t ho h) hvr
      rcases hcls with h0 | h0 | h0
      · exact same (hq.pure h0 φ w a.eval _ _ hI.mem hsee.rho)
      · exact same (hq.read h0 k hlk hI.le (fun s hs hsk h => hX (hI.closed _ _ h ((hI.louds s (by have := hI.le; omega)).2 hsk))) φ w a.eval _ hI.mem hsee.rho)
      · have hal : Al C ops wn i := ⟨o, ho, h0, hwn⟩
        obtain ⟨a1, a2, a3, a4⟩ := hI.al i hX hal hlk
        obtain ⟨v', c, n, dr, hr, hvr, hor⟩ := hq.alloc h0 φ w a.eval _ _ hI.mem a1 hsee.rho
        rw [← a3] at hor
        refine ⟨k, _, _, a.put o.dst v', ⟨hI.le, hlouds, hcl, (hI.mem.place a1 a2 hor).drew dr, (hI.grows.place a1 a4 c n).drew dr, ?_, ?_, ?_, ?_⟩, quiet_step ho hc hwd hr⟩
        · rw [← envX_cons hp ho hv]
          exact ER.put (hI.env.mono (updP_le a1)) (fun t h => hp.dst _ _ t ho h) hvr
        · rw [Act.put_defers]; exact hI.ds.mono (updP_le a1)
        · intro j hj hal' hlo
          have hjX : j ∉ X := fun h => hj (List.mem_cons_of_mem _ h)
          obtain ⟨b1, b2, b3, b4⟩ := hI.al j hjX hal' hlo
          refine ⟨?_, b2, b3, b4⟩
          rw [updP_other _ _ (hI.dist j i hjX hX (fun e => hj (by rw [e]; simp)) hal' hal hlo hlk)]; exact b1
        · exact fun i' j hi' hj => hI.dist i' j (fun h => hi' (List.mem_cons_of_mem _ h)) fun h => hj (List.mem_cons_of_mem _ h)
theorem Inv.run (hp : Pl C x ops m lv bf B E F f0 lo wn bI oI) {b : Frame} {cs : List Frame} (hb : BK x b cs) {q : List Item} : ∀ {rest X : List Nat} {k : Nat} {φ : Phi} {w : World} {a : Act}, Sched ops X rest → Inv C x ops m lv bf B E F f0 lo wn bI oI φ₀ w₀ X k φ w a →
    ∃ X' k' φ' w' a', Inv C x ops m lv bf B E F f0 lo wn bI oI φ₀ w₀ X' k' φ' w' a' ∧ (∀ i, i < ops.size → i ∈ X') ∧ Steps C.P (lone (b.atR a (.inRegion ops rest :: q)) cs w) (lone (b.atR a' (.inRegion ops [] :: q)) cs w')
  | [], X, k, φ, w, a, hs, hI => by
    cases hs with
    | nil h => exact ⟨X, k, φ, w, a, hI, h, .refl _ _⟩
  | i :: rest, X, k, φ, w, a, hs, hI => by
    cases hs with
    | cons ho hX he hs =>
      obtain ⟨k', φ', w', a', hI', h1⟩ := hI.step hp hb ho hX he rest q
      obtain ⟨X'', k'', φ'', w'', a'', hI'', h2, h3⟩ := Inv.run hp hb hs hI'
      exact ⟨X'', k'', φ'', w'', a'', hI'', h2, h1.trans h3⟩
/-- A region in whatever order. -/
theorem Pl.goes (hp : Pl C x ops m lv bf B E F f0 lo wn bI oI) (hm : C.P.follows .mixedOrders = true) (hE : EdgesLow ops) (hf0 : f0 = (B 0).f) (hlv : ∀ s, s < m → lv s < ops.size) (id : Nat) :
    Ends C.P x (.region id ops true) (B 0) ⟨F, (E m).H, (E m).nx, (E m).d⟩ := by
  intro q φ w b a cs hb hs
  obtain ⟨x1, x2, x3⟩ := hp.ext 0 (by omega)
  have hmem : R φ (E 0).H (E 0).nx { w with drawn := w.drawn + 1 } := (hs.mem.ext x1 x2).drew _
  have hg : Grows φ (B 0).H (B 0).nx w φ (E 0).H (E 0).nx { w with drawn := w.drawn + 1 } := ((Grows.refl _ _ _ _).ext hs.mem x1 x2).drew _
  have henv : envX ops F f0 [] = f0 := by
    funext t; simp [envX]
  have hI : Inv C x ops m lv bf B E F f0 lo wn bI oI φ w [] 0 φ { w with drawn := w.drawn + 1 } a := by
    refine ⟨by omega, fun s hs => by simp, fun i j _ h => by simp at h, hmem, hg, by rw [henv, hf0]; exact hs.env, by rw [x3]; exact hs.ds, fun i _ hal hlo => ?_, fun i j _ _ hne h1 h2 l1 l2 => hp.dist i j hne h1 h2 (by omega)⟩
    obtain ⟨b1, b2, b3⟩ := hp.made i hal
    rw [show lo i = 0 by omega] at b1 b2 b3
    refine ⟨?_, b2, b3, b1⟩
    cases hφ : φ (bI i) with
    | none => rfl
    | some p => have := hs.mem.below _ _ hφ; omega
  obtain ⟨X', k', φ', w', a', hI', hall, hst⟩ := hI.run hp hb (q := q) (sched_any hE (w.tape w.drawn (.order b.fn id)))
  have hk : k' = m := by
    have := hI'.le
    rcases Nat.lt_or_ge k' m with h | h
    · have := (hI'.louds k' h).1 (hall _ (hlv _ h)); omega
    · omega
  subst hk
  have hF : envX ops F f0 X' = F := by
    funext t
    simp only [envX]
    split
    · rfl
    · rename_i hn
      refine (hp.still t fun i o ho hd => hn ⟨i, hall i ?_, o, ho, hd⟩).symm
      exact (Array.getElem?_eq_some_iff.1 ho).1
  refine ⟨φ', w', a', ⟨hI'.mem, hF ▸ hI'.env, hI'.ds⟩, hI'.grows, ?_⟩
  refine .head stepR_region_draw ?_
  rw [hm]
  exact hst.trans (.one stepR_region_end)
end
end Go.Ev
end

section
set_option maxRecDepth 2000
set_option autoImplicit false
set_option linter.unusedSimpArgs false
set_option linter.unusedVariables false
namespace Go.Ev

/-! ### the stages, as the evaluator goes through them -/
structure Rec where
  i : Nat
  s : AS
  s' : AS
  o : Oper
  v : AV
  wn : Bool
structure St (C : Cx) (x : X) (ops : Array Oper) (r : Rec) : Prop where
  op : ops[r.i]? = some r.o
  dst : ∀ t, r.o.dst = some t → t < x.nt
  put : r.s'.f = putF r.s.f r.o.dst r.v
  one : OneR C.P x ops r.o r.s.f r.s.H r.s.nx r.s.d r.v r.s'.H r.s'.nx r.s'.d
  no : r.wn = false → WantS ops r.o r.s.f false ∧ r.v = .tuple [] ∧ r.s'.H = r.s.H ∧ r.s'.nx = r.s.nx ∧ r.s'.d = r.s.d
  yes : r.wn = true → WantS ops r.o r.s.f true ∧ (cls' C.P r.o.op ≠ 3 → Cls C.P r.o (loc (looksAt ops r.o) r.s.f) r.s.H r.s.nx r.v r.s'.H r.s'.nx ∧ r.s'.d = r.s.d)
inductive Chain (C : Cx) (x : X) (ops : Array Oper) : AS → List Rec → AS → Prop
  | nil (s : AS) : Chain C x ops s [] s
  | cons {r : Rec} {T : List Rec} {s : AS} (h : St C x ops r) (hT : Chain C x ops r.s' T s) : Chain C x ops r.s (r :: T) s
section
variable {C : Cx} {x : X} {ops : Array Oper}
theorem Chain.append {s s' s'' : AS} {T T' : List Rec} (h : Chain C x ops s T s') (h' : Chain C x ops s' T' s'') : Chain C x ops s (T ++ T') s'' := by
  induction h with
  | nil => exact h'
  | cons h _ ih => exact .cons h (ih h')
theorem Chain.still {s s' : AS} {T : List Rec} (h : Chain C x ops s T s') {t : Nat} (ht : ∀ r ∈ T, r.o.dst ≠ some t) : s'.f t = s.f t := by
  induction h with
  | nil => rfl
  | @cons r T s h _ ih =>
    rw [ih fun r hr => ht r (by simp [hr]), h.put]
    have := ht r (by simp)
    cases hd : r.o.dst with
    | none => rfl
    | some u =>
      rw [hd] at this
      simp only [putF, upd]
      rw [if_neg]
      intro e; subst e; exact this rfl
theorem Chain.split {s s' : AS} {T : List Rec} (h : Chain C x ops s T s') : ∀ r ∈ T, ∃ T1 T2, T = T1 ++ r :: T2 ∧ Chain C x ops s T1 r.s ∧ St C x ops r ∧ Chain C x ops r.s' T2 s' := by
  induction h with
  | nil => simp
  | @cons r T s h hT ih =>
    intro r' hr'
    rcases List.mem_cons.1 hr' with rfl | hr'
    · exact ⟨[], T, rfl, .nil _, h, hT⟩
    · obtain ⟨T1, T2, rfl, h1, h2, h3⟩ := ih r' hr'
      exact ⟨r :: T1, T2, rfl, .cons h h1, h2, h3⟩
def opI (ops : Array Oper) (i : Nat) : List Oper := (ops.toList[i]?).toList
theorem OneIs.st {o : Oper} {f : Nat → AV} {H H' : Bid → AObj} {nx nx' : Bid} {d d' : List ADefer} {v : AV} (h : OneIs C x ops o f H nx d v H' nx' d') (hd : ∀ t, o.dst = some t → t < x.nt) {i : Nat} (hi : ops[i]? = some o) :
    ∃ r : Rec, r.i = i ∧ r.s = ⟨f, H, nx, d⟩ ∧ r.s' = ⟨putF f o.dst v, H', nx', d'⟩ ∧ St C x ops r := by
  rcases h.way with ⟨h1, h2, h3, h4, h5⟩ | ⟨h1, h2⟩
  · exact ⟨⟨i, ⟨f, H, nx, d⟩, ⟨putF f o.dst v, H', nx', d'⟩, o, v, false⟩, rfl, rfl, rfl, ⟨hi, hd, rfl, h.one, fun _ => ⟨h1, h2, h3, h4, h5⟩, fun h => by cases h⟩⟩
  · exact ⟨⟨i, ⟨f, H, nx, d⟩, ⟨putF f o.dst v, H', nx', d'⟩, o, v, true⟩, rfl, rfl, rfl, ⟨hi, hd, rfl, h.one, (by intro h; cases h), fun _ => ⟨h1, h2⟩⟩⟩
theorem opsI_good (hC : COk C) (hx : XOk C x) {k : KS} : ∀ (is : List Nat), (∀ i ∈ is, i < ops.size) → ∀ (e : Env) (h : Heap) (s : AS), EnvIs e s.f → HS h s.H s.nx → opsK C (is.flatMap (opI ops)) ops x e h s.d k = .good →
    ∃ s' e' h' T, EnvIs e' s'.f ∧ HS h' s'.H s'.nx ∧ k e' h' s'.d = .good ∧ Chain C x ops s T s' ∧ T.map (·.i) = is
  | [], _, e, h, s, he, hh, hk => ⟨s, e, h, [], he, hh, hk, .nil s, rfl⟩
  | i :: is, hlt, e, h, s, he, hh, hk => by
    obtain ⟨oi, hi⟩ : ∃ o, ops[i]? = some o := ⟨_, Array.getElem?_eq_getElem (hlt i (by simp))⟩
    have e1 : (i :: is).flatMap (opI ops) = oi :: is.flatMap (opI ops) := by
      simp only [List.flatMap_cons, opI, Array.getElem?_toList, hi, Option.toList_some, List.singleton_append]
    rw [e1] at hk
    have hk : oneK C ops oi x e h s.d (fun e h d => opsK C (is.flatMap (opI ops)) ops x e h d k) = .good := hk
    obtain ⟨hd, v, e', h', H', nx', d', he', hk', hh', hone⟩ := oneK_good hC hx hh he hk
    obtain ⟨r, h1, h2, h3, h4⟩ := hone.st hd hi
    obtain ⟨s', e'', h'', T, g1, g2, g3, g4, g5⟩ := opsI_good hC hx is (fun j hj => hlt j (by simp [hj])) e' h' ⟨putF s.f oi.dst v, H', nx', d'⟩ he' hh' hk'
    refine ⟨s', e'', h'', r :: T, g1, g2, g3, ?_, by simp [h1, g5]⟩
    have : s = r.s := by rw [h2]
    rw [this]
    exact .cons h4 (by rw [h3]; exact g4)
/-- An operation, once more. -/
def Ag (C : Cx) (ops : Array Oper) (i : Nat) (s : AS) : Prop := ∃ (o : Oper) (t : Tmp), ops[i]? = some o ∧ o.dst = some t ∧ (cls' C.P o.op = 1 → ReadS C.P o (loc (looksAt ops o) s.f) s.H (s.f t))
theorem againI_good {k : A} : ∀ (is : List Nat), (∀ i ∈ is, i < ops.size) → ∀ (e : Env) (h : Heap) (s : AS), EnvIs e s.f → HS h s.H s.nx → againK C (is.flatMap (opI ops)) e h k = .good → k = .good ∧ ∀ i ∈ is, Ag C ops i s
  | [], _, e, h, s, he, hh, hk => ⟨hk, by simp⟩
  | i :: is, hlt, e, h, s, he, hh, hk => by
    obtain ⟨oi, hi⟩ : ∃ o, ops[i]? = some o := ⟨_, Array.getElem?_eq_getElem (hlt i (by simp))⟩
    have e1 : (i :: is).flatMap (opI ops) = oi :: is.flatMap (opI ops) := by
      simp only [List.flatMap_cons, opI, Array.getElem?_toList, hi, Option.toList_some, List.singleton_append]
    rw [e1] at hk
    have hk : execK oi.op C e h (fun v _ => obK oi.dst fun t => egK t e fun w => bbK (sameV 65536 v w) (againK C (is.flatMap (opI ops)) e h k)) no = .good := hk
    rcases execK_loc hh he (l := looksAt ops oi) look_op hk with ⟨v, h', H', nx', hk1, hh', hc⟩ | ⟨hk1, _⟩
    · simp only [obK_good, egK_good he, bbK_good] at hk1
      obtain ⟨t, ht, _, hs, hk2⟩ := hk1
      have hv := sameV_eq hs
      obtain ⟨g1, g2⟩ := againI_good is (fun j hj => hlt j (by simp [hj])) e h s he hh hk2
      refine ⟨g1, fun j hj => ?_⟩
      rcases List.mem_cons.1 hj with rfl | hj
      · exact ⟨_, t, hi, ht, fun h1 => hv ▸ hc.read h1⟩
      · exact g2 j hj
    · exact absurd hk1 no_good
variable {qu ag : Nat → List Nat} {ld : Nat → Option Nat}
def mkSt (ops : Array Oper) (qu ag : Nat → List Nat) (ld : Nat → Option Nat) (s : Nat) : Stage := .mk ((qu s).flatMap (opI ops)) ((ag s).flatMap (opI ops)) ((ld s).bind fun i => ops.toList[i]?)
theorem stages_good (hC : COk C) (hx : XOk C x) (hqu : ∀ s, ∀ i ∈ qu s, i < ops.size) (hag : ∀ s, ∀ i ∈ ag s, i < ops.size) (hld : ∀ s i, ld s = some i → i < ops.size) {k : KS} : ∀ (j s : Nat) (e : Env) (h : Heap) (a : AS), EnvIs e a.f → HS h a.H a.nx → stagesK C ((List.range' s j).map (mkSt ops qu ag ld)) ops x e h a.d k = .good →
    ∃ (B E : Nat → AS) (TQ TL : Nat → List Rec) (e' : Env) (h' : Heap), B s = a ∧ EnvIs e' (B (s + j)).f ∧ HS h' (B (s + j)).H (B (s + j)).nx ∧ k e' h' (B (s + j)).d = .good ∧
      ∀ q, s ≤ q → q < s + j → Chain C x ops (B q) (TQ q) (E q) ∧ (TQ q).map (·.i) = qu q ∧ (∀ i ∈ ag q, Ag C ops i (E q)) ∧ Chain C x ops (E q) (TL q) (B (q + 1)) ∧ (TL q).map (·.i) = (ld q).toList
  | 0, s, e, h, a, he, hh, hk => ⟨fun _ => a, fun _ => a, fun _ => [], fun _ => [], e, h, rfl, he, hh, hk, fun q h1 h2 => by omega⟩
  | j + 1, s, e, h, a, he, hh, hk => by
    rw [List.range'_succ, List.map_cons] at hk
    have hk : opsK C ((qu s).flatMap (opI ops)) ops x e h a.d (fun e h d => againK C ((ag s).flatMap (opI ops)) e h
      (Option.rec (stagesK C ((List.range' (s + 1) j).map (mkSt ops qu ag ld)) ops x e h d k) (fun o => oneK C ops o x e h d fun e h d => stagesK C ((List.range' (s + 1) j).map (mkSt ops qu ag ld)) ops x e h d k) ((ld s).bind fun i => ops.toList[i]?))) = .good := hk
    obtain ⟨a1, e1, h1, T1, g1, g2, g3, g4, g5⟩ := opsI_good hC hx (qu s) (hqu s) e h a he hh hk
    obtain ⟨g6, g7⟩ := againI_good (ag s) (hag s) e1 h1 a1 g1 g2 g3
    have fin : ∀ (a2 : AS) (e2 : Env) (h2 : Heap) (T2 : List Rec), EnvIs e2 a2.f → HS h2 a2.H a2.nx → Chain C x ops a1 T2 a2 → T2.map (·.i) = (ld s).toList → stagesK C ((List.range' (s + 1) j).map (mkSt ops qu ag ld)) ops x e2 h2 a2.d k = .good →
        ∃ (B E : Nat → AS) (TQ TL : Nat → List Rec) (e' : Env) (h' : Heap), B s = a ∧ EnvIs e' (B (s + (j + 1))).f ∧ HS h' (B (s + (j + 1))).H (B (s + (j + 1))).nx ∧ k e' h' (B (s + (j + 1))).d = .good ∧
      ∀ q, s ≤ q → q < s + (j + 1) → Chain C x ops (B q) (TQ q) (E q) ∧ (TQ q).map (·.i) = qu q ∧ (∀ i ∈ ag q, Ag C ops i (E q)) ∧ Chain C x ops (E q) (TL q) (B (q + 1)) ∧ (TL q).map (·.i) = (ld q).toList := by
      intro a2 e2 h2 T2 f1 f2 f3 f4 f5
      obtain ⟨B, E, TQ, TL, e', h', b1, b2, b3, b4, b5⟩ := stages_good hC hx hqu hag hld j (s + 1) e2 h2 a2 f1 f2 f5
      rw [show s + 1 + j = s + (j + 1) by omega] at b2 b3 b4 b5
      refine ⟨fun q => if q = s then a else B q, fun q => if q = s then a1 else E q, fun q => if q = s then T1 else TQ q, fun q => if q = s then T2 else TL q, e', h', if_pos rfl, ?_, ?_, ?_, fun q hq1 hq2 => ?_⟩
      · simp only [if_neg (show ¬ s + (j + 1) = s by omega)]; exact b2
      · simp only [if_neg (show ¬ s + (j + 1) = s by omega)]; exact b3
      · simp only [if_neg (show ¬ s + (j + 1) = s by omega)]; exact b4
      · by_cases e : q = s
        · subst e
          simp only [if_true, if_neg (show ¬ q + 1 = q by omega)]
          rw [b1]
          exact ⟨g4, g5, g7, f3, f4⟩
        · simp only [if_neg e, if_neg (show ¬ q + 1 = s by omega)]
          exact b5 q (by omega) hq2
    cases hl : ld s with
    | none =>
      rw [hl] at g6
      exact fin a1 e1 h1 [] g1 g2 (.nil _) (by simp [hl]) g6
    | some i =>
      obtain ⟨oi, hi⟩ : ∃ o, ops[i]? = some o := ⟨_, Array.getElem?_eq_getElem (hld s i hl)⟩
      rw [hl] at g6
      simp only [Option.bind_some, Array.getElem?_toList, hi] at g6
      obtain ⟨hd, v, e2, h2, H2, nx2, d2, f1, f2, f3, f4⟩ := oneK_good hC hx g2 g1 g6
      obtain ⟨r, r1, r2, r3, r4⟩ := f4.st hd hi
      refine fin ⟨putF a1.f oi.dst v, H2, nx2, d2⟩ e2 h2 [r] f1 f3 ?_ (by simp [r1, hl]) f2
      have := Chain.cons r4 (Chain.nil r.s')
      rw [r3, r2] at this
      exact this
end
end Go.Ev
end

section
set_option maxRecDepth 2000
set_option autoImplicit false
set_option linter.unusedSimpArgs false
set_option linter.unusedVariables false
namespace Go.Ev

/-! ### the stages of a region -/
section
variable (P : Program) (ops : Array Oper)
def nI : Nat := ops.toList.length
noncomputable def cI (i : Nat) : Nat := ((ops.toList[i]?).map fun o => cls' P o.op).getD 3
def bmI : List Nat := masks ops.toList []
def bfI (i j : Nat) : Bool := ((bmI ops).getD j 0).testBit i
noncomputable def ldI : List Nat := (List.range (nI ops)).filter fun i => cI P ops i == 3
noncomputable def loI (i : Nat) : Nat := (((ldI P ops).zip (List.range (ldI P ops).length)).filter fun q => bfI ops q.1 i).foldl (fun a q => max a (q.2 + 1)) 0
noncomputable def hiI (i : Nat) : Nat := (((ldI P ops).zip (List.range (ldI P ops).length)).filter fun q => bfI ops i q.1).foldl (fun a q => min a q.2) (ldI P ops).length
noncomputable def mdI (s : Nat) : Bool := (List.range (nI ops)).any fun i => cI P ops i == 2 && loI P ops i == s
noncomputable def quI (s : Nat) : List Nat := (List.range (nI ops)).filter fun i => cI P ops i != 3 && loI P ops i == s
noncomputable def agI (s : Nat) : List Nat := (List.range (nI ops)).filter fun i => cI P ops i == 1 && ((loI P ops i < s && s ≤ hiI P ops i) || (loI P ops i == s && mdI P ops s))
noncomputable def sqI : List Nat := (List.range ((ldI P ops).length + 1)).flatMap fun s => quI P ops s ++ ((ldI P ops)[s]?).toList
noncomputable def orI : Nat × Bool := (sqI P ops).foldl (fun (q : Nat × Bool) i => (q.1 ||| 2 ^ i, q.2 && (((bmI ops).getD i 0) &&& q.1 == (bmI ops).getD i 0))) (0, true)
def edI : Bool := (List.range (nI ops)).all fun j => ((ops.toList[j]?).map fun o => o.after.toList.all fun e => !Region.binds .any e || decide (e.on < j)).getD false
noncomputable def lkI : Bool := (List.range (nI ops)).all fun r => ((ops.toList[r]?).map fun o => (looksAt ops o).all fun t => (List.range (nI ops)).all fun a => ((ops.toList[a]?).bind (·.dst)) != some t || bfI ops a r || ((a == r || bfI ops r a) && !(List.range ((ldI P ops).length + 1)).any fun s => (agI P ops s).contains r)).getD false
noncomputable def chI : Bool := ((ldI P ops).zip ((ldI P ops).drop 1)).all fun (i, j) => bfI ops i j
noncomputable def gdI : Bool := (List.range (nI ops)).all fun i => cI P ops i != 1 || ((ops.toList[i]?).map fun o => o.guard.isNone).getD false || !(List.range ((ldI P ops).length + 1)).any fun s => (agI P ops s).contains i
noncomputable def okI : Bool := edI ops && decide ((ops.toList.filterMap (·.dst)).Nodup) && lkI P ops && (orI P ops).2 && ((orI P ops).1 == 2 ^ nI ops - 1) && decide ((sqI P ops).length = nI ops) && chI P ops && gdI P ops
theorem stagesOf_eq : stagesOf P ops = if okI P ops then some ((List.range ((ldI P ops).length + 1)).map (mkSt ops (quI P ops) (agI P ops) fun s => (ldI P ops)[s]?)) else none := rfl
end
variable {P : Program} {ops : Array Oper}
structure OkI (P : Program) (ops : Array Oper) : Prop where
  ed : edI ops = true
  nd : (ops.toList.filterMap (·.dst)).Nodup
  lk : lkI P ops = true
  od : (orI P ops).2 = true
  ch : chI P ops = true
theorem stagesOf_some {L : List Stage} (h : stagesOf P ops = some L) : OkI P ops ∧ L = (List.range' 0 ((ldI P ops).length + 1)).map (mkSt ops (quI P ops) (agI P ops) fun s => (ldI P ops)[s]?) := by
  rw [stagesOf_eq] at h
  split at h
  · rename_i hk
    simp only [okI, Bool.and_eq_true, decide_eq_true_eq] at hk
    obtain ⟨⟨⟨⟨⟨⟨⟨h1, h2⟩, h3⟩, h4⟩, h5⟩, h6⟩, h7⟩, h8⟩ := hk
    cases h
    exact ⟨⟨h1, h2, h3, h4, h7⟩, by rw [List.range_eq_range']⟩
  · cases h
theorem masks_pre : ∀ (l : List Oper) (acc : List Nat), ∃ r, masks l acc = acc ++ r ∧ r.length = l.length
  | [], acc => ⟨[], by simp [masks], rfl⟩
  | o :: os, acc => by
    obtain ⟨r, hr, hl⟩ := masks_pre os (acc ++ [o.after.toList.foldl (fun s e => if Region.binds .any e then s ||| 2 ^ e.on ||| acc.getD e.on 0 else s) 0])
    refine ⟨o.after.toList.foldl (fun s e => if Region.binds .any e then s ||| 2 ^ e.on ||| acc.getD e.on 0 else s) 0 :: r, ?_, by simp [hl]⟩
    rw [masks, hr, List.append_assoc]; rfl
theorem fold_bits (acc : List Nat) (i : Nat) : ∀ (es : List Edge) (s : Nat), (es.foldl (fun s e => if Region.binds .any e then s ||| 2 ^ e.on ||| acc.getD e.on 0 else s) s).testBit i = true →
    s.testBit i = true ∨ ∃ e ∈ es, Region.binds .any e = true ∧ (i = e.on ∨ (acc.getD e.on 0).testBit i = true)
  | [], s, h => .inl h
  | e :: es, s, h => by
    rw [List.foldl_cons] at h
    rcases fold_bits acc i es _ h with h | ⟨e', h1, h2, h3⟩
    · split at h
      · rename_i hb
        simp only [Nat.testBit_or, Bool.or_eq_true, Nat.testBit_two_pow, decide_eq_true_eq] at h
        rcases h with (h | h) | h
        · exact .inl h
        · exact .inr ⟨e, by simp, hb, .inl h.symm⟩
        · exact .inr ⟨e, by simp, hb, .inr h⟩
      · exact .inl h
    · exact .inr ⟨e', by simp [h1], h2, h3⟩
theorem masks_bit : ∀ (l : List Oper) (acc : List Nat) (j i : Nat), acc.length ≤ j → ((masks l acc).getD j 0).testBit i = true →
    ∃ o, l[j - acc.length]? = some o ∧ ∃ e ∈ o.after.toList, Region.binds .any e = true ∧ (i = e.on ∨ ((masks l acc).getD e.on 0).testBit i = true)
  | [], acc, j, i, hj, h => by
    simp only [masks, List.getD_eq_getElem?_getD, List.getElem?_eq_none hj] at h
    simp at h
  | o :: os, acc, j, i, hj, h => by
    rw [masks] at h
    rcases Nat.lt_or_ge acc.length j with hlt | hge
    · obtain ⟨o', h1, e, h2, h3, h4⟩ := masks_bit os _ j i (by simp; omega) h
      refine ⟨o', ?_, e, h2, h3, h4⟩
      rw [show j - acc.length = (j - (acc.length + 1)) + 1 by omega, List.getElem?_cons_succ]
      simpa using h1
    · have hj : j = acc.length := by omega
      subst hj
      refine ⟨o, by simp, ?_⟩
      obtain ⟨r, hr, _⟩ := masks_pre os (acc ++ [o.after.toList.foldl (fun s e => if Region.binds .any e then s ||| 2 ^ e.on ||| acc.getD e.on 0 else s) 0])
      have hget : (masks os (acc ++ [o.after.toList.foldl (fun s e => if Region.binds .any e then s ||| 2 ^ e.on ||| acc.getD e.on 0 else s) 0])).getD acc.length 0 = o.after.toList.foldl (fun s e => if Region.binds .any e then s ||| 2 ^ e.on ||| acc.getD e.on 0 else s) 0 := by
        rw [hr]; simp
      rw [hget] at h
      rcases fold_bits acc i _ 0 h with h | ⟨e, h1, h2, h3⟩
      · simp at h
      · refine ⟨e, h1, h2, ?_⟩
        rcases h3 with h3 | h3
        · exact .inl h3
        · right
          rw [masks, hr]
          rcases Nat.lt_or_ge e.on acc.length with hl | hl
          · rw [List.getD_eq_getElem?_getD, List.append_assoc, List.getElem?_append_left hl, ← List.getD_eq_getElem?_getD]; exact h3
          · simp only [List.getD_eq_getElem?_getD, List.getElem?_eq_none hl] at h3
            simp at h3
theorem bfI_edge {i j : Nat} (h : bfI ops i j = true) : ∃ (o : Oper) (e : Edge), ops[j]? = some o ∧ e ∈ o.after.toList ∧ Region.binds .any e = true ∧ (i = e.on ∨ bfI ops i e.on = true) := by
  obtain ⟨o, h1, e, h2, h3, h4⟩ := masks_bit ops.toList [] j i (by simp) h
  exact ⟨o, e, by simpa using h1, h2, h3, h4⟩
theorem OkI.low (h : OkI P ops) : EdgesLow ops := by
  intro j o ho e he hb
  have h1 := h.ed
  simp only [edI, List.all_eq_true, List.mem_range] at h1
  have hj : j < nI ops := by
    have := (Array.getElem?_eq_some_iff.1 ho).1
    simpa [nI] using this
  have h2 := h1 j hj
  rw [Array.getElem?_toList, ho] at h2
  simp only [Option.map_some, Option.getD_some, List.all_eq_true] at h2
  have := h2 e he
  simpa [hb] using this
theorem lt_nI {i : Nat} : i < nI ops ↔ i < ops.size := by simp [nI]
theorem cI_of {i : Nat} {o : Oper} (h : ops[i]? = some o) : cI P ops i = cls' P o.op := by simp [cI, h]
theorem OkI.nod (h : OkI P ops) {i j : Nat} {o o' : Oper} {t : Tmp} (hi : ops[i]? = some o) (hj : ops[j]? = some o') (ht : o.dst = some t) (ht' : o'.dst = some t) : i = j := by
  have h1 : (ops.toList.filterMap (·.dst)).Nodup := h.nd
  rw [List.Nodup, List.pairwise_filterMap] at h1
  have key : ∀ (a b : Nat) (p q : Oper), a < b → ops[a]? = some p → ops[b]? = some q → p.dst = some t → q.dst = some t → False := by
    intro a b p q hab ha hb hp hq
    have := (List.pairwise_iff_getElem.1 h1) a b (by simpa using (Array.getElem?_eq_some_iff.1 ha).1) (by simpa using (Array.getElem?_eq_some_iff.1 hb).1) hab t (by
      have := (Array.getElem?_eq_some_iff.1 ha).2
      simpa [this] using hp) t (by
      have := (Array.getElem?_eq_some_iff.1 hb).2
      simpa [this] using hq)
    exact this rfl
  rcases Nat.lt_trichotomy i j with h | h | h
  · exact (key _ _ _ _ h hi hj ht ht').elim
  · exact h
  · exact (key _ _ _ _ h hj hi ht' ht).elim
theorem OkI.look (h : OkI P ops) {r a : Nat} {o o' : Oper} {t : Tmp} (hr : ops[r]? = some o) (ht : t ∈ looksAt ops o) (ha : ops[a]? = some o') (ht' : o'.dst = some t) :
    bfI ops a r = true ∨ ((a = r ∨ bfI ops r a = true) ∧ ∀ s, s ≤ (ldI P ops).length → r ∉ agI P ops s) := by
  have h1 := h.lk
  simp only [lkI, List.all_eq_true, List.mem_range, lt_nI] at h1
  have h2 := h1 r (Array.getElem?_eq_some_iff.1 hr).1
  rw [Array.getElem?_toList, hr] at h2
  simp only [Option.map_some, Option.getD_some, List.all_eq_true] at h2
  have h3 := h2 t ht a (by rw [List.mem_range, lt_nI]; exact (Array.getElem?_eq_some_iff.1 ha).1)
  rw [Array.getElem?_toList, ha] at h3
  simp only [Option.bind_some, ht', bne_self_eq_false, Bool.false_or, Bool.or_eq_true, Bool.and_eq_true, Bool.not_eq_true', beq_iff_eq, List.any_eq_false, List.mem_range] at h3
  rcases h3 with h3 | ⟨h3, h4⟩
  · exact .inl h3
  · refine .inr ⟨h3, fun s hs hm => ?_⟩
    have := h4 s (by omega)
    simp [hm] at this
theorem foldl_max {α : Type} (f : α → Nat) : ∀ (l : List α) (a : Nat), (l.foldl (fun a q => max a (f q + 1)) a = a ∨ ∃ q ∈ l, l.foldl (fun a q => max a (f q + 1)) a = f q + 1)
  | [], a => .inl rfl
  | x :: l, a => by
    rw [List.foldl_cons]
    rcases foldl_max f l (max a (f x + 1)) with h | ⟨q, h1, h2⟩
    · rw [h]
      rcases Nat.le_total a (f x + 1) with h' | h'
      · exact .inr ⟨x, by simp, Nat.max_eq_right h'⟩
      · exact .inl (Nat.max_eq_left h')
    · exact .inr ⟨q, by simp [h1], h2⟩
theorem foldl_min {α : Type} (f : α → Nat) : ∀ (l : List α) (a : Nat), (l.foldl (fun a q => min a (f q)) a = a ∨ ∃ q ∈ l, l.foldl (fun a q => min a (f q)) a = f q)
  | [], a => .inl rfl
  | x :: l, a => by
    rw [List.foldl_cons]
    rcases foldl_min f l (min a (f x)) with h | ⟨q, h1, h2⟩
    · rw [h]
      rcases Nat.le_total a (f x) with h' | h'
      · exact .inl (Nat.min_eq_left h')
      · exact .inr ⟨x, by simp, Nat.min_eq_right h'⟩
    · exact .inr ⟨q, by simp [h1], h2⟩
theorem zip_range {l : List Nat} {q : Nat × Nat} (h : q ∈ l.zip (List.range l.length)) : l[q.2]? = some q.1 := by
  obtain ⟨k, hk, e⟩ := List.getElem_of_mem h
  rw [List.getElem_zip] at e
  subst e
  simp at hk ⊢
noncomputable def lvI (P : Program) (ops : Array Oper) (s : Nat) : Nat := (ldI P ops).getD s 0
theorem lvI_eq {s i : Nat} (h : (ldI P ops)[s]? = some i) : lvI P ops s = i := by simp [lvI, List.getD_eq_getElem?_getD, h]
theorem lvI_get {s : Nat} (h : s < (ldI P ops).length) : (ldI P ops)[s]? = some (lvI P ops s) := by
  rw [List.getElem?_eq_getElem h]; simp [lvI, List.getD_eq_getElem?_getD, h]
theorem loI_spec (i : Nat) : loI P ops i ≤ (ldI P ops).length ∧ (0 < loI P ops i → bfI ops (lvI P ops (loI P ops i - 1)) i = true) := by
  rcases foldl_max (fun q : Nat × Nat => q.2) (((ldI P ops).zip (List.range (ldI P ops).length)).filter fun q => bfI ops q.1 i) 0 with h | ⟨q, h1, h2⟩
  · have h : loI P ops i = 0 := h
    exact ⟨by omega, fun h' => by omega⟩
  · have h2 : loI P ops i = q.2 + 1 := h2
    obtain ⟨h3, h4⟩ := List.mem_filter.1 h1
    have h5 := zip_range h3
    have := (List.getElem?_eq_some_iff.1 h5).1
    refine ⟨by omega, fun _ => ?_⟩
    rw [h2, Nat.add_sub_cancel, lvI_eq h5]; exact h4
theorem hiI_spec {i s : Nat} (hs : s ≤ (ldI P ops).length) (h : ∀ r, r < s → bfI ops i (lvI P ops r) = false) : s ≤ hiI P ops i := by
  rcases foldl_min (fun q : Nat × Nat => q.2) (((ldI P ops).zip (List.range (ldI P ops).length)).filter fun q => bfI ops i q.1) (ldI P ops).length with h' | ⟨q, h1, h2⟩
  · have h' : hiI P ops i = (ldI P ops).length := h'
    omega
  · have h2 : hiI P ops i = q.2 := h2
    obtain ⟨h3, h4⟩ := List.mem_filter.1 h1
    have h5 := zip_range h3
    rcases Nat.lt_or_ge q.2 s with hl | hl
    · have := h q.2 hl
      rw [lvI_eq h5] at this
      rw [this] at h4; cases h4
    · omega
theorem mem_quI {s i : Nat} : i ∈ quI P ops s ↔ i < ops.size ∧ cI P ops i ≠ 3 ∧ loI P ops i = s := by
  simp [quI, lt_nI]
theorem mem_agI {s i : Nat} : i ∈ agI P ops s ↔ i < ops.size ∧ cI P ops i = 1 ∧ ((loI P ops i < s ∧ s ≤ hiI P ops i) ∨ (loI P ops i = s ∧ mdI P ops s = true)) := by
  simp [agI, lt_nI]
theorem mdI_no {s i : Nat} (h : mdI P ops s = false) (hi : i < ops.size) (hc : cI P ops i = 2) : loI P ops i ≠ s := by
  simp only [mdI, List.any_eq_false, List.mem_range, lt_nI] at h
  have := h i hi
  simpa [hc] using this
theorem ldI_nodup : (ldI P ops).Nodup := List.nodup_range.filter _
theorem mem_ldI {i : Nat} : i ∈ ldI P ops ↔ i < ops.size ∧ cI P ops i = 3 := by simp [ldI, lt_nI]
theorem lvI_lt {s : Nat} (h : s < (ldI P ops).length) : lvI P ops s < ops.size ∧ cI P ops (lvI P ops s) = 3 := by
  have := List.mem_of_getElem? (lvI_get h)
  exact mem_ldI.1 this
theorem lvI_inj {s s' : Nat} (h : s < (ldI P ops).length) (h' : s' < (ldI P ops).length) (e : lvI P ops s = lvI P ops s') : s = s' := by
  have h1 := lvI_get h
  have h2 := lvI_get h'
  rw [e] at h1
  exact (List.getElem?_inj h ldI_nodup).1 (h1.trans h2.symm)
theorem lvI_all {i : Nat} (hi : i < ops.size) (hc : cI P ops i = 3) : ∃ s, s < (ldI P ops).length ∧ lvI P ops s = i := by
  obtain ⟨s, hs, e⟩ := List.getElem_of_mem (mem_ldI.2 ⟨hi, hc⟩)
  exact ⟨s, hs, by rw [← e]; exact lvI_eq (List.getElem?_eq_getElem hs)⟩
theorem OkI.chain (h : OkI P ops) {s : Nat} (hs : s + 1 < (ldI P ops).length) : bfI ops (lvI P ops s) (lvI P ops (s + 1)) = true := by
  have h1 := h.ch
  simp only [chI, List.all_eq_true] at h1
  have hm : (lvI P ops s, lvI P ops (s + 1)) ∈ (ldI P ops).zip ((ldI P ops).drop 1) := by
    refine List.mem_of_getElem? (i := s) ?_
    rw [List.getElem?_zip_eq_some]
    refine ⟨lvI_get (by omega), ?_⟩
    rw [List.getElem?_drop, Nat.add_comm 1 s]
    exact lvI_get hs
  exact h1 _ hm
theorem or_fold (bm : List Nat) : ∀ (l : List Nat) (acc : Nat × Bool), (l.foldl (fun (q : Nat × Bool) i => (q.1 ||| 2 ^ i, q.2 && ((bm.getD i 0) &&& q.1 == bm.getD i 0))) acc).2 = true →
    acc.2 = true ∧ ∀ D i rest, l = D ++ i :: rest → ∀ a, (bm.getD i 0).testBit a = true → acc.1.testBit a = true ∨ a ∈ D
  | [], acc, h => ⟨h, fun D i rest e => by simp at e⟩
  | x :: l, acc, h => by
    rw [List.foldl_cons] at h
    obtain ⟨h1, h2⟩ := or_fold bm l _ h
    simp only [Bool.and_eq_true, beq_iff_eq] at h1
    refine ⟨h1.1, fun D i rest e a ha => ?_⟩
    cases D with
    | nil =>
      simp only [List.nil_append, List.cons.injEq] at e
      obtain ⟨rfl, rfl⟩ := e
      rw [← h1.2, Nat.testBit_and, Bool.and_eq_true] at ha
      exact .inl ha.2
    | cons y D =>
      simp only [List.cons_append, List.cons.injEq] at e
      obtain ⟨rfl, e⟩ := e
      rcases h2 D i rest e a ha with h3 | h3
      · simp only [Nat.testBit_or, Bool.or_eq_true, Nat.testBit_two_pow, decide_eq_true_eq] at h3
        rcases h3 with h3 | h3
        · exact .inl h3
        · exact .inr (by simp [h3])
      · exact .inr (by simp [h3])
theorem OkI.order (h : OkI P ops) {D rest : List Nat} {i : Nat} (e : sqI P ops = D ++ i :: rest) {a : Nat} (ha : bfI ops a i = true) : a ∈ D := by
  obtain ⟨_, h1⟩ := or_fold (bmI ops) (sqI P ops) (0, true) h.od
  rcases h1 D i rest e a ha with h2 | h2
  · simp at h2
  · exact h2
theorem sqI_nodup : (sqI P ops).Nodup := by
  rw [sqI, List.Nodup, List.pairwise_flatMap]
  constructor
  · intro s _
    show (quI P ops s ++ ((ldI P ops)[s]?).toList).Nodup
    rw [List.nodup_append]
    refine ⟨List.nodup_range.filter _, ?_, ?_⟩
    · cases (ldI P ops)[s]? <;> simp
    · intro a ha b hb e
      subst e
      rw [Option.mem_toList] at hb
      exact (mem_quI.1 ha).2.1 (mem_ldI.1 (List.mem_of_getElem? hb)).2
  · refine List.Pairwise.imp ?_ List.nodup_range
    intro s s' hne a ha b hb e
    subst e
    rcases List.mem_append.1 ha with ha | ha <;> rcases List.mem_append.1 hb with hb | hb
    · exact hne ((mem_quI.1 ha).2.2.symm.trans (mem_quI.1 hb).2.2)
    · rw [Option.mem_toList] at hb
      exact (mem_quI.1 ha).2.1 (mem_ldI.1 (List.mem_of_getElem? hb)).2
    · rw [Option.mem_toList] at ha
      exact (mem_quI.1 hb).2.1 (mem_ldI.1 (List.mem_of_getElem? ha)).2
    · rw [Option.mem_toList] at ha hb
      have := (List.getElem?_eq_some_iff.1 ha).1
      exact hne ((List.getElem?_inj this ldI_nodup).1 (ha.trans hb.symm))
end Go.Ev
end

section
set_option maxRecDepth 2000
set_option autoImplicit false
set_option linter.unusedSimpArgs false
set_option linter.unusedVariables false
namespace Go.Ev

/-! ### a drawn region, whole -/
section
variable {C : Cx} {x : X} {ops : Array Oper}
theorem Sees.congr {φ : Phi} {l : List Nat} {f f' : Nat → AV} {tmps : Array Value} (h : Sees φ l f tmps) (e : ∀ t ∈ l, f t = f' t) : Sees φ l f' tmps := fun t ht h' => e t ht ▸ h t ht h'
theorem WantS.congr {o : Oper} {f f' : Nat → AV} {b : Bool} (h : WantS ops o f b) (e : ∀ t ∈ looksAt ops o, f t = f' t) : WantS ops o f' b := fun φ tmps hs => h φ tmps (hs.congr fun t ht => (e t (look_gd t ht)).symm)
theorem OneR.congr {o : Oper} {f f' : Nat → AV} {H H' : Bid → AObj} {nx nx' : Bid} {d d' : List ADefer} {v : AV} (h : OneR C.P x ops o f H nx d v H' nx' d') (e : ∀ t ∈ looksAt ops o, f t = f' t) : OneR C.P x ops o f' H nx d v H' nx' d' :=
  fun φ w b a cs i rest k hi hb hR hs hds => h φ w b a cs i rest k hi hb hR (hs.congr fun t ht => (e t ht).symm) hds
theorem loc_congr {l : List Nat} {f f' : Nat → AV} (e : ∀ t ∈ l, f t = f' t) : loc l f = loc l f' := by
  funext t
  simp only [loc]
  split
  · rename_i h; exact e t h
  · rfl
theorem St.quiet {r : Rec} (h : St C x ops r) (hc : cls' C.P r.o.op ≠ 3) : r.s.nx.num ≤ r.s'.nx.num ∧ (∀ b : Bid, b.num < r.s.nx.num → r.s'.H b = r.s.H b) ∧ r.s'.d = r.s.d ∧ (cls' C.P r.o.op ≠ 2 → r.s'.H = r.s.H) := by
  cases hw : r.wn with
  | false =>
    obtain ⟨_, _, h1, h2, h3⟩ := h.no hw
    rw [h1, h2, h3]; exact ⟨Nat.le_refl _, fun _ _ => rfl, rfl, fun _ => rfl⟩
  | true =>
    obtain ⟨_, h1⟩ := h.yes hw
    obtain ⟨h2, h3⟩ := h1 hc
    rw [h3]
    by_cases h2' : cls' C.P r.o.op = 2
    · obtain ⟨ob, _, h4, h5, _⟩ := h2.alloc h2'
      rw [h4]
      refine ⟨by omega, fun b hb => updB_other _ _ (by rintro rfl; omega), rfl, fun h => absurd h2' h⟩
    · have := cls_le C.P r.o.op
      obtain ⟨h4, h5⟩ := h2.same (by omega)
      rw [h4, h5]; exact ⟨Nat.le_refl _, fun _ _ => rfl, rfl, fun _ => rfl⟩
theorem Chain.quiet {s s' : AS} {T : List Rec} (h : Chain C x ops s T s') (hc : ∀ r ∈ T, cls' C.P r.o.op ≠ 3) : s.nx.num ≤ s'.nx.num ∧ (∀ b : Bid, b.num < s.nx.num → s'.H b = s.H b) ∧ s'.d = s.d ∧ ((∀ r ∈ T, cls' C.P r.o.op ≠ 2) → s'.H = s.H) := by
  induction h with
  | nil => exact ⟨Nat.le_refl _, fun _ _ => rfl, rfl, fun _ => rfl⟩
  | @cons r T s h _ ih =>
    obtain ⟨a1, a2, a3, a4⟩ := h.quiet (hc r (by simp))
    obtain ⟨b1, b2, b3, b4⟩ := ih fun r hr => hc r (by simp [hr])
    exact ⟨by omega, fun b hb => (b2 b (by omega)).trans (a2 b hb), b3.trans a3, fun h => (b4 fun r hr => h r (by simp [hr])).trans (a4 (h r (by simp)))⟩
theorem Chain.all {s s' : AS} {T : List Rec} (h : Chain C x ops s T s') : ∀ r ∈ T, St C x ops r := fun r hr => let ⟨_, _, _, _, h, _⟩ := h.split r hr; h
theorem Chain.nil_inv {s s' : AS} (h : Chain C x ops s [] s') : s' = s := by cases h; rfl
theorem Chain.one_inv {s s' : AS} {r : Rec} (h : Chain C x ops s [r] s') : r.s = s ∧ r.s' = s' ∧ St C x ops r := by
  obtain ⟨T1, T2, e, h1, h2, h3⟩ := h.split r (by simp)
  have hl := congrArg List.length e
  simp only [List.length_append, List.length_cons, List.length_nil] at hl
  have e1 : T1.length = 0 := by omega
  have e2 : T2.length = 0 := by omega
  obtain rfl := List.length_eq_zero_iff.1 e1
  obtain rfl := List.length_eq_zero_iff.1 e2
  exact ⟨h1.nil_inv, h3.nil_inv.symm, h2⟩
theorem draw_good (hC : COk C) (hx : XOk C x) {kn : KS} {e : Env} {h : Heap} {s : AS} (he : EnvIs e s.f) (hh : HS h s.H s.nx) {id : Nat} (hk : drawK C ops x e h s.d kn = .good) :
    ∃ s' e' h', EnvIs e' s'.f ∧ HS h' s'.H s'.nx ∧ kn e' h' s'.d = .good ∧ Ends C.P x (.region id ops true) s s' := by
  simp only [drawK, obK_good] at hk
  obtain ⟨L, hL, hk⟩ := hk
  obtain ⟨hok, rfl⟩ := stagesOf_some hL
  generalize hm : (ldI C.P ops).length = m at hk
  obtain ⟨B, E, TQ, TL, e', h', hB0, he', hh', hk', hst⟩ := stages_good hC hx (fun s i hi => (mem_quI.1 hi).1) (fun s i hi => (mem_agI.1 hi).1) (fun s i hi => (mem_ldI.1 (List.mem_of_getElem? hi)).1) (m + 1) 0 e h s he hh hk
  rw [Nat.zero_add] at he' hh' hk' hst
  replace hst : ∀ q, q ≤ m → _ := fun q hq => hst q (Nat.zero_le _) (by omega)
  -- the end
  have hTLm : TL m = [] := by
    have := (hst m (Nat.le_refl _)).2.2.2.2
    rw [List.getElem?_eq_none (by omega)] at this
    simpa using this
  have hEm : B (m + 1) = E m := by
    have := (hst m (Nat.le_refl _)).2.2.2.1
    rw [hTLm] at this
    exact this.nil_inv
  -- all records
  let Tp : Nat → List Rec := fun k => (List.range k).flatMap fun q => TQ q ++ TL q
  have Tp_succ : ∀ k, Tp (k + 1) = Tp k ++ (TQ k ++ TL k) := fun k => by
    simp [Tp, List.range_succ, List.flatMap_append]
  have hpre : ∀ k, k ≤ m + 1 → Chain C x ops (B 0) (Tp k) (B k) := by
    intro k
    induction k with
    | zero => intro _; exact .nil _
    | succ k ih =>
      intro hk
      rw [Tp_succ]
      obtain ⟨a1, _, _, a4, _⟩ := hst k (by omega)
      exact (ih (by omega)).append (a1.append a4)
  have hsuf : ∀ n, n ≤ m + 1 → ∀ k, k ≤ n → ∃ T2, Tp n = Tp k ++ T2 ∧ Chain C x ops (B k) T2 (B n) := by
    intro n
    induction n with
    | zero => intro _ k hk; exact ⟨[], by rw [show k = 0 by omega]; simp, by rw [show k = 0 by omega]; exact .nil _⟩
    | succ n ih =>
      intro hn k hk
      rcases Nat.lt_or_ge n k with h | h
      · have : k = n + 1 := by omega
        subst this
        exact ⟨[], by simp, .nil _⟩
      · obtain ⟨T2, h1, h2⟩ := ih (by omega) k h
        obtain ⟨a1, _, _, a4, _⟩ := hst n (by omega)
        exact ⟨T2 ++ (TQ n ++ TL n), by rw [Tp_succ, h1, List.append_assoc], h2.append (a1.append a4)⟩
  have hidx : ∀ k, k ≤ m + 1 → (Tp k).map (·.i) = (List.range k).flatMap fun s => quI C.P ops s ++ ((ldI C.P ops)[s]?).toList := by
    intro k
    induction k with
    | zero => intro _; rfl
    | succ k ih =>
      intro hk
      obtain ⟨_, a2, _, _, a5⟩ := hst k (by omega)
      rw [Tp_succ, List.map_append, ih (by omega), List.map_append, a2, a5, List.range_succ, List.flatMap_append]
      simp
  have hsq : (Tp (m + 1)).map (·.i) = sqI C.P ops := by
    rw [hidx _ (Nat.le_refl _), sqI, hm]
  have hnd : ((Tp (m + 1)).map (·.i)).Nodup := by rw [hsq]; exact sqI_nodup
  have hall : ∀ r ∈ Tp (m + 1), St C x ops r := (hpre _ (Nat.le_refl _)).all
  -- the slots at some state
  have env1 : ∀ (T1 T2 : List Rec) (a : AS), Tp (m + 1) = T1 ++ T2 → Chain C x ops a T2 (B (m + 1)) → ∀ t, (∃ r ∈ T1, r.o.dst = some t) → a.f t = (B (m + 1)).f t := by
    rintro T1 T2 a hT hc t ⟨r, hr, ht⟩
    refine (hc.still fun r' hr' ht' => ?_).symm
    have h1 := hall r (by rw [hT]; simp [hr])
    have h2 := hall r' (by rw [hT]; simp [hr'])
    have := hok.nod h1.op h2.op ht ht'
    rw [hT, List.map_append, List.nodup_append] at hnd
    exact hnd.2.2 r.i (List.mem_map.2 ⟨r, hr, rfl⟩) r'.i (List.mem_map.2 ⟨r', hr', rfl⟩) this
  have env0 : ∀ (T1 : List Rec) (a : AS), Chain C x ops (B 0) T1 a → ∀ t, (∀ r ∈ T1, r.o.dst ≠ some t) → a.f t = (B 0).f t := fun T1 a hc t h => hc.still h
  -- what stands before
  have bef : ∀ (T1 T2 : List Rec) (r : Rec), Tp (m + 1) = T1 ++ r :: T2 → ∀ a, bfI ops a r.i = true → ∃ r' ∈ T1, r'.i = a := by
    intro T1 T2 r hT a ha
    have : sqI C.P ops = T1.map (·.i) ++ r.i :: T2.map (·.i) := by rw [← hsq, hT]; simp
    have := hok.order this ha
    obtain ⟨r', h1, h2⟩ := List.mem_map.1 this
    exact ⟨r', h1, h2⟩
  have uniq : ∀ (T1 T2 : List Rec) (r : Rec), Tp (m + 1) = T1 ++ r :: T2 → ∀ r' ∈ T1, r'.i ≠ r.i := by
    intro T1 T2 r hT r' hr' e
    rw [hT, List.map_append, List.nodup_append] at hnd
    exact hnd.2.2 r'.i (List.mem_map.2 ⟨r', hr', rfl⟩) r.i (by simp) e
  have look1 : ∀ (T1 T2 : List Rec) (r : Rec), Tp (m + 1) = T1 ++ r :: T2 → Chain C x ops (B 0) T1 r.s → Chain C x ops r.s (r :: T2) (B (m + 1)) → ∀ t ∈ looksAt ops r.o, r.s.f t = gOf ops (B (m + 1)).f (B 0).f (fun i j => bfI ops i j = true) r.i t := by
    intro T1 T2 r hT hc1 hc2 t ht
    have hr := hall r (by rw [hT]; simp)
    simp only [gOf]
    split
    · rename_i hex
      obtain ⟨a, ⟨o, ho, hd⟩, hb⟩ := hex
      obtain ⟨r', h1, h2⟩ := bef _ _ _ hT a hb
      refine env1 _ _ _ hT hc2 t ⟨r', h1, ?_⟩
      have := (hall r' (by rw [hT]; simp [h1])).op
      rw [h2, ho] at this; cases this; exact hd
    · rename_i hex
      refine env0 _ _ hc1 t fun r' hr' hd => hex ⟨r'.i, ⟨r'.o, ?_, hd⟩, ?_⟩
      · exact (hall r' (by rw [hT]; simp [hr'])).op
      · have hr1 := hall r' (by rw [hT]; simp [hr'])
        rcases hok.look hr.op ht hr1.op hd with h | ⟨h | h, _⟩
        · exact h
        · exact absurd h (uniq _ _ _ hT r' hr')
        · obtain ⟨U1, U2, hU, _⟩ := hc1.split r' hr'
          have hT' : Tp (m + 1) = U1 ++ r' :: (U2 ++ r :: T2) := by rw [hT, hU]; simp
          obtain ⟨r'', h1, h2⟩ := bef _ _ _ hT' _ h
          exact absurd h2 (uniq _ _ _ hT r'' (by rw [hU]; simp [h1]))
  -- the operations of a stage
  have hq3 : ∀ k, k ≤ m → ∀ r ∈ TQ k, cls' C.P r.o.op ≠ 3 ∧ loI C.P ops r.i = k := by
    intro k hk r hr
    obtain ⟨a1, a2, _⟩ := hst k hk
    have : r.i ∈ quI C.P ops k := by rw [← a2]; exact List.mem_map.2 ⟨r, hr, rfl⟩
    obtain ⟨_, h2, h3⟩ := mem_quI.1 this
    rw [cI_of (a1.all r hr).op] at h2
    exact ⟨h2, h3⟩
  have place : ∀ k, k ≤ m → ∀ r ∈ TQ k, ∃ U1 U2 T2, TQ k = U1 ++ r :: U2 ∧ Tp (m + 1) = (Tp k ++ U1) ++ r :: T2 ∧ Chain C x ops (B k) U1 r.s ∧ Chain C x ops r.s' U2 (E k) ∧ Chain C x ops (B 0) (Tp k ++ U1) r.s ∧ Chain C x ops r.s' T2 (B (m + 1)) := by
    intro k hk r hr
    obtain ⟨a1, a2, _, a4, _⟩ := hst k hk
    obtain ⟨U1, U2, hU, c1, c2, c3⟩ := a1.split r hr
    obtain ⟨T2, h1, h2⟩ := hsuf (m + 1) (Nat.le_refl _) (k + 1) (by omega)
    refine ⟨U1, U2, U2 ++ TL k ++ T2, hU, ?_, c1, c3, (hpre k (by omega)).append c1, ?_⟩
    · rw [h1, Tp_succ, hU]; simp
    · exact ((c3.append a4).append h2)
  have splitE : ∀ k, k ≤ m → ∃ T2, Tp (m + 1) = (Tp k ++ TQ k) ++ T2 ∧ Chain C x ops (B 0) (Tp k ++ TQ k) (E k) ∧ Chain C x ops (E k) T2 (B (m + 1)) := by
    intro k hk
    obtain ⟨a1, a2, _, a4, _⟩ := hst k hk
    obtain ⟨T2, h1, h2⟩ := hsuf (m + 1) (Nat.le_refl _) (k + 1) (by omega)
    exact ⟨TL k ++ T2, by rw [h1, Tp_succ]; simp, (hpre k (by omega)).append a1, a4.append h2⟩
  have valF : ∀ (T1 T2 : List Rec) (r : Rec), Tp (m + 1) = T1 ++ r :: T2 → Chain C x ops r.s' T2 (B (m + 1)) → ∀ t, r.o.dst = some t → (B (m + 1)).f t = r.v := by
    intro T1 T2 r hT hc t ht
    have hr := hall r (by rw [hT]; simp)
    rw [← env1 (T1 ++ [r]) T2 r.s' (by rw [hT]; simp) hc t ⟨r, by simp, ht⟩, hr.put, ht]
    simp [putF, upd]
  have pick : ∀ i, ∃ r : Rec, i < ops.size → cI C.P ops i ≠ 3 → loI C.P ops i ≤ m ∧ r ∈ TQ (loI C.P ops i) ∧ r.i = i := by
    intro i
    by_cases hi : i < ops.size ∧ cI C.P ops i ≠ 3
    · have hlo : loI C.P ops i ≤ m := hm ▸ (loI_spec i).1
      have : i ∈ quI C.P ops (loI C.P ops i) := mem_quI.2 ⟨hi.1, hi.2, rfl⟩
      rw [← (hst _ hlo).2.1] at this
      obtain ⟨r, h1, h2⟩ := List.mem_map.1 this
      exact ⟨r, fun _ _ => ⟨hlo, h1, h2⟩⟩
    · exact ⟨⟨0, B 0, B 0, default, .undef, false⟩, fun h1 h2 => absurd ⟨h1, h2⟩ hi⟩
  obtain ⟨R, hR⟩ := Classical.axiomOfChoice pick
  have hlt : ∀ {i : Nat} {o : Oper}, ops[i]? = some o → i < ops.size := fun h => (Array.getElem?_eq_some_iff.1 h).1
  have hRo : ∀ i o, ops[i]? = some o → cls' C.P o.op ≠ 3 → loI C.P ops i ≤ m ∧ R i ∈ TQ (loI C.P ops i) ∧ (R i).i = i ∧ (R i).o = o ∧ St C x ops (R i) := by
    intro i o ho hc
    obtain ⟨h1, h2, h3⟩ := hR i (hlt ho) (by rw [cI_of ho]; exact hc)
    have h4 := (hst _ h1).1.all _ h2
    have := h4.op
    rw [h3, ho] at this
    cases this
    exact ⟨h1, h2, h3, rfl, h4⟩
  have loudRec : ∀ s, s < m → ∃ r, TL s = [r] ∧ r.i = lvI C.P ops s ∧ r.s = E s ∧ r.s' = B (s + 1) ∧ St C x ops r := by
    intro s hs
    obtain ⟨a1, a2, _, a4, a5⟩ := hst s (by omega)
    have hget := lvI_get (P := C.P) (ops := ops) (s := s) (by omega)
    rw [hget] at a5
    obtain ⟨r, hr⟩ : ∃ r, TL s = [r] := by
      have := congrArg List.length a5
      simp at this
      exact List.length_eq_one_iff.1 this
    rw [hr] at a5 a4
    obtain ⟨h1, h2, h3⟩ := a4.one_inv
    exact ⟨r, hr, by simpa using a5, h1, h2, h3⟩
  have noBack : ∀ i o, ops[i]? = some o → cls' C.P o.op ≠ 3 → ∀ s, s < m → s < loI C.P ops i → bfI ops i (lvI C.P ops s) = false := by
    intro i o ho hc s hs hl
    cases hb : bfI ops i (lvI C.P ops s) with
    | false => rfl
    | true =>
      obtain ⟨r, hr, hri, _⟩ := loudRec s hs
      obtain ⟨T2, h1, h2⟩ := hsuf (m + 1) (Nat.le_refl _) (s + 1) (by omega)
      have hT : Tp (m + 1) = (Tp s ++ TQ s) ++ r :: T2 := by rw [h1, Tp_succ, hr]; simp
      obtain ⟨r', hr', e⟩ := bef _ _ _ hT i (by rw [hri]; exact hb)
      have hin : ∃ q, q ≤ s ∧ r' ∈ TQ q ++ TL q := by
        rcases List.mem_append.1 hr' with h | h
        · obtain ⟨q, hq, hm⟩ := List.mem_flatMap.1 h
          exact ⟨q, by have := List.mem_range.1 hq; omega, hm⟩
        · exact ⟨s, Nat.le_refl _, List.mem_append_left _ h⟩
      obtain ⟨q, hq, hmem⟩ := hin
      obtain ⟨b1, b2, _, b4, b5⟩ := hst q (by omega)
      rcases List.mem_append.1 hmem with h | h
      · have := (hq3 q (by omega) r' h).2
        rw [e] at this; omega
      · have : r'.i ∈ (TL q).map (·.i) := List.mem_map.2 ⟨r', h, rfl⟩
        rw [b5, Option.mem_toList, e] at this
        have := (mem_ldI.1 (List.mem_of_getElem? this)).2
        rw [cI_of ho] at this
        exact absurd this hc
  have hmade : ∀ i, Al C ops (fun i => (R i).wn) i → ∃ k, k = loI C.P ops i ∧ k ≤ m ∧ R i ∈ TQ k ∧ (R i).i = i ∧ (R i).s'.nx.num = (R i).s.nx.num + 1 := by
    rintro i ⟨o, ho, hc, hw⟩
    obtain ⟨h1, h2, h3, h4, h5⟩ := hRo i o ho (by omega)
    obtain ⟨_, h6⟩ := h5.yes hw
    rw [h4] at h6
    obtain ⟨ob, _, _, h7, _⟩ := (h6 (by omega)).1.alloc hc
    exact ⟨_, rfl, h1, h2, h3, h7⟩
  have hPl : Pl C x ops m (lvI C.P ops) (fun i j => bfI ops i j = true) B E (B (m + 1)).f (B 0).f (loI C.P ops) (fun i => (R i).wn) (fun i => (R i).s.nx) (fun i => (R i).s'.H (R i).s.nx) := by
    refine ⟨fun i j hb => bfI_edge hb, fun i j o o' t h1 h2 h3 h4 => hok.nod h1 h2 h3 h4, fun r o t a o' h1 h2 h3 h4 => ?_, ?_, ?_, ?_, ?_, ?_, ?_, ?_, ?_, ?_, ?_⟩
    · rcases hok.look h1 h2 h3 h4 with h | ⟨h | h, _⟩
      · exact .inl h
      · exact .inr (.inl h)
      · exact .inr (.inr h)
    · intro i o t ho hd
      by_cases hc : cls' C.P o.op = 3
      · obtain ⟨q, hq, e⟩ := lvI_all (P := C.P) (hlt ho) (by rw [cI_of ho]; exact hc)
        obtain ⟨r, _, hri, _, _, hst⟩ := loudRec q (by omega)
        have := hst.op
        rw [hri, e, ho] at this; cases this
        exact hst.dst t hd
      · obtain ⟨_, _, _, h4, h5⟩ := hRo i o ho hc
        exact h5.dst t (h4 ▸ hd)
    · intro t ht
      exact env0 _ _ (hpre (m + 1) (Nat.le_refl _)) t fun r hr => ht r.i r.o (hall r hr).op
    · intro i o ho hc
      obtain ⟨h1, h2, h3, h4, h5⟩ := hRo i o ho hc
      obtain ⟨U1, U2, T2, hU, hT, c1, c2, c3, c4⟩ := place _ h1 _ h2
      have hlk := look1 _ _ _ hT c3 (.cons h5 c4)
      rw [h3, h4] at hlk
      refine ⟨h1, (loI_spec i).2, (R i).v, fun t ht => valF _ _ _ hT c4 t (h4 ▸ ht), ?_⟩
      cases hw : (R i).wn with
      | false =>
        obtain ⟨g1, g2, _⟩ := h5.no hw
        rw [h4] at g1
        exact .inl ⟨rfl, g1.congr hlk, g2⟩
      | true =>
        obtain ⟨g1, g2⟩ := h5.yes hw
        rw [h4] at g1 g2
        obtain ⟨g2, g3⟩ := g2 hc
        have hloc := loc_congr hlk
        rw [hloc] at g2
        refine .inr ⟨rfl, g1.congr hlk, fun h0 => g2.pure h0, fun h0 k hk1 hk2 hno => ?_, fun h0 => ?_⟩
        · have hhi : k ≤ hiI C.P ops i := hiI_spec (by omega) fun r hr => by
            rcases Nat.lt_or_ge r (loI C.P ops i) with h | h
            · exact noBack i o ho hc r (by omega) h
            · cases hb : bfI ops i (lvI C.P ops r) with
              | false => rfl
              | true => exact absurd hb (hno r h hr)
          have fromAg : i ∈ agI C.P ops k → ReadS C.P o (loc (looksAt ops o) (gOf ops (B (m + 1)).f (B 0).f (fun i j => bfI ops i j = true) i)) (E k).H (R i).v := by
            intro hag
            obtain ⟨o', t, ho', hd, hrd⟩ := (hst k hk2).2.2.1 i hag
            rw [ho] at ho'; cases ho'
            replace hrd := hrd h0
            obtain ⟨T3, hT3, d1, d2⟩ := splitE k hk2
            have hin : R i ∈ Tp k ++ TQ k := by
              rcases Nat.lt_or_ge (loI C.P ops i) k with h | h
              · exact List.mem_append_left _ (List.mem_flatMap.2 ⟨_, List.mem_range.2 h, List.mem_append_left _ h2⟩)
              · rw [show loI C.P ops i = k by omega] at h2
                exact List.mem_append_right _ h2
            have hval : (E k).f t = (R i).v := by
              rw [env1 _ _ _ hT3 d2 t ⟨R i, hin, by rw [h4]; exact hd⟩]
              exact valF _ _ _ hT c4 t (by rw [h4]; exact hd)
            rw [hval] at hrd
            have hl : loc (looksAt ops o) (E k).f = loc (looksAt ops o) (gOf ops (B (m + 1)).f (B 0).f (fun i j => bfI ops i j = true) i) := by
              refine loc_congr fun t' ht' => ?_
              simp only [gOf]
              obtain ⟨V1, V2, hV, _⟩ := d1.split _ hin
              have hTV : Tp (m + 1) = V1 ++ R i :: (V2 ++ T3) := by rw [hT3, hV]; simp
              split
              · rename_i hex
                obtain ⟨a, ⟨oa, hoa, hda⟩, hb⟩ := hex
                obtain ⟨r', hr', e⟩ := bef _ _ _ hTV a (by rw [h3]; exact hb)
                refine env1 _ _ _ hT3 d2 t' ⟨r', by rw [hV]; simp [hr'], ?_⟩
                have := (hall r' (by rw [hTV]; simp [hr'])).op
                rw [e, hoa] at this; cases this; exact hda
              · rename_i hex
                refine env0 _ _ d1 t' fun r' hr' hd' => hex ⟨r'.i, ⟨r'.o, ?_, hd'⟩, ?_⟩
                · exact (hall r' (by rw [hT3]; exact List.mem_append_left _ hr')).op
                · rcases hok.look ho ht' (hall r' (by rw [hT3]; exact List.mem_append_left _ hr')).op hd' with h | ⟨_, h⟩
                  · exact h
                  · exact absurd hag (h k (by omega))
            rw [hl] at hrd; exact hrd
          rcases Nat.lt_or_ge (loI C.P ops i) k with h | h
          · exact fromAg (mem_agI.2 ⟨hlt ho, by rw [cI_of ho]; exact h0, .inl ⟨h, hhi⟩⟩)
          · have hk : loI C.P ops i = k := by omega
            cases hmd : mdI C.P ops k with
            | true => exact fromAg (mem_agI.2 ⟨hlt ho, by rw [cI_of ho]; exact h0, .inr ⟨hk, hmd⟩⟩)
            | false =>
              rw [hk] at hU c2
              have hno2 : ∀ r ∈ TQ k, cls' C.P r.o.op ≠ 2 := by
                intro r hr h2'
                have hro := ((hst k hk2).1.all r hr).op
                exact mdI_no hmd (hlt hro) (by rw [cI_of hro]; exact h2') (hq3 k hk2 r hr).2
              have := (c2.quiet fun r hr => (hq3 k hk2 r (by rw [hU]; simp [hr])).1).2.2.2 fun r hr => hno2 r (by rw [hU]; simp [hr])
              have h6 := (h5.quiet (by rw [h4]; exact hc)).2.2.2 (by rw [h4]; omega)
              rw [this, h6]
              exact g2.read h0
        · obtain ⟨ob, q1, q2, q3, q4⟩ := g2.alloc h0
          have : (R i).s'.H (R i).s.nx = ob := by rw [q2, updB_same]
          rw [this]; exact q1
    · intro i hal
      obtain ⟨k, hk, h1, h2, h3, h4⟩ := hmade i hal
      obtain ⟨U1, U2, T2, hU, hT, c1, c2, c3, c4⟩ := place k h1 _ h2
      rw [← hk]
      obtain ⟨q1, _⟩ := c1.quiet fun r hr => (hq3 k h1 r (by rw [hU]; simp [hr])).1
      obtain ⟨p1, p2, _⟩ := c2.quiet fun r hr => (hq3 k h1 r (by rw [hU]; simp [hr])).1
      exact ⟨q1, by show (R i).s.nx.num < _; omega, p2 _ (by omega)⟩
    · intro i j hne hi hj hlo
      obtain ⟨k, hk, h1, h2, h3, h4⟩ := hmade i hi
      obtain ⟨k', hk', h1', h2', h3', h4'⟩ := hmade j hj
      have : k' = k := by omega
      subst this
      obtain ⟨U1, U2, T2, hU, hT, c1, c2, c3, c4⟩ := place k' h1 _ h2
      have hq : ∀ r ∈ TQ k', cls' C.P r.o.op ≠ 3 := fun r hr => (hq3 k' h1 r hr).1
      show (R i).s.nx ≠ (R j).s.nx
      intro e
      rw [hU] at h2'
      rcases List.mem_append.1 h2' with h | h
      · obtain ⟨V1, V2, hV, d1, d2, d3⟩ := c1.split _ h
        have := (d3.quiet fun r hr => hq r (by rw [hU, hV]; simp [hr])).1
        rw [e] at this; omega
      · rcases List.mem_cons.1 h with h | h
        · rw [h] at h3'; omega
        · obtain ⟨V1, V2, hV, d1, d2, d3⟩ := c2.split _ h
          have := (d1.quiet fun r hr => hq r (by rw [hU, hV]; simp [hr])).1
          rw [← e] at this; omega
    · intro k hk
      obtain ⟨a1, a2, a3, _⟩ := (hst k hk).1.quiet fun r hr => (hq3 k hk r hr).1
      exact ⟨a1, a2, a3⟩
    · intro q hq
      obtain ⟨r, hr, hri, hs1, hs2, hst1⟩ := loudRec q hq
      obtain ⟨T2, h1, h2⟩ := hsuf (m + 1) (Nat.le_refl _) (q + 1) (by omega)
      have hT : Tp (m + 1) = (Tp q ++ TQ q) ++ r :: T2 := by rw [h1, Tp_succ, hr]; simp
      obtain ⟨_, _, d1, _⟩ := splitE q (by omega)
      have hcl := (lvI_lt (P := C.P) (ops := ops) (s := q) (by omega)).2
      have ho := hst1.op
      rw [hri] at ho
      rw [cI_of ho] at hcl
      have hlk := look1 _ _ _ hT (hs1 ▸ d1) (.cons hst1 (hs2 ▸ h2))
      rw [hri] at hlk
      refine ⟨r.o, ho, hcl, r.v, fun t ht => valF _ _ _ hT (hs2 ▸ h2) t ht, ?_⟩
      have := hst1.one.congr hlk
      rw [hs1, hs2] at this
      exact this
    · intro i o ho hc
      obtain ⟨s, hs, e⟩ := lvI_all (P := C.P) (hlt ho) (by rw [cI_of ho]; exact hc)
      exact ⟨s, by omega, e⟩
    · exact fun s s' h1 h2 e => lvI_inj (by omega) (by omega) e
    · exact fun s hs => hok.chain (by omega)
  have hend := hPl.goes hC.mix hok.low rfl (fun s hs => (lvI_lt (by omega)).1) id
  rw [hB0] at hend
  refine ⟨B (m + 1), e', h', he', hh', hk', ?_⟩
  have : B (m + 1) = ⟨(B (m + 1)).f, (E m).H, (E m).nx, (E m).d⟩ := by rw [hEm]
  rw [this]; exact hend
end
end Go.Ev
end

section
set_option maxRecDepth 2000
set_option autoImplicit false
set_option linter.unusedSimpArgs false
set_option linter.unusedVariables false
namespace Go.Ev

/-! ### a loop over a function -/
theorem EnvIs.uniq {e : Env} {f g : Nat → AV} (hf : EnvIs e f) (hg : EnvIs e g) {t : Nat} (ht : t < 256) : f t = g t := by
  classical
  have h1 := (egK_good hf (t := t) (fun v => if v = f t then .good else .bad 0 "")).2 ⟨by omega, if_pos rfl⟩
  have h2 := ((egK_good hg (t := t) _).1 h1).2
  split at h2
  · rename_i h; exact h.symm
  · cases h2
theorem ER.env {φ : Phi} {e : Env} {f g : Nat → AV} {tmps : Array Value} {nt : Nat} (h : ER φ f tmps nt) (hf : EnvIs e f) (hg : EnvIs e g) : ER φ g tmps nt :=
  ⟨h.size, h.small, fun t ht => by rw [← hf.uniq hg ht]; exact h.at_ t ht⟩
theorem Lands.steps' {P : Program} {fr fr0 : Frame} {cs : List Frame} {w w0 w' : World} {v' : Value} {s : Sem Next} (hl : Lands P fr cs (s.run P w) v' w')
    (ht : ∀ d w r sv k, fr.todo ≠ .call d w r sv :: k) (hs : (stepG P true { frame := fr0, callers := cs, status := .running, dying := none } w0).bare = (stepG.apply P true fr cs none s w).bare) : Steps P (lone fr0 cs w0) (lone (fr.finish v') cs w') := by
  rcases hl with (hr | ⟨hr, rfl⟩) | ⟨f, args, w₁, hr, hst⟩ | ⟨l, fn, tmps, as, bd, w₁, hr, hst⟩
  · exact .one (step_lone_go (by rw [hs]; simp [stepG.apply, Sem.runT_eq, hr]))
  · exact .one (step_lone_go (by rw [hs]; simp [stepG.apply, Sem.runT_eq, hr]))
  · exact .trans (.one (step_lone_go (by
      rw [hs]; simp [stepG.apply, Sem.runT_eq, hr]
      split
      · rename_i h; exact absurd h (ht _ _ _ _ _)
      · rfl))) hst
  · exact .trans (.one (step_lone_go (by rw [hs]; simp [stepG.apply, Sem.runT_eq, hr]))) hst
section
variable {C : Cx} {x : X}
theorem region_good (hC : COk C) (hx : XOk C x) {ops : Array Oper} {draw : Bool} {kn : KS} {kx : KX} {e : Env} {h : Heap} {s : AS} (he : EnvIs e s.f) (hh : HS h s.H s.nx) {id : Nat} (hk : evK C (.region id ops draw) x e h s.d kn kx = .good) :
    ∃ s' e' h', EnvIs e' s'.f ∧ HS h' s'.H s'.nx ∧ kn e' h' s'.d = .good ∧ Ends C.P x (.region id ops draw) s s' := by
  cases draw with
  | false => exact straight_good hC hx he hh (show opsK C ops.toList ops x e h s.d kn = .good from hk)
  | true => exact draw_good hC hx he hh (show drawK C ops x e h s.d kn = .good from hk)
theorem stepR_endRange {P : Program} {b : Frame} {a : Act} {k : List Item} {cs : List Frame} {w w' : World} {l : Nat} {jump : Option Code} (hr : (Instr.endLoop l).run P w = .ok jump w') :
    step P (lone (b.atR a (.endRangeFunc l :: k)) cs w) = .next (lone (b.atR a ((jump.map Item.code).toList ++ k)) cs w') :=
  step_lone_go (by simp [stepG, stepG.exec, Frame.atR, Sem.runT_eq, hr])
theorem endLoopK_good {lb : Bid} {e : Env} {h : Heap} {H : Bid → AObj} {nx : Bid} (hh : HS h H nx) {d : List ADefer} {kn : KS} {kx : KX} (hk : endLoopK lb e h d kn kx = .good) :
    ∃ (p : Option Code) (H' : Bid → AObj) (h' : Heap), HS h' H' nx ∧ (∀ φ w pb, R φ H nx w → φ lb = some pb → ∃ w', (Instr.endLoop pb.blk).run C.P w = .ok p w' ∧ R φ H' nx w' ∧ Grows φ H nx w φ H' nx w') ∧
      ((p = none ∧ kn e h' d = .good) ∨ (∃ q, p = some (jumpOf q) ∧ kx q e h' d = .good)) := by
  simp only [endLoopK] at hk
  rw [hh.get] at hk
  cases hH : H lb with
  | loop st p f e0 nt ps as bd df =>
    rw [hH] at hk
    replace hk : (ALoopState.rec (fun k => k) (fun _ => no) (fun k => k) (fun k => k) st (hsK lb (.loop .exhausted p f e0 nt ps as bd df) h fun h => Option.rec (kn e h d) (fun c => match c with | .exit id => kx (.exit id) e h d | .goto l => kx (.goto l) e h d | .ret => kx .ret e h d | _ => no) p) : A) = .good := hk
    have hb : st ≠ .busy ∧ (hsK lb (.loop .exhausted p f e0 nt ps as bd df) h fun h => Option.rec (kn e h d) (fun c => match c with | .exit id => kx (.exit id) e h d | .goto l => kx (.goto l) e h d | .ret => kx .ret e h d | _ => no) p) = .good := by
      cases st <;> first | exact ⟨by simp, hk⟩ | exact absurd hk no_good
    have hok := hh.ok lb
    rw [hH] at hok
    obtain ⟨h', hh', hk'⟩ := hh.setG (o := .loop .exhausted p f e0 nt ps as bd df) hok hb.2
    refine ⟨p, _, h', hh', fun φ w pb hR hpb => ?_, ?_⟩
    · have hO := hR.obj _ _ hpb
      rw [hH] at hO
      obtain ⟨h0, l, h1, h2, h3, h4, h5, h6, h7, h8, h9⟩ := hO
      refine ⟨w.put pb.blk (.loop { l with state := .exhausted }), ?_, obj_put hR hpb (by rw [hH]; rfl) ⟨h0, _, rfl, rfl, h3, h4, h5, h6, h7, h8, h9⟩⟩
      have hne : (l.state == .busy) = false := by
        rw [h2]
        have := hb.1
        cases st <;> first | rfl | exact absurd rfl this
      simp only [Instr.endLoop, Instr.getLoop, Sem.run_bind, getObj_of h1 (by simp), Result.andThen_ok, Sem.run_pure, hne, Bool.false_eq_true, if_false, setObj_put h1 (by simp), h3]
    · cases p with
      | none => exact .inl ⟨rfl, hk'⟩
      | some c =>
        right
        cases c <;> first | exact absurd hk' no_good | skip
        · exact ⟨.exit _, rfl, hk'⟩
        · exact ⟨.goto _, rfl, hk'⟩
        · exact ⟨.ret, rfl, hk'⟩
  | _ => rw [hH] at hk; exact absurd hk no_good
/-- The call that a loop over a function begins with. -/
def rangeSem (ρ : Operand → Value) (g : Operand) (l : Nat) : Sem Next := do
  let d ← resolve ρ { callee := .value g, args := #[.const (.func (.yield l) #[] #[])], argTypes := #[] } 0
  invoke d.target d.args
theorem stepG_rangeFunc {P : Program} {b : Frame} {a : Act} {k : List Item} {cs : List Frame} {w w2 : World} {g : Operand} {ps : Array Tmp} {as bd : Code} {l : Nat} {mark : List Deferred} (hE : (Instr.enterLoop b.fn a.tmps ps as bd b.roundOf).run P w = .ok (l, mark) w2) :
    (stepG P true { frame := b.atR a (.code (.rangeFunc g ps as bd) :: k), callers := cs, status := .running, dying := none } w).bare =
      (stepG.apply P true (b.atR { a with defers := mark ++ a.defers } (.inRangeFunc l :: k)) cs none (rangeSem a.eval g l) w2).bare := by
  have hev : (b.atR { a with defers := mark ++ a.defers } (.inRangeFunc l :: k)).eval = a.eval := Frame.eval_atR _ _ _
  rw [← hev]
  simp only [stepG, stepG.exec, Frame.atR, Sem.runT_eq, hE, rangeSem]
  simp
theorem rangeFunc_steps {P : Program} {b : Frame} {a : Act} {k : List Item} {cs : List Frame} {w w2 w' : World} {g : Operand} {ps : Array Tmp} {as bd : Code} {l : Nat} {mark : List Deferred} {f : FuncId} {args : Array Value} {v' : Value} (hE : (Instr.enterLoop b.fn a.tmps ps as bd b.roundOf).run P w = .ok (l, mark) w2)
    (hr : (rangeSem a.eval g l).run P w2 = .ok (.enter f args) w2) (hs : Steps P (lone (Frame.enter P f args .normal) (b.atR { a with defers := mark ++ a.defers } (.inRangeFunc l :: k) :: cs) w2) (lone ((b.atR { a with defers := mark ++ a.defers } (.inRangeFunc l :: k)).finish v') cs w')) :
    Steps P (lone (b.atR a (.code (.rangeFunc g ps as bd) :: k)) cs w) (lone (b.atR { a with defers := mark ++ a.defers } (.endRangeFunc l :: k)) cs w') :=
  Lands.steps' (.inr (.inl ⟨f, args, w2, hr, hs⟩)) (by intro _ _ _ _ _ h; cases h) (stepG_rangeFunc hE)
theorem enterLoop_good {s : AS} {nx1 nx2 : Bid} {e : Env} {fn : FuncId} (he : EnvIs e s.f) (hn1 : nx1.num = s.nx.num + 1) (hn2 : nx2.num = nx1.num + 1) {φ : Phi} {w : World} {act : Act} {nt : Nat} (hs : SRel φ s nt w act) (ps : Array Tmp) (as bd : Code) :
    ∃ φ2 w2 l r, (Instr.enterLoop fn act.tmps ps as bd none).run C.P w = .ok (l, [{ target := .collected r, args := #[] }]) w2 ∧ R φ2 (updB (updB s.H s.nx (.deferred (some []))) nx1 (.loop .ready none fn e nt ps.toList as bd s.nx)) nx2 w2 ∧
      Grows φ s.H s.nx w φ2 (updB (updB s.H s.nx (.deferred (some []))) nx1 (.loop .ready none fn e nt ps.toList as bd s.nx)) nx2 w2 ∧ φ2 nx1 = some ⟨l, 0, 0⟩ ∧ φ2 s.nx = some ⟨r, 0, 0⟩ := by
  have hR1 : R _ _ _ _ := hs.mem.push hn1 (o := .deferred (some [])) (c := .deferred (some [])) 0 ⟨rfl, [], rfl, .nil⟩
  have hG1 := Grows.push hs.mem hn1 (.deferred (some [])) (.deferred (some [])) 0
  have hdb : updP φ s.nx ⟨w.heap.size, 0, 0⟩ s.nx = some ⟨w.heap.size, 0, 0⟩ := updP_same _ _ _
  have hle := updP_le (p := ⟨(w.push (.deferred (some []))).heap.size, 0, 0⟩) hR1.fresh
  have hR2 := hR1.push hn2 (o := .loop .ready none fn e nt ps.toList as bd s.nx) (c := .loop { state := .ready, pending := none, fn := fn, tmps := act.tmps, params := ps, assign := as, body := bd, defers := w.heap.size }) 0 ⟨rfl, _, rfl, rfl, rfl, rfl, rfl, rfl, rfl, ⟨_, hle _ _ hdb, rfl⟩, fun f' hf' => ((hs.env.env he hf').mono hG1.le).mono hle⟩
  have hG2 := Grows.push hR1 hn2 (.loop .ready none fn e nt ps.toList as bd s.nx) (.loop { state := .ready, pending := none, fn := fn, tmps := act.tmps, params := ps, assign := as, body := bd, defers := w.heap.size }) 0
  refine ⟨_, _, _, _, ?_, hR2, hG1.trans hG2, updP_same _ _ _, hle _ _ hdb⟩
  simp only [Instr.enterLoop, Sem.run_bind, run_newObj, Result.andThen_ok, Sem.run_pure]
  rfl
theorem rangeFunc_good (hC : COk C) (hx : XOk C x) {g : Operand} {ps : Array Tmp} {as bd : Code} {kn : KS} {kx : KX} {e : Env} {h : Heap} {s : AS} (he : EnvIs e s.f) (hh : HS h s.H s.nx) (hk : rangeFuncK g ps as bd C x e h s.d kn kx = .good) :
    (∃ s' e' h', EnvIs e' s'.f ∧ HS h' s'.H s'.nx ∧ kn e' h' s'.d = .good ∧ Ends C.P x (.rangeFunc g ps as bd) s s') ∨
    (∃ q s' e' h', EnvIs e' s'.f ∧ HS h' s'.H s'.nx ∧ kx q e' h' s'.d = .good ∧ Leaves C.P x [.code (.rangeFunc g ps as bd)] q s s') := by
  simp only [rangeFuncK, bbK_good, notB_eq, Bool.not_eq_true'] at hk
  obtain ⟨hround, hk⟩ := hk
  obtain ⟨nx1, hn1, h1, hh1, hk1⟩ := hh.push (o := .deferred (some [])) trivial hk
  obtain ⟨nx2, hn2, h2, hh2, hk2⟩ := hh1.push (o := .loop .ready none x.fn e x.nt ps.toList as bd s.nx) ⟨_, he⟩ hk1
  clear hk hk1
  simp only [opdK_good he, asFuncK_good, no_good, and_false, false_or] at hk2
  obtain ⟨hg, fn, a, c, hf, hk3⟩ := hk2
  cases fn with
  | method n => exact absurd hk3 no_good
  | yield b => exact absurd hk3 no_good
  | func f =>
  replace hk3 : (Option.rec (x.call false f (app a (.func (.yield nx1) [] [] :: c)) h2 fun _ h => endLoopK nx1 e h (.mk (.collected s.nx) [] :: s.d) kn kx) (fun _ => no) (C.special f) : A) = .good := hk3
  cases hsp : C.special f with
  | some sp => rw [hsp] at hk3; exact absurd hk3 no_good
  | none =>
  rw [hsp] at hk3
  obtain ⟨v, h3, H3, nx3, hk4, hh3, hcs, hbody⟩ := hx.call false f _ _ _ _ _ hh2 hk3
  obtain ⟨p, H4, h4, hh4, hend, hway⟩ := endLoopK_good (C := C) hh3 hk4
  -- the steps up to the loop's end
  have go : ∀ k, Goes C.P x (.code (.rangeFunc g ps as bd) :: k) ((p.map Item.code).toList ++ k) s ⟨s.f, H4, nx3, .mk (.collected s.nx) [] :: s.d⟩ := by
    intro k φ w b act cs hb hs
    have hfl := hb.flat hround
    obtain ⟨φ2, w2, l, r, hE, hR2, hG, hlb, hdb⟩ := enterLoop_good (C := C) (fn := x.fn) he hn1 hn2 hs ps as bd
    rw [← hb.fn, ← hfl] at hE
    have e1 : VR φ (opdS g s.f) (act.eval g) := hs.env.rho.opd hs.mem hg
    rw [hf] at e1
    obtain ⟨fn', a', c', hv, hfr, ha, hc⟩ := e1.func_inv
    cases hfr
    have hargs : VRs φ2 (app a (.func (.yield nx1) [] [] :: c)) ((a' ++ #[Value.func (.yield l) #[] #[]]) ++ c').toList := by
      have hy : VR φ2 (.func (.yield nx1) [] []) (.func (.yield l) #[] #[]) := .func (.yield hlb) .nil .nil
      have := (ha.mono hG.le).append (.cons hy (hc.mono hG.le))
      simpa [app_eq] using this
    have hcs' := hcs φ2 w2 ((a' ++ #[Value.func (.yield l) #[] #[]]) ++ c') (b.atR { act with defers := [{ target := .collected r, args := #[] }] ++ act.defers } (.inRangeFunc l :: k)) cs hR2 hargs (by simp)
    simp only [Bool.false_eq_true, if_false] at hcs'
    obtain ⟨φ3, w3, v3, g1, g2, g3, g4⟩ := hcs'
    obtain ⟨w4, q1, q2, q3⟩ := hend φ3 w3 _ g2 (g3.le _ _ hlb)
    have hGall := (hG.trans g3).trans q3
    have hcol : φ3 s.nx = some ⟨r, 0, 0⟩ := g3.le _ _ hdb
    refine ⟨φ3, w4, { act with defers := [{ target := .collected r, args := #[] }] ++ act.defers }, ⟨q2, hs.env.mono hGall.le, .cons (.collected hcol) (hs.ds.mono hGall.le)⟩, hGall, ?_⟩
    refine .trans ?_ (.one (stepR_endRange q1))
    refine rangeFunc_steps hE ?_ g4
    simp only [rangeSem, resolve, hv, Deferred.ofValue, Sem.run_bind, Sem.run_pure, Result.andThen_ok, invoke]
    rw [show Array.map act.eval #[Operand.const (Value.func (Fn.yield l) #[] #[])] = #[Value.func (Fn.yield l) #[] #[]] by simp [Act.eval]]
    exact callFunc_body hC hbody
  rcases hway with ⟨rfl, hk5⟩ | ⟨q, rfl, hk5⟩
  · exact .inl ⟨⟨s.f, H4, nx3, .mk (.collected s.nx) [] :: s.d⟩, e, h4, he, hh4, hk5, fun k => go k⟩
  · exact .inr ⟨q, ⟨s.f, H4, nx3, .mk (.collected s.nx) [] :: s.d⟩, e, h4, he, hh4, hk5, fun k => ⟨k, .refl _ _, go k⟩⟩
end
end Go.Ev
end
