/- Part of the proof: a verified evaluator of the model (its definitions, and that it is sound). -/
import Derived.Test.YtmacmaaancfhiaaGreatDoorEvA
section
set_option maxRecDepth 2000
set_option autoImplicit false
namespace Go.Ev

/-! ### digits -/
theorem D.nat_num (n : Nat) (h : n < 16) : (D.nat n).num = n := by
  match n, h with
  | 0, _ | 1, _ | 2, _ | 3, _ | 4, _ | 5, _ | 6, _ | 7, _ | 8, _ | 9, _ | 10, _ | 11, _ | 12, _ | 13, _ | 14, _ | 15, _ => rfl
  | n + 16, h => omega
theorem D.num_lt (d : D) : d.num < 16 := by cases d <;> decide
theorem D.num_inj {a b : D} (h : a.num = b.num) : a = b := by cases a <;> cases b <;> first | rfl | (exact absurd h (by decide))
theorem D.nat_inj {m n : Nat} (hm : m < 16) (hn : n < 16) (h : D.nat m = D.nat n) : m = n := by
  rw [← D.nat_num m hm, ← D.nat_num n hn, h]
theorem D.incK_good {d : D} {k : D → A} {z : A} (h : d.incK k z = .good) : (∃ d', d'.num = d.num + 1 ∧ k d' = .good) ∨ (d.num = 15 ∧ z = .good) := by
  cases d <;> first | exact .inl ⟨_, rfl, h⟩ | exact .inr ⟨rfl, h⟩
theorem Bid.num_inj {a b : Bid} (h : a.num = b.num) : a = b := by
  obtain ⟨a3, a2, a1, a0⟩ := a
  obtain ⟨b3, b2, b1, b0⟩ := b
  simp only [Bid.num] at h
  have := a3.num_lt; have := a2.num_lt; have := a1.num_lt; have := a0.num_lt
  have := b3.num_lt; have := b2.num_lt; have := b1.num_lt; have := b0.num_lt
  rw [D.num_inj (a := a3) (b := b3) (by omega), D.num_inj (a := a2) (b := b2) (by omega), D.num_inj (a := a1) (b := b1) (by omega), D.num_inj (a := a0) (b := b0) (by omega)]
theorem Bid.incK_good {b : Bid} {k : Bid → A} (h : b.incK k = .good) : ∃ b', b'.num = b.num + 1 ∧ k b' = .good := by
  obtain ⟨x3, x2, x1, x0⟩ := b
  simp only [Bid.incK] at h
  have z0 : D.d0.num = 0 := rfl
  rcases D.incK_good h with ⟨d, hd, hk⟩ | ⟨h0, h⟩
  · exact ⟨_, by simp only [Bid.num, hd]; omega, hk⟩
  rcases D.incK_good h with ⟨d, hd, hk⟩ | ⟨h1, h⟩
  · exact ⟨_, by simp only [Bid.num, hd, h0, z0]; omega, hk⟩
  rcases D.incK_good h with ⟨d, hd, hk⟩ | ⟨h2, h⟩
  · exact ⟨_, by simp only [Bid.num, hd, h0, h1, z0]; omega, hk⟩
  rcases D.incK_good h with ⟨d, hd, hk⟩ | ⟨h3, h⟩
  · exact ⟨_, by simp only [Bid.num, hd, h0, h1, h2, z0]; omega, hk⟩
  · exact absurd h (by simp [no])

/-! ### small words -/
theorem no_good : ¬ (no = A.good) := by simp [no]
@[simp] theorem no_good' : (no = A.good) = False := by simp [no]
@[simp] theorem obK_good {α : Type} (o : Option α) (k : α → A) : (obK o k = .good) ↔ ∃ x, o = some x ∧ k x = .good := by
  cases o <;> simp [obK, no]
@[simp] theorem bbK_good (c : Bool) (a : A) : (bbK c a = .good) ↔ c = true ∧ a = .good := by cases c <;> simp [bbK, no]
@[simp] theorem fN_eq (x : Nat) (k : Nat → A) : fN x k = k x := by cases x <;> rfl
@[simp] theorem ob_some {α β : Type} (o : Option α) (f : α → Option β) (y : β) : (ob o f = some y) ↔ ∃ x, o = some x ∧ f x = some y := by cases o <;> simp [ob]
@[simp] theorem bb_some {β : Type} (c : Bool) (o : Option β) (y : β) : (bb c o = some y) ↔ c = true ∧ o = some y := by cases c <;> simp [bb]
@[simp] theorem andB_eq (a b : Bool) : andB a b = (a && b) := by cases a <;> rfl
@[simp] theorem orB_eq (a b : Bool) : orB a b = (a || b) := by cases a <;> rfl
@[simp] theorem notB_eq (a : Bool) : notB a = !a := by cases a <;> rfl
@[simp] theorem llen_eq {α : Type} (l : List α) : llen l = l.length := by induction l with | nil => rfl | cons x l ih => simpa [llen] using ih
@[simp] theorem lnth_eq {α : Type} (l : List α) : ∀ n, lnth l n = l[n]? := by
  induction l with
  | nil => intro n; rfl
  | cons x l ih => intro n; cases n with
    | zero => rfl
    | succ n => simpa [lnth] using ih n
@[simp] theorem app_eq {α : Type} (a b : List α) : app a b = a ++ b := by induction a with | nil => rfl | cons x l ih => simpa [app] using ih
@[simp] theorem lenIs_eq {α : Type} (l : List α) : ∀ n, lenIs l n = decide (l.length = n) := by
  induction l with
  | nil => intro n; cases n <;> rfl
  | cons x l ih => intro n; cases n with
    | zero => rfl
    | succ n => have := ih n; simp only [lenIs] at this ⊢; rw [this]; simp
@[simp] theorem isNo_eq {α : Type} (o : Option α) : isNo o = o.isNone := by cases o <;> rfl
@[simp] theorem boolRec_good (b : Bool) (x y : A) : (Bool.rec (motive := fun _ => A) x y b = .good) ↔ (b = true ∧ y = .good) ∨ (b = false ∧ x = .good) := by cases b <;> simp
@[simp] theorem bleB (a b : Nat) : Nat.ble a b = decide (a ≤ b) := by
  by_cases h : a ≤ b
  · rw [Nat.ble_eq_true_of_le h, decide_eq_true h]
  · rw [decide_eq_false h]; exact Bool.eq_false_iff.2 fun e => h (Nat.le_of_ble_eq_true e)
@[simp] theorem beqB (a b : Nat) : Nat.beq a b = decide (a = b) := by
  by_cases h : a = b
  · subst h; simp
  · rw [decide_eq_false h]; exact Bool.eq_false_iff.2 fun e => h (Nat.eq_of_beq_eq_true e)
@[simp] theorem ltB (a b : Nat) : nltB a b = decide (a < b) := by simp [nltB, Nat.lt_iff_add_one_le]
@[simp] theorem minN_eq (a b : Nat) : minN a b = min a b := by
  by_cases h : a ≤ b
  · simp [minN, h]
  · simp [minN, h]; omega
@[simp] theorem maxN_eq (a b : Nat) : maxN a b = max a b := by
  by_cases h : a ≤ b
  · simp [maxN, h]
  · simp [maxN, h]; omega

/-! ### values: what the ways apart say -/
@[simp] theorem asBoolK_good (v : AV) (k : Bool → A) : (asBoolK v k = .good) ↔ (∃ b, v = .bool b ∧ k b = .good) := by
  constructor
  · intro h; cases v <;> first | exact ⟨_, rfl, h⟩ | exact absurd h no_good
  · rintro ⟨b, rfl, h⟩ <;> exact h
@[simp] theorem asIntK_good (v : AV) (k z : IntKind → Nat → A) : (asIntK v k z = .good) ↔ (∃ j n, v = .int j n ∧ k j n = .good) ∨ (∃ j n, v = .neg j n ∧ z j n = .good) := by
  constructor
  · intro h; cases v <;> first | exact .inl (⟨_, _, rfl, h⟩) | exact .inr (⟨_, _, rfl, h⟩) | exact absurd h no_good
  · rintro (⟨j, n, rfl, h⟩ | ⟨j, n, rfl, h⟩) <;> exact h
@[simp] theorem asNatK_good (v : AV) (k : IntKind → Nat → A) : (asNatK v k = .good) ↔ (∃ j n, v = .int j n ∧ k j n = .good) := by
  constructor
  · intro h; cases v <;> first | exact ⟨_, _, rfl, h⟩ | exact absurd h no_good
  · rintro ⟨j, n, rfl, h⟩ <;> exact h
@[simp] theorem asStrK_good (v : AV) (k : Nat → Nat → A) : (asStrK v k = .good) ↔ (∃ l d, v = .str l d ∧ k l d = .good) := by
  constructor
  · intro h; cases v <;> first | exact ⟨_, _, rfl, h⟩ | exact absurd h no_good
  · rintro ⟨l, d, rfl, h⟩ <;> exact h
@[simp] theorem asPtrK_good (v : AV) (k : Bid → Nat → A) : (asPtrK v k = .good) ↔ (∃ b i, v = .ptr b i ∧ k b i = .good) := by
  constructor
  · intro h; cases v <;> first | exact ⟨_, _, rfl, h⟩ | exact absurd h no_good
  · rintro ⟨b, i, rfl, h⟩ <;> exact h
@[simp] theorem asPtrZ_good (v : AV) (z : A) (k : Bid → Nat → A) : (asPtrZ v z k = .good) ↔ (v = .nilp ∧ z = .good) ∨ (∃ b i, v = .ptr b i ∧ k b i = .good) := by
  constructor
  · intro h; cases v <;> first | exact .inl (⟨rfl, h⟩) | exact .inr (⟨_, _, rfl, h⟩) | exact absurd h no_good
  · rintro (⟨rfl, h⟩ | ⟨b, i, rfl, h⟩) <;> exact h
@[simp] theorem asSlK_good (v : AV) (z : A) (k : Bid → Nat → Nat → Nat → Nat → Nat → A) : (asSlK v z k = .good) ↔ (v = .nils ∧ z = .good) ∨ (∃ b o n l u s, v = .slice b o n l u s ∧ k b o n l u s = .good) := by
  constructor
  · intro h; cases v <;> first | exact .inl (⟨rfl, h⟩) | exact .inr (⟨_, _, _, _, _, _, rfl, h⟩) | exact absurd h no_good
  · rintro (⟨rfl, h⟩ | ⟨b, o, n, l, u, s, rfl, h⟩) <;> exact h
@[simp] theorem asMapK_good (v : AV) (z : A) (k : Bid → A) : (asMapK v z k = .good) ↔ (v = .nilm ∧ z = .good) ∨ (∃ b, v = .map b ∧ k b = .good) := by
  constructor
  · intro h; cases v <;> first | exact .inl (⟨rfl, h⟩) | exact .inr (⟨_, rfl, h⟩) | exact absurd h no_good
  · rintro (⟨rfl, h⟩ | ⟨b, rfl, h⟩) <;> exact h
@[simp] theorem asFuncK_good (v : AV) (z : A) (k : AFn → List AV → List AV → A) : (asFuncK v z k = .good) ↔ (v = .nilf ∧ z = .good) ∨ (∃ f a c, v = .func f a c ∧ k f a c = .good) := by
  constructor
  · intro h; cases v <;> first | exact .inl (⟨rfl, h⟩) | exact .inr (⟨_, _, _, rfl, h⟩) | exact absurd h no_good
  · rintro (⟨rfl, h⟩ | ⟨f, a, c, rfl, h⟩) <;> exact h
@[simp] theorem asIfaceK_good (v : AV) (z : A) (k : TypeId → AV → A) : (asIfaceK v z k = .good) ↔ (v = .nili ∧ z = .good) ∨ (∃ t w, v = .iface t w ∧ k t w = .good) := by
  constructor
  · intro h; cases v <;> first | exact .inl (⟨rfl, h⟩) | exact .inr (⟨_, _, rfl, h⟩) | exact absurd h no_good
  · rintro (⟨rfl, h⟩ | ⟨t, w, rfl, h⟩) <;> exact h
@[simp] theorem asAggK_good (v : AV) (k : List AV → A) : (asAggK v k = .good) ↔ (∃ cs, v = .agg cs ∧ k cs = .good) := by
  constructor
  · intro h; cases v <;> first | exact ⟨_, rfl, h⟩ | exact absurd h no_good
  · rintro ⟨cs, rfl, h⟩ <;> exact h
@[simp] theorem asTupleK_good (v : AV) (k : List AV → A) : (asTupleK v k = .good) ↔ (∃ vs, v = .tuple vs ∧ k vs = .good) := by
  constructor
  · intro h; cases v <;> first | exact ⟨_, rfl, h⟩ | exact absurd h no_good
  · rintro ⟨vs, rfl, h⟩ <;> exact h
/-- The cells of a value that has some. -/
def AV.cells : AV → List AV
  | .agg cs => cs
  | v => [v]
def AV.known : AV → Bool
  | .tuple _ | .poison | .cap _ _ => false
  | _ => true
@[simp] theorem cellsK_good (v : AV) (k : List AV → A) : (cellsK v k = .good) ↔ v.known = true ∧ k v.cells = .good := by cases v <;> simp [cellsK, no, AV.known, AV.cells]
@[simp] theorem boolK_good (v : AV) (k : Bool → A) (z : A) : (boolK v k z = .good) ↔ (∃ b, v = .bool b ∧ k b = .good) ∨ (∃ vs, v = .tuple vs ∧ z = .good) := by
  constructor
  · intro h; cases v <;> first | exact .inl ⟨_, rfl, h⟩ | exact .inr ⟨_, rfl, h⟩ | exact absurd h no_good
  · rintro (⟨b, rfl, h⟩ | ⟨vs, rfl, h⟩) <;> exact h
@[simp] theorem u8K_good (v : AV) (k : Nat → A) : (u8K v k = .good) ↔ ∃ n, v = .int .u8 n ∧ n ≤ 255 ∧ k n = .good := by
  constructor
  · intro h
    simp only [u8K, asNatK_good] at h
    obtain ⟨j, n, rfl, h⟩ := h
    cases j <;> first | exact absurd h no_good | skip
    simp only [bbK_good, bleB, decide_eq_true_eq] at h
    exact ⟨n, rfl, h⟩
  · rintro ⟨n, rfl, hn, h⟩
    have : Nat.ble n 255 = true := by simpa using hn
    simp only [u8K, asNatK_good]
    exact ⟨_, _, rfl, by simp only [bbK_good]; exact ⟨this, h⟩⟩
@[simp] theorem bK_eq (b : Bool) (k : AV → A) : bK b k = k (.bool b) := by cases b <;> rfl
@[simp] theorem kindEq_eq (j k : IntKind) : kindEq j k = decide (j = k) := rfl
theorem addE (a b : Nat) : Nat.add a b = a + b := rfl
theorem subE (a b : Nat) : Nat.sub a b = a - b := rfl
theorem mulE (a b : Nat) : Nat.mul a b = a * b := rfl
theorem divE (a b : Nat) : Nat.div a b = a / b := rfl
theorem modE (a b : Nat) : Nat.mod a b = a % b := rfl
theorem succE (a : Nat) : Nat.succ a = a + 1 := rfl
end Go.Ev
end

section
set_option maxRecDepth 2000
set_option autoImplicit false
namespace Go.Ev

/-! ### slots -/
/-- What stands in the slots. -/
def EnvIs (e : Env) (f : Nat → AV) : Prop := ∃ g : D → NV, NVV.Is e g ∧ ∃ u : D → D → AV, (∀ d, NV.Is (g d) (u d)) ∧ ∀ t, t < 256 → f t = u (D.nat (t / 16)) (D.nat (t % 16))
def upd {α : Type} (f : Nat → α) (t : Nat) (v : α) : Nat → α := fun s => if s = t then v else f s
theorem upd_same {α : Type} (f : Nat → α) (t : Nat) (v : α) : upd f t v t = v := by simp [upd]
theorem upd_other {α : Type} (f : Nat → α) {t s : Nat} (v : α) (h : s ≠ t) : upd f t v s = f s := by simp [upd, h]
theorem EnvIs.congr {e : Env} {f g : Nat → AV} (h : EnvIs e f) (hf : ∀ t, t < 256 → g t = f t) : EnvIs e g := by
  obtain ⟨n, hn, u, hu, hfu⟩ := h
  exact ⟨n, hn, u, hu, fun t ht => (hf t ht).trans (hfu t ht)⟩
theorem EnvIs.empty : EnvIs Env.empty fun _ => .undef :=
  ⟨fun _ => NV.all .undef, NVV.all_is _, fun _ _ => .undef, fun _ => NV.all_is _, fun _ _ => rfl⟩
theorem egK_good {t : Nat} {e : Env} {f : Nat → AV} (h : EnvIs e f) (k : AV → A) : (egK t e k = .good) ↔ t ≤ 255 ∧ k (f t) = .good := by
  obtain ⟨g, hg, u, hu, hf⟩ := h
  simp only [egK, bbK_good, bleB, decide_eq_true_eq]
  constructor
  · rintro ⟨ht, hk⟩
    rw [NVV.pk_eq _ hg, NV.pk_eq _ (hu _)] at hk
    exact ⟨ht, by rw [hf t (by omega)]; exact hk⟩
  · rintro ⟨ht, hk⟩
    refine ⟨ht, ?_⟩
    rw [NVV.pk_eq _ hg, NV.pk_eq _ (hu _)]
    rw [hf t (by omega)] at hk; exact hk
theorem digits_ne {s t : Nat} (hs : s < 256) (ht : t < 256) (h1 : D.nat (s / 16) = D.nat (t / 16)) (h2 : D.nat (s % 16) = D.nat (t % 16)) : s = t := by
  have := D.nat_inj (by omega) (by omega) h1
  have := D.nat_inj (by omega) (by omega) h2
  omega
theorem esK_good {nt t : Nat} {v : AV} {e : Env} {f : Nat → AV} {k : Env → A} (h : EnvIs e f) (hnt : nt ≤ 256) (hk : esK nt t v e k = .good) :
    t < nt ∧ ∃ e', EnvIs e' (upd f t v) ∧ k e' = .good := by
  obtain ⟨g, hg, u, hu, hf⟩ := h
  simp only [esK, bbK_good, bleB, decide_eq_true_eq] at hk
  obtain ⟨ht, hk⟩ := hk
  rw [NVV.pk_eq _ hg] at hk
  obtain ⟨n', hn', he'⟩ := NV.up_eq (D.nat (Nat.mod t 16)) v (hu (D.nat (Nat.div t 16))) (fun n => NVV.up (D.nat (Nat.div t 16)) n e k)
  rw [he'] at hk
  obtain ⟨e', hE, hk'⟩ := NVV.up_eq (D.nat (Nat.div t 16)) n' hg k
  rw [hk'] at hk
  refine ⟨ht, e', ⟨_, hE, fun d d' => if d = D.nat (t / 16) then (if d' = D.nat (t % 16) then v else u (D.nat (t / 16)) d') else u d d', ?_, ?_⟩, hk⟩
  · intro d
    by_cases hd : d = D.nat (t / 16)
    · subst hd
      have hd : (if D.nat (t / 16) = D.nat (Nat.div t 16) then n' else g (D.nat (t / 16))) = n' := if_pos rfl
      simp only [if_true]
      rw [hd]
      exact hn'
    · have hd' : ¬ d = D.nat (Nat.div t 16) := hd
      simp only [if_neg hd', if_neg hd]
      exact hu d
  · intro s hs
    simp only [upd]
    by_cases hst : s = t
    · subst hst; simp
    · rw [if_neg hst]
      by_cases h1 : D.nat (s / 16) = D.nat (t / 16)
      · by_cases h2 : D.nat (s % 16) = D.nat (t % 16)
        · exact absurd (digits_ne hs (by omega) h1 h2) hst
        · rw [if_pos h1, if_neg h2, hf s hs, h1]
      · rw [if_neg h1, hf s hs]

/-! ### blocks -/
def updB {α : Type} (f : Bid → α) (b : Bid) (v : α) : Bid → α := fun c => if c = b then v else f c
theorem updB_same {α : Type} (f : Bid → α) (b : Bid) (v : α) : updB f b v b = v := by simp [updB]
theorem updB_other {α : Type} (f : Bid → α) {b c : Bid} (v : α) (h : c ≠ b) : updB f b v c = f c := by simp [updB, h]
/-- What stands in the blocks. -/
def TreeIs (t : NO4) (H : Bid → AObj) : Prop := ∃ g4 : D → NO3, NO4.Is t g4 ∧ ∃ g3 : D → D → NO2, (∀ a, NO3.Is (g4 a) (g3 a)) ∧ ∃ g2 : D → D → D → NO1, (∀ a b, NO2.Is (g3 a b) (g2 a b)) ∧
  ∀ a b c, NO1.Is (g2 a b c) (fun d => H (.mk a b c d))
def HeapIs (h : Heap) (H : Bid → AObj) (nx : Bid) : Prop := ∃ t, TreeIs t H ∧ ∀ z : NO4 → Bid → A, h z = z t nx
theorem HeapIs.mk {t : NO4} {H : Bid → AObj} {nx : Bid} (h : TreeIs t H) : HeapIs (fun z => z t nx) H nx := ⟨t, h, fun _ => rfl⟩
theorem HeapIs.empty : HeapIs Heap.empty (fun _ => .none) (.mk .d0 .d1 .d0 .d0) :=
  ⟨_, ⟨_, NO4.all_is _, _, fun _ => NO3.all_is _, _, fun _ _ => NO2.all_is _, fun _ _ _ => NO1.all_is _⟩, fun _ => rfl⟩
theorem hgK_eq {b : Bid} {h : Heap} {H : Bid → AObj} {nx : Bid} (hh : HeapIs h H nx) (k : AObj → A) : hgK b h k = k (H b) := by
  obtain ⟨t, ⟨g4, h4, g3, h3, g2, h2, h1⟩, ht⟩ := hh
  obtain ⟨x3, x2, x1, x0⟩ := b
  simp only [hgK, ht]
  rw [NO4.pk_eq _ h4, NO3.pk_eq _ (h3 _), NO2.pk_eq _ (h2 _ _), NO1.pk_eq _ (h1 _ _ _)]
theorem hsT_eq {x3 x2 x1 x0 : D} {o : AObj} {t : NO4} {H : Bid → AObj} (ht : TreeIs t H) (k : NO4 → A) :
    ∃ t', TreeIs t' (updB H (.mk x3 x2 x1 x0) o) ∧ hsT x3 x2 x1 x0 o t k = k t' := by
  obtain ⟨g4, h4, g3, h3, g2, h2, h1⟩ := ht
  simp only [hsT]
  rw [NO4.pk_eq _ h4, NO3.pk_eq _ (h3 _), NO2.pk_eq _ (h2 _ _)]
  obtain ⟨t1, ht1, e1⟩ := NO1.up_eq x0 o (h1 x3 x2 x1) (fun t1 => NO2.up x1 t1 (g3 x3 x2) fun t2 => NO3.up x2 t2 (g4 x3) fun t3 => NO4.up x3 t3 t k)
  rw [e1]
  obtain ⟨t2, ht2, e2⟩ := NO2.up_eq x1 t1 (h2 x3 x2) (fun t2 => NO3.up x2 t2 (g4 x3) fun t3 => NO4.up x3 t3 t k)
  rw [e2]
  obtain ⟨t3, ht3, e3⟩ := NO3.up_eq x2 t2 (h3 x3) (fun t3 => NO4.up x3 t3 t k)
  rw [e3]
  obtain ⟨t4, ht4, e4⟩ := NO4.up_eq x3 t3 h4 k
  rw [e4]
  refine ⟨t4, ⟨_, ht4, fun a b => if a = x3 then (if b = x2 then t2 else g3 x3 b) else g3 a b, ?_, fun a b c => if a = x3 then (if b = x2 then (if c = x1 then t1 else g2 x3 x2 c) else g2 x3 b c) else g2 a b c, ?_, ?_⟩, rfl⟩
  · intro a
    by_cases ha : a = x3
    · subst ha; simpa using ht3
    · simpa [ha] using h3 a
  · intro a b
    by_cases ha : a = x3
    · subst ha
      by_cases hb : b = x2
      · subst hb; simpa using ht2
      · simpa [hb] using h2 a b
    · simpa [ha] using h2 a b
  · intro a b c
    by_cases ha : a = x3
    · subst ha
      by_cases hb : b = x2
      · subst hb
        by_cases hc : c = x1
        · subst hc
          simp only [if_true]
          intro z
          have := ht1 z
          simpa [updB] using this
        · simpa [hc, updB] using h1 a b c
      · simpa [hb, updB] using h1 a b c
    · simpa [ha, updB] using h1 a b c
theorem hsK_eq {b : Bid} {o : AObj} {h : Heap} {H : Bid → AObj} {nx : Bid} (hh : HeapIs h H nx) (k : Heap → A) : ∃ h', HeapIs h' (updB H b o) nx ∧ hsK b o h k = k h' := by
  obtain ⟨t, hT, ht⟩ := hh
  obtain ⟨x3, x2, x1, x0⟩ := b
  simp only [hsK, ht]
  obtain ⟨t', hT', e⟩ := hsT_eq (x3 := x3) (x2 := x2) (x1 := x1) (x0 := x0) (o := o) hT (fun t => k fun z => z t nx)
  exact ⟨_, .mk hT', e⟩
theorem hnewK_good {o : AObj} {h : Heap} {H : Bid → AObj} {nx : Bid} {k : Bid → Heap → A} (hh : HeapIs h H nx) (hk : hnewK o h k = .good) :
    ∃ nx', nx'.num = nx.num + 1 ∧ ∃ h', HeapIs h' (updB H nx o) nx' ∧ k nx h' = .good := by
  obtain ⟨t, hT, ht⟩ := hh
  simp only [hnewK, ht] at hk
  obtain ⟨nx', hn, hk⟩ := Bid.incK_good hk
  obtain ⟨x3, x2, x1, x0⟩ := nx
  obtain ⟨t', hT', e⟩ := hsT_eq (x3 := x3) (x2 := x2) (x1 := x1) (x0 := x0) (o := o) hT (fun t => k (.mk x3 x2 x1 x0) fun z => z t nx')
  exact ⟨nx', hn, _, .mk hT', by rw [← hk, e]⟩
theorem hNext_eq {h : Heap} {H : Bid → AObj} {nx : Bid} (hh : HeapIs h H nx) (k : Bid → A) : hNext h k = k nx := by
  obtain ⟨t, hT, ht⟩ := hh
  simp only [hNext, ht]
theorem withNext_eq {h : Heap} {H : Bid → AObj} {nx n : Bid} (hh : HeapIs h H nx) (k : Heap → A) : ∃ h', HeapIs h' H n ∧ withNext h n k = k h' := by
  obtain ⟨t, hT, ht⟩ := hh
  simp only [withNext, ht]
  exact ⟨_, .mk hT, rfl⟩
theorem bidEq_eq (a b : Bid) : bidEq a b = decide (a = b) := by
  obtain ⟨a3, a2, a1, a0⟩ := a
  obtain ⟨b3, b2, b1, b0⟩ := b
  have hd : ∀ x y : D, dEq x y = decide (x = y) := by intro x y; cases x <;> cases y <;> rfl
  simp only [bidEq, hd, andB_eq]
  by_cases h3 : a3 = b3 <;> by_cases h2 : a2 = b2 <;> by_cases h1 : a1 = b1 <;> by_cases h0 : a0 = b0 <;> simp [h3, h2, h1, h0]
end Go.Ev
end

section
set_option maxRecDepth 2000
set_option autoImplicit false
namespace Go.Ev

/-! ### rows of cells -/
def CTIs (c : CT) (n : Nat) (f : Nat → AV) : Prop := match c with
  | .c1 t => n ≤ 16 ∧ ∃ g : D → AV, NV.Is t g ∧ ∀ i, i < n → f i = g (D.nat (i % 16))
  | .c2 t => n ≤ 256 ∧ ∃ g : D → NV, NVV.Is t g ∧ ∃ u : D → D → AV, (∀ d, NV.Is (g d) (u d)) ∧ ∀ i, i < n → f i = u (D.nat (i / 16 % 16)) (D.nat (i % 16))
  | .c3 t => n ≤ 4096 ∧ ∃ g : D → NVV, NV3.Is t g ∧ ∃ u : D → D → NV, (∀ d, NVV.Is (g d) (u d)) ∧ ∃ v : D → D → D → AV, (∀ d d', NV.Is (u d d') (v d d')) ∧
      ∀ i, i < n → f i = v (D.nat (i / 256 % 16)) (D.nat (i / 16 % 16)) (D.nat (i % 16))
theorem CTIs.congr {c : CT} {n m : Nat} {f g : Nat → AV} (h : CTIs c n f) (hm : m ≤ n) (hg : ∀ i, i < m → g i = f i) : CTIs c m g := by
  cases c with
  | c1 t => obtain ⟨hn, g, hg', hf⟩ := h; exact ⟨by omega, g, hg', fun i hi => (hg i hi).trans (hf i (by omega))⟩
  | c2 t => obtain ⟨hn, g, hg', u, hu, hf⟩ := h; exact ⟨by omega, g, hg', u, hu, fun i hi => (hg i hi).trans (hf i (by omega))⟩
  | c3 t => obtain ⟨hn, g, hg', u, hu, v, hv, hf⟩ := h; exact ⟨by omega, g, hg', u, hu, v, hv, fun i hi => (hg i hi).trans (hf i (by omega))⟩
theorem ctgK_eq {c : CT} {n i : Nat} {f : Nat → AV} (h : CTIs c n f) (hi : i < n) (k : AV → A) : ctgK c i k = k (f i) := by
  cases c with
  | c1 t =>
    obtain ⟨hn, g, hg, hf⟩ := h
    simp only [ctgK]
    rw [NV.pk_eq _ hg, hf i hi]; rfl
  | c2 t =>
    obtain ⟨hn, g, hg, u, hu, hf⟩ := h
    simp only [ctgK]
    rw [NVV.pk_eq _ hg, NV.pk_eq _ (hu _), hf i hi]; rfl
  | c3 t =>
    obtain ⟨hn, g, hg, u, hu, v, hv, hf⟩ := h
    simp only [ctgK]
    rw [NV3.pk_eq _ hg, NVV.pk_eq _ (hu _), NV.pk_eq _ (hv _ _), hf i hi]; rfl
theorem ctsK_eq {c : CT} {n i : Nat} {f : Nat → AV} (h : CTIs c n f) (hi : i < n) (v : AV) (k : CT → A) : ∃ c', CTIs c' n (upd f i v) ∧ ctsK c i v k = k c' := by
  cases c with
  | c1 t =>
    obtain ⟨hn, g, hg, hf⟩ := h
    simp only [ctsK]
    obtain ⟨t', ht', e⟩ := NV.up_eq (D.nat (Nat.mod i 16)) v hg (fun t => k (.c1 t))
    refine ⟨.c1 t', ⟨hn, _, ht', fun s hs => ?_⟩, e⟩
    simp only [upd]
    by_cases hsi : s = i
    · subst hsi; simp only [if_true]; exact (if_pos rfl).symm
    · rw [if_neg hsi, if_neg (fun hd => hsi ?_), hf s hs]
      have := D.nat_inj (m := s % 16) (n := i % 16) (by omega) (by omega) hd
      omega
  | c2 t =>
    obtain ⟨hn, g, hg, u, hu, hf⟩ := h
    simp only [ctsK]
    rw [NVV.pk_eq _ hg]
    obtain ⟨t1, ht1, e1⟩ := NV.up_eq (D.nat (Nat.mod i 16)) v (hu (D.nat (Nat.mod (Nat.div i 16) 16))) (fun t1 => NVV.up (D.nat (Nat.mod (Nat.div i 16) 16)) t1 t fun t => k (.c2 t))
    rw [e1]
    obtain ⟨t2, ht2, e2⟩ := NVV.up_eq (D.nat (Nat.mod (Nat.div i 16) 16)) t1 hg (fun t => k (.c2 t))
    rw [e2]
    refine ⟨.c2 t2, ⟨hn, _, ht2, fun d d' => if d = D.nat (i / 16 % 16) then (if d' = D.nat (i % 16) then v else u d d') else u d d', ?_, fun s hs => ?_⟩, rfl⟩
    · intro d
      by_cases hd : d = D.nat (i / 16 % 16)
      · subst hd
        have hd : (if D.nat (i / 16 % 16) = D.nat (Nat.mod (Nat.div i 16) 16) then t1 else g (D.nat (i / 16 % 16))) = t1 := if_pos rfl
        simp only [if_true]; rw [hd]; exact ht1
      · have hd' : ¬ d = D.nat (Nat.mod (Nat.div i 16) 16) := hd
        simp only [if_neg hd', if_neg hd]; exact hu d
    · simp only [upd]
      by_cases hsi : s = i
      · subst hsi; simp
      · rw [if_neg hsi]
        by_cases h1 : D.nat (s / 16 % 16) = D.nat (i / 16 % 16)
        · by_cases h2 : D.nat (s % 16) = D.nat (i % 16)
          · have := D.nat_inj (by omega) (by omega) h1
            have := D.nat_inj (by omega) (by omega) h2
            omega
          · rw [if_pos h1, if_neg h2, hf s hs]
        · rw [if_neg h1, hf s hs]
  | c3 t =>
    obtain ⟨hn, g, hg, u, hu, w, hw, hf⟩ := h
    simp only [ctsK]
    rw [NV3.pk_eq _ hg, NVV.pk_eq _ (hu _)]
    obtain ⟨t1, ht1, e1⟩ := NV.up_eq (D.nat (Nat.mod i 16)) v (hw (D.nat (Nat.mod (Nat.div i 256) 16)) (D.nat (Nat.mod (Nat.div i 16) 16)))
      (fun t1 => NVV.up (D.nat (Nat.mod (Nat.div i 16) 16)) t1 (g (D.nat (Nat.mod (Nat.div i 256) 16))) fun t2 => NV3.up (D.nat (Nat.mod (Nat.div i 256) 16)) t2 t fun t => k (.c3 t))
    rw [e1]
    obtain ⟨t2, ht2, e2⟩ := NVV.up_eq (D.nat (Nat.mod (Nat.div i 16) 16)) t1 (hu (D.nat (Nat.mod (Nat.div i 256) 16))) (fun t2 => NV3.up (D.nat (Nat.mod (Nat.div i 256) 16)) t2 t fun t => k (.c3 t))
    rw [e2]
    obtain ⟨t3, ht3, e3⟩ := NV3.up_eq (D.nat (Nat.mod (Nat.div i 256) 16)) t2 hg (fun t => k (.c3 t))
    rw [e3]
    refine ⟨.c3 t3, ⟨hn, _, ht3, fun d d' => if d = D.nat (i / 256 % 16) then (if d' = D.nat (i / 16 % 16) then t1 else u d d') else u d d', ?_,
      fun d d' d'' => if d = D.nat (i / 256 % 16) then (if d' = D.nat (i / 16 % 16) then (if d'' = D.nat (i % 16) then v else w d d' d'') else w d d' d'') else w d d' d'', ?_, fun s hs => ?_⟩, rfl⟩
    · intro d
      by_cases hd : d = D.nat (i / 256 % 16)
      · subst hd
        have hd : (if D.nat (i / 256 % 16) = D.nat (Nat.mod (Nat.div i 256) 16) then t2 else g (D.nat (i / 256 % 16))) = t2 := if_pos rfl
        simp only [if_true]; rw [hd]; exact ht2
      · have hd' : ¬ d = D.nat (Nat.mod (Nat.div i 256) 16) := hd
        simp only [if_neg hd', if_neg hd]; exact hu d
    · intro d d'
      by_cases hd : d = D.nat (i / 256 % 16)
      · subst hd
        by_cases hd' : d' = D.nat (i / 16 % 16)
        · subst hd'; simp only [if_true]; exact ht1
        · simp only [if_true, if_neg hd']; exact hw _ _
      · simp only [if_neg hd]; exact hw _ _
    · simp only [upd]
      by_cases hsi : s = i
      · subst hsi; simp
      · rw [if_neg hsi]
        by_cases h1 : D.nat (s / 256 % 16) = D.nat (i / 256 % 16)
        · by_cases h2 : D.nat (s / 16 % 16) = D.nat (i / 16 % 16)
          · by_cases h3 : D.nat (s % 16) = D.nat (i % 16)
            · have := D.nat_inj (by omega) (by omega) h1
              have := D.nat_inj (by omega) (by omega) h2
              have := D.nat_inj (by omega) (by omega) h3
              omega
            · rw [if_pos h1, if_pos h2, if_neg h3, hf s hs]
          · rw [if_pos h1, if_neg h2, hf s hs]
        · rw [if_neg h1, hf s hs]
/-- The row from i on, n of it. -/
def cut (f : Nat → AV) (i : Nat) : Nat → List AV
  | 0 => []
  | n + 1 => f i :: cut f (i + 1) n
theorem cut_length (f : Nat → AV) : ∀ (n i : Nat), (cut f i n).length = n
  | 0, _ => rfl
  | n + 1, i => by simp [cut, cut_length f n (i + 1)]
theorem cut_get (f : Nat → AV) : ∀ (n i j : Nat), j < n → (cut f i n)[j]? = some (f (i + j))
  | 0, _, _, h => absurd h (by omega)
  | n + 1, i, 0, _ => rfl
  | n + 1, i, j + 1, h => by
    simp only [cut, List.getElem?_cons_succ]
    rw [cut_get f n (i + 1) j (by omega)]
    congr 2; omega
theorem ctL_eq {c : CT} {n : Nat} {f : Nat → AV} (h : CTIs c n f) : ∀ (m i : Nat), i + m ≤ n → ∀ k : List AV → A, ctL c m i k = k (cut f i m)
  | 0, _, _, _ => rfl
  | m + 1, i, hi, k => by
    have := ctL_eq h m (i + 1) (by omega)
    simp only [ctL] at this ⊢
    rw [ctgK_eq h (by omega)]
    exact this _
/-- The row with vs from i on. -/
def updL (f : Nat → AV) (i : Nat) : List AV → Nat → AV
  | [] => f
  | v :: vs => updL (upd f i v) (i + 1) vs
theorem updL_get (vs : List AV) : ∀ (f : Nat → AV) (i j : Nat), updL f i vs j = if h : i ≤ j ∧ j < i + vs.length then vs[j - i]'(by omega) else f j := by
  induction vs with
  | nil => intro f i j; simp only [updL, List.length_nil]; rw [dif_neg (by omega)]
  | cons v vs ih =>
    intro f i j
    simp only [updL]
    rw [ih]
    by_cases h1 : i + 1 ≤ j ∧ j < i + 1 + vs.length
    · rw [dif_pos h1, dif_pos (by simp only [List.length_cons]; omega)]
      have : j - i = (j - (i + 1)) + 1 := by omega
      simp only [this, List.getElem_cons_succ]
    · rw [dif_neg h1]
      by_cases h2 : j = i
      · subst h2
        rw [dif_pos (by simp only [List.length_cons]; omega)]
        simp [upd]
      · rw [dif_neg (by simp only [List.length_cons]; omega)]
        simp [upd, h2]
theorem ctSL_eq (vs : List AV) : ∀ {c : CT} {n i : Nat} {f : Nat → AV}, CTIs c n f → i + vs.length ≤ n → ∀ k : CT → A, ∃ c', CTIs c' n (updL f i vs) ∧ ctSL vs c i k = k c' := by
  induction vs with
  | nil => intro c n i f h _ k; exact ⟨c, h, rfl⟩
  | cons v vs ih =>
    intro c n i f h hi k
    simp only [List.length_cons] at hi
    obtain ⟨c1, h1, e1⟩ := ctsK_eq h (i := i) (by omega) v (fun t => ctSL vs t (i + 1) k)
    obtain ⟨c2, h2, e2⟩ := ih h1 (i := i + 1) (by omega) k
    exact ⟨c2, h2, by rw [← e2, ← e1]; rfl⟩
/-- A list as a row. -/
def ofL (l : List AV) : Nat → AV := fun i => l.getD i .poison

theorem g0_eq (k : NV → List AV → A) (l : List AV) : ∃ n, NV.Is n (fun d => l.getD d.num .poison) ∧ g0 k l = k n (l.drop 16) := by
  rcases l with _ | ⟨x0, _ | ⟨x1, _ | ⟨x2, _ | ⟨x3, _ | ⟨x4, _ | ⟨x5, _ | ⟨x6, _ | ⟨x7, _ | ⟨x8, _ | ⟨x9, _ | ⟨xa, _ | ⟨xb, _ | ⟨xc, _ | ⟨xd, _ | ⟨xe, _ | ⟨xf, l⟩⟩⟩⟩⟩⟩⟩⟩⟩⟩⟩⟩⟩⟩⟩⟩ <;> exact ⟨_, fun z => rfl, rfl⟩
theorem gg0_eq (k : NVV → List AV → A) (l : List AV) : ∃ n, (∃ g : D → NV, NVV.Is n g ∧ ∀ d, NV.Is (g d) fun d' => (l.drop (16 * d.num)).getD d'.num .poison) ∧ gg0 k l = k n (l.drop 256) := by
  obtain ⟨n0, h0, e0⟩ := g0_eq (fun x l => gg1 k  x l) (l.drop 0)
  obtain ⟨n1, h1, e1⟩ := g0_eq (fun x l => gg2 k n0 x l) (l.drop 16)
  obtain ⟨n2, h2, e2⟩ := g0_eq (fun x l => gg3 k n0 n1 x l) (l.drop 32)
  obtain ⟨n3, h3, e3⟩ := g0_eq (fun x l => gg4 k n0 n1 n2 x l) (l.drop 48)
  obtain ⟨n4, h4, e4⟩ := g0_eq (fun x l => gg5 k n0 n1 n2 n3 x l) (l.drop 64)
  obtain ⟨n5, h5, e5⟩ := g0_eq (fun x l => gg6 k n0 n1 n2 n3 n4 x l) (l.drop 80)
  obtain ⟨n6, h6, e6⟩ := g0_eq (fun x l => gg7 k n0 n1 n2 n3 n4 n5 x l) (l.drop 96)
  obtain ⟨n7, h7, e7⟩ := g0_eq (fun x l => gg8 k n0 n1 n2 n3 n4 n5 n6 x l) (l.drop 112)
  obtain ⟨n8, h8, e8⟩ := g0_eq (fun x l => gg9 k n0 n1 n2 n3 n4 n5 n6 n7 x l) (l.drop 128)
  obtain ⟨n9, h9, e9⟩ := g0_eq (fun x l => gg10 k n0 n1 n2 n3 n4 n5 n6 n7 n8 x l) (l.drop 144)
  obtain ⟨na, ha, ea⟩ := g0_eq (fun x l => gg11 k n0 n1 n2 n3 n4 n5 n6 n7 n8 n9 x l) (l.drop 160)
  obtain ⟨nb, hb, eb⟩ := g0_eq (fun x l => gg12 k n0 n1 n2 n3 n4 n5 n6 n7 n8 n9 na x l) (l.drop 176)
  obtain ⟨nc, hc, ec⟩ := g0_eq (fun x l => gg13 k n0 n1 n2 n3 n4 n5 n6 n7 n8 n9 na nb x l) (l.drop 192)
  obtain ⟨nd, hd, ed⟩ := g0_eq (fun x l => gg14 k n0 n1 n2 n3 n4 n5 n6 n7 n8 n9 na nb nc x l) (l.drop 208)
  obtain ⟨ne, he, ee⟩ := g0_eq (fun x l => gg15 k n0 n1 n2 n3 n4 n5 n6 n7 n8 n9 na nb nc nd x l) (l.drop 224)
  obtain ⟨nf, hf, ef⟩ := g0_eq (fun x l => gg16 k n0 n1 n2 n3 n4 n5 n6 n7 n8 n9 na nb nc nd ne x l) (l.drop 240)
  refine ⟨fun z => z n0 n1 n2 n3 n4 n5 n6 n7 n8 n9 na nb nc nd ne nf, ⟨fun d => D.rec n0 n1 n2 n3 n4 n5 n6 n7 n8 n9 na nb nc nd ne nf d, fun z => rfl, fun d => ?_⟩, ?_⟩
  · cases d <;> assumption
  · rw [List.drop_zero] at e0
    rw [show gg0 k l = _ from e0]
    rw [show gg1 k n0 (l.drop 16) = _ from e1, List.drop_drop]
    rw [show gg2 k n0 n1 (l.drop 32) = _ from e2, List.drop_drop]
    rw [show gg3 k n0 n1 n2 (l.drop 48) = _ from e3, List.drop_drop]
    rw [show gg4 k n0 n1 n2 n3 (l.drop 64) = _ from e4, List.drop_drop]
    rw [show gg5 k n0 n1 n2 n3 n4 (l.drop 80) = _ from e5, List.drop_drop]
    rw [show gg6 k n0 n1 n2 n3 n4 n5 (l.drop 96) = _ from e6, List.drop_drop]
    rw [show gg7 k n0 n1 n2 n3 n4 n5 n6 (l.drop 112) = _ from e7, List.drop_drop]
    rw [show gg8 k n0 n1 n2 n3 n4 n5 n6 n7 (l.drop 128) = _ from e8, List.drop_drop]
    rw [show gg9 k n0 n1 n2 n3 n4 n5 n6 n7 n8 (l.drop 144) = _ from e9, List.drop_drop]
    rw [show gg10 k n0 n1 n2 n3 n4 n5 n6 n7 n8 n9 (l.drop 160) = _ from ea, List.drop_drop]
    rw [show gg11 k n0 n1 n2 n3 n4 n5 n6 n7 n8 n9 na (l.drop 176) = _ from eb, List.drop_drop]
    rw [show gg12 k n0 n1 n2 n3 n4 n5 n6 n7 n8 n9 na nb (l.drop 192) = _ from ec, List.drop_drop]
    rw [show gg13 k n0 n1 n2 n3 n4 n5 n6 n7 n8 n9 na nb nc (l.drop 208) = _ from ed, List.drop_drop]
    rw [show gg14 k n0 n1 n2 n3 n4 n5 n6 n7 n8 n9 na nb nc nd (l.drop 224) = _ from ee, List.drop_drop]
    rw [show gg15 k n0 n1 n2 n3 n4 n5 n6 n7 n8 n9 na nb nc nd ne (l.drop 240) = _ from ef, List.drop_drop]
    rfl
theorem ggg0_eq (k : NV3 → List AV → A) (l : List AV) : ∃ n, (∃ u : D → NVV, NV3.Is n u ∧ ∀ d, ∃ g : D → NV, NVV.Is (u d) g ∧ ∀ d', NV.Is (g d') fun d'' => ((l.drop (256 * d.num)).drop (16 * d'.num)).getD d''.num .poison) ∧ ggg0 k l = k n (l.drop 4096) := by
  obtain ⟨n0, h0, e0⟩ := gg0_eq (fun x l => ggg1 k  x l) (l.drop 0)
  obtain ⟨n1, h1, e1⟩ := gg0_eq (fun x l => ggg2 k n0 x l) (l.drop 256)
  obtain ⟨n2, h2, e2⟩ := gg0_eq (fun x l => ggg3 k n0 n1 x l) (l.drop 512)
  obtain ⟨n3, h3, e3⟩ := gg0_eq (fun x l => ggg4 k n0 n1 n2 x l) (l.drop 768)
  obtain ⟨n4, h4, e4⟩ := gg0_eq (fun x l => ggg5 k n0 n1 n2 n3 x l) (l.drop 1024)
  obtain ⟨n5, h5, e5⟩ := gg0_eq (fun x l => ggg6 k n0 n1 n2 n3 n4 x l) (l.drop 1280)
  obtain ⟨n6, h6, e6⟩ := gg0_eq (fun x l => ggg7 k n0 n1 n2 n3 n4 n5 x l) (l.drop 1536)
  obtain ⟨n7, h7, e7⟩ := gg0_eq (fun x l => ggg8 k n0 n1 n2 n3 n4 n5 n6 x l) (l.drop 1792)
  obtain ⟨n8, h8, e8⟩ := gg0_eq (fun x l => ggg9 k n0 n1 n2 n3 n4 n5 n6 n7 x l) (l.drop 2048)
  obtain ⟨n9, h9, e9⟩ := gg0_eq (fun x l => ggg10 k n0 n1 n2 n3 n4 n5 n6 n7 n8 x l) (l.drop 2304)
  obtain ⟨na, ha, ea⟩ := gg0_eq (fun x l => ggg11 k n0 n1 n2 n3 n4 n5 n6 n7 n8 n9 x l) (l.drop 2560)
  obtain ⟨nb, hb, eb⟩ := gg0_eq (fun x l => ggg12 k n0 n1 n2 n3 n4 n5 n6 n7 n8 n9 na x l) (l.drop 2816)
  obtain ⟨nc, hc, ec⟩ := gg0_eq (fun x l => ggg13 k n0 n1 n2 n3 n4 n5 n6 n7 n8 n9 na nb x l) (l.drop 3072)
  obtain ⟨nd, hd, ed⟩ := gg0_eq (fun x l => ggg14 k n0 n1 n2 n3 n4 n5 n6 n7 n8 n9 na nb nc x l) (l.drop 3328)
  obtain ⟨ne, he, ee⟩ := gg0_eq (fun x l => ggg15 k n0 n1 n2 n3 n4 n5 n6 n7 n8 n9 na nb nc nd x l) (l.drop 3584)
  obtain ⟨nf, hf, ef⟩ := gg0_eq (fun x l => ggg16 k n0 n1 n2 n3 n4 n5 n6 n7 n8 n9 na nb nc nd ne x l) (l.drop 3840)
  refine ⟨fun z => z n0 n1 n2 n3 n4 n5 n6 n7 n8 n9 na nb nc nd ne nf, ⟨fun d => D.rec n0 n1 n2 n3 n4 n5 n6 n7 n8 n9 na nb nc nd ne nf d, fun z => rfl, fun d => ?_⟩, ?_⟩
  · cases d <;> assumption
  · rw [List.drop_zero] at e0
    rw [show ggg0 k l = _ from e0]
    rw [show ggg1 k n0 (l.drop 256) = _ from e1, List.drop_drop]
    rw [show ggg2 k n0 n1 (l.drop 512) = _ from e2, List.drop_drop]
    rw [show ggg3 k n0 n1 n2 (l.drop 768) = _ from e3, List.drop_drop]
    rw [show ggg4 k n0 n1 n2 n3 (l.drop 1024) = _ from e4, List.drop_drop]
    rw [show ggg5 k n0 n1 n2 n3 n4 (l.drop 1280) = _ from e5, List.drop_drop]
    rw [show ggg6 k n0 n1 n2 n3 n4 n5 (l.drop 1536) = _ from e6, List.drop_drop]
    rw [show ggg7 k n0 n1 n2 n3 n4 n5 n6 (l.drop 1792) = _ from e7, List.drop_drop]
    rw [show ggg8 k n0 n1 n2 n3 n4 n5 n6 n7 (l.drop 2048) = _ from e8, List.drop_drop]
    rw [show ggg9 k n0 n1 n2 n3 n4 n5 n6 n7 n8 (l.drop 2304) = _ from e9, List.drop_drop]
    rw [show ggg10 k n0 n1 n2 n3 n4 n5 n6 n7 n8 n9 (l.drop 2560) = _ from ea, List.drop_drop]
    rw [show ggg11 k n0 n1 n2 n3 n4 n5 n6 n7 n8 n9 na (l.drop 2816) = _ from eb, List.drop_drop]
    rw [show ggg12 k n0 n1 n2 n3 n4 n5 n6 n7 n8 n9 na nb (l.drop 3072) = _ from ec, List.drop_drop]
    rw [show ggg13 k n0 n1 n2 n3 n4 n5 n6 n7 n8 n9 na nb nc (l.drop 3328) = _ from ed, List.drop_drop]
    rw [show ggg14 k n0 n1 n2 n3 n4 n5 n6 n7 n8 n9 na nb nc nd (l.drop 3584) = _ from ee, List.drop_drop]
    rw [show ggg15 k n0 n1 n2 n3 n4 n5 n6 n7 n8 n9 na nb nc nd ne (l.drop 3840) = _ from ef, List.drop_drop]
    rfl
theorem getD_drop (l : List AV) (m i : Nat) : (l.drop m).getD i .poison = l.getD (m + i) .poison := by simp [List.getD_eq_getElem?_getD]
theorem ctofK_good {vs : List AV} {k : CT → A} (h : ctofK vs k = .good) : ∃ c, CTIs c vs.length (ofL vs) ∧ k c = .good := by
  simp only [ctofK, boolRec_good, bbK_good, bleB, llen_eq, decide_eq_true_eq, decide_eq_false_iff_not] at h
  rcases h with ⟨hn, h⟩ | ⟨_, ⟨hn, h⟩ | ⟨_, hn, h⟩⟩
  · obtain ⟨n, hi, e⟩ := g0_eq (fun t _ => k (.c1 t)) vs
    rw [e] at h
    refine ⟨.c1 n, ⟨hn, _, hi, fun i hi => ?_⟩, h⟩
    simp only [ofL]
    rw [D.nat_num _ (by omega), Nat.mod_eq_of_lt (by omega)]
  · obtain ⟨n, ⟨g, hg, hu⟩, e⟩ := gg0_eq (fun t _ => k (.c2 t)) vs
    rw [e] at h
    refine ⟨.c2 n, ⟨hn, _, hg, _, hu, fun i hi => ?_⟩, h⟩
    simp only [ofL, getD_drop]
    rw [D.nat_num _ (by omega), D.nat_num _ (by omega)]
    congr 1; omega
  · obtain ⟨n, ⟨g, hg, hu⟩, e⟩ := ggg0_eq (fun t _ => k (.c3 t)) vs
    rw [e] at h
    refine ⟨.c3 n, ⟨hn, g, hg, fun d => (hu d).choose, fun d => (hu d).choose_spec.1, _, fun d d' => (hu d).choose_spec.2 d', fun i hi => ?_⟩, h⟩
    simp only [ofL, getD_drop]
    rw [D.nat_num _ (by omega), D.nat_num _ (by omega), D.nat_num _ (by omega)]
    congr 1; omega
end Go.Ev
end

section
set_option maxRecDepth 2000
set_option autoImplicit false
namespace Go.Ev

/-! ### the relation: what is known, and the machine's memory -/
/-- Where a block lies: the machine's block, the place in it where the known part begins, how many cells it has. -/
structure PB where
  blk : Nat
  sh : Nat
  cs : Nat
abbrev Phi := Bid → Option PB
def Phi.le (φ φ' : Phi) : Prop := ∀ b p, φ b = some p → φ' b = some p
theorem Phi.le_refl (φ : Phi) : φ.le φ := fun _ _ h => h
theorem Phi.le_trans {φ φ' φ'' : Phi} (h : φ.le φ') (h' : φ'.le φ'') : φ.le φ'' := fun b p hb => h' b p (h b p hb)
def PB.addr (p : PB) (i : Nat) : Addr := ⟨p.blk, i + p.sh, none⟩

/-- The number d packs the bytes of a text. -/
def PackIs (s : ByteArray) (l d : Nat) : Prop := s.size = l ∧ packB s = d

inductive FR (φ : Phi) : AFn → Fn → Prop
  | func (f : FuncId) : FR φ (.func f) (.func f)
  | method (n : String) : FR φ (.method n) (.method n)
  | yield {b : Bid} {p : PB} (h : φ b = some p) : FR φ (.yield b) (.yield p.blk)

mutual
inductive VR (φ : Phi) : AV → Value → Prop
  | bool (b : Bool) : VR φ (.bool b) (.bool b)
  | int (k : IntKind) (n : Nat) : VR φ (.int k n) (.int k (n : Int))
  | neg (k : IntKind) (n : Nat) : VR φ (.neg k n) (.int k (Int.negSucc n))
  | str {s : ByteArray} {l d : Nat} (h : PackIs s l d) : VR φ (.str l d) (.string s)
  | nilp : VR φ .nilp (.pointer none)
  | ptr {b : Bid} {p : PB} (i : Nat) (h : φ b = some p) : VR φ (.ptr b i) (.pointer (some (p.addr i)))
  | nils : VR φ .nils (.slice none 0 0)
  | slice {b : Bid} {p : PB} {a : Addr} (o n lo hi z c : Nat) (h : φ b = some p) (hn : n ≤ c) (hlo : lo ≤ c) (hhi : hi = 0 ∨ c < hi) (ha : c = 0 ∨ (a = p.addr o ∧ o + p.sh + c * z ≤ p.cs)) :
      VR φ (.slice b o n lo hi z) (.slice (some a) n c)
  | nilm : VR φ .nilm (.map none)
  | map {b : Bid} {p : PB} (h : φ b = some p) : VR φ (.map b) (.map (some p.blk))
  | nilf : VR φ .nilf .nilFunc
  | func {fn : AFn} {fn' : Fn} {a c : List AV} {a' c' : Array Value} (h : FR φ fn fn') (ha : VRs φ a a'.toList) (hc : VRs φ c c'.toList) : VR φ (.func fn a c) (.func fn' a' c')
  | nili : VR φ .nili .nilIface
  | iface (t : TypeId) {v : AV} {v' : Value} (h : VR φ v v') : VR φ (.iface t v) (.iface t v')
  | agg {cs : List AV} {cs' : Array Value} (h : VRs φ cs cs'.toList) : VR φ (.agg cs) (.agg cs')
  | tuple {cs : List AV} {cs' : Array Value} (h : VRs φ cs cs'.toList) : VR φ (.tuple cs) (.tuple cs')
  | poison (v : Value) : VR φ .poison v
  | cap (lo hi c : Nat) (hlo : lo ≤ c) (hhi : hi = 0 ∨ c < hi) : VR φ (.cap lo hi) (.int .i64 (c : Int))
inductive VRs (φ : Phi) : List AV → List Value → Prop
  | nil : VRs φ [] []
  | cons {v : AV} {v' : Value} {vs : List AV} {vs' : List Value} (h : VR φ v v') (hs : VRs φ vs vs') : VRs φ (v :: vs) (v' :: vs')
end
theorem FR.mono {φ φ' : Phi} (hφ : φ.le φ') {f : AFn} {g : Fn} (h : FR φ f g) : FR φ' f g := by
  cases h with
  | func f => exact .func f
  | method n => exact .method n
  | yield h => exact .yield (hφ _ _ h)
mutual
theorem VR.mono {φ φ' : Phi} (hφ : φ.le φ') {v : AV} {v' : Value} (h : VR φ v v') : VR φ' v v' := match h with
  | .bool b => .bool b
  | .int k n => .int k n
  | .neg k n => .neg k n
  | .str h => .str h
  | .nilp => .nilp
  | .ptr i h => .ptr i (hφ _ _ h)
  | .nils => .nils
  | .slice o n lo hi z c h hn hlo hhi ha => .slice o n lo hi z c (hφ _ _ h) hn hlo hhi ha
  | .nilm => .nilm
  | .map h => .map (hφ _ _ h)
  | .nilf => .nilf
  | .func h ha hc => .func (h.mono hφ) (ha.mono hφ) (hc.mono hφ)
  | .nili => .nili
  | .iface t h => .iface t (h.mono hφ)
  | .agg h => .agg (h.mono hφ)
  | .tuple h => .tuple (h.mono hφ)
  | .poison v => .poison v
  | .cap lo hi c hlo hhi => .cap lo hi c hlo hhi
theorem VRs.mono {φ φ' : Phi} (hφ : φ.le φ') {v : List AV} {v' : List Value} (h : VRs φ v v') : VRs φ' v v' := match h with
  | .nil => .nil
  | .cons h hs => .cons (h.mono hφ) (hs.mono hφ)
end
theorem VRs.length {φ : Phi} : ∀ {v : List AV} {v' : List Value}, VRs φ v v' → v.length = v'.length
  | [], _, .nil => rfl
  | _ :: _, _, .cons _ hs => by simp [hs.length]
theorem VRs.get {φ : Phi} : ∀ {v : List AV} {v' : List Value}, VRs φ v v' → ∀ {i : Nat} {x : AV}, v[i]? = some x → ∃ y, v'[i]? = some y ∧ VR φ x y
  | _, _, .nil, i, x, h => by simp at h
  | _, _, .cons hv hs, 0, x, h => by
    simp only [List.getElem?_cons_zero, Option.some.injEq] at h
    subst h; exact ⟨_, rfl, hv⟩
  | _, _, .cons hv hs, i + 1, x, h => by
    simp only [List.getElem?_cons_succ] at h ⊢
    exact hs.get h
theorem VRs.append {φ : Phi} : ∀ {a : List AV} {a' : List Value} {b : List AV} {b' : List Value}, VRs φ a a' → VRs φ b b' → VRs φ (a ++ b) (a' ++ b')
  | _, _, _, _, .nil, hb => hb
  | _, _, _, _, .cons h hs, hb => .cons h (hs.append hb)
theorem VRs.of_get {φ : Phi} : ∀ {v : List AV} {v' : List Value}, v.length = v'.length → (∀ (i : Nat) (x : AV) (y : Value), v[i]? = some x → v'[i]? = some y → VR φ x y) → VRs φ v v'
  | [], [], _, _ => .nil
  | x :: v, y :: v', h, hg => .cons (hg 0 x y rfl rfl) (VRs.of_get (by simpa using h) fun i x y hx hy => hg (i + 1) x y (by simpa using hx) (by simpa using hy))

/-! ### entries, deferred calls -/
inductive EntsR (φ : Phi) : List AEnt → List MapEntry → Prop
  | nil : EntsR φ [] []
  | cons {k v : AV} {k' v' : Value} (n : Nat) {es : List AEnt} {es' : List MapEntry} (hk : VR φ k k') (hv : VR φ v v') (h : EntsR φ es es') : EntsR φ (.mk k v n :: es) ({ key := k', val := v', born := n } :: es')
theorem EntsR.mono {φ φ' : Phi} (hφ : φ.le φ') {es : List AEnt} {es' : List MapEntry} (h : EntsR φ es es') : EntsR φ' es es' := by
  induction h with
  | nil => exact .nil
  | cons n hk hv _ ih => exact .cons n (hk.mono hφ) (hv.mono hφ) ih
inductive DR (φ : Phi) : ADefer → Deferred → Prop
  | fn {f : AFn} {f' : Fn} {c a : List AV} {c' a' : Array Value} (h : FR φ f f') (hc : VRs φ c c'.toList) (ha : VRs φ a a'.toList) : DR φ (.mk (.fn f c) a) { target := .fn f' c', args := a' }
  | collected {b : Bid} {p : PB} (h : φ b = some p) : DR φ (.mk (.collected b) []) { target := .collected p.blk, args := #[] }
theorem DR.mono {φ φ' : Phi} (hφ : φ.le φ') {d : ADefer} {d' : Deferred} (h : DR φ d d') : DR φ' d d' := by
  cases h with
  | fn h hc ha => exact .fn (h.mono hφ) (hc.mono hφ) (ha.mono hφ)
  | collected h => exact .collected (hφ _ _ h)
inductive DsR (φ : Phi) : List ADefer → List Deferred → Prop
  | nil : DsR φ [] []
  | cons {d : ADefer} {d' : Deferred} {ds : List ADefer} {ds' : List Deferred} (h : DR φ d d') (hs : DsR φ ds ds') : DsR φ (d :: ds) (d' :: ds')
theorem DsR.mono {φ φ' : Phi} (hφ : φ.le φ') {d : List ADefer} {d' : List Deferred} (h : DsR φ d d') : DsR φ' d d' := by
  induction h with
  | nil => exact .nil
  | cons h _ ih => exact .cons (h.mono hφ) ih

/-! ### slots -/
structure ER (φ : Phi) (f : Nat → AV) (tmps : Array Value) (nt : Nat) : Prop where
  size : tmps.size = nt
  small : nt ≤ 256
  at_ : ∀ t, t < 256 → VR φ (f t) (tmps.getD t undef)
theorem ER.mono {φ φ' : Phi} (hφ : φ.le φ') {f : Nat → AV} {tmps : Array Value} {nt : Nat} (h : ER φ f tmps nt) : ER φ' f tmps nt :=
  ⟨h.size, h.small, fun t ht => (h.at_ t ht).mono hφ⟩

/-! ### objects -/
def loopState : ALoopState → LoopState
  | .ready => .ready | .busy => .busy | .done => .done | .exhausted => .exhausted
def Kd.isRead : Kd → Bool
  | .read => true
  | _ => false
def OR (φ : Phi) (o : AObj) (p : PB) (c : Option Obj) : Prop := match o with
  | .none => True
  | .cells ty n t kd => ∃ cc fr, c = some (.cells cc ty fr) ∧ cc.size = p.cs ∧ p.sh + n ≤ p.cs ∧ (kd.isRead = false → ∀ i, fr.1 ≤ i → ¬ i < fr.2) ∧ (kd = .whole → p.sh = 0 ∧ n = p.cs) ∧
      ∀ f, CTIs t n f → ∀ i, i < n → ∃ v, cc[p.sh + i]? = some v ∧ VR φ (f i) v
  | .bytes ty n d fz g => ∃ cc fr, c = some (.cells cc ty fr) ∧ cc.size = p.cs ∧ p.sh + n ≤ p.cs ∧ ((fr.1 = fr.2 ∨ fr.2 ≤ p.sh + fz ∨ n < fz) ∨ (g = true ∧ fz = 0 ∧ p.cs ≤ fr.1)) ∧ ∀ i, i < n → cc[p.sh + i]? = some (.int .u8 (byteAt d i : Nat))
  | .map es k => p.sh = 0 ∧ ∃ es', c = some (.map es' k) ∧ EntsR φ es es'.toList
  | .stringIter l d pos => p.sh = 0 ∧ ∃ s, c = some (.stringIter s pos) ∧ PackIs s l d
  | .mapIter m since seen st => p.sh = 0 ∧ ∃ q, φ m = some q ∧ c = some (.mapIter (some q.blk) since seen.toArray st)
  | .loop st pend fn env nt params as bd df => p.sh = 0 ∧ ∃ l : Loop, c = some (.loop l) ∧ l.state = loopState st ∧ l.pending = pend ∧ l.fn = fn ∧ l.params.toList = params ∧ l.assign = as ∧ l.body = bd ∧
      (∃ q, φ df = some q ∧ l.defers = q.blk) ∧ ∀ f, EnvIs env f → ER φ f l.tmps nt
  | .deferred none => p.sh = 0 ∧ c = some (.deferred none)
  | .deferred (some l) => p.sh = 0 ∧ ∃ l', c = some (.deferred (some l')) ∧ DsR φ l l'
  | .nilIter => p.sh = 0 ∧ c = some (.mapIter none 0 #[] 0)
/-- What must be true of an object by itself. -/
def ObjOk : AObj → Prop
  | .cells _ n t _ => ∃ f, CTIs t n f
  | .loop _ _ _ env _ _ _ _ _ => ∃ f, EnvIs env f
  | _ => True
theorem OR.mono {φ φ' : Phi} (hφ : φ.le φ') {o : AObj} {p : PB} {c : Option Obj} (h : OR φ o p c) : OR φ' o p c := by
  cases o with
  | none => trivial
  | cells ty n t kd =>
    obtain ⟨cc, fr, h1, h2, h3, h4, h5, h6⟩ := h
    exact ⟨cc, fr, h1, h2, h3, h4, h5, fun f hf i hi => let ⟨v, hv, hr⟩ := h6 f hf i hi; ⟨v, hv, hr.mono hφ⟩⟩
  | bytes ty n d fz g => exact h
  | map es k =>
    obtain ⟨h0, es', h1, h2⟩ := h
    exact ⟨h0, es', h1, h2.mono hφ⟩
  | stringIter l d pos => exact h
  | mapIter m since seen st =>
    obtain ⟨h0, q, h1, h2⟩ := h
    exact ⟨h0, q, hφ _ _ h1, h2⟩
  | loop st pend fn env nt params as bd df =>
    obtain ⟨h0, l, h1, h2, h3, h4, h5, h6, h7, ⟨q, hq, h8⟩, h9⟩ := h
    exact ⟨h0, l, h1, h2, h3, h4, h5, h6, h7, ⟨q, hφ _ _ hq, h8⟩, fun f hf => (h9 f hf).mono hφ⟩
  | deferred l =>
    cases l with
    | none => exact h
    | some l =>
      obtain ⟨h0, l', h1, h2⟩ := h
      exact ⟨h0, l', h1, h2.mono hφ⟩
  | nilIter => exact h

/-! ### memory -/
def AObj.isNone : AObj → Bool
  | .none => true
  | _ => false
/-- May the block be written? -/
def AObj.own : AObj → Bool
  | .none => false
  | .cells _ _ _ kd => !kd.isRead
  | _ => true
structure R (φ : Phi) (H : Bid → AObj) (nx : Bid) (w : World) : Prop where
  obj : ∀ b p, φ b = some p → OR φ (H b) p w.heap[p.blk]?
  inj : ∀ b b' p p', φ b = some p → φ b' = some p' → (H b).isNone = false → (H b').isNone = false → p.blk = p'.blk → b = b'
  below : ∀ b p, φ b = some p → b.num < nx.num
  inside : ∀ b p, φ b = some p → (H b).isNone = false → p.blk < w.heap.size
  glob : ∀ g, g ≤ 255 → ∃ p, φ (gbid g) = some p ∧ p.blk = g ∧ p.sh = 0
structure Grows (φ : Phi) (H : Bid → AObj) (nx : Bid) (w : World) (φ' : Phi) (H' : Bid → AObj) (nx' : Bid) (w' : World) : Prop where
  le : φ.le φ'
  unmapped : ∀ b, φ b = none → b.num < nx.num → φ' b = none ∧ H' b = H b
  next : nx.num ≤ nx'.num
  size : w.heap.size ≤ w'.heap.size
  frame : ∀ c, c < w.heap.size → (∀ b p, φ b = some p → (H b).own = true → p.blk ≠ c) → w'.heap[c]? = w.heap[c]?
  owned : ∀ b p, φ' b = some p → (H' b).own = true → p.blk < w.heap.size → ∃ b₀ p₀, φ b₀ = some p₀ ∧ (H b₀).own = true ∧ p₀.blk = p.blk
  os : w'.os = w.os
  tape : w'.tape = w.tape
  output : w'.output = w.output
theorem Grows.refl (φ : Phi) (H : Bid → AObj) (nx : Bid) (w : World) : Grows φ H nx w φ H nx w :=
  ⟨φ.le_refl, fun _ h _ => ⟨h, rfl⟩, Nat.le_refl _, Nat.le_refl _, fun _ _ _ => rfl, fun b p h h' _ => ⟨b, p, h, h', rfl⟩, rfl, rfl, rfl⟩
theorem Grows.trans {φ φ' φ'' : Phi} {H H' H'' : Bid → AObj} {nx nx' nx'' : Bid} {w w' w'' : World} (h : Grows φ H nx w φ' H' nx' w') (h' : Grows φ' H' nx' w' φ'' H'' nx'' w'') : Grows φ H nx w φ'' H'' nx'' w'' where
  le := Phi.le_trans h.le h'.le
  unmapped b hb hn := by
    obtain ⟨h1, h2⟩ := h.unmapped b hb hn
    obtain ⟨h3, h4⟩ := h'.unmapped b h1 (Nat.lt_of_lt_of_le hn h.next)
    exact ⟨h3, h4.trans h2⟩
  next := Nat.le_trans h.next h'.next
  size := Nat.le_trans h.size h'.size
  frame c hc hf := by
    rw [h'.frame c (Nat.lt_of_lt_of_le hc h.size) ?_, h.frame c hc hf]
    intro b p hb ho he
    subst he
    obtain ⟨b₀, p₀, h1, h2, h3⟩ := h.owned b p hb ho hc
    exact hf b₀ p₀ h1 h2 h3
  owned b p hb ho hc := by
    obtain ⟨b₁, p₁, h1, h2, h3⟩ := h'.owned b p hb ho (Nat.lt_of_lt_of_le hc h.size)
    obtain ⟨b₀, p₀, h4, h5, h6⟩ := h.owned b₁ p₁ h1 h2 (h3 ▸ hc)
    exact ⟨b₀, p₀, h4, h5, h6.trans h3⟩
  os := h'.os.trans h.os
  tape := h'.tape.trans h.tape
  output := h'.output.trans h.output
end Go.Ev
end

section
set_option maxRecDepth 2000
set_option autoImplicit false
namespace Go.Ev

/-! ### the machine's memory turns -/
/-- Block r is made anew. -/
def _root_.Go.World.put (w : World) (r : Nat) (c : Obj) : World := { w with heap := w.heap.setIfInBounds r c }
theorem put_get (w : World) (r : Nat) (c : Obj) (hr : r < w.heap.size) : (w.put r c).heap[r]? = some c := by
  simp [World.put, hr]
theorem put_other (w : World) (r s : Nat) (c : Obj) (h : s ≠ r) : (w.put r c).heap[s]? = w.heap[s]? := by
  simp [World.put, Ne.symm h]
theorem put_size (w : World) (r : Nat) (c : Obj) : (w.put r c).heap.size = w.heap.size := by simp [World.put]
theorem setCell_put (w : World) (a : Addr) (v : Value) {c : Array Value} {e : TypeId} {fr : Nat × Nat} (ha : a.spot = none) (h : w.heap[a.block]? = some (.cells c e fr)) :
    w.setCell a v = w.put a.block (.cells (c.setIfInBounds a.off v) e fr) := by
  have hlt : a.block < w.heap.size := by
    rcases Nat.lt_or_ge a.block w.heap.size with h' | h'
    · exact h'
    · simp [Array.getElem?_eq_none h'] at h
  simp only [World.setCell, World.put]
  congr 1
  apply Array.ext_getElem?
  intro i
  simp only [Array.getElem?_modify, Array.getElem?_setIfInBounds]
  by_cases hi : a.block = i
  · subst hi
    have hg : w.heap[a.block] = .cells c e fr := by simpa [hlt] using h
    simp [ha, hlt, hg]
  · simp [hi]

section
variable {φ : Phi} {H : Bid → AObj} {nx : Bid} {w : World}
/-- A block that is written. -/
theorem R.put (hR : R φ H nx w) {b : Bid} {p : PB} (hb : φ b = some p) (hl : (H b).isNone = false) {o : AObj} {c : Obj} (ho : OR φ o p (some c)) : R φ (updB H b o) nx (w.put p.blk c) where
  obj b' p' hb' := by
    by_cases h : b' = b
    · subst h
      rw [hb] at hb'; cases hb'
      rw [updB_same, put_get _ _ _ (hR.inside _ _ hb hl)]; exact ho
    · rw [updB_other _ _ h]
      by_cases hn : (H b').isNone = true
      · have : H b' = .none := by cases hH : H b' <;> simp [hH, AObj.isNone] at hn ⊢
        rw [this]; trivial
      · have hn : (H b').isNone = false := by simpa using hn
        rw [put_other _ _ _ _ fun e => h (hR.inj _ _ _ _ hb' hb hn hl e)]
        exact hR.obj _ _ hb'
  inj b₁ b₂ p₁ p₂ h₁ h₂ n₁ n₂ e := by
    have key : ∀ x, ((updB H b o) x).isNone = false → (H x).isNone = false := by
      intro x hx
      by_cases h : x = b
      · subst h; exact hl
      · rwa [updB_other _ _ h] at hx
    exact hR.inj _ _ _ _ h₁ h₂ (key _ n₁) (key _ n₂) e
  below := hR.below
  inside b' p' hb' hn := by
    rw [put_size]
    by_cases h : b' = b
    · subst h; rw [hb] at hb'; cases hb'; exact hR.inside _ _ hb hl
    · rw [updB_other _ _ h] at hn; exact hR.inside _ _ hb' hn
  glob := hR.glob
theorem own_live {o : AObj} (h : o.own = true) : o.isNone = false := by cases o <;> simp_all [AObj.own, AObj.isNone]
theorem Grows.put {b : Bid} {p : PB} (hb : φ b = some p) (hl : (H b).own = true) (o : AObj) (c : Obj) : Grows φ H nx w φ (updB H b o) nx (w.put p.blk c) where
  le := φ.le_refl
  unmapped b' hb' _ := ⟨hb', updB_other _ _ (by rintro rfl; rw [hb] at hb'; cases hb')⟩
  next := Nat.le_refl _
  size := by rw [put_size]; exact Nat.le_refl _
  frame r _ hf := put_other _ _ _ _ fun e => hf b p hb hl e.symm
  owned b' p' hb' ho _ := by
    by_cases h : b' = b
    · subst h; rw [hb] at hb'; cases hb'; exact ⟨_, _, hb, hl, rfl⟩
    · rw [updB_other _ _ h] at ho; exact ⟨_, _, hb', ho, rfl⟩
  os := rfl
  tape := rfl
  output := rfl
def updP (φ : Phi) (b : Bid) (p : PB) : Phi := fun c => if c = b then some p else φ c
theorem updP_same (φ : Phi) (b : Bid) (p : PB) : updP φ b p b = some p := by simp [updP]
theorem updP_other (φ : Phi) {b c : Bid} (p : PB) (h : c ≠ b) : updP φ b p c = φ c := by simp [updP, h]
theorem updP_le {b : Bid} {p : PB} (h : φ b = none) : φ.le (updP φ b p) := by
  intro c q hc
  have : c ≠ b := by rintro rfl; rw [h] at hc; cases hc
  rw [updP_other _ _ this]; exact hc
theorem R.fresh (hR : R φ H nx w) : φ nx = none := by
  cases h : φ nx with
  | none => rfl
  | some p => exact absurd (hR.below _ _ h) (Nat.lt_irrefl _)
/-- A new block. -/
def _root_.Go.World.push (w : World) (c : Obj) : World := { w with heap := w.heap.push c }
theorem push_new (w : World) (c : Obj) : (w.push c).heap[w.heap.size]? = some c := by simp [World.push]
theorem push_old (w : World) (c : Obj) {r : Nat} (h : r < w.heap.size) : (w.push c).heap[r]? = w.heap[r]? := by
  simp [World.push, Array.getElem?_push, Nat.ne_of_lt h]
theorem push_size (w : World) (c : Obj) : (w.push c).heap.size = w.heap.size + 1 := by simp [World.push]
theorem R.push (hR : R φ H nx w) {nx' : Bid} (hnx : nx'.num = nx.num + 1) {o : AObj} {c : Obj} (cs : Nat) (ho : OR (updP φ nx ⟨w.heap.size, 0, cs⟩) o ⟨w.heap.size, 0, cs⟩ (some c)) :
    R (updP φ nx ⟨w.heap.size, 0, cs⟩) (updB H nx o) nx' (w.push c) where
  obj b p hb := by
    by_cases h : b = nx
    · subst h
      rw [updP_same] at hb; cases hb
      rw [updB_same, push_new]; exact ho
    · rw [updP_other _ _ h] at hb
      rw [updB_other _ _ h]
      by_cases hn : (H b).isNone = true
      · have : H b = .none := by cases hH : H b <;> simp [hH, AObj.isNone] at hn ⊢
        rw [this]; trivial
      · have hn : (H b).isNone = false := by simpa using hn
        rw [push_old _ _ (hR.inside _ _ hb hn)]
        exact (hR.obj _ _ hb).mono (updP_le hR.fresh)
  inj b₁ b₂ p₁ p₂ h₁ h₂ n₁ n₂ e := by
    by_cases e₁ : b₁ = nx <;> by_cases e₂ : b₂ = nx
    · rw [e₁, e₂]
    · subst e₁
      rw [updP_same] at h₁; cases h₁
      rw [updP_other _ _ e₂] at h₂
      rw [updB_other _ _ e₂] at n₂
      have := hR.inside _ _ h₂ n₂
      simp only at e; omega
    · subst e₂
      rw [updP_same] at h₂; cases h₂
      rw [updP_other _ _ e₁] at h₁
      rw [updB_other _ _ e₁] at n₁
      have := hR.inside _ _ h₁ n₁
      simp only at e; omega
    · rw [updP_other _ _ e₁] at h₁
      rw [updP_other _ _ e₂] at h₂
      rw [updB_other _ _ e₁] at n₁
      rw [updB_other _ _ e₂] at n₂
      exact hR.inj _ _ _ _ h₁ h₂ n₁ n₂ e
  below b p hb := by
    rw [hnx]
    by_cases h : b = nx
    · subst h; exact Nat.lt_succ_self _
    · rw [updP_other _ _ h] at hb
      have := hR.below _ _ hb
      omega
  inside b p hb hn := by
    rw [push_size]
    by_cases h : b = nx
    · subst h; rw [updP_same] at hb; cases hb; exact Nat.lt_succ_self _
    · rw [updP_other _ _ h] at hb
      rw [updB_other _ _ h] at hn
      have := hR.inside _ _ hb hn
      omega
  glob g hg := let ⟨p, h, h'⟩ := hR.glob g hg; ⟨p, updP_le hR.fresh _ _ h, h'⟩
theorem Grows.push (hR : R φ H nx w) {nx' : Bid} (hnx : nx'.num = nx.num + 1) (o : AObj) (c : Obj) (cs : Nat) :
    Grows φ H nx w (updP φ nx ⟨w.heap.size, 0, cs⟩) (updB H nx o) nx' (w.push c) where
  le := updP_le hR.fresh
  unmapped b hb hn := by
    have : b ≠ nx := by rintro rfl; exact absurd hn (Nat.lt_irrefl _)
    rw [updP_other _ _ this, updB_other _ _ this]; exact ⟨hb, rfl⟩
  next := by omega
  size := by rw [push_size]; omega
  frame r hr _ := push_old _ _ hr
  owned b p hb ho hlt := by
    by_cases h : b = nx
    · subst h; rw [updP_same] at hb; cases hb; exact absurd hlt (Nat.lt_irrefl _)
    · rw [updP_other _ _ h] at hb; rw [updB_other _ _ h] at ho; exact ⟨b, p, hb, ho, rfl⟩
  os := rfl
  tape := rfl
  output := rfl
/-- A block of which no more is known. -/
theorem R.drop (hR : R φ H nx w) (b : Bid) : R φ (updB H b .none) nx w where
  obj b' p' hb' := by
    by_cases h : b' = b
    · subst h; rw [updB_same]; trivial
    · rw [updB_other _ _ h]; exact hR.obj _ _ hb'
  inj b₁ b₂ p₁ p₂ h₁ h₂ n₁ n₂ e := by
    have key : ∀ x, ((updB H b .none) x).isNone = false → (H x).isNone = false := by
      intro x hx
      by_cases h : x = b
      · subst h; rw [updB_same] at hx; cases hx
      · rwa [updB_other _ _ h] at hx
    exact hR.inj _ _ _ _ h₁ h₂ (key _ n₁) (key _ n₂) e
  below := hR.below
  inside b' p' hb' hn := by
    by_cases h : b' = b
    · subst h; rw [updB_same] at hn; cases hn
    · rw [updB_other _ _ h] at hn; exact hR.inside _ _ hb' hn
  glob := hR.glob
theorem Grows.drop {b : Bid} {p : PB} (hb : φ b = some p) : Grows φ H nx w φ (updB H b .none) nx w where
  le := φ.le_refl
  unmapped b' hb' _ := ⟨hb', updB_other _ _ (by rintro rfl; rw [hb] at hb'; cases hb')⟩
  next := Nat.le_refl _
  size := Nat.le_refl _
  frame _ _ _ := rfl
  owned b' p' hb' ho _ := by
    by_cases h : b' = b
    · subst h; rw [updB_same] at ho; cases ho
    · rw [updB_other _ _ h] at ho; exact ⟨_, _, hb', ho, rfl⟩
  os := rfl
  tape := rfl
  output := rfl
/-- A block under a new name: the old one is dropped. -/
theorem R.move (hR : R φ H nx w) {nx' : Bid} (hnx : nx'.num = nx.num + 1) {b : Bid} {p : PB} (hb : φ b = some p) (hl : (H b).isNone = false) {o : AObj} {c : Obj} {q : PB} (hq : q.blk = p.blk)
    (ho : OR (updP φ nx q) o q (some c)) : R (updP φ nx q) (updB (updB H b .none) nx o) nx' (w.put p.blk c) where
  obj b' p' hb' := by
    by_cases h : b' = nx
    · subst h
      rw [updP_same] at hb'; cases hb'
      rw [updB_same, hq, put_get _ _ _ (hR.inside _ _ hb hl)]; exact ho
    · rw [updP_other _ _ h] at hb'
      rw [updB_other _ _ h]
      by_cases h' : b' = b
      · subst h'; rw [updB_same]; trivial
      · rw [updB_other _ _ h']
        by_cases hn : (H b').isNone = true
        · have : H b' = .none := by cases hH : H b' <;> simp [hH, AObj.isNone] at hn ⊢
          rw [this]; trivial
        · have hn : (H b').isNone = false := by simpa using hn
          rw [put_other _ _ _ _ fun e => h' (hR.inj _ _ _ _ hb' hb hn hl e)]
          exact (hR.obj _ _ hb').mono (updP_le hR.fresh)
  inj b₁ b₂ p₁ p₂ h₁ h₂ n₁ n₂ e := by
    have key : ∀ x y, x ≠ nx → updP φ nx q x = some y → (updB (updB H b .none) nx o x).isNone = false → φ x = some y ∧ x ≠ b ∧ (H x).isNone = false := by
      intro x y hx hy hn
      rw [updP_other _ _ hx] at hy
      rw [updB_other _ _ hx] at hn
      have hxb : x ≠ b := by rintro rfl; rw [updB_same] at hn; cases hn
      rw [updB_other _ _ hxb] at hn
      exact ⟨hy, hxb, hn⟩
    by_cases e₁ : b₁ = nx <;> by_cases e₂ : b₂ = nx
    · rw [e₁, e₂]
    · obtain ⟨h, hne, hn⟩ := key b₂ p₂ e₂ h₂ n₂
      subst e₁; rw [updP_same] at h₁; cases h₁
      exact absurd (hR.inj _ _ _ _ h hb hn hl (e.symm.trans hq)) hne
    · obtain ⟨h, hne, hn⟩ := key b₁ p₁ e₁ h₁ n₁
      subst e₂; rw [updP_same] at h₂; cases h₂
      exact absurd (hR.inj _ _ _ _ h hb hn hl (e.trans hq)) hne
    · obtain ⟨h, _, hn⟩ := key b₁ p₁ e₁ h₁ n₁
      obtain ⟨h', _, hn'⟩ := key b₂ p₂ e₂ h₂ n₂
      exact hR.inj _ _ _ _ h h' hn hn' e
  below b' p' hb' := by
    rw [hnx]
    by_cases h : b' = nx
    · subst h; exact Nat.lt_succ_self _
    · rw [updP_other _ _ h] at hb'
      have := hR.below _ _ hb'
      omega
  inside b' p' hb' hn := by
    rw [put_size]
    by_cases h : b' = nx
    · subst h; rw [updP_same] at hb'; cases hb'; exact hq ▸ hR.inside _ _ hb hl
    · rw [updP_other _ _ h] at hb'
      rw [updB_other _ _ h] at hn
      by_cases h' : b' = b
      · subst h'; rw [updB_same] at hn; cases hn
      · rw [updB_other _ _ h'] at hn; exact hR.inside _ _ hb' hn
  glob g hg := let ⟨p, h, h'⟩ := hR.glob g hg; ⟨p, updP_le hR.fresh _ _ h, h'⟩
theorem Grows.move (hR : R φ H nx w) {nx' : Bid} (hnx : nx'.num = nx.num + 1) {b : Bid} {p : PB} (hb : φ b = some p) (hl : (H b).own = true) (o : AObj) (c : Obj) {q : PB} (hq : q.blk = p.blk) :
    Grows φ H nx w (updP φ nx q) (updB (updB H b .none) nx o) nx' (w.put p.blk c) where
  le := updP_le hR.fresh
  unmapped b' hb' hn := by
    have h1 : b' ≠ nx := by rintro rfl; exact absurd hn (Nat.lt_irrefl _)
    have h2 : b' ≠ b := by rintro rfl; rw [hb] at hb'; cases hb'
    rw [updP_other _ _ h1, updB_other _ _ h1, updB_other _ _ h2]; exact ⟨hb', rfl⟩
  next := by omega
  size := by rw [put_size]; exact Nat.le_refl _
  frame r _ hf := put_other _ _ _ _ fun e => hf b p hb hl e.symm
  owned b' p' hb' ho _ := by
    by_cases h : b' = nx
    · subst h; rw [updP_same] at hb'; cases hb'; exact ⟨_, _, hb, hl, hq.symm⟩
    · rw [updP_other _ _ h] at hb'
      rw [updB_other _ _ h] at ho
      have h' : b' ≠ b := by rintro rfl; rw [updB_same] at ho; cases ho
      rw [updB_other _ _ h'] at ho
      exact ⟨_, _, hb', ho, rfl⟩
  os := rfl
  tape := rfl
  output := rfl
end
end Go.Ev
end
