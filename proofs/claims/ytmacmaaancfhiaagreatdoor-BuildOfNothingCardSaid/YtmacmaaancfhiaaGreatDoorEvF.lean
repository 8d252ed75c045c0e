/- Part of the proof: a verified evaluator of the model (its definitions, and that it is sound). -/
import Derived.Test.YtmacmaaancfhiaaGreatDoorEvD
import Derived.Laws.Strings
section
set_option maxRecDepth 2000
set_option autoImplicit false
set_option linter.unusedSimpArgs false
set_option linter.unusedVariables false
namespace Go.Ev

/-! ### numbers -/
def NumIs (v : AV) (j : IntKind) (z : Int) : Prop := ∀ φ, VR φ v (.int j z)
theorem NumIs.pos (j : IntKind) (n : Nat) : NumIs (.int j n) j (n : Int) := fun _ => .int j n
theorem NumIs.neg (j : IntKind) (n : Nat) : NumIs (.neg j n) j (Int.negSucc n) := fun _ => .neg j n
theorem NumIs.of_eq {v : AV} {j : IntKind} {z z' : Int} (h : NumIs v j z) (e : z = z') : NumIs v j z' := e ▸ h
theorem pow2_eq (j : IntKind) : pow2 j = 2 ^ j.bits := by cases j <;> rfl
theorem imax_lt (j : IntKind) : imax j < pow2 j := by cases j <;> decide
theorem wrap_small {j : IntKind} {n : Nat} (h : n ≤ imax j) : j.wrap (n : Int) = n := by
  cases j <;> simp only [imax] at h <;> simp only [IntKind.wrap, IntKind.bits, IntKind.signed] <;> simp <;> omega
theorem wrap_mod {j : IntKind} {a b : Int} (h : a % (pow2 j : Int) = b % (pow2 j : Int)) : j.wrap a = j.wrap b := by
  rw [pow2_eq, Int.natCast_pow] at h
  simp only [IntKind.wrap]
  have : (2 : Int) ^ j.bits = ((2 : Nat) : Int) ^ j.bits := rfl
  rw [this, h]
theorem bitsK_good {j : IntKind} {n : Nat} {k : AV → A} (hk : bitsK j n k = .good) : ∃ v, k v = .good ∧ NumIs v j (j.wrap (n : Int)) := by
  simp only [bitsK, fN_eq, boolRec_good, bleB, decide_eq_true_eq, decide_eq_false_iff_not] at hk
  have hm : Nat.mod n (pow2 j) = n % pow2 j := rfl
  rw [hm] at hk
  rcases hk with ⟨h, hk⟩ | ⟨h, hk⟩
  · refine ⟨_, hk, (NumIs.pos j _).of_eq ?_⟩
    rw [← wrap_small h]
    exact wrap_mod (by rw [Int.natCast_emod, Int.emod_emod_of_dvd _ (Int.dvd_refl _)])
  · refine ⟨_, hk, (NumIs.neg j _).of_eq ?_⟩
    have hs : Nat.sub (Nat.sub (pow2 j) 1) (n % pow2 j) = pow2 j - 1 - n % pow2 j := rfl
    rw [hs]
    cases j <;> simp only [imax, pow2] at h ⊢ <;> simp only [IntKind.wrap, IntKind.bits, IntKind.signed] <;> simp <;> omega
theorem mkK_good {j : IntKind} {n : Nat} {k : AV → A} (hk : mkK j n k = .good) : ∃ v, k v = .good ∧ NumIs v j (j.wrap (n : Int)) := by
  simp only [mkK, fN_eq, boolRec_good, bleB, decide_eq_true_eq, decide_eq_false_iff_not] at hk
  rcases hk with ⟨h, hk⟩ | ⟨h, hk⟩
  · exact ⟨_, hk, (NumIs.pos j n).of_eq (wrap_small h).symm⟩
  · exact bitsK_good hk
theorem mkNegK_good {j : IntKind} {n : Nat} {k : AV → A} (hk : mkNegK j n k = .good) : ∃ v, k v = .good ∧ NumIs v j (j.wrap (-(n : Int))) := by
  obtain ⟨v, hk, hv⟩ := bitsK_good hk
  refine ⟨v, hk, hv.of_eq (wrap_mod ?_)⟩
  have hs : Nat.sub (pow2 j) (Nat.mod n (pow2 j)) = pow2 j - n % pow2 j := rfl
  have hp : 0 < pow2 j := Nat.lt_of_le_of_lt (Nat.zero_le _) (imax_lt j)
  have hlt := Nat.mod_lt n hp
  rw [hs]
  generalize pow2 j = m at *
  have h1 : ((m - n % m : Nat) : Int) = (m : Int) - (n : Int) % (m : Int) := by rw [Int.natCast_sub (by omega), Int.natCast_emod]
  have h2 := Int.sub_emod 0 (n : Int) m
  rw [Int.zero_emod, Int.zero_sub, Int.zero_sub] at h2
  rw [h1, Int.sub_emod, Int.emod_self, Int.emod_emod_of_dvd _ (Int.dvd_refl _), Int.zero_sub, h2]
theorem zK_good {j : IntKind} {z : Int} {k : AV → A} (hk : zK j z k = .good) : ∃ v, k v = .good ∧ NumIs v j z := by
  cases z with
  | ofNat n => simp only [zK, fN_eq] at hk; exact ⟨_, hk, .pos j n⟩
  | negSucc n => simp only [zK, fN_eq] at hk; exact ⟨_, hk, .neg j n⟩
/-- What two numbers come to. -/
def BinIs (o : BinOp) (j : IntKind) (a : Int) (j' : IntKind) (b : Int) (v : AV) : Prop :=
  ∀ (P : Program) (t : TypeId) (φ : Phi) (w : World), ∃ v', (binOp o t (.int j a) (.int j' b)).run P w = .ok v' w ∧ VR φ v v'
theorem BinIs.of {o : BinOp} {j j' : IntKind} {a b : Int} {v : AV} {j₁ : IntKind} {z : Int} (h : NumIs v j₁ z) (e : ∀ t, binOp o t (.int j a) (.int j' b) = pure (.int j₁ z)) : BinIs o j a j' b v :=
  fun P t φ w => ⟨_, by rw [e]; rfl, h φ⟩
theorem zbits_eq (j : IntKind) (a : Int) : (BitVec.ofInt j.bits a).toNat = zbits j a := by rw [BitVec.toNat_ofInt]; rfl
theorem zbits_small {j : IntKind} {n : Nat} (h : n ≤ imax j) : zbits j (n : Int) = n := by
  have := imax_lt j
  have e : zbits j (n : Int) = n % pow2 j := by rw [pow2_eq]; simp only [zbits]; rw [← Int.natCast_emod]; rfl
  rw [e, Nat.mod_eq_of_lt (by omega)]
theorem imax_form (j : IntKind) : ∃ m, imax j + 1 = 2 ^ m := by
  cases j
  · exact ⟨7, rfl⟩
  · exact ⟨15, rfl⟩
  · exact ⟨31, rfl⟩
  · exact ⟨63, rfl⟩
  · exact ⟨8, rfl⟩
  · exact ⟨16, rfl⟩
  · exact ⟨32, rfl⟩
  · exact ⟨64, rfl⟩
theorem nBit_good {op : BinOp} {f : Nat → Nat → Nat} {j : IntKind} {a b : Nat} {k : AV → A} (hf : ∀ m x y, x < 2 ^ m → y < 2 ^ m → f x y < 2 ^ m)
    (hb : ∀ (t : TypeId) (x y : Int), binOp op t (.int j x) (.int j y) = pure (.int j (j.wrap (f (zbits j x) (zbits j y) : Nat)))) (hk : nBit f j a b k = .good) : ∃ v, k v = .good ∧ BinIs op j a j b v := by
  simp only [nBit, boolRec_good, andB_eq, Bool.and_eq_true, bleB, decide_eq_true_eq, fN_eq] at hk
  rcases hk with ⟨⟨h1, h2⟩, hk⟩ | ⟨_, hk⟩
  · refine ⟨_, hk, .of (.pos j _) fun t => ?_⟩
    rw [hb, zbits_small h1, zbits_small h2, wrap_small]
    obtain ⟨m, hm⟩ := imax_form j
    have := hf m a b (by omega) (by omega)
    omega
  · obtain ⟨v, hk, hv⟩ := zK_good hk
    exact ⟨v, hk, .of hv fun t => hb t _ _⟩
theorem zBit_good {op : BinOp} {f : Nat → Nat → Nat} {j : IntKind} {a b : Int} {k : AV → A}
    (hb : ∀ (t : TypeId) (x y : Int), binOp op t (.int j x) (.int j y) = pure (.int j (j.wrap (f (zbits j x) (zbits j y) : Nat)))) (hk : zBit f j a b k = .good) : ∃ v, k v = .good ∧ BinIs op j a j b v := by
  obtain ⟨v, hk, hv⟩ := zK_good hk
  exact ⟨v, hk, .of hv fun t => hb t _ _⟩
theorem bin_and (j : IntKind) (t : TypeId) (x y : Int) : binOp .and t (.int j x) (.int j y) = pure (.int j (j.wrap (Nat.land (zbits j x) (zbits j y) : Nat))) := by
  simp only [binOp, ne_eq, not_true_eq_false, if_false, Op.intBits, BitVec.toNat_and, zbits_eq]; rfl
theorem bin_or (j : IntKind) (t : TypeId) (x y : Int) : binOp .or t (.int j x) (.int j y) = pure (.int j (j.wrap (Nat.lor (zbits j x) (zbits j y) : Nat))) := by
  simp only [binOp, ne_eq, not_true_eq_false, if_false, Op.intBits, BitVec.toNat_or, zbits_eq]; rfl
theorem bin_xor (j : IntKind) (t : TypeId) (x y : Int) : binOp .xor t (.int j x) (.int j y) = pure (.int j (j.wrap (Nat.xor (zbits j x) (zbits j y) : Nat))) := by
  simp only [binOp, ne_eq, not_true_eq_false, if_false, Op.intBits, BitVec.toNat_xor, zbits_eq]; rfl
theorem bin_andNot (j : IntKind) (t : TypeId) (x y : Int) : binOp .andNot t (.int j x) (.int j y) = pure (.int j (j.wrap (Nat.land (zbits j x) (pow2 j - 1 - zbits j y) : Nat))) := by
  simp only [binOp, ne_eq, not_true_eq_false, if_false, Op.intBits, BitVec.toNat_and, BitVec.toNat_not, zbits_eq, pow2_eq]; rfl
theorem shiftLeft_wrap {j : IntKind} (a b : Nat) : j.wrap ((Nat.shiftLeft a (min64 b) : Nat) : Int) = j.wrap ((a : Int) * 2 ^ (min b j.bits)) := by
  apply wrap_mod
  have h64 : min64 b = min b 64 := by
    simp only [min64, bleB]
    by_cases h : b ≤ 64
    · simp [h]
    · simp [h]; omega
  have hb : j.bits ≤ 64 := by cases j <;> decide
  have e : Nat.shiftLeft a (min64 b) = a * 2 ^ (min64 b) := Nat.shiftLeft_eq _ _
  rw [e, h64]
  by_cases h : b ≤ j.bits
  · rw [Nat.min_eq_left (by omega), Nat.min_eq_left h]
    rw [Int.natCast_mul, Int.natCast_pow]; rfl
  · obtain ⟨c, hc⟩ : ∃ c, min b 64 = j.bits + c := ⟨min b 64 - j.bits, by omega⟩
    rw [hc, Nat.min_eq_right (by omega), pow2_eq]
    have e1 : ((a * 2 ^ (j.bits + c) : Nat) : Int) = ((2 ^ j.bits : Nat) : Int) * ((a * 2 ^ c : Nat) : Int) := by
      rw [← Int.natCast_mul]; congr 1; rw [Nat.pow_add, Nat.mul_left_comm]
    have e2 : (a : Int) * 2 ^ j.bits = ((2 ^ j.bits : Nat) : Int) * (a : Int) := by
      rw [Int.natCast_pow, Int.mul_comm]; rfl
    rw [e1, e2, Int.mul_emod_right, Int.mul_emod_right]
theorem shiftRight_eq {j : IntKind} {a b : Nat} (h : a ≤ imax j) : ((Nat.shiftRight a (min64 b) : Nat) : Int) = (a : Int).fdiv (2 ^ (min b j.bits)) := by
  have h64 : min64 b = min b 64 := by
    simp only [min64, bleB]
    by_cases h : b ≤ 64
    · simp [h]
    · simp [h]; omega
  have hb : j.bits ≤ 64 := by cases j <;> decide
  have hlt : a < 2 ^ j.bits := by rw [← pow2_eq]; have := imax_lt j; omega
  have e : Nat.shiftRight a (min64 b) = a / 2 ^ (min64 b) := Nat.shiftRight_eq_div_pow _ _
  have e2 : ∀ n : Nat, (a : Int).fdiv (2 ^ n) = ((a / 2 ^ n : Nat) : Int) := by
    intro n
    rw [Int.fdiv_eq_ediv_of_nonneg _ (by exact Int.le_of_lt (Int.pow_pos (by decide)))]
    rw [Int.natCast_ediv, Int.natCast_pow]; rfl
  rw [e, h64, e2]
  by_cases h : b ≤ j.bits
  · rw [Nat.min_eq_left (by omega), Nat.min_eq_left h]
  · rw [Nat.min_eq_right (by omega : j.bits ≤ b), Nat.div_eq_of_lt hlt, Nat.div_eq_of_lt]
    exact Nat.lt_of_lt_of_le hlt (Nat.pow_le_pow_right (by decide) (by omega))
theorem nOp_good {o : BinOp} {j : IntKind} {a b : Nat} {k : AV → A} (hk : nOp o j a b k = .good) : ∃ v, k v = .good ∧ BinIs o j a j b v := by
  have cmp : ∀ (o' : BinOp) (r : Bool), (∀ t, binOp o' t (.int j (a : Int)) (.int j (b : Int)) = pure (.bool r)) → k (.bool r) = .good → ∃ v, k v = .good ∧ BinIs o' j a j b v :=
    fun o' r h hk => ⟨_, hk, fun P t φ w => ⟨_, by rw [h]; rfl, .bool r⟩⟩
  cases o
  case add =>
    obtain ⟨v, hk, hv⟩ := mkK_good hk
    exact ⟨v, hk, .of hv fun t => by simp only [binOp, ne_eq, not_true_eq_false, if_false, Op.intArith]; rfl⟩
  case sub =>
    simp only [nOp, nSub, boolRec_good, bleB, decide_eq_true_eq, decide_eq_false_iff_not] at hk
    rcases hk with ⟨h, hk⟩ | ⟨h, hk⟩
    · obtain ⟨v, hk, hv⟩ := mkK_good hk
      refine ⟨v, hk, .of hv fun t => ?_⟩
      have : ((Nat.sub a b : Nat) : Int) = (a : Int) - b := Int.natCast_sub h
      simp only [binOp, ne_eq, not_true_eq_false, if_false, Op.intArith, this]
    · obtain ⟨v, hk, hv⟩ := mkNegK_good hk
      refine ⟨v, hk, .of hv fun t => ?_⟩
      have : -((Nat.sub b a : Nat) : Int) = (a : Int) - b := by
        have : ((Nat.sub b a : Nat) : Int) = (b : Int) - a := Int.natCast_sub (by omega)
        omega
      simp only [binOp, ne_eq, not_true_eq_false, if_false, Op.intArith, this]
  case mul =>
    obtain ⟨v, hk, hv⟩ := mkK_good hk
    refine ⟨v, hk, .of hv fun t => ?_⟩
    have : ((Nat.mul a b : Nat) : Int) = (a : Int) * b := Int.natCast_mul a b
    simp only [binOp, ne_eq, not_true_eq_false, if_false, Op.intArith, this]
  case quo =>
    simp only [nOp, nQuo, boolRec_good, beqB, decide_eq_true_eq, decide_eq_false_iff_not, no_good', and_false, false_or] at hk
    obtain ⟨h, hk⟩ := hk
    obtain ⟨v, hk, hv⟩ := mkK_good hk
    refine ⟨v, hk, .of hv fun t => ?_⟩
    have h0 : ¬ (b : Int) = 0 := by omega
    have : ((Nat.div a b : Nat) : Int) = (a : Int).tdiv b := rfl
    simp only [binOp, ne_eq, not_true_eq_false, if_false, Op.intDiv, h0, this]
  case rem =>
    simp only [nOp, nRem, boolRec_good, beqB, decide_eq_true_eq, decide_eq_false_iff_not, no_good', and_false, false_or, fN_eq] at hk
    obtain ⟨h, hk⟩ := hk
    refine ⟨_, hk, .of (.pos j _) fun t => ?_⟩
    have h0 : ¬ (b : Int) = 0 := by omega
    have : ((Nat.mod a b : Nat) : Int) = (a : Int).tmod b := rfl
    simp only [binOp, ne_eq, not_true_eq_false, if_false, Op.intDiv, h0, this]
  case and => exact nBit_good (fun m x y h1 h2 => Nat.and_lt_two_pow x h2) (bin_and j) hk
  case or => exact nBit_good (fun m x y h1 h2 => Nat.or_lt_two_pow h1 h2) (bin_or j) hk
  case xor => exact nBit_good (fun m x y h1 h2 => Nat.xor_lt_two_pow h1 h2) (bin_xor j) hk
  case shl => exact absurd hk no_good
  case shr => exact absurd hk no_good
  case andNot =>
    simp only [nOp, nAndNot, bbK_good, andB_eq, Bool.and_eq_true, bleB, decide_eq_true_eq, fN_eq] at hk
    obtain ⟨⟨h1, h2⟩, hk⟩ := hk
    refine ⟨_, hk, .of (.pos j _) fun t => ?_⟩
    rw [bin_andNot, zbits_small h1, zbits_small h2, wrap_small]
    · rfl
    · exact Nat.le_trans Nat.and_le_left h1
  case eql => exact cmp _ _ (fun t => by simp only [binOp, ne_eq, not_true_eq_false, if_false, Op.intCmp, beqB]; congr 2; rw [Bool.eq_iff_iff]; simp; omega) hk
  case neq => exact cmp _ _ (fun t => by simp only [binOp, ne_eq, not_true_eq_false, if_false, Op.intCmp, beqB, notB_eq]; congr 2; rw [Bool.eq_iff_iff]; simp; omega) hk
  case lss => exact cmp _ _ (fun t => by simp only [binOp, ne_eq, not_true_eq_false, if_false, Op.intCmp, ltB]; congr 2; simp) hk
  case leq => exact cmp _ _ (fun t => by simp only [binOp, ne_eq, not_true_eq_false, if_false, Op.intCmp, bleB]; congr 2; simp) hk
  case gtr => exact cmp _ _ (fun t => by simp only [binOp, ne_eq, not_true_eq_false, if_false, Op.intCmp, ltB]; congr 2; simp) hk
  case geq => exact cmp _ _ (fun t => by simp only [binOp, ne_eq, not_true_eq_false, if_false, Op.intCmp, bleB]; congr 2; simp) hk
theorem zOp_good {o : BinOp} {j : IntKind} {a b : Int} {k : AV → A} (hk : zOp o j a b k = .good) : ∃ v, k v = .good ∧ BinIs o j a j b v := by
  have cmp : ∀ (o' : BinOp) (r : Bool), (∀ t, binOp o' t (.int j a) (.int j b) = pure (.bool r)) → k (.bool r) = .good → ∃ v, k v = .good ∧ BinIs o' j a j b v :=
    fun o' r h hk => ⟨_, hk, fun P t φ w => ⟨_, by rw [h]; rfl, .bool r⟩⟩
  cases o
  case add => obtain ⟨v, hk, hv⟩ := zK_good hk; exact ⟨v, hk, .of hv fun t => by simp only [binOp, ne_eq, not_true_eq_false, if_false, Op.intArith]⟩
  case sub => obtain ⟨v, hk, hv⟩ := zK_good hk; exact ⟨v, hk, .of hv fun t => by simp only [binOp, ne_eq, not_true_eq_false, if_false, Op.intArith]⟩
  case mul => obtain ⟨v, hk, hv⟩ := zK_good hk; exact ⟨v, hk, .of hv fun t => by simp only [binOp, ne_eq, not_true_eq_false, if_false, Op.intArith]⟩
  case quo =>
    simp only [zOp, boolRec_good, decide_eq_false_iff_not, no_good', and_false, false_or] at hk
    obtain ⟨h, hk⟩ := hk
    obtain ⟨v, hk, hv⟩ := zK_good hk
    exact ⟨v, hk, .of hv fun t => by simp only [binOp, ne_eq, not_true_eq_false, if_false, Op.intDiv, h]⟩
  case rem =>
    simp only [zOp, boolRec_good, decide_eq_false_iff_not, no_good', and_false, false_or] at hk
    obtain ⟨h, hk⟩ := hk
    obtain ⟨v, hk, hv⟩ := zK_good hk
    exact ⟨v, hk, .of hv fun t => by simp only [binOp, ne_eq, not_true_eq_false, if_false, Op.intDiv, h]⟩
  case and => exact zBit_good (bin_and j) hk
  case or => exact zBit_good (bin_or j) hk
  case xor => exact zBit_good (bin_xor j) hk
  case shl => exact absurd hk no_good
  case shr => exact absurd hk no_good
  case andNot => exact absurd hk no_good
  case eql => exact cmp _ _ (fun t => by simp only [binOp, ne_eq, not_true_eq_false, if_false, Op.intCmp]; congr 2) hk
  case neq => exact cmp _ _ (fun t => by simp only [binOp, ne_eq, not_true_eq_false, if_false, Op.intCmp, notB_eq]; congr 2) hk
  case lss => exact cmp _ _ (fun t => by simp only [binOp, ne_eq, not_true_eq_false, if_false, Op.intCmp]) hk
  case leq => exact cmp _ _ (fun t => by simp only [binOp, ne_eq, not_true_eq_false, if_false, Op.intCmp]) hk
  case gtr => exact cmp _ _ (fun t => by simp only [binOp, ne_eq, not_true_eq_false, if_false, Op.intCmp]) hk
  case geq => exact cmp _ _ (fun t => by simp only [binOp, ne_eq, not_true_eq_false, if_false, Op.intCmp]) hk
theorem isSh_true {o : BinOp} (h : isSh o = true) : o = .shl ∨ o = .shr := by cases o <;> first | exact .inl rfl | exact .inr rfl | cases h
theorem intBinK_good {o : BinOp} {j j' : IntKind} {a b : Nat} {k : AV → A} (hk : intBinK o j a j' b k = .good) : ∃ v, k v = .good ∧ BinIs o j a j' b v := by
  simp only [intBinK, boolRec_good, bbK_good, kindEq_eq, decide_eq_true_eq] at hk
  rcases hk with ⟨hs, hk⟩ | ⟨_, rfl, hk⟩
  · rcases isSh_true hs with rfl | rfl
    · obtain ⟨v, hk, hv⟩ := mkK_good hk
      refine ⟨v, hk, .of hv fun t => ?_⟩
      have hneg : ¬ ((b : Int) < 0) := by omega
      simp only [binOp, Op.shift, hneg, if_false, Int.toNat_natCast, shiftLeft_wrap]
    · simp only [nSh, nShr, bbK_good, bleB, decide_eq_true_eq, fN_eq] at hk
      obtain ⟨h, hk⟩ := hk
      refine ⟨_, hk, .of (.pos j _) fun t => ?_⟩
      have hneg : ¬ ((b : Int) < 0) := by omega
      simp only [binOp, Op.shift, hneg, if_false, Int.toNat_natCast, shiftRight_eq h]
  · exact nOp_good hk
theorem zBinK_good {o : BinOp} {j j' : IntKind} {a b : Int} {k : AV → A} (hk : zBinK o j a j' b k = .good) : ∃ v, k v = .good ∧ BinIs o j a j' b v := by
  simp only [zBinK, bbK_good, andB_eq, Bool.and_eq_true, kindEq_eq, decide_eq_true_eq] at hk
  obtain ⟨⟨_, rfl⟩, hk⟩ := hk
  exact zOp_good hk
end Go.Ev
end

section
set_option maxRecDepth 2000
set_option autoImplicit false
set_option linter.unusedSimpArgs false
set_option linter.unusedVariables false
namespace Go.Ev

theorem brec (b x y : Bool) : (Bool.rec (motive := fun _ => Bool) x y b) = if b = true then y else x := by cases b <;> rfl
/-! ### texts -/
theorem byteOf_lt {s : ByteArray} {i : Nat} (h : i < s.data.size) : byteOf s i = s.data[i].toNat := by
  simp only [byteOf, List.getD_eq_getElem?_getD, List.getElem?_map, Array.getElem?_toList, Array.getElem?_eq_getElem h, Option.map_some, Option.getD_some]
theorem PackIs.inj {s m : ByteArray} {l d : Nat} (h : PackIs s l d) (h' : PackIs m l d) : s = m := by
  have e : s.data = m.data := by
    have hs : s.data.size = l := h.1
    have hm : m.data.size = l := h'.1
    apply Array.ext (by omega)
    intro i h1 h2
    have := h.byte i
    rw [h'.byte i, byteOf_lt h1, byteOf_lt h2] at this
    exact (UInt8.toNat_inj.1 this).symm
  cases s; cases m; simp only at e; rw [e]
theorem strEq_eq {s m : ByteArray} {la a lb b : Nat} (h : PackIs s la a) (h' : PackIs m lb b) : strEq la a lb b = (s.toList == m.toList) := by
  have e : (s.toList == m.toList) = decide (s = m) := by
    rw [ByteArray.toList_eq, ByteArray.toList_eq]
    by_cases hsm : s = m
    · subst hsm; simp
    · have : ¬ s.data.toList = m.data.toList := fun h => hsm (by cases s; cases m; congr; exact Array.toList_inj.1 h)
      rw [decide_eq_false hsm]; simpa using this
  rw [e]
  simp only [strEq, beqB]
  by_cases h1 : la = lb
  · subst h1
    by_cases h2 : a = b
    · subst h2
      have := h.inj h'
      simp [this]
    · have : ¬ s = m := by rintro rfl; exact h2 (h.2.symm.trans h'.2)
      simp [h2, this]
  · have : ¬ s = m := by rintro rfl; exact h1 (h.1.symm.trans h'.1)
    simp [h1, this]
theorem less_eq (u v : UInt8) (B : Bool) : (if u.toNat < v.toNat then true else if u.toNat = v.toNat then B else false) = (decide (u < v) || (u == v && B)) := by
  by_cases h1 : u.toNat < v.toNat
  · have : u < v := UInt8.lt_iff_toNat_lt.2 h1
    simp [h1, this]
  · have h1' : ¬ u < v := fun h => h1 (UInt8.lt_iff_toNat_lt.1 h)
    by_cases h2 : u.toNat = v.toNat
    · have : u = v := UInt8.toNat_inj.1 h2
      subst this; simp [h1']
    · have : ¬ u = v := fun h => h2 (by rw [h])
      simp [h1, h1', h2, this]
theorem bless_eq {s m : ByteArray} {la a lb b : Nat} (h : PackIs s la a) (h' : PackIs m lb b) : ∀ (n i : Nat), lb - i < n → bless la a lb b n i = Op.bytesLess (s.data.toList.drop i) (m.data.toList.drop i)
  | 0, i, hn => absurd hn (Nat.not_lt_zero _)
  | n + 1, i, hn => by
    have e : bless la a lb b (n + 1) i = (Bool.rec false (Bool.rec true (Bool.rec (Bool.rec false (bless la a lb b n (i + 1)) (Nat.beq (byteAt a i) (byteAt b i))) true (nltB (byteAt a i) (byteAt b i))) (nltB i la)) (nltB i lb) : Bool) := rfl
    have hs : s.data.toList.length = la := by rw [Array.length_toList]; exact h.1
    have hm : m.data.toList.length = lb := by rw [Array.length_toList]; exact h'.1
    rw [e]
    simp only [ltB, beqB, brec]
    by_cases h1 : i < lb
    · have em : m.data.toList.drop i = m.data.toList[i] :: m.data.toList.drop (i + 1) := List.drop_eq_getElem_cons (by omega)
      rw [em]
      by_cases h2 : i < la
      · have es : s.data.toList.drop i = s.data.toList[i] :: s.data.toList.drop (i + 1) := List.drop_eq_getElem_cons (by omega)
        rw [es]
        have hb1 : byteAt a i = s.data.toList[i].toNat := by rw [h.byte, byteOf_lt (by simpa using (by omega : i < s.data.toList.length))]; simp
        have hb2 : byteAt b i = m.data.toList[i].toNat := by rw [h'.byte, byteOf_lt (by simpa using (by omega : i < m.data.toList.length))]; simp
        rw [hb1, hb2, bless_eq h h' n (i + 1) (by omega)]
        simp only [Op.bytesLess, h1, h2, decide_true, if_true, decide_eq_true_eq]
        rw [← less_eq]
      · have es : s.data.toList.drop i = [] := List.drop_eq_nil_of_le (by omega)
        simp [h1, h2, es, Op.bytesLess]
    · have em : m.data.toList.drop i = [] := List.drop_eq_nil_of_le (by omega)
      rw [em]
      simp [h1]
      cases s.data.toList.drop i <;> rfl
theorem strLt_eq {s m : ByteArray} {la a lb b : Nat} (h : PackIs s la a) (h' : PackIs m lb b) : strLt la a lb b = Op.bytesLess s.toList m.toList := by
  have := bless_eq h h' (lb + 1) 0 (by omega)
  rw [List.drop_zero, List.drop_zero] at this
  rw [ByteArray.toList_eq, ByteArray.toList_eq]
  exact this
theorem append_pack {s m : ByteArray} {la a lb b : Nat} (h : PackIs s la a) (h' : PackIs m lb b) : PackIs (s ++ m) (la + lb) (a + Nat.shiftLeft b (Nat.mul 8 la)) := by
  have e : Nat.shiftLeft b (Nat.mul 8 la) = b * 256 ^ la := by
    show b <<< (8 * la) = _
    rw [Nat.shiftLeft_eq, Nat.pow_mul]
  rw [e]
  have ha := h.lt
  have hb := h'.lt
  have hs : (s ++ m).size = la + lb := by rw [ByteArray.size_append, h.1, h'.1]
  refine .of hs ?_ fun i hi => ?_
  · rw [Nat.pow_add]
    have : (b + 1) * 256 ^ la ≤ 256 ^ lb * 256 ^ la := Nat.mul_le_mul_right _ hb
    rw [Nat.add_mul, Nat.one_mul, Nat.mul_comm (256 ^ lb)] at this
    omega
  · have hd : (s ++ m).data = s.data ++ m.data := ByteArray.data_append
    have hbo : byteOf (s ++ m) i = if i < la then byteOf s i else byteOf m (i - la) := by
      simp only [byteOf, hd, Array.toList_append, List.map_append, List.getD_eq_getElem?_getD]
      rw [List.getElem?_append]
      have hl : (s.data.toList.map (·.toNat)).length = la := by rw [List.length_map, Array.length_toList]; exact h.1
      rw [hl]
      split <;> rfl
    rw [hbo, byteAt_eq]
    by_cases hil : i < la
    · rw [byte_low _ _ _ _ hil, if_pos hil, ← h.byte, byteAt_eq]
    · rw [byte_high _ _ _ _ ha (by omega), if_neg hil, ← h'.byte, byteAt_eq]
theorem strBinK_good {o : BinOp} {la a lb b : Nat} {k : AV → A} (hk : strBinK o la a lb b k = .good) :
    ∃ v, k v = .good ∧ ∀ (P : Program) (t : TypeId) (φ : Phi) (w : World) (s m : ByteArray), PackIs s la a → PackIs m lb b → ∃ v', (binOp o t (.string s) (.string m)).run P w = .ok v' w ∧ VR φ v v' := by
  have cmp : ∀ (o' : BinOp) (r : Bool), (∀ (t : TypeId) (s m : ByteArray), PackIs s la a → PackIs m lb b → binOp o' t (.string s) (.string m) = pure (.bool r)) → k (.bool r) = .good →
      ∃ v, k v = .good ∧ ∀ (P : Program) (t : TypeId) (φ : Phi) (w : World) (s m : ByteArray), PackIs s la a → PackIs m lb b → ∃ v', (binOp o' t (.string s) (.string m)).run P w = .ok v' w ∧ VR φ v v' :=
    fun o' r h hk => ⟨_, hk, fun P t φ w s m h1 h2 => ⟨_, by rw [h t s m h1 h2]; rfl, .bool r⟩⟩
  cases o
  case add =>
    simp only [strBinK, bbK_good, bleB, decide_eq_true_eq, fN_eq] at hk
    obtain ⟨hl, hk⟩ := hk
    have hl : la + lb ≤ 9223372036854775807 := hl
    refine ⟨_, hk, fun P t φ w s m h1 h2 => ⟨.string (s ++ m), ?_, .str (append_pack h1 h2)⟩⟩
    have e1 := h1.1
    have e2 := h2.1
    have hmax : IntKind.i64.max = 9223372036854775807 := rfl
    have : ¬ (((s.size + m.size : Nat) : Int) > IntKind.i64.max) := by rw [hmax]; omega
    simp only [binOp, Op.stringOp, this, if_false, Sem.run_pure]
  case eql => exact cmp _ (strEq la a lb b) (fun t s m h1 h2 => by simp only [binOp, Op.stringOp, strEq_eq h1 h2]) (by simpa only [strBinK, bK_eq, orB_eq, notB_eq] using hk)
  case neq => exact cmp _ (!strEq la a lb b) (fun t s m h1 h2 => by simp only [binOp, Op.stringOp, strEq_eq h1 h2, notB_eq]) (by simpa only [strBinK, bK_eq, orB_eq, notB_eq] using hk)
  case lss => exact cmp _ (strLt la a lb b) (fun t s m h1 h2 => by simp only [binOp, Op.stringOp, strLt_eq h1 h2]) (by simpa only [strBinK, bK_eq, orB_eq, notB_eq] using hk)
  case leq => exact cmp _ (strLt la a lb b || strEq la a lb b) (fun t s m h1 h2 => by simp only [binOp, Op.stringOp, strLt_eq h1 h2, strEq_eq h1 h2, orB_eq]) (by simpa only [strBinK, bK_eq, orB_eq, notB_eq] using hk)
  case gtr => exact cmp _ (!(strLt la a lb b || strEq la a lb b)) (fun t s m h1 h2 => by simp only [binOp, Op.stringOp, strLt_eq h1 h2, strEq_eq h1 h2, orB_eq, notB_eq]) (by simpa only [strBinK, bK_eq, orB_eq, notB_eq] using hk)
  case geq => exact cmp _ (!strLt la a lb b) (fun t s m h1 h2 => by simp only [binOp, Op.stringOp, strLt_eq h1 h2, notB_eq]) (by simpa only [strBinK, bK_eq, orB_eq, notB_eq] using hk)
  all_goals exact absurd hk no_good
end Go.Ev
end
