/- Part of the proof: a verified evaluator of the model (its definitions, and that it is sound). -/
import Derived.Test.YtmacmaaancfhiaaGreatDoorEvB
import Derived.Laws.Cells
section
set_option maxRecDepth 2000
set_option autoImplicit false
namespace Go.Ev

/-! ### cells, read and written, on the machine's side -/
/-- A row with vs from i on. -/
def ovr (c : Array Value) (i : Nat) : List Value → Array Value
  | [] => c
  | v :: vs => ovr (c.setIfInBounds i v) (i + 1) vs
theorem ovr_size : ∀ (vs : List Value) (c : Array Value) (i : Nat), (ovr c i vs).size = c.size
  | [], _, _ => rfl
  | v :: vs, c, i => by rw [ovr, ovr_size]; simp
theorem ovr_get : ∀ (vs : List Value) (c : Array Value) (i j : Nat), i + vs.length ≤ c.size → (ovr c i vs)[j]? = if i ≤ j ∧ j < i + vs.length then vs[j - i]? else c[j]?
  | [], c, i, j, _ => by simp only [ovr, List.length_nil]; rw [if_neg (by omega)]
  | v :: vs, c, i, j, h => by
    simp only [List.length_cons] at h ⊢
    rw [ovr, ovr_get vs _ (i + 1) j (by simp; omega)]
    by_cases h1 : i + 1 ≤ j ∧ j < i + 1 + vs.length
    · rw [if_pos h1, if_pos (by omega)]
      have : j - i = (j - (i + 1)) + 1 := by omega
      rw [this, List.getElem?_cons_succ]
    · rw [if_neg h1]
      by_cases h2 : j = i
      · subst h2
        rw [if_pos (by omega), Array.getElem?_setIfInBounds]
        have : j < c.size := by omega
        simp [this]
      · rw [if_neg (by omega), Array.getElem?_setIfInBounds, if_neg (Ne.symm h2)]
theorem put_put (w : World) (r : Nat) (c c' : Obj) : (w.put r c).put r c' = w.put r c' := by
  simp only [World.put]
  congr 1
  apply Array.ext_getElem?
  intro i
  simp only [Array.getElem?_setIfInBounds, Array.size_setIfInBounds]
  by_cases hi : r = i
  · subst hi; simp
  · simp [hi]
theorem put_self (w : World) (r : Nat) (c : Obj) (h : w.heap[r]? = some c) : w.put r c = w := by
  have : w.heap.setIfInBounds r c = w.heap := by
    apply Array.ext_getElem?
    intro i
    rw [Array.getElem?_setIfInBounds]
    by_cases hi : r = i
    · subst hi
      rw [if_pos rfl, h]
      split
      · rfl
      · rename_i hn; rw [Array.getElem?_eq_none (by omega)] at h; cases h
    · rw [if_neg hi]
  simp only [World.put, this]
theorem cell_at {w : World} {r : Nat} {c : Array Value} {e : TypeId} {fr : Nat × Nat} (h : w.heap[r]? = some (.cells c e fr)) (i : Nat) : w.cell? ⟨r, i, none⟩ = c[i]? := by
  simp [World.cell?, h]
theorem frozen_at {w : World} {r : Nat} {c : Array Value} {e : TypeId} {fr : Nat × Nat} (h : w.heap[r]? = some (.cells c e fr)) (i : Nat) : w.frozen? ⟨r, i, none⟩ = (decide (fr.1 ≤ i) && decide (i < fr.2)) := by
  simp [World.frozen?, h]
theorem add_addr (r o i : Nat) : Addr.add ⟨r, o, none⟩ i = ⟨r, o + i, none⟩ := by
  simp only [Addr.add]; split
  · simp_all
  · rfl
theorem run_store_put (P : Program) {w : World} {r i : Nat} {c : Array Value} {e : TypeId} {fr : Nat × Nat} {v : Value} (m : Mode) (h : w.heap[r]? = some (.cells c e fr)) (hi : i < c.size)
    (hf : fr.1 ≤ i → ¬ i < fr.2) (h1 : v.oneCell' = true) : (store ⟨r, i, none⟩ v m).run P w = .ok () (w.put r (.cells (c.setIfInBounds i v) e fr)) := by
  rw [run_store P w _ v m h1, cell_at h, Array.getElem?_eq_getElem hi]
  have : w.frozen? ⟨r, i, none⟩ = false := by
    rw [frozen_at h]
    by_cases h' : fr.1 ≤ i
    · simp [hf h']
    · simp [h']
  simp only [this, Bool.false_eq_true, if_false]
  rw [setCell_put w ⟨r, i, none⟩ v rfl h]
theorem run_storeCells_put (P : Program) {r : Nat} {e : TypeId} {fr : Nat × Nat} : ∀ (vs : List Value) (o i : Nat) (c : Array Value) (w : World), w.heap[r]? = some (.cells c e fr) → o + i + vs.length ≤ c.size →
    (∀ j, j < vs.length → fr.1 ≤ o + i + j → ¬ o + i + j < fr.2) → (∀ v ∈ vs, v.oneCell' = true) → (storeCells ⟨r, o, none⟩ vs i).run P w = .ok () (w.put r (.cells (ovr c (o + i) vs) e fr))
  | [], o, i, c, w, h, _, _, _ => by simp only [storeCells, ovr, Sem.run_pure, put_self w r _ h]
  | v :: vs, o, i, c, w, h, hs, hf, h1 => by
    simp only [List.length_cons] at hs hf
    have hlt : r < w.heap.size := by
      rcases Nat.lt_or_ge r w.heap.size with h' | h'
      · exact h'
      · rw [Array.getElem?_eq_none h'] at h; cases h
    have := run_store_put P (w := w) (i := o + i) (v := v) .plain h (by omega) (hf 0 (by omega)) (h1 v (by simp))
    simp only [storeCells, Sem.run_bind, add_addr, this, Result.andThen_ok]
    rw [run_storeCells_put P vs o (i + 1) (c.setIfInBounds (o + i) v) _ (put_get _ _ _ hlt) (by simp; omega) (fun j hj => by have := hf (j + 1) (by omega); rw [show o + (i + 1) + j = o + i + (j + 1) by omega]; exact this) (fun v hv => h1 v (by simp [hv])), put_put]
    rfl
/-- n values of a row, from o on. -/
def rowCut (c : Array Value) (o n : Nat) : List Value := (c.toList.drop o).take n
theorem rowCut_get (c : Array Value) (o n i : Nat) : (rowCut c o n)[i]? = if i < n then c[o + i]? else none := by
  simp only [rowCut, List.getElem?_take, List.getElem?_drop, Array.getElem?_toList]
theorem rowCut_length (c : Array Value) (o n : Nat) (h : o + n ≤ c.size) : (rowCut c o n).length = n := by
  simp only [rowCut, List.length_take, List.length_drop, Array.length_toList]; omega
theorem run_loadCells_row (P : Program) {w : World} {r o n : Nat} {c : Array Value} {e : TypeId} {fr : Nat × Nat} (h : w.heap[r]? = some (.cells c e fr)) (hn : o + n ≤ c.size) :
    (loadCells ⟨r, o, none⟩ n).run P w = .ok (rowCut c o n).toArray w := by
  have := run_loadCells_list (P := P) (w := w) ⟨r, o, none⟩ (rowCut c o n) (fun j v hj => by
    rw [rowCut_get] at hj
    split at hj
    · rw [add_addr, cell_at h]; exact hj
    · cases hj)
  rwa [rowCut_length c o n hn] at this
end Go.Ev
end

section
set_option maxRecDepth 2000
set_option autoImplicit false
namespace Go.Ev

/-! ### numbers as rows of bytes -/
theorem byteAt_eq (d i : Nat) : byteAt d i = d / 256 ^ i % 256 := by
  show (d >>> (8 * i)) % 256 = _
  rw [Nat.shiftRight_eq_div_pow, Nat.pow_mul]
theorem byteAt_lt (d i : Nat) : byteAt d i < 256 := by rw [byteAt_eq]; exact Nat.mod_lt _ (by decide)
theorem byteCut_eq (d lo n : Nat) : byteCut d lo n = d / 256 ^ lo % 256 ^ n := by
  show (d >>> (8 * lo)) % (2 ^ (8 * n)) = _
  rw [Nat.shiftRight_eq_div_pow, Nat.pow_mul, Nat.pow_mul]
theorem bytePut_eq (d lo n x : Nat) : bytePut d lo n x = d % 256 ^ lo + x * 256 ^ lo + d / 256 ^ (lo + n) * 256 ^ (lo + n) := by
  show d % (2 ^ (8 * lo)) + x <<< (8 * lo) + (d >>> (8 * (lo + n))) <<< (8 * (lo + n)) = _
  rw [Nat.shiftRight_eq_div_pow, Nat.shiftLeft_eq, Nat.shiftLeft_eq, Nat.pow_mul, Nat.pow_mul]
theorem byteCut_lt (d lo n : Nat) : byteCut d lo n < 256 ^ n := by rw [byteCut_eq]; exact Nat.mod_lt _ (Nat.pow_pos (by decide))
/-- A byte of a sum whose parts lie apart. -/
theorem byte_low (a b n i : Nat) (h : i < n) : (a + b * 256 ^ n) / 256 ^ i % 256 = a / 256 ^ i % 256 := by
  obtain ⟨m, rfl⟩ : ∃ m, n = i + 1 + m := ⟨n - (i + 1), by omega⟩
  have : b * 256 ^ (i + 1 + m) = 256 ^ i * (256 * (b * 256 ^ m)) := by
    rw [Nat.pow_add, Nat.pow_succ]; simp only [Nat.mul_comm, Nat.mul_left_comm, Nat.mul_assoc]
  rw [this, Nat.add_mul_div_left _ _ (Nat.pow_pos (by decide)), Nat.add_mul_mod_self_left]
theorem byte_high (a b n i : Nat) (ha : a < 256 ^ n) (h : n ≤ i) : (a + b * 256 ^ n) / 256 ^ i % 256 = b / 256 ^ (i - n) % 256 := by
  obtain ⟨m, rfl⟩ : ∃ m, i = n + m := ⟨i - n, by omega⟩
  rw [Nat.pow_add, ← Nat.div_div_eq_div_mul, Nat.add_mul_div_right _ _ (Nat.pow_pos (by decide)), Nat.div_eq_of_lt ha, Nat.zero_add]
  congr 3; omega
theorem byteAt_big (a n i : Nat) (ha : a < 256 ^ n) (h : n ≤ i) : byteAt a i = 0 := by
  rw [byteAt_eq, Nat.div_eq_of_lt (Nat.lt_of_lt_of_le ha (Nat.pow_le_pow_right (by decide) h))]
theorem byteAt_cut (d lo n i : Nat) : byteAt (byteCut d lo n) i = if i < n then byteAt d (lo + i) else 0 := by
  by_cases h : i < n
  · rw [if_pos h, byteAt_eq, byteAt_eq, byteCut_eq]
    have := byte_low (d / 256 ^ lo % 256 ^ n) (d / 256 ^ lo / 256 ^ n) n i h
    rw [Nat.mod_add_div'] at this
    rw [← this, Nat.div_div_eq_div_mul, ← Nat.pow_add]
  · rw [if_neg h, byteAt_big _ n i (byteCut_lt _ _ _) (by omega)]
theorem byteAt_put (d lo n x i : Nat) (hx : x < 256 ^ n) : byteAt (bytePut d lo n x) i = if lo ≤ i ∧ i < lo + n then byteAt x (i - lo) else byteAt d i := by
  have hlo : d % 256 ^ lo < 256 ^ lo := Nat.mod_lt _ (Nat.pow_pos (by decide))
  have hsum : d % 256 ^ lo + x * 256 ^ lo < 256 ^ (lo + n) := by
    rw [Nat.pow_add]
    have : (x + 1) * 256 ^ lo ≤ 256 ^ n * 256 ^ lo := Nat.mul_le_mul_right _ hx
    rw [Nat.add_mul, Nat.one_mul, Nat.mul_comm (256 ^ n)] at this
    omega
  rw [bytePut_eq, byteAt_eq]
  by_cases h1 : lo + n ≤ i
  · rw [byte_high _ _ _ _ hsum h1, if_neg (by omega), byteAt_eq, Nat.div_div_eq_div_mul, ← Nat.pow_add]
    congr 3; omega
  · rw [byte_low _ _ _ _ (by omega)]
    by_cases h2 : lo ≤ i
    · rw [byte_high _ _ _ _ hlo h2, if_pos (by omega), byteAt_eq]
    · rw [byte_low _ _ _ _ (by omega), if_neg (by omega), byteAt_eq]
      have := byte_low (d % 256 ^ lo) (d / 256 ^ lo) lo i (by omega)
      rw [Nat.mod_add_div'] at this
      rw [← this]
theorem byte_ext : ∀ (n : Nat) (a b : Nat), a < 256 ^ n → b < 256 ^ n → (∀ i, i < n → byteAt a i = byteAt b i) → a = b
  | 0, a, b, ha, hb, _ => by simp at ha hb; omega
  | n + 1, a, b, ha, hb, h => by
    have h0 := h 0 (by omega)
    simp only [byteAt_eq, Nat.pow_zero, Nat.div_one] at h0
    have : a / 256 = b / 256 := byte_ext n _ _ (by rw [Nat.pow_succ] at ha; exact Nat.div_lt_of_lt_mul (by rw [Nat.mul_comm]; exact ha)) (by rw [Nat.pow_succ] at hb; exact Nat.div_lt_of_lt_mul (by rw [Nat.mul_comm]; exact hb)) fun i hi => by
      have := h (i + 1) (by omega)
      simp only [byteAt_eq, Nat.pow_succ, Nat.mul_comm (256 ^ i) 256, ← Nat.div_div_eq_div_mul] at this ⊢
      exact this
    omega

/-! ### texts -/
theorem packL_lt : ∀ (l : List Nat), (∀ x ∈ l, x < 256) → packL l < 256 ^ l.length
  | [], _ => by simp [packL]
  | x :: l, h => by
    have := packL_lt l fun y hy => h y (by simp [hy])
    have := h x (by simp)
    simp only [packL, List.length_cons, Nat.pow_succ]; omega
theorem packL_byte : ∀ (l : List Nat), (∀ x ∈ l, x < 256) → ∀ i, byteAt (packL l) i = l.getD i 0
  | [], _, i => by simp [packL, byteAt_eq]
  | x :: l, h, 0 => by
    have := h x (by simp)
    simp only [packL, byteAt_eq, Nat.pow_zero, Nat.div_one, List.getD_cons_zero]; omega
  | x :: l, h, i + 1 => by
    have hx := h x (by simp)
    have := packL_byte l (fun y hy => h y (by simp [hy])) i
    rw [List.getD_cons_succ, ← this, byteAt_eq, byteAt_eq, Nat.pow_succ, Nat.mul_comm (256 ^ i), ← Nat.div_div_eq_div_mul]
    congr 2
    simp only [packL]; omega
def byteOf (s : ByteArray) (i : Nat) : Nat := (s.data.toList.map (·.toNat)).getD i 0
theorem packB_lt (s : ByteArray) : packB s < 256 ^ s.size := by
  have := packL_lt (s.data.toList.map (·.toNat)) (by
    intro x hx; obtain ⟨y, _, rfl⟩ := List.mem_map.1 hx; exact y.toNat_lt)
  rw [List.length_map, Array.length_toList] at this
  exact this
theorem packB_byte (s : ByteArray) (i : Nat) : byteAt (packB s) i = byteOf s i :=
  packL_byte _ (by intro x hx; obtain ⟨y, _, rfl⟩ := List.mem_map.1 hx; exact y.toNat_lt) i
theorem PackIs.of {s : ByteArray} {l d : Nat} (hl : s.size = l) (hd : d < 256 ^ l) (h : ∀ i, i < l → byteAt d i = byteOf s i) : PackIs s l d :=
  ⟨hl, byte_ext l _ _ (hl ▸ packB_lt s) hd fun i hi => by rw [packB_byte, h i hi]⟩
theorem PackIs.lt {s : ByteArray} {l d : Nat} (h : PackIs s l d) : d < 256 ^ l := by obtain ⟨rfl, rfl⟩ := h; exact packB_lt s
theorem PackIs.byte {s : ByteArray} {l d : Nat} (h : PackIs s l d) (i : Nat) : byteAt d i = byteOf s i := by obtain ⟨rfl, rfl⟩ := h; exact packB_byte s i
end Go.Ev
end

section
set_option maxRecDepth 2000
set_option autoImplicit false
namespace Go.Ev

/-! ### an object is read -/
theorem strL_eq (d : Nat) : ∀ (n i : Nat), strL d n i = cut (fun j => .int .u8 (byteAt d j)) i n
  | 0, _ => rfl
  | n + 1, i => by
    have := strL_eq d n (i + 1)
    simp only [strL, cut] at this ⊢
    rw [this]
inductive LdL : AObj → Nat → List AV → Prop
  | cells {ty m : Nat} {t : CT} {kd : Kd} {f : Nat → AV} {i n : Nat} (h : CTIs t m f) (hn : i + n ≤ m) : LdL (.cells ty m t kd) i (cut f i n)
  | bytes {ty m d fz i n : Nat} {g : Bool} (hn : i + n ≤ m) : LdL (.bytes ty m d fz g) i (cut (fun j => .int .u8 (byteAt d j)) i n)
theorem ldLK_good {o : AObj} {n i : Nat} {k : List AV → A} (ho : ObjOk o) (h : ldLK o n i k = .good) : ∃ vs, LdL o i vs ∧ vs.length = n ∧ k vs = .good := by
  cases o with
  | cells ty m t kd =>
    obtain ⟨f, hf⟩ := ho
    simp only [ldLK, bbK_good, bleB, decide_eq_true_eq] at h
    have hn : i + n ≤ m := h.1
    rw [ctL_eq hf n i hn] at h
    exact ⟨_, .cells hf hn, cut_length _ _ _, h.2⟩
  | bytes ty m d fz g =>
    simp only [ldLK, bbK_good, bleB, decide_eq_true_eq] at h
    have hn : i + n ≤ m := h.1
    rw [strL_eq] at h
    exact ⟨_, .bytes hn, cut_length _ _ _, h.2⟩
  | _ => exact absurd h no_good
theorem ldK_good {o : AObj} {i : Nat} {k : AV → A} (ho : ObjOk o) (h : ldK o i k = .good) : ∃ v, LdL o i [v] ∧ k v = .good := by
  cases o with
  | cells ty m t kd =>
    obtain ⟨f, hf⟩ := ho
    simp only [ldK, bbK_good, bleB, decide_eq_true_eq] at h
    have hn : i < m := h.1
    rw [ctgK_eq hf hn] at h
    exact ⟨_, .cells (n := 1) hf (by omega), h.2⟩
  | bytes ty m d fz g =>
    simp only [ldK, bbK_good, bleB, decide_eq_true_eq, fN_eq] at h
    have hn : i < m := h.1
    exact ⟨_, .bytes (n := 1) (by omega), h.2⟩
  | _ => exact absurd h no_good
/-- What is read, on the machine's side. -/
theorem LdL.sound {φ : Phi} {o : AObj} {p : PB} {c₀ : Option Obj} {i : Nat} {vs : List AV} (h : LdL o i vs) (hO : OR φ o p c₀) :
    ∃ c e fr, c₀ = some (.cells c e fr) ∧ c.size = p.cs ∧ i + p.sh + vs.length ≤ c.size ∧ VRs φ vs (rowCut c (i + p.sh) vs.length) := by
  cases h with
  | @cells ty m t kd f i n h hn =>
    obtain ⟨cc, fr, h1, h2, h3, _, _, h6⟩ := hO
    refine ⟨cc, ty, fr, h1, h2, by rw [cut_length]; omega, VRs.of_get (by rw [rowCut_length _ _ _ (by rw [cut_length]; omega)]) fun j x y hx hy => ?_⟩
    rw [cut_length] at hy
    have hj : j < n := by
      rcases Nat.lt_or_ge j n with h | h
      · exact h
      · rw [List.getElem?_eq_none (by rw [cut_length]; exact h)] at hx; cases hx
    rw [cut_get _ _ _ _ hj] at hx; cases hx
    rw [rowCut_get, if_pos hj] at hy
    obtain ⟨v, hv, hr⟩ := h6 f h (i + j) (by omega)
    rw [show i + p.sh + j = p.sh + (i + j) by omega, hv] at hy; cases hy
    exact hr
  | @bytes ty m d fz i n g hn =>
    obtain ⟨cc, fr, h1, h2, h3, _, h5⟩ := hO
    refine ⟨cc, ty, fr, h1, h2, by rw [cut_length]; omega, VRs.of_get (by rw [rowCut_length _ _ _ (by rw [cut_length]; omega)]) fun j x y hx hy => ?_⟩
    rw [cut_length] at hy
    have hj : j < n := by
      rcases Nat.lt_or_ge j n with h | h
      · exact h
      · rw [List.getElem?_eq_none (by rw [cut_length]; exact h)] at hx; cases hx
    rw [cut_get _ _ _ _ hj] at hx; cases hx
    rw [rowCut_get, if_pos hj] at hy
    rw [show i + p.sh + j = p.sh + (i + j) by omega, h5 (i + j) (by omega)] at hy; cases hy
    exact .int _ _
theorem LdL.run {φ : Phi} {o : AObj} {p : PB} {w : World} {i : Nat} {vs : List AV} (P : Program) (h : LdL o i vs) (hO : OR φ o p w.heap[p.blk]?) :
    ∃ l : List Value, VRs φ vs l ∧ (loadCells (p.addr i) vs.length).run P w = .ok l.toArray w ∧ ∀ j, j < vs.length → w.cell? (p.addr (i + j)) = l[j]? := by
  obtain ⟨c, e, fr, h1, h2, h3, h4⟩ := h.sound hO
  refine ⟨_, h4, run_loadCells_row P h1 h3, fun j hj => ?_⟩
  rw [show p.addr (i + j) = ⟨p.blk, i + p.sh + j, none⟩ by simp only [PB.addr]; congr 1; omega, cell_at h1, rowCut_get, if_pos hj]
theorem LdL.run1 {φ : Phi} {o : AObj} {p : PB} {w : World} {i : Nat} {v : AV} (h : LdL o i [v]) (hO : OR φ o p w.heap[p.blk]?) :
    ∃ v' : Value, VR φ v v' ∧ w.cell? (p.addr i) = some v' := by
  obtain ⟨c, e, fr, h1, h2, h3, h4⟩ := h.sound hO
  obtain ⟨y, hy, hv⟩ := h4.get (i := 0) rfl
  refine ⟨y, hv, ?_⟩
  rw [rowCut_get] at hy
  simp only [List.length_singleton, Nat.lt_one_iff, if_true, Nat.add_zero] at hy
  rw [PB.addr, cell_at h1]; exact hy
end Go.Ev
end

section
set_option maxRecDepth 2000
set_option autoImplicit false
namespace Go.Ev

/-! ### an object is written -/
def BytesIs (vs : List AV) (x : Nat) : Prop := x < 256 ^ vs.length ∧ ∀ j, j < vs.length → vs[j]? = some (.int .u8 (byteAt x j))
theorem bytesOfLK_good : ∀ {vs : List AV} {k : Nat → A}, bytesOfLK vs k = .good → ∃ x, BytesIs vs x ∧ k x = .good
  | [], k, h => ⟨0, ⟨by simp, fun j hj => absurd hj (Nat.not_lt_zero j)⟩, h⟩
  | v :: vs, k, h => by
    have h' : bytesOfLK vs (fun d => u8K v fun x => fN (Nat.add x (Nat.mul 256 d)) k) = .good := h
    obtain ⟨d, ⟨hd, hb⟩, hk⟩ := bytesOfLK_good h'
    simp only [u8K_good, fN_eq] at hk
    obtain ⟨x, rfl, hx, hk⟩ := hk
    refine ⟨x + 256 * d, ⟨?_, fun j hj => ?_⟩, hk⟩
    · simp only [List.length_cons, Nat.pow_succ]; omega
    · cases j with
      | zero =>
        simp only [List.getElem?_cons_zero, byteAt_eq, Nat.pow_zero, Nat.div_one]
        congr 2; omega
      | succ j =>
        simp only [List.length_cons] at hj
        rw [List.getElem?_cons_succ, hb j (by omega), byteAt_eq, byteAt_eq, Nat.pow_succ, Nat.mul_comm (256 ^ j), ← Nat.div_div_eq_div_mul]
        congr 4; omega
theorem allOne_iff (vs : List AV) : allOne vs = true ↔ ∀ v ∈ vs, isOne v = true := by
  induction vs with
  | nil => simp [allOne]
  | cons v vs ih =>
    have : allOne (v :: vs) = (Bool.rec false (allOne vs) (isOne v) : Bool) := rfl
    rw [this]
    cases h : isOne v <;> simp [h, ih]
theorem VR.oneCell {φ : Phi} {v : AV} {v' : Value} (h : VR φ v v') (h1 : isOne v = true) : v'.oneCell' = true := by
  cases h <;> first | rfl | simp [isOne] at h1
theorem VRs.oneCell {φ : Phi} {vs : List AV} {vs' : List Value} (h : VRs φ vs vs') (h1 : allOne vs = true) : ∀ v ∈ vs', v.oneCell' = true := by
  rw [allOne_iff] at h1
  induction vs generalizing vs' with
  | nil => cases h; simp
  | cons v vs ih =>
    cases h with
    | cons hv hs =>
      intro y hy
      rcases List.mem_cons.1 hy with rfl | hy
      · exact hv.oneCell (h1 v (by simp))
      · exact ih hs (fun v hv => h1 v (by simp [hv])) y hy
inductive StL : AObj → Nat → List AV → AObj → Prop
  | cells {ty m : Nat} {t t' : CT} {kd : Kd} {f : Nat → AV} {i : Nat} {vs : List AV} (h : CTIs t m f) (hn : i + vs.length ≤ m) (h1 : allOne vs = true) (hk : kdOk kd = true) (h' : CTIs t' m (updL f i vs)) : StL (.cells ty m t kd) i vs (.cells ty m t' kd)
  | bytes {ty m d fz i x : Nat} {g : Bool} {vs : List AV} (hn : i + vs.length ≤ m) (hf : vs.length = 0 ∨ fz ≤ i) (hb : BytesIs vs x) : StL (.bytes ty m d fz g) i vs (.bytes ty m (bytePut d i vs.length x) fz g)
theorem stLK_good {vs : List AV} {o : AObj} {i : Nat} {k : AObj → A} (ho : ObjOk o) (h : stLK vs o i k = .good) : ∃ o', StL o i vs o' ∧ k o' = .good := by
  cases o with
  | cells ty m t kd =>
    obtain ⟨f, hf⟩ := ho
    simp only [stLK, bbK_good, bleB, decide_eq_true_eq, llen_eq] at h
    obtain ⟨hn, h1, hk, h⟩ := h
    have hn : i + vs.length ≤ m := hn
    obtain ⟨t', ht', e⟩ := ctSL_eq vs hf hn (fun t => k (.cells ty m t kd))
    rw [e] at h
    exact ⟨_, .cells hf hn h1 hk ht', h⟩
  | bytes ty m d fz g =>
    simp only [stLK, bbK_good, bleB, beqB, orB_eq, decide_eq_true_eq, Bool.or_eq_true, llen_eq] at h
    obtain ⟨hn, hf, h⟩ := h
    obtain ⟨x, hx, h⟩ := bytesOfLK_good h
    rw [fN_eq] at h
    exact ⟨_, .bytes hn hf hx, h⟩
  | _ => exact absurd h no_good
theorem stK_good {v : AV} {o : AObj} {i : Nat} {k : AObj → A} (ho : ObjOk o) (h : stK o i v k = .good) : ∃ o', StL o i [v] o' ∧ k o' = .good := by
  cases o with
  | cells ty m t kd =>
    obtain ⟨f, hf⟩ := ho
    simp only [stK, bbK_good, bleB, decide_eq_true_eq] at h
    obtain ⟨hn, h1, hk, h⟩ := h
    have hn : i < m := hn
    obtain ⟨t', ht', e⟩ := ctsK_eq hf hn v (fun t => k (.cells ty m t kd))
    rw [e] at h
    exact ⟨_, .cells (vs := [v]) hf (by simp only [List.length_singleton]; omega) (by rw [allOne_iff]; simpa using h1) hk ht', h⟩
  | bytes ty m d fz g =>
    simp only [stK, bbK_good, bleB, decide_eq_true_eq, u8K_good, fN_eq] at h
    obtain ⟨hn, hf, x, rfl, hx, h⟩ := h
    have hn : i < m := hn
    refine ⟨_, .bytes (vs := [.int .u8 x]) (x := x) (by simp only [List.length_singleton]; omega) (.inr hf) ⟨by simp only [List.length_singleton]; omega, fun j hj => ?_⟩, h⟩
    simp only [List.length_singleton, Nat.lt_one_iff] at hj
    subst hj
    simp only [List.getElem?_cons_zero, byteAt_eq, Nat.pow_zero, Nat.div_one]
    congr 2; omega
  | _ => exact absurd h no_good
theorem StL.ok {o o' : AObj} {i : Nat} {vs : List AV} (h : StL o i vs o') : ObjOk o' := by
  cases h with
  | cells _ _ _ _ h' => exact ⟨_, h'⟩
  | bytes => trivial
theorem StL.own {o o' : AObj} {i : Nat} {vs : List AV} (h : StL o i vs o') : o.own = true := by
  cases h with
  | @cells ty m t t' kd f i vs h hn h1 hk h' => cases kd <;> simp_all [AObj.own, Kd.isRead, kdOk]
  | bytes => rfl
theorem CTIs.uniq {c : CT} {n : Nat} {f g : Nat → AV} (hf : CTIs c n f) (hg : CTIs c n g) {i : Nat} (hi : i < n) : f i = g i := by
  classical
  have h1 := ctgK_eq hf hi (fun v => if v = f i then .good else .bad 0 "")
  have h2 := ctgK_eq hg hi (fun v => if v = f i then .good else .bad 0 "")
  rw [h1, if_pos rfl] at h2
  split at h2
  · rename_i h; exact h.symm
  · cases h2
/-- What is written, on the machine's side. -/
theorem StL.sound {φ : Phi} {o o' : AObj} {p : PB} {c₀ : Option Obj} {i : Nat} {vs : List AV} {vs' : List Value} (h : StL o i vs o') (hO : OR φ o p c₀) (hv : VRs φ vs vs') :
    ∃ c e fr, c₀ = some (.cells c e fr) ∧ c.size = p.cs ∧ i + p.sh + vs'.length ≤ c.size ∧ (∀ j, j < vs'.length → fr.1 ≤ i + p.sh + j → ¬ i + p.sh + j < fr.2) ∧ (∀ v ∈ vs', v.oneCell' = true) ∧
      OR φ o' p (some (.cells (ovr c (i + p.sh) vs') e fr)) := by
  have hl := hv.length
  cases h with
  | @cells ty m t t' kd f i vs h hn h1 hk h' =>
    obtain ⟨c, fr, e1, e2, e3, e4, e5, e6⟩ := hO
    have hr : kd.isRead = false := by cases kd <;> simp_all [Kd.isRead, kdOk]
    refine ⟨c, ty, fr, e1, e2, by omega, fun j _ => e4 hr _, hv.oneCell h1, _, fr, rfl, by rw [ovr_size]; exact e2, e3, e4, e5, fun g hg j hj => ?_⟩
    rw [hg.uniq h' hj, ovr_get _ _ _ _ (by omega), updL_get]
    by_cases hb : i ≤ j ∧ j < i + vs.length
    · rw [dif_pos hb, if_pos (by omega)]
      obtain ⟨y, hy, hr⟩ := hv.get (i := j - i) (x := vs[j - i]'(by omega)) (List.getElem?_eq_getElem _)
      exact ⟨y, by rw [show p.sh + j - (i + p.sh) = j - i by omega]; exact hy, hr⟩
    · rw [dif_neg hb, if_neg (by omega)]
      exact e6 f h j hj
  | @bytes ty m d fz i x g vs hn hf hb =>
    obtain ⟨c, fr, e1, e2, e3, e4, e5⟩ := hO
    have h1 : allOne vs = true := by
      rw [allOne_iff]
      intro v hv
      obtain ⟨j, hj, rfl⟩ := List.getElem_of_mem hv
      have := hb.2 j hj
      rw [List.getElem?_eq_getElem hj] at this
      simp only [Option.some.injEq] at this
      rw [this]; rfl
    refine ⟨c, ty, fr, e1, e2, by omega, fun j hj h1 h2 => ?_, hv.oneCell h1, _, fr, rfl, by rw [ovr_size]; exact e2, e3, e4, fun j hj => ?_⟩
    · rcases e4 with (e4 | e4) | ⟨_, _, e4⟩ <;> omega
    · rw [ovr_get _ _ _ _ (by omega), byteAt_put _ _ _ _ _ hb.1]
      by_cases hc : i ≤ j ∧ j < i + vs.length
      · rw [if_pos hc, if_pos (by omega)]
        obtain ⟨y, hy, hr⟩ := hv.get (hb.2 (j - i) (by omega))
        rw [show p.sh + j - (i + p.sh) = j - i by omega, hy]
        cases hr; rfl
      · rw [if_neg hc, if_neg (by omega)]
        exact e5 j hj
/-- Cells are written. -/
theorem StL.run {φ : Phi} {H : Bid → AObj} {nx : Bid} {w : World} {o' : AObj} {b : Bid} {p : PB} {i : Nat} {vs : List AV} {vs' : List Value} (P : Program) (hR : R φ H nx w) (hb : φ b = some p) (h : StL (H b) i vs o') (hv : VRs φ vs vs') :
    ∃ w', (storeCells (p.addr i) vs').run P w = .ok () w' ∧ R φ (updB H b o') nx w' ∧ Grows φ H nx w φ (updB H b o') nx w' := by
  obtain ⟨c, e, fr, h1, h2, h3, h4, h5, h6⟩ := h.sound (hR.obj _ _ hb) hv
  refine ⟨_, run_storeCells_put P vs' (i + p.sh) 0 c w h1 (by omega) (fun j hj => by simpa using h4 j hj) h5, ?_, ?_⟩
  · exact hR.put hb (own_live h.own) h6
  · exact Grows.put hb h.own _ _
theorem StL.run1 {φ : Phi} {H : Bid → AObj} {nx : Bid} {w : World} {o' : AObj} {b : Bid} {p : PB} {i : Nat} {v : AV} {v' : Value} (P : Program) (m : Mode) (hR : R φ H nx w) (hb : φ b = some p) (h : StL (H b) i [v] o') (hv : VR φ v v') :
    ∃ w', (store (p.addr i) v' m).run P w = .ok () w' ∧ R φ (updB H b o') nx w' ∧ Grows φ H nx w φ (updB H b o') nx w' := by
  obtain ⟨c, e, fr, h1, h2, h3, h4, h5, h6⟩ := h.sound (hR.obj _ _ hb) (.cons hv .nil)
  simp only [List.length_singleton] at h3 h4
  refine ⟨_, run_store_put P m h1 (by omega) (by simpa using h4 0 (by omega)) (h5 v' (by simp)), ?_, ?_⟩
  · exact hR.put hb (own_live h.own) h6
  · exact Grows.put hb h.own _ _
end Go.Ev
end

section
set_option maxRecDepth 2000
set_option autoImplicit false
namespace Go.Ev

/-! ### operands -/
noncomputable def opdS (x : Operand) (f : Nat → AV) : AV := match x with
  | .tmp t => f t
  | .const v => ofValue v
  | .global g => .ptr (gbid g) 0
  | .func g => .func (.func g) [] []
def opdOk : Operand → Prop
  | .tmp t => t ≤ 255
  | .global g => g ≤ 255
  | _ => True
theorem opdK_good {x : Operand} {e : Env} {f : Nat → AV} (h : EnvIs e f) (k : AV → A) : (opdK x e k = .good) ↔ opdOk x ∧ k (opdS x f) = .good := by
  cases x with
  | tmp t => exact egK_good h k
  | const v => simp [opdK, opdOk, opdS]
  | global g => simp [opdK, opdOk, opdS]
  | func g => simp [opdK, opdOk, opdS]
theorem opdsK_good {e : Env} {f : Nat → AV} (h : EnvIs e f) : ∀ (l : List Operand) (k : List AV → A), (opdsK l e k = .good) ↔ (∀ x ∈ l, opdOk x) ∧ k (l.map (opdS · f)) = .good
  | [], k => by simp [opdsK]
  | x :: l, k => by
    have : opdsK (x :: l) e k = opdK x e fun v => opdsK l e fun vs => k (v :: vs) := rfl
    rw [this, opdK_good h, opdsK_good h l]
    simp [and_assoc]

mutual
theorem ofValue_VR (φ : Phi) : ∀ v : Value, VR φ (ofValue v) v
  | .bool b => .bool b
  | .int k (.ofNat n) => .int k n
  | .int k (.negSucc n) => .neg k n
  | .float _ _ => .poison _
  | .complex _ _ _ => .poison _
  | .string _ => .str ⟨rfl, rfl⟩
  | .pointer none => .nilp
  | .pointer (some _) => .poison _
  | .slice none 0 0 => .nils
  | .slice none 0 (_ + 1) => .poison _
  | .slice none (_ + 1) _ => .poison _
  | .slice (some _) _ _ => .poison _
  | .map none => .nilm
  | .map (some _) => .poison _
  | .chan _ => .poison _
  | .func _ _ _ => .poison _
  | .nilFunc => .nilf
  | .iface t v => .iface t (ofValue_VR φ v)
  | .nilIface => .nili
  | .agg ⟨l⟩ => .agg (ofValues_VR φ l)
  | .tuple ⟨l⟩ => .tuple (ofValues_VR φ l)
theorem ofValues_VR (φ : Phi) : ∀ l : List Value, VRs φ (Value.rec_2 (motive_1 := fun _ => AV) (motive_2 := fun _ => List AV) (motive_3 := fun _ => List AV)
  (fun b => .bool b) (fun k n => Int.rec (fun n => .int k n) (fun n => .neg k n) n) (fun _ _ => .poison) (fun _ _ _ => .poison) (fun s => .str s.size (packB s)) (fun a => Option.rec .nilp (fun _ => .poison) a)
  (fun a n c => Option.rec (Bool.rec .poison .nils (andB (Nat.beq n 0) (Nat.beq c 0))) (fun _ => .poison) a) (fun r => Option.rec .nilm (fun _ => .poison) r) (fun _ => .poison) (fun _ _ _ _ _ => .poison) .nilf
  (fun t _ ih => .iface t ih) .nili (fun _ ih => .agg ih) (fun _ ih => .tuple ih) (fun _ ih => ih) [] (fun _ _ a b => a :: b) l) l
  | [] => .nil
  | v :: l => .cons (ofValue_VR φ v) (ofValues_VR φ l)
end
end Go.Ev
end
