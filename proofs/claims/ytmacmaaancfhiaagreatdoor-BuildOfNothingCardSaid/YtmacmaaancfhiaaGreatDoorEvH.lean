/- Part of the proof: a verified evaluator of the model (its definitions, and that it is sound). -/
import Derived.Test.YtmacmaaancfhiaaGreatDoorEvG
import Derived.Laws.BytesString
section
set_option maxRecDepth 2000
set_option autoImplicit false
set_option linter.unusedSimpArgs false
set_option linter.unusedVariables false
namespace Go.Ev

/-! ### rows that are read as a source -/
/-- A list of bytes, as cells. -/
noncomputable def byteCells (d n : Nat) : List Value := (List.range n).map fun i => .int .u8 (byteAt d i : Nat)
theorem byteCells_length (d n : Nat) : (byteCells d n).length = n := by simp [byteCells]
theorem byteCells_get (d n i : Nat) (h : i < n) : (byteCells d n)[i]? = some (.int .u8 (byteAt d i : Nat)) := by simp [byteCells, h]
theorem BytesIs.cells {φ : Phi} {vs : List AV} {x : Nat} {l : List Value} (h : BytesIs vs x) (hv : VRs φ vs l) : l = byteCells x vs.length := by
  apply List.ext_getElem?
  intro i
  by_cases hi : i < vs.length
  · obtain ⟨y, hy, hr⟩ := hv.get (h.2 i hi)
    rw [hy, byteCells_get _ _ _ hi, hr.int_inv]
  · rw [List.getElem?_eq_none (by rw [← hv.length]; omega), List.getElem?_eq_none (by rw [byteCells_length]; omega)]
theorem str_cells {s : ByteArray} {l d n : Nat} (h : PackIs s l d) (hn : n ≤ l) : ((s.extract 0 n).data.map fun b => Value.int .u8 b.toNat).toList = byteCells (byteCut d 0 n) n := by
  have hp := extract_pack (i := 0) h hn
  rw [Nat.sub_zero] at hp
  have hs : (s.extract 0 n).data.size = n := hp.1
  apply List.ext_getElem?
  intro i
  by_cases hi : i < n
  · rw [byteCells_get _ _ _ hi, hp.byte, byteOf_lt (by rw [hs]; exact hi)]
    rw [Array.getElem?_toList, Array.getElem?_map, Array.getElem?_eq_getElem (show i < (s.extract 0 n).data.size by rw [hs]; exact hi)]; rfl
  · rw [List.getElem?_eq_none (by simp only [Array.length_toList, Array.size_map, hs]; omega), List.getElem?_eq_none (by rw [byteCells_length]; omega)]
theorem loadCells_none {P : Program} (a : Addr) (w : World) : (loadCells a 0).run P w = .ok #[] w := rfl
theorem obBytesK_good {o : AObj} {n i : Nat} {k : Nat → A} (ho : ObjOk o) (hk : obBytesK o n i k = .good) :
    ∃ d, k d = .good ∧ d < 256 ^ n ∧ ∀ (P : Program) (φ : Phi) (p : PB) (w : World), OR φ o p w.heap[p.blk]? → (loadCells (p.addr i) n).run P w = .ok (byteCells d n).toArray w := by
  cases o <;> first | (exact absurd hk no_good) | skip
  · rename_i ty m t kd
    obtain ⟨f, hf⟩ := ho
    simp only [obBytesK, bbK_good, bleB, decide_eq_true_eq] at hk
    have hn : i + n ≤ m := hk.1
    have hk := hk.2
    rw [ctL_eq hf n i hn] at hk
    obtain ⟨x, hx, hk⟩ := bytesOfLK_good hk
    refine ⟨x, hk, by have := hx.1; rwa [cut_length] at this, fun P φ p w hO => ?_⟩
    obtain ⟨l, hv, hr, _⟩ := (LdL.cells hf hn).run P hO
    rw [cut_length] at hr
    rw [hr, hx.cells hv, cut_length]
  · rename_i ty m d fz g
    simp only [obBytesK, bbK_good, bleB, decide_eq_true_eq, fN_eq] at hk
    have hn : i + n ≤ m := hk.1
    refine ⟨_, hk.2, byteCut_lt _ _ _, fun P φ p w hO => ?_⟩
    obtain ⟨l, hv, hr, _⟩ := (LdL.bytes (ty := ty) (d := d) (fz := fz) (g := g) hn).run P hO
    rw [cut_length] at hr
    have hb : BytesIs (cut (fun j => AV.int .u8 (byteAt d j)) i n) (byteCut d i n) := by
      refine ⟨by rw [cut_length]; exact byteCut_lt _ _ _, fun j hj => ?_⟩
      rw [cut_length] at hj
      rw [cut_get _ _ _ _ hj, byteAt_cut, if_pos hj]
    rw [hr, hb.cells hv, cut_length]
theorem srcBytesK_good {x : AV} {n : Nat} {h : Heap} {H : Bid → AObj} {nx : Bid} {k : Nat → A} (hh : HS h H nx) (hk : srcBytesK x n h k = .good) :
    ∃ d, k d = .good ∧ d < 256 ^ n ∧ ∀ (P : Program) (φ : Phi) (w : World) (nx' : Bid) (x' : Value), R φ H nx' w → VR φ x x' → (Builtin.firstCells 1 n x').run P w = .ok (byteCells d n).toArray w := by
  cases x <;> first | (exact absurd hk no_good) | skip
  · rename_i l d
    simp only [srcBytesK, bbK_good, bleB, decide_eq_true_eq, fN_eq] at hk
    refine ⟨_, hk.2, byteCut_lt _ _ _, fun P φ w nx' x' hR hx => ?_⟩
    obtain ⟨s, rfl, hs⟩ := hx.str_inv
    simp only [Builtin.firstCells, Sem.run_pure]
    rw [← str_cells hs hk.1]
  · simp only [srcBytesK, bbK_good, beqB, decide_eq_true_eq] at hk
    obtain ⟨rfl, hk⟩ := hk
    refine ⟨_, hk, by simp, fun P φ w nx' x' hR hx => ?_⟩
    rw [hx.nils_inv]; rfl
  · rename_i b o l lo hi z
    simp only [srcBytesK, bbK_good, andB_eq, bleB, beqB, Bool.and_eq_true, decide_eq_true_eq, hh.get] at hk
    obtain ⟨⟨hn, hz⟩, hk⟩ := hk
    subst hz
    obtain ⟨d, hk, hd, hr⟩ := obBytesK_good (hh.ok b) hk
    refine ⟨d, hk, hd, fun P φ w nx' x' hR hx => ?_⟩
    obtain ⟨p, a, c, hp, rfl, hnc, hlo, hhi, ha⟩ := hx.slice_inv
    have := hr P φ p w (hR.obj _ _ hp)
    simp only [Builtin.firstCells, Nat.mul_one]
    rcases ha with h0 | ⟨rfl, _⟩
    · have : n = 0 := by omega
      subst this; rfl
    · exact this
theorem srcLenK_good {x : AV} {k : Nat → A} (hk : srcLenK x k = .good) : ∃ n, k n = .good ∧ ∀ (P : Program) (φ : Phi) (w : World) (x' : Value), VR φ x x' → (Builtin.lenOf x').run P w = .ok n w := by
  cases x <;> first | (exact absurd hk no_good) | skip
  · rename_i l d
    exact ⟨l, hk, fun P φ w x' hx => by obtain ⟨s, rfl, hs⟩ := hx.str_inv; simp [Builtin.lenOf, hs.1]⟩
  · exact ⟨0, hk, fun P φ w x' hx => by rw [hx.nils_inv]; simp [Builtin.lenOf]⟩
  · rename_i b o l lo hi z
    exact ⟨l, hk, fun P φ w x' hx => by obtain ⟨p, a, c, hp, rfl, _⟩ := hx.slice_inv; simp [Builtin.lenOf]⟩
theorem strL_cells (d n : Nat) : strL d n 0 = (List.range n).map fun i => AV.int .u8 (byteAt d i) := by
  rw [strL_eq]
  apply List.ext_getElem?
  intro i
  by_cases hi : i < n
  · rw [cut_get _ _ _ _ hi]; simp [hi]
  · rw [List.getElem?_eq_none (by rw [cut_length]; omega), List.getElem?_eq_none (by simp; omega)]
theorem bytes_VRs (φ : Phi) (d n : Nat) : VRs φ ((List.range n).map fun i => AV.int .u8 (byteAt d i)) (byteCells d n) := by
  refine .of_get (by simp [byteCells]) fun i x y hx hy => ?_
  simp only [byteCells, List.getElem?_map, Option.map_eq_some_iff] at hx hy
  obtain ⟨j, hj, rfl⟩ := hx
  obtain ⟨j', hj', rfl⟩ := hy
  rw [hj] at hj'; cases hj'
  exact .int _ _
theorem srcCellsK_good {x : AV} {n sz : Nat} {h : Heap} {H : Bid → AObj} {nx : Bid} {k : List AV → A} (hh : HS h H nx) (hk : srcCellsK x n sz h k = .good) :
    ∃ vs, k vs = .good ∧ vs.length = n * sz ∧ ∀ (P : Program) (φ : Phi) (w : World) (nx' : Bid) (x' : Value), R φ H nx' w → VR φ x x' → ∃ c : Array Value, (∀ m, (Builtin.firstCells sz n x').run P { w with drawn := m } = .ok c { w with drawn := m }) ∧ VRs φ vs c.toList := by
  cases x <;> first | (exact absurd hk no_good) | skip
  · rename_i l d
    simp only [srcCellsK, bbK_good, andB_eq, bleB, beqB, Bool.and_eq_true, decide_eq_true_eq] at hk
    obtain ⟨⟨hn, hz⟩, hk⟩ := hk
    subst hz
    refine ⟨_, hk, by rw [strL_cells]; simp, fun P φ w nx' x' hR hx => ?_⟩
    obtain ⟨s, rfl, hs⟩ := hx.str_inv
    refine ⟨_, fun m => rfl, ?_⟩
    rw [str_cells hs hn, strL_cells]
    have := bytes_VRs φ (byteCut d 0 n) n
    have e : ((List.range n).map fun i => AV.int .u8 (byteAt (byteCut d 0 n) i)) = (List.range n).map fun i => AV.int .u8 (byteAt d i) := by
      apply List.map_congr_left
      intro i hi
      rw [byteAt_cut, if_pos (by simpa using hi), Nat.zero_add]
    rwa [e] at this
  · simp only [srcCellsK, bbK_good, beqB, decide_eq_true_eq] at hk
    obtain ⟨rfl, hk⟩ := hk
    refine ⟨_, hk, by simp, fun P φ w nx' x' hR hx => ⟨#[], fun m => ?_, .nil⟩⟩
    rw [hx.nils_inv]; rfl
  · rename_i b o l lo hi z
    simp only [srcCellsK, bbK_good, andB_eq, bleB, beqB, Bool.and_eq_true, decide_eq_true_eq, hh.get] at hk
    obtain ⟨⟨hn, hz⟩, hk⟩ := hk
    subst hz
    obtain ⟨vs, hl, hvl, hk⟩ := ldLK_good (hh.ok b) hk
    have hvl : vs.length = n * z := hvl
    refine ⟨vs, hk, hvl, fun P φ w nx' x' hR hx => ?_⟩
    obtain ⟨p, a, c, hp, rfl, hnc, hlo, hhi, ha⟩ := hx.slice_inv
    obtain ⟨cc, e, fr, g1, g2, g3, g4⟩ := hl.sound (hR.obj _ _ hp)
    rw [hvl] at g3 g4
    rcases ha with h0 | ⟨rfl, _⟩
    · have h0 : n = 0 := by omega
      subst h0
      rw [Nat.zero_mul] at hvl
      have : vs = [] := List.length_eq_zero_iff.1 hvl
      subst this
      refine ⟨#[], fun m => ?_, .nil⟩
      simp only [Builtin.firstCells, Nat.zero_mul]; rfl
    · refine ⟨_, fun m => ?_, g4⟩
      simp only [Builtin.firstCells]
      exact run_loadCells_row P (w := { w with drawn := m }) g1 g3
/-- The text of some bytes. -/
theorem fold_bytes (ns : List Int) : ∀ s : ByteArray, (ns.foldl (fun r n => r.push (UInt8.ofNat n.toNat)) s).data.toList = s.data.toList ++ ns.map fun n => UInt8.ofNat n.toNat := by
  induction ns with
  | nil => intro s; simp
  | cons n ns ih => intro s; rw [List.foldl_cons, ih]; simp [ByteArray.push]
theorem bytesToString_run {P : Program} {w : World} {a : Addr} {n c d : Nat} (hd : d < 256 ^ n) (hr : (loadCells a n).run P w = .ok (byteCells d n).toArray w) :
    ∃ s, (Conv.bytesToString (.slice (some a) n c)).run P w = .ok (.string s) w ∧ PackIs s n d := by
  have e : byteCells d n = ((List.range n).map fun i => ((byteAt d i : Nat) : Int)).map (Value.int .u8) := by simp [byteCells, List.map_map, Function.comp_def]
  rw [e] at hr
  refine ⟨_, run_bytesToString w a n c _ hr, ?_⟩
  have hl := fold_bytes ((List.range n).map fun i => ((byteAt d i : Nat) : Int)) ByteArray.empty
  generalize hs : (((List.range n).map fun i => ((byteAt d i : Nat) : Int)).foldl (fun r n => r.push (UInt8.ofNat n.toNat)) ByteArray.empty) = s at hl ⊢
  have hl : s.data.toList = (List.range n).map fun i => UInt8.ofNat (byteAt d i) := by
    rw [hl]
    have : ByteArray.empty.data.toList = [] := rfl
    rw [this, List.nil_append, List.map_map]
    apply List.map_congr_left
    intro i _
    simp
  have hsz : s.size = n := by
    have : s.data.toList.length = n := by rw [hl]; simp
    rw [Array.length_toList] at this; exact this
  refine .of hsz hd fun i hi => ?_
  simp only [byteOf, hl, List.map_map, List.getD_eq_getElem?_getD, List.getElem?_map, List.getElem?_range hi, Option.map_some, Option.getD_some, Function.comp]
  rw [UInt8.toNat_ofNat_of_lt' (by have := byteAt_lt d i; exact this)]
end Go.Ev
end

section
set_option maxRecDepth 2000
set_option autoImplicit false
set_option linter.unusedSimpArgs false
set_option linter.unusedVariables false
namespace Go.Ev

/-! ### what an operation of its class owes -/
structure Cls (P : Program) (o : Oper) (f : Nat → AV) (H : Bid → AObj) (nx : Bid) (v : AV) (H' : Bid → AObj) (nx' : Bid) : Prop where
  op : OpS P o f H nx v H' nx'
  pure : cls' P o.op = 0 → PureS P o f v
  read : cls' P o.op = 1 → ReadS P o f H v
  same : cls' P o.op ≤ 1 → H' = H ∧ nx' = nx
  alloc : cls' P o.op = 2 → ∃ ob, AllocS P o f nx v ob ∧ H' = updB H nx ob ∧ nx'.num = nx.num + 1 ∧ ObjOk ob
section
variable {P : Program} {o : Oper} {f : Nat → AV} {H H' : Bid → AObj} {nx nx' : Bid} {v : AV}
theorem Cls.of_read (h : ReadS P o f H v) (h0 : cls' P o.op = 0 → PureS P o f v) (h2 : cls' P o.op ≠ 2) : Cls P o f H nx v H nx :=
  ⟨h.op nx, h0, fun _ => h, fun _ => ⟨rfl, rfl⟩, fun h => absurd h h2⟩
theorem Cls.of_pure (h : PureS P o f v) (h2 : cls' P o.op ≠ 2) : Cls P o f H nx v H nx := .of_read (h.read H) (fun _ => h) h2
theorem Cls.of_alloc {ob : AObj} (h : AllocS P o f nx v ob) (hn : nx'.num = nx.num + 1) (hob : ObjOk ob) (h2 : ¬ cls' P o.op ≤ 1) : Cls P o f H nx v (updB H nx ob) nx' :=
  ⟨h.op hn, fun h => absurd (Nat.le_of_eq (h.trans rfl)) (by omega), fun h => absurd (Nat.le_of_eq h) h2, fun h => absurd h h2, fun _ => ⟨ob, h, rfl, hn, hob⟩⟩
theorem Cls.of_op (h : OpS P o f H nx v H' nx') (h2 : cls' P o.op = 3) : Cls P o f H nx v H' nx' :=
  ⟨h, fun h => by omega, fun h => by omega, fun h => by omega, fun h => by omega⟩
end

section
variable {C : Cx} {e : Env} {f : Nat → AV} {h : Heap} {k : AV → Heap → A} {o : Oper}
def cvCls : CvK → Nat
  | .text => 1 | .bytes _ => 2 | .toU => 1 | .ofU _ => 1 | .same => 3 | .int _ => 0 | .str => 0 | .rune => 0
theorem freeze_push (w : World) (c : Array Value) (el : TypeId) (n : Nat) : ({ w with heap := w.heap.push (.cells c el) } : World).freeze { block := w.heap.size, off := n } 1 = w.push (.cells c el (n, n + 1)) := by
  simp only [World.freeze, World.push]
  rw [if_neg (by decide)]
  congr 1
  apply Array.ext_getElem?
  intro i
  rw [Array.getElem?_modify, Array.getElem?_push, Array.getElem?_push]
  by_cases hi : w.heap.size = i
  · subst hi; simp
  · rw [if_neg hi, if_neg (Ne.symm hi), if_neg (Ne.symm hi)]
theorem freeze_put {w : World} {r : Nat} {c : Array Value} {el : TypeId} {fr : Nat × Nat} {n : Nat} (h : w.heap[r]? = some (.cells c el fr)) :
    w.freeze { block := r, off := n } 1 = w.put r (.cells c el (if fr.1 == fr.2 then (n, n + 1) else (min fr.1 n, max fr.2 (n + 1)))) := by
  have hlt := (Array.getElem?_eq_some_iff.1 h).1
  simp only [World.freeze, World.put]
  rw [if_neg (by decide)]
  congr 1
  apply Array.ext_getElem?
  intro i
  rw [Array.getElem?_modify, Array.getElem?_setIfInBounds]
  by_cases hi : r = i
  · subst hi
    rw [if_pos rfl, if_pos rfl, if_pos hlt, h]
    rfl
  · rw [if_neg hi, if_neg hi]
theorem encode_small {n : Nat} (hn : n ≤ 127) : PackIs (Utf8.encode (n : Int)) 1 n := by
  have : ∀ m : Fin 128, PackIs (Utf8.encode ((m.val : Nat) : Int)) 1 m.val := by
    intro m
    simp only [PackIs]
    revert m
    decide
  exact this ⟨n, by omega⟩
theorem convertF_good {H : Bid → AObj} {nx : Bid} (hh : HS h H nx) (he : EnvIs e f) {s d : TypeId} {x : Operand} (ho : o.op = .convert s d x) (hk : convertF s d x C e h k = .good) :
    ∃ v h' H' nx', k v h' = .good ∧ HS h' H' nx' ∧ Cls C.P o f H nx v H' nx' := by
  simp only [convertF, obK_good, opdK_good he] at hk
  obtain ⟨q, hq, hx, hk⟩ := hk
  have hc : cls' C.P o.op = cvCls q := by
    rw [ho]; simp only [cls', hq]; cases q <;> rfl
  have pure_ : ∀ v, k v h = .good → cls' C.P o.op ≠ 2 → (∀ (φ : Phi) (w : World) (x' : Value), VR φ (opdS x f) x' → ∃ v', (convert s d x').run C.P w = .ok v' w ∧ VR φ v v') → ∃ v h' H' nx', k v h' = .good ∧ HS h' H' nx' ∧ Cls C.P o f H nx v H' nx' := by
    intro v hk h2 hr
    refine ⟨v, h, H, nx, hk, hh, .of_pure (fun φ w ρ H nx hR hρ => ?_) h2⟩
    obtain ⟨v', h1, h3⟩ := hr φ w _ (hρ.opd hR hx)
    exact ⟨v', by simp only [execOp, ho, Sem.run_bind, h1, Result.andThen_ok, Sem.run_pure], h3⟩
  have read_ : ∀ v, k v h = .good → cls' C.P o.op = 1 → (∀ (φ : Phi) (w : World) (nx : Bid) (x' : Value), R φ H nx w → VR φ (opdS x f) x' → ∃ v', (convert s d x').run C.P w = .ok v' w ∧ VR φ v v') → ∃ v h' H' nx', k v h' = .good ∧ HS h' H' nx' ∧ Cls C.P o f H nx v H' nx' := by
    intro v hk h2 hr
    refine ⟨v, h, H, nx, hk, hh, .of_read (fun φ w ρ nx hR hρ => ?_) (fun h => by omega) (by omega)⟩
    obtain ⟨v', h1, h3⟩ := hr φ w nx _ hR (hρ.opd hR hx)
    exact ⟨v', by simp only [execOp, ho, Sem.run_bind, h1, Result.andThen_ok, Sem.run_pure], h3⟩
  simp only [cvKind] at hq
  split at hq
  · rename_i j' j hs hd
    cases hq
    simp only [asIntK_good] at hk
    rcases hk with ⟨i, n, hv, hk⟩ | ⟨i, n, hv, hk⟩
    · obtain ⟨v, hk, hn⟩ := mkK_good hk
      refine pure_ v hk (by rw [hc]; simp [cvCls]) fun φ w x' hx' => ?_
      rw [hv] at hx'
      exact ⟨_, by rw [hx'.int_inv]; simp [convert, runU hs, runU hd, Conv.intToInt], hn φ⟩
    · obtain ⟨v, hk, hn⟩ := mkNegK_good hk
      refine pure_ v hk (by rw [hc]; simp [cvCls]) fun φ w x' hx' => ?_
      rw [hv] at hx'
      have e : Int.negSucc n = -((n.succ : Nat) : Int) := rfl
      exact ⟨_, by rw [hx'.neg_inv, e]; simp only [convert, Sem.run_bind, runU hs, runU hd, Result.andThen_ok, Conv.intToInt, Sem.run_pure], hn φ⟩
  · rename_i hs hd
    cases hq
    simp only [asStrK_good] at hk
    obtain ⟨l, c, hv, hk⟩ := hk
    refine pure_ _ hk (by rw [hc]; simp [cvCls]) fun φ w x' hx' => ?_
    rw [hv] at hx'
    obtain ⟨t, rfl, ht⟩ := hx'.str_inv
    exact ⟨.string t, by simp [convert, runU hs, runU hd], .str ht⟩
  · rename_i el hs hd
    simp only [bb_some, Option.some.injEq] at hq
    obtain ⟨hb, rfl⟩ := hq
    obtain ⟨hel, _⟩ := tByte_some hb
    simp only [asStrK_good] at hk
    obtain ⟨l, c, hv, hk⟩ := hk
    obtain ⟨nx', hn, h', hh', hk⟩ := hh.push (o := .bytes el l c 0 true) trivial hk
    refine ⟨_, _, _, _, hk, hh', .of_alloc (fun φ w ρ H nx₀ hR hfr hρ => ?_) hn trivial (by rw [hc]; simp [cvCls])⟩
    have hx' := hρ.opd hR hx
    rw [hv] at hx'
    obtain ⟨t, hy, ht⟩ := hx'.str_inv
    have hsz := ht.1
    generalize hcap : l + w.tape w.drawn (Question.appendCap l 0 el) % (2 ^ 63 - l) = cap
    have hle : l ≤ cap := by omega
    have hcs : ((t.data.map fun (b : UInt8) => Value.int .u8 b.toNat) ++ Array.replicate (cap - l) (Value.int .u8 0)).size = cap := by
      have : t.data.size = l := hsz
      simp only [Array.size_append, Array.size_map, Array.size_replicate, this]; omega
    refine ⟨.slice (some ⟨w.heap.size, 0, none⟩) l cap, .cells ((t.data.map fun (b : UInt8) => Value.int .u8 b.toNat) ++ Array.replicate (cap - l) (Value.int .u8 0)) el (cap, cap + 1), cap, w.drawn + 1, ?_, ?_, ?_⟩
    · simp only [execOp, ho, hy, convert, Sem.run_bind, runU hs, runU hd, runU hel, Result.andThen_ok, Conv.stringToBytes, run_choose, Question.forced, Bool.false_eq_true, if_false, Question.cut, newRow, run_newObj, Sem.run_pure, markStringish, run_shape, World.shape?, hsz, hcap, Array.getElem?_push_size, hcs, run_freeze]
      have := freeze_push { w with drawn := w.drawn + 1 } ((t.data.map fun b => Value.int .u8 b.toNat) ++ Array.replicate (cap - l) (.int .u8 0)) el cap
      simp only at this
      rw [this]; rfl
    · exact .slice (p := ⟨w.heap.size, 0, cap⟩) _ _ _ _ _ cap (updP_same _ _ _) hle hle (.inl rfl) (.inr ⟨rfl, by simp⟩)
    · refine ⟨_, _, rfl, hcs, by simpa using hle, .inr ⟨rfl, rfl, Nat.le_refl _⟩, fun i hi => ?_⟩
      have hi' : i < t.data.size := by have : t.data.size = l := hsz; omega
      simp only [Nat.zero_add]
      rw [Array.getElem?_append_left (by simpa using hi'), Array.getElem?_map, Array.getElem?_eq_getElem hi', ht.byte, byteOf_lt hi']
      rfl
  · rename_i el hs hd
    simp only [bb_some, Option.some.injEq] at hq
    obtain ⟨hb, rfl⟩ := hq
    obtain ⟨hel, _⟩ := tByte_some hb
    simp only [asSlK_good] at hk
    rcases hk with ⟨hv, hk⟩ | ⟨b, i, n, lo, hi, z, hv, hk⟩
    · refine read_ _ hk (by rw [hc]; rfl) fun φ w nx x' hR hx' => ?_
      rw [hv] at hx'
      exact ⟨.string .empty, by rw [hx'.nils_inv]; simp [convert, runU hs, runU hd, runU hel, Conv.bytesToString], .str ⟨rfl, rfl⟩⟩
    · obtain ⟨c, hk, hcd, hr⟩ := srcBytesK_good hh hk
      refine read_ _ hk (by rw [hc]; rfl) fun φ w nx x' hR hx' => ?_
      have hl := hr C.P φ w nx x' hR hx'
      rw [hv] at hx'
      obtain ⟨p, a, cc, hp, rfl, _⟩ := hx'.slice_inv
      simp only [Builtin.firstCells, Nat.mul_one] at hl
      obtain ⟨t, h1, h2⟩ := bytesToString_run (c := cc) hcd hl
      exact ⟨.string t, by rw [run_convert_bytes_string w s d el (some a) n cc hs hel hd]; exact h1, .str h2⟩
  · rename_i el0 el hs hd
    simp only [bb_some, Option.some.injEq] at hq
    obtain ⟨hb, rfl⟩ := hq
    simp only [andB_eq, beqB, Bool.and_eq_true, decide_eq_true_eq] at hb
    obtain ⟨hb, rfl⟩ := hb
    obtain ⟨hel, _⟩ := tByte_some hb
    have e0 : el0 = el := by rw [hd] at hs; cases hs; rfl
    subst e0
    simp only [asSlK_good, no_good, and_false, false_or, bbK_good, notB_eq, beqB, Bool.not_eq_true', decide_eq_false_iff_not, hh.get] at hk
    obtain ⟨b, i, n, lo, hi, z, hv, hnz, hk⟩ := hk
    have hnz : ¬ n + lo = 0 := hnz
    cases hob : H b <;> rw [hob] at hk <;> first | (exact absurd hk no_good) | skip
    rename_i ty m dd fz gg
    have hk : hsK b (.bytes ty m dd (m + 1) true) h (fun h => k (opdS x f) h) = .good := hk
    obtain ⟨h', hh', e⟩ := hh.set b (o := .bytes ty m dd (m + 1) true) trivial (fun h => k (opdS x f) h)
    rw [e] at hk
    refine ⟨_, h', _, nx, hk, hh', .of_op (fun φ w ρ hR hρ => ?_) (by rw [hc]; rfl)⟩
    have hx' := hρ.opd hR hx
    have hx0 := hx'
    rw [hv] at hx'
    obtain ⟨p, a, c, hp, hy, hnc, hlo, _, ha⟩ := hx'.slice_inv
    rcases ha with ha | ⟨rfl, _⟩
    · omega
    have hO := hR.obj _ _ hp
    rw [hob] at hO
    obtain ⟨cc, fr, h1, h2, h3, _, h5⟩ := hO
    have hs1 : w.shape? (p.addr i).block = some (ty, cc.size) := by simp [World.shape?, PB.addr, h1]
    have hown : (H b).own = true := by rw [hob]; rfl
    have hl : (H b).isNone = false := by rw [hob]; rfl
    refine ⟨φ, w.put p.blk (.cells cc ty (if fr.1 == fr.2 then (cc.size, cc.size + 1) else (min fr.1 cc.size, max fr.2 (cc.size + 1)))), .value (ρ x), ?_, ⟨ρ x, hx0, .inl rfl⟩, hR.put hp hl ?_, Grows.put hp hown _ _⟩
    · simp only [execOp, ho, hy, convert, Sem.run_bind, runU hs, runU hd, runU hel, Result.andThen_ok, beq_self_eq_true, markStringish, run_shape, hs1, run_freeze, Sem.run_pure]
      rw [show (p.addr i).block = p.blk from rfl, freeze_put h1]
    · exact ⟨cc, _, rfl, h2, h3, .inl (.inr (.inr (Nat.lt_succ_self _))), h5⟩
  · rename_i t hs hd
    simp only [ob_some, bb_some, notB_eq, beqB, Option.some.injEq] at hq
    obtain ⟨n, hn, hne, rfl⟩ := hq
    have hn0 : ¬ n = 0 := by simpa using hne
    simp only [asPtrK_good, hh.get, bbK_good] at hk
    obtain ⟨b, i, hv, hho, hk⟩ := hk
    refine read_ _ hk (by rw [hc]; rfl) fun φ w nx x' hR hx' => ?_
    rw [hv] at hx'
    obtain ⟨p, hp, rfl⟩ := hx'.ptr_inv
    refine ⟨.pointer (some (p.addr i)), ?_, .ptr i hp⟩
    have hO := hR.obj _ _ hp
    have hcell : ∃ cc ty fr, w.heap[p.blk]? = some (.cells cc ty fr) ∧ i + p.sh < cc.size := by
      cases hob : H b <;> rw [hob] at hho hO <;> simp only [holds, Bool.false_eq_true, ltB, decide_eq_true_eq] at hho
      · obtain ⟨cc, fr, h1, h2, h3, _⟩ := hO; exact ⟨cc, _, fr, h1, by omega⟩
      · obtain ⟨cc, fr, h1, h2, h3, _⟩ := hO; exact ⟨cc, _, fr, h1, by omega⟩
    obtain ⟨cc, ty, fr, h1, h2⟩ := hcell
    have hs1 : w.shape? (p.addr i).block = some (ty, cc.size) := by simp [World.shape?, PB.addr, h1]
    have hnot : ¬ cc.size ≤ (p.addr i).off := by simp only [PB.addr]; omega
    simp [convert, runU hs, runU hd, Conv.unsafePointer, Conv.seenAt, viewAt, cellsIn, hs1, hnot, runS hn, hn0]
  · rename_i t hs hd
    simp only [ob_some, Option.some.injEq] at hq
    obtain ⟨sz, hsz, rfl⟩ := hq
    simp only [asPtrK_good, hh.get] at hk
    obtain ⟨b, i, hv, hk⟩ := hk
    cases hob : H b <;> rw [hob] at hk <;> first | (exact absurd hk no_good) | skip
    rename_i ty n ct kd
    cases kd <;> first | (exact absurd hk no_good) | skip
    have hk : bbK (liesAt C.P C.P.depth ty (n / C.P.cellsOf ty) i t 1) (k (.ptr b i) h) = .good := hk
    simp only [bbK_good] at hk
    obtain ⟨hlies, hk⟩ := hk
    refine read_ _ hk (by rw [hc]; rfl) fun φ w nx x' hR hx' => ?_
    rw [hv] at hx'
    obtain ⟨p, hp, rfl⟩ := hx'.ptr_inv
    refine ⟨.pointer (some (p.addr i)), ?_, .ptr i hp⟩
    have hO := hR.obj _ _ hp
    rw [hob] at hO
    obtain ⟨cc, fr, h1, h2, h3, _, h5, _⟩ := hO
    obtain ⟨h6, h7⟩ := h5 rfl
    have hs1 : w.shape? (p.addr i).block = some (ty, cc.size) := by simp [World.shape?, PB.addr, h1]
    have hoff : (p.addr i).off = i := by simp [PB.addr, h6]
    have hcn : cc.size = n := by omega
    simp [convert, runU hs, runU hd, Conv.unsafePointer, Conv.seenAt, viewAt, hs1, runS hsz, variablesAt, hoff, hcn, hlies]
  · rename_i j hs hd
    cases hq
    simp only [asNatK_good, bbK_good, bleB, decide_eq_true_eq] at hk
    obtain ⟨i, n, hv, hn, hk⟩ := hk
    refine pure_ _ hk (by rw [hc]; simp [cvCls]) fun φ w x' hx' => ?_
    rw [hv] at hx'
    exact ⟨.string (Utf8.encode (n : Int)), by rw [hx'.int_inv]; simp [convert, runU hs, runU hd, Conv.intToString], .str (encode_small hn)⟩
  · cases hq
end
end Go.Ev
end

section
set_option maxRecDepth 2000
set_option autoImplicit false
set_option linter.unusedSimpArgs false
set_option linter.unusedVariables false
namespace Go.Ev

/-! ### keys -/
/-- The keys' type. -/
def QTy (P : Program) (kt : TypeId) (q : KeyK) : Prop := match q with
  | .int => ∃ k, P.underlying kt = some (.int k)
  | .str => P.underlying kt = some .string
  | .arr len => ∃ e k, P.underlying kt = some (.array len e) ∧ P.underlying e = some (.int k) ∧ tSize P e = some 1
theorem keyKind_some {P : Program} {t : TypeId} {q : KeyK × TypeId} (h : keyKind P t = some q) : ∃ kt, P.underlying t = some (.map kt q.2) ∧ QTy P kt q.1 := by
  simp only [keyKind] at h
  split at h
  · rename_i kt el hu
    split at h
    · rename_i k hk; cases h; exact ⟨kt, hu, k, hk⟩
    · rename_i hk; cases h; exact ⟨kt, hu, hk⟩
    · rename_i len e hk
      simp only [bb_some, ob_some, beqB, decide_eq_true_eq, Option.some.injEq, intElem] at h
      obtain ⟨hi, n, hn, rfl, rfl⟩ := h
      split at hi
      · rename_i k hk'; exact ⟨kt, hu, e, k, hk, hk', hn⟩
      · cases hi
    · cases h
  · cases h
/-- What the comparing of two keys says on the machine's side. -/
def KEq (q : KeyK) (x y : AV) (r : Bool) : Prop := ∀ (P : Program) (kt : TypeId) (d : TypeDesc) (φ : Phi) (w : World) (x' y' : Value), QTy P kt q → P.underlying kt = some d → VR φ x x' → VR φ y y' →
  (match q with | .arr _ => Instr.sameNow d x' y' = none ∧ (Op.equal kt x' y').run P w = .ok r w | _ => Instr.sameNow d x' y' = some r) ∧ (r = true → ∀ n, Instr.sameBits (n + 2) y' x' = true)
def KeyR (q : KeyK) (x y : AV) (r : Bool) : Prop := (∀ K : Bool → A, keyEqK q x y K = K r) ∧ KEq q x y r
theorem keyR_int {j : IntKind} {a b : Int} {x y : AV} (hx : ∀ φ x', VR φ x x' → x' = .int j a) (hy : ∀ φ y', VR φ y y' → y' = .int j b) {r : Bool} (hr : r = (a == b)) : KEq .int x y r := by
  intro P kt d φ w x' y' hq hd h1 h2
  obtain ⟨k, hk⟩ := hq
  rw [hk] at hd; cases hd
  rw [hx φ x' h1, hy φ y' h2]
  subst hr
  refine ⟨by simp [Instr.sameNow], fun h n => ?_⟩
  have : a = b := by simpa using h
  subst this
  simp [Instr.sameBits]
theorem intsEqK_det : ∀ {xs ys : List AV} {k : Bool → A}, intsEqK xs ys k = .good → ∃ r, ∀ K : Bool → A, intsEqK xs ys K = K r
  | [], [], k, hk => ⟨true, fun K => rfl⟩
  | [], y :: ys, k, hk => absurd hk no_good
  | x :: xs, [], k, hk => absurd hk no_good
  | x :: xs, y :: ys, k, hk => by
    have e : ∀ K : Bool → A, intsEqK (x :: xs) (y :: ys) K = asNatK x (fun j a => asNatK y fun j' b => bbK (kindEq j j') (intsEqK xs ys fun t => K (andB (Nat.beq a b) t))) := fun K => rfl
    rw [e] at hk
    simp only [asNatK_good, bbK_good, kindEq_eq, decide_eq_true_eq] at hk
    obtain ⟨j, a, hxa, j', b, hyb, hjj, hk1⟩ := hk
    obtain ⟨r, hr⟩ := intsEqK_det hk1
    subst hxa hyb hjj
    refine ⟨andB (Nat.beq a b) r, fun K => ?_⟩
    rw [e]
    have : kindEq j j = true := by simp
    simp only [asNatK, bbK, this, hr]
theorem keyEqK_good {q : KeyK} {x y : AV} {k : Bool → A} (hk : keyEqK q x y k = .good) : ∃ r, k r = .good ∧ KeyR q x y r := by
  cases q with
  | int =>
    replace hk : asIntK x (fun j a => asIntK y (fun j' b => bbK (kindEq j j') (k (Nat.beq a b))) fun j' _ => bbK (kindEq j j') (k false)) (fun j a => asIntK y (fun j' _ => bbK (kindEq j j') (k false)) fun j' b => bbK (kindEq j j') (k (Nat.beq a b))) = .good := hk
    simp only [asIntK_good, bbK_good, kindEq_eq, decide_eq_true_eq] at hk
    have kk : ∀ j : IntKind, kindEq j j = true := fun j => by simp
    rcases hk with ⟨j, a, rfl, ⟨j', b, rfl, rfl, hk⟩ | ⟨j', b, rfl, rfl, hk⟩⟩ | ⟨j, a, rfl, ⟨j', b, rfl, rfl, hk⟩ | ⟨j', b, rfl, rfl, hk⟩⟩
    · exact ⟨_, hk, fun K => by simp only [keyEqK, asIntK, bbK, kk], keyR_int (fun φ x' h => h.int_inv) (fun φ y' h => h.int_inv) (by rw [Bool.eq_iff_iff]; simp <;> omega)⟩
    · exact ⟨_, hk, fun K => by simp only [keyEqK, asIntK, bbK, kk], keyR_int (fun φ x' h => h.int_inv) (fun φ y' h => h.neg_inv) (by rw [Bool.eq_iff_iff]; simp <;> omega)⟩
    · exact ⟨_, hk, fun K => by simp only [keyEqK, asIntK, bbK, kk], keyR_int (fun φ x' h => h.neg_inv) (fun φ y' h => h.int_inv) (by rw [Bool.eq_iff_iff]; simp <;> omega)⟩
    · exact ⟨_, hk, fun K => by simp only [keyEqK, asIntK, bbK, kk], keyR_int (fun φ x' h => h.neg_inv) (fun φ y' h => h.neg_inv) (by rw [Bool.eq_iff_iff]; simp <;> omega)⟩
  | str =>
    replace hk : asStrK x (fun l d => asStrK y fun m c => k (strEq l d m c)) = .good := hk
    simp only [asStrK_good] at hk
    obtain ⟨l, d, rfl, m, c, rfl, hk⟩ := hk
    refine ⟨_, hk, fun K => by simp only [keyEqK, asStrK], fun P kt dd φ w x' y' hq hd h1 h2 => ?_⟩
    have hq : P.underlying kt = some .string := hq
    rw [hq] at hd; cases hd
    obtain ⟨s, rfl, hs⟩ := h1.str_inv
    obtain ⟨s', rfl, hs'⟩ := h2.str_inv
    have e : strEq l d m c = (s == s') := by rw [strEq_eq hs hs', beq_toListBytes]
    refine ⟨by simp [Instr.sameNow, e], fun h n => ?_⟩
    rw [e] at h
    have : s = s' := by
      rw [beq_toListBytes, ByteArray.toList_eq, ByteArray.toList_eq] at h
      have h : s.data.toList = s'.data.toList := by simpa using h
      cases s; cases s'; congr; exact Array.toList_inj.1 h
    subst this
    simp [Instr.sameBits, beq_toListBytes]
  | arr len =>
    replace hk : asAggK x (fun xs => asAggK y fun ys => bbK (andB (lenIs xs len) (lenIs ys len)) (intsEqK xs ys k)) = .good := hk
    simp only [asAggK_good, bbK_good, andB_eq, Bool.and_eq_true, lenIs_eq, decide_eq_true_eq] at hk
    obtain ⟨xs, rfl, ys, rfl, ⟨hxl, hyl⟩, hk⟩ := hk
    obtain ⟨r₀, hd⟩ := intsEqK_det hk
    obtain ⟨r, hk, hr⟩ := intsEqK_good (k := fun b => if b = r₀ then k b else .bad 0 "") (by rw [hd]; rw [hd] at hk; simpa using hk)
    have hrr : r = r₀ := by
      by_cases h : r = r₀
      · exact h
      · simp [h] at hk
    subst hrr
    simp only [if_true] at hk
    refine ⟨r, hk, fun K => ?_, fun P kt dd φ w x' y' hq hdd h1 h2 => ?_⟩
    · have a1 : lenIs xs len = true := by simpa using hxl
      have a2 : lenIs ys len = true := by simpa using hyl
      show asAggK (AV.agg xs) (fun xs => asAggK (AV.agg ys) fun ys => bbK (andB (lenIs xs len) (lenIs ys len)) (intsEqK xs ys K)) = _
      simp only [asAggK, a1, a2, andB_eq, Bool.and_self, bbK, hd]
    · obtain ⟨e, kk, hq1, hq2, hq3⟩ := hq
      rw [hq1] at hdd; cases hdd
      obtain ⟨c, rfl, hc⟩ := h1.agg_inv
      obtain ⟨c', rfl, hc'⟩ := h2.agg_inv
      obtain ⟨g1, g2, g3⟩ := hr φ _ _ hc hc'
      have hcs : c.size = len := by have := hc.size; omega
      have hcs' : c'.size = len := by have := hc'.size; omega
      simp only [Array.length_toList, Array.getElem?_toList, hcs] at g2 g3
      refine ⟨⟨rfl, eqOf (run_eqArr hq1 hq2 hq3 9998 g2 g3 w)⟩, fun h n => ?_⟩
      have g3 := g3.1 h
      have hcc : c = c' := by
        apply Array.ext (by omega)
        intro i h1 h2
        have := g3 i (by omega)
        rw [Array.getElem?_eq_getElem h1, Array.getElem?_eq_getElem h2] at this
        exact Option.some.inj this
      subst hcc
      simp only [Instr.sameBits, BEq.rfl, Bool.true_and, List.all_eq_true]
      rintro ⟨u, v⟩ huv
      obtain ⟨i, hi, he⟩ := List.getElem_of_mem huv
      simp only [List.getElem_zip, Prod.mk.injEq] at he
      obtain ⟨rfl, rfl⟩ := he
      simp only [List.length_zip, Array.length_toList, Nat.min_self] at hi
      obtain ⟨j, a, b, h3, h4⟩ := g2 i (by omega)
      rw [Array.getElem?_eq_getElem hi] at h3
      have h3 := Option.some.inj h3
      simp only [Array.getElem_toList, h3, Instr.sameBits]
      simp
/-- Where the key stands, if it stands there. -/
inductive ScanR (q : KeyK) (x : AV) : List AEnt → Option Nat → Prop
  | nil : ScanR q x [] none
  | hit {y v : AV} {n : Nat} {r : List AEnt} (h : KeyR q x y true) : ScanR q x (.mk y v n :: r) (some 0)
  | miss {y v : AV} {n : Nat} {r : List AEnt} {i : Option Nat} (h : KeyR q x y false) (t : ScanR q x r i) : ScanR q x (.mk y v n :: r) (i.map (· + 1))
theorem findEK_good {q : KeyK} {x : AV} : ∀ {es : List AEnt} {z : A} {k : AV → AV → Nat → A}, findEK q x es z k = .good →
    ∃ i, ScanR q x es i ∧ (i = none → z = .good) ∧ ∀ j, i = some j → ∃ y v n, es[j]? = some (.mk y v n) ∧ k y v n = .good ∧ KeyR q x y true
  | [], z, k, hk => ⟨none, .nil, fun _ => hk, fun j h => by cases h⟩
  | .mk y v n :: r, z, k, hk => by
    replace hk : keyEqK q x y (fun t => Bool.rec (findEK q x r z k) (k y v n) t) = .good := hk
    obtain ⟨t, hk, hr⟩ := keyEqK_good hk
    cases t with
    | true => exact ⟨some 0, .hit hr, fun h => (by cases h), fun j h => by cases h; exact ⟨y, v, n, rfl, hk, hr⟩⟩
    | false =>
      obtain ⟨i, h1, h2, h3⟩ := findEK_good (es := r) hk
      refine ⟨i.map (· + 1), .miss hr h1, fun h => h2 (by cases i <;> simp_all), fun j h => ?_⟩
      cases i with
      | none => cases h
      | some i =>
        simp only [Option.map_some, Option.some.injEq] at h
        subst h
        obtain ⟨y', v', n', h4, h5, h6⟩ := h3 i rfl
        exact ⟨y', v', n', by simpa using h4, h5, h6⟩
theorem updEK_eq {q : KeyK} {x w : AV} : ∀ {es : List AEnt} {i : Option Nat} {j : Nat}, ScanR q x es i → i = some j → ∀ {y v : AV} {n : Nat}, es[j]? = some (.mk y v n) → ∀ K : List AEnt → A, updEK q x w es K = K (es.set j (.mk x w n))
  | _, _, j, .nil, h, _, _, _, _, _ => by cases h
  | _, _, j, .hit (y := y₀) (v := v₀) (n := n₀) (r := r₀) hr, h, y, v, n, he, K => by
    cases h
    simp only [List.getElem?_cons_zero, Option.some.injEq, AEnt.mk.injEq] at he
    obtain ⟨rfl, rfl, rfl⟩ := he
    have e : updEK q x w (.mk y₀ v₀ n₀ :: r₀) K = keyEqK q x y₀ (fun t => Bool.rec (updEK q x w r₀ fun r => K (.mk y₀ v₀ n₀ :: r)) (K (.mk x w n₀ :: r₀)) t) := rfl
    rw [e, hr.1]; rfl
  | _, _, j, .miss (y := y₀) (v := v₀) (n := n₀) (r := r₀) (i := i) hr t, h, y, v, n, he, K => by
    cases i with
    | none => cases h
    | some i =>
      simp only [Option.map_some, Option.some.injEq] at h
      subst h
      have e : updEK q x w (.mk y₀ v₀ n₀ :: r₀) K = keyEqK q x y₀ (fun t => Bool.rec (updEK q x w r₀ fun r => K (.mk y₀ v₀ n₀ :: r)) (K (.mk x w n₀ :: r₀)) t) := rfl
      rw [e, hr.1]
      show updEK q x w r₀ (fun r => K (.mk y₀ v₀ n₀ :: r)) = _
      rw [updEK_eq t rfl (by simpa using he)]
      rfl
/-- The entry there is struck. -/
def delAt (es : List AEnt) (i : Option Nat) : List AEnt := match i with | none => es | some j => es.eraseIdx j
theorem delEK_good {q : KeyK} {x : AV} : ∀ {es : List AEnt} {K : List AEnt → A}, delEK q x es K = .good →
    ∃ i, ScanR q x es i ∧ K (delAt es i) = .good
  | [], K, hk => ⟨none, .nil, hk⟩
  | .mk y v n :: r, K, hk => by
    replace hk : keyEqK q x y (fun t => Bool.rec (delEK q x r fun r => K (.mk y v n :: r)) (K r) t) = .good := hk
    obtain ⟨t, hk, hr⟩ := keyEqK_good hk
    cases t with
    | true => exact ⟨some 0, .hit hr, hk⟩
    | false =>
      obtain ⟨i, h1, h2⟩ := delEK_good (es := r) hk
      refine ⟨i.map (· + 1), .miss hr h1, ?_⟩
      cases i <;> exact h2
theorem EntsR.length {φ : Phi} {es : List AEnt} {es' : List MapEntry} (h : EntsR φ es es') : es.length = es'.length := by
  induction h with
  | nil => rfl
  | cons _ _ _ _ ih => simp [ih]
theorem EntsR.get {φ : Phi} {es : List AEnt} {es' : List MapEntry} (h : EntsR φ es es') : ∀ {j : Nat} {y v : AV} {n : Nat}, es[j]? = some (.mk y v n) → ∃ y' v', es'[j]? = some { key := y', val := v', born := n } ∧ VR φ y y' ∧ VR φ v v' := by
  induction h with
  | nil => intro j y v n h; simp at h
  | cons m hk hv _ ih =>
    intro j y v n h
    cases j with
    | zero =>
      simp only [List.getElem?_cons_zero, Option.some.injEq, AEnt.mk.injEq] at h
      obtain ⟨rfl, rfl, rfl⟩ := h
      exact ⟨_, _, rfl, hk, hv⟩
    | succ j => exact ih (by simpa using h)
/-- The model's own search. -/
theorem ScanR.now {P : Program} {kt : TypeId} {d : TypeDesc} {q : KeyK} (hs : ∀ n, q ≠ .arr n) (hq : QTy P kt q) (hd : P.underlying kt = some d) {x : AV} {φ : Phi} {x' : Value} (hx : VR φ x x') {es : List AEnt} {i : Option Nat} (h : ScanR q x es i) :
    ∀ {es' : List MapEntry}, EntsR φ es es' → ∀ b, Instr.findNow d x' es' b = some (i.bind fun j => (es'[j]?).map fun e => (b + j, e.val)) := by
  induction h with
  | nil => intro es' he b; cases he; rfl
  | @hit y v n r hr =>
    intro es' he b
    cases he with
    | @cons _ _ y' v' _ _ rest hk hv _ =>
    have := (hr.2 P kt d φ default x' y' hq hd hx hk).1
    cases q with
    | arr n => exact absurd rfl (hs n)
    | int => simp only [Instr.findNow, this]; rfl
    | str => simp only [Instr.findNow, this]; rfl
  | @miss y v n r i hr t ih =>
    intro es' he b
    cases he with
    | @cons _ _ y' v' _ _ rest hk hv hrest =>
    have := (hr.2 P kt d φ default x' y' hq hd hx hk).1
    have ih := ih hrest (b + 1)
    have fin : Instr.findNow d x' rest (b + 1) = some ((i.map (· + 1)).bind fun j => (({ key := y', val := v', born := n } :: rest)[j]?).map fun e => (b + j, e.val)) := by
      rw [ih]
      cases i with
      | none => rfl
      | some i => simp [Nat.add_assoc, Nat.add_comm 1 i]
    cases q with
    | arr n => exact absurd rfl (hs n)
    | int => simp only [Instr.findNow, this]; exact fin
    | str => simp only [Instr.findNow, this]; exact fin
theorem ScanR.asking {P : Program} {kt : TypeId} {d : TypeDesc} {len : Nat} (hq : QTy P kt (.arr len)) (hd : P.underlying kt = some d) {x : AV} {φ : Phi} {x' : Value} (hx : VR φ x x') {es : List AEnt} {i : Option Nat} (w : World) (h : ScanR (.arr len) x es i) :
    ∀ {es' : List MapEntry}, EntsR φ es es' → ∀ b, (Instr.findAsking kt x' es' b).run P w = .ok (i.bind fun j => (es'[j]?).map fun e => (b + j, e.val)) w ∧ (es' ≠ [] → Instr.findNow d x' es' b = none) := by
  induction h with
  | nil => intro es' he b; cases he; exact ⟨rfl, fun h => absurd rfl h⟩
  | @hit y v n r hr =>
    intro es' he b
    cases he with
    | @cons _ _ y' v' _ _ rest hk hv _ =>
    obtain ⟨⟨h1, h2⟩, _⟩ := hr.2 P kt d φ w x' y' hq hd hx hk
    exact ⟨by simp [Instr.findAsking, h2], fun _ => by simp only [Instr.findNow, h1]⟩
  | @miss y v n r i hr t ih =>
    intro es' he b
    cases he with
    | @cons _ _ y' v' _ _ rest hk hv hrest =>
    obtain ⟨⟨h1, h2⟩, _⟩ := hr.2 P kt d φ w x' y' hq hd hx hk
    refine ⟨?_, fun _ => by simp only [Instr.findNow, h1]⟩
    simp only [Instr.findAsking, Sem.run_bind, h2, Result.andThen_ok, Bool.false_eq_true, if_false, (ih hrest (b + 1)).1]
    cases i with
    | none => rfl
    | some i => simp [Nat.add_assoc, Nat.add_comm 1 i]
theorem ScanR.run {P : Program} {kt : TypeId} {q : KeyK} (hq : QTy P kt q) {x : AV} {φ : Phi} {x' : Value} (hx : VR φ x x') {es : List AEnt} {i : Option Nat} (h : ScanR q x es i) {es' : List MapEntry} (he : EntsR φ es es') (w : World) :
    (Instr.findKey kt x' es').run P w = .ok (i.bind fun j => (es'[j]?).map fun e => (j, e.val)) w := by
  have hd : ∃ d, P.underlying kt = some d := by
    cases q with
    | int => obtain ⟨k, hk⟩ := hq; exact ⟨_, hk⟩
    | str => exact ⟨_, hq⟩
    | arr len => obtain ⟨e, k, hk, _⟩ := hq; exact ⟨_, hk⟩
  obtain ⟨d, hd⟩ := hd
  cases q with
  | int =>
    have := h.now (fun n => by simp) hq hd hx he 0
    simp only [Nat.zero_add] at this
    simp only [Instr.findKey, Sem.run_bind, runU hd, Result.andThen_ok, this, Sem.run_pure]
  | str =>
    have := h.now (fun n => by simp) hq hd hx he 0
    simp only [Nat.zero_add] at this
    simp only [Instr.findKey, Sem.run_bind, runU hd, Result.andThen_ok, this, Sem.run_pure]
  | arr len =>
    obtain ⟨h1, h2⟩ := h.asking hq hd hx w he 0
    simp only [Nat.zero_add] at h1
    by_cases hne : es' = []
    · subst hne
      cases he
      cases h
      simp only [Instr.findKey, Sem.run_bind, runU hd, Result.andThen_ok, Instr.findNow, Sem.run_pure]; rfl
    · simp only [Instr.findKey, Sem.run_bind, runU hd, Result.andThen_ok, h2 hne]
      exact h1
theorem checkKey_cell {P : Program} {el : TypeId} {k : IntKind} (hel : P.underlying el = some (.int k)) (em : Bool) (d : Nat) (v : Value) (w : World) : (Instr.checkKey em (d + 1) el v).run P w = .ok () w := by
  simp [Instr.checkKey, runU hel]
theorem checkKey_loop {P : Program} {el : TypeId} {k : IntKind} (hel : P.underlying el = some (.int k)) (hag : tCell P el = some false) (hn : tSize P el = some 1) (em : Bool) (d : Nat) {cs : Array Value} (w : World) : ∀ (n i : Nat), i + n ≤ cs.size →
    (forIn (m := Sem) (List.range' i n 1) PUnit.unit fun i __s => do
      let __do_lift ← sizeOf el
      let __do_lift ← part el cs (i * __do_lift)
      Instr.checkKey em (d + 1) el __do_lift
      pure (ForInStep.yield PUnit.unit)).run P w = .ok PUnit.unit w
  | 0, i, h => by simp
  | n + 1, i, h => by
    have hp : (part el cs (i * 1)).run P w = .ok (cs[i]'(by omega)) w := by simp [part, runAgg hag, Array.getElem?_eq_getElem (show i < cs.size by omega)]
    rw [List.range'_succ]
    simp only [List.forIn_cons, Sem.run_bind, runS hn, Result.andThen_ok, hp, checkKey_cell hel, Sem.run_pure]
    exact checkKey_loop hel hag hn em d w n (i + 1) (by omega)
theorem checkKey_run {P : Program} {kt : TypeId} {q : KeyK} (hq : QTy P kt q) {x : AV} {r : Bool} (hr : KeyR q x x r) {φ : Phi} {x' : Value} (hx : VR φ x x') (em : Bool) (w : World) : (Instr.checkKey em 10000 kt x').run P w = .ok () w := by
  have gen : ∀ d, (Instr.checkKey em (d + 2) kt x').run P w = .ok () w := by
    intro d
    cases q with
    | int =>
      obtain ⟨k, hk⟩ := hq
      exact checkKey_cell hk em (d + 1) x' w
    | str =>
      have hq : P.underlying kt = some .string := hq
      simp [Instr.checkKey, runU hq]
    | arr len =>
      obtain ⟨el, k, h1, h2, h3⟩ := hq
      have hag : tCell P el = some false := by simp [tCell, h2, h3, ob, bb]
      have hs : ∃ c : Array Value, x' = .agg c ∧ c.size = len := by
        have := hr.1 (fun b => if b = r then .good else .bad 0 "")
        simp only [if_true] at this
        have hk : asAggK x (fun xs => asAggK x fun ys => bbK (andB (lenIs xs len) (lenIs ys len)) (intsEqK xs ys fun b => if b = r then .good else .bad 0 "")) = .good := this
        simp only [asAggK_good, bbK_good, andB_eq, Bool.and_eq_true, lenIs_eq, decide_eq_true_eq] at hk
        obtain ⟨xs, rfl, ys, _, ⟨hxl, _⟩, _⟩ := hk
        obtain ⟨c, rfl, hc⟩ := hx.agg_inv
        exact ⟨c, rfl, by have := hc.size; omega⟩
      obtain ⟨c, rfl, hc⟩ := hs
      unfold Instr.checkKey
      simp only [Sem.run_bind, runU h1, Result.andThen_ok]
      rw [Std.Legacy.Range.forIn_eq_forIn_range']
      have e : List.range' (⟨0, len, 1, by decide⟩ : Std.Legacy.Range).start (⟨0, len, 1, by decide⟩ : Std.Legacy.Range).size (⟨0, len, 1, by decide⟩ : Std.Legacy.Range).step = List.range' 0 len 1 := by
        simp [Std.Legacy.Range.size]
      rw [e]
      have := checkKey_loop h2 hag h3 em d (cs := c) w len 0 (by omega)
      rw [this]; rfl
  exact gen 9998
end Go.Ev
end

section
set_option maxRecDepth 2000
set_option autoImplicit false
set_option linter.unusedSimpArgs false
set_option linter.unusedVariables false
namespace Go.Ev

section
variable {C : Cx} {e : Env} {f : Nat → AV} {h : Heap} {k : AV → Heap → A} {o : Oper}
theorem foundK_good {ok t : Bool} {v : AV} {k : AV → A} (hk : foundK ok v t k = .good) : ∃ r, k r = .good ∧ ∀ (φ : Phi) (v' : Value), VR φ v v' → VR φ r (if ok then .tuple #[v', .bool t] else v') := by
  cases ok with
  | true => exact ⟨_, hk, fun φ v' hv => .tuple (.cons hv (.cons (.bool t) .nil))⟩
  | false => exact ⟨_, hk, fun φ v' hv => hv⟩
theorem asMapO_good {o : AObj} {k : List AEnt → Nat → A} (hk : asMapO o k = .good) : ∃ es c, o = .map es c ∧ k es c = .good := by
  cases o <;> first | (exact absurd hk no_good) | exact ⟨_, _, rfl, hk⟩
theorem getObj_map {P : Program} {w : World} {r : Nat} {es : Array MapEntry} {c : Nat} (h : w.heap[r]? = some (.map es c)) : (getObj r).run P w = .ok (.map es c) w := by
  simp only [getObj, Sem.run, h]
theorem setObj_put {P : Program} {w : World} {r : Nat} {o o' : Obj} (h : w.heap[r]? = some o) (hc : ∀ c e f, o ≠ .cells c e f) : (setObj r o').run P w = .ok () (w.put r o') := by
  simp only [setObj, Sem.run, h]
  cases o <;> first | rfl | exact absurd rfl (hc _ _ _)
theorem setObj_map {P : Program} {w : World} {r : Nat} {es : Array MapEntry} {c : Nat} {o' : Obj} (h : w.heap[r]? = some (.map es c)) : (setObj r o').run P w = .ok () (w.put r o') := setObj_put h (by simp)
section
variable {P : Program} {u : TypeId} (t : TypeId) (w : World)
theorem ta_nil {d : TypeDesc} (hd : P.underlying u = some d) {z : Value} (hz : (zeroValue u).run P w = .ok z w) : (Instr.typeAssert .nilIface t u true).run P w = .ok (.tuple #[z, .bool false]) w := by
  cases d <;> simp [Instr.typeAssert, runU hd, hz]
theorem ta_conc {d : TypeDesc} (hd : P.underlying u = some d) (hn : ∀ ms, d ≠ .interface ms) (v : Value) (ok : Bool) : (Instr.typeAssert (.iface u v) t u ok).run P w = .ok (if ok then .tuple #[v, .bool true] else v) w := by
  cases d <;> first | (exact absurd rfl (hn _)) | simp [Instr.typeAssert, runU hd]
theorem ta_other {d : TypeDesc} (hd : P.underlying u = some d) (hn : ∀ ms, d ≠ .interface ms) {t' : TypeId} (hne : ¬ t' = u) (v : Value) {z : Value} (hz : (zeroValue u).run P w = .ok z w) : (Instr.typeAssert (.iface t' v) t u true).run P w = .ok (.tuple #[z, .bool false]) w := by
  cases d <;> first | (exact absurd rfl (hn _)) | simp [Instr.typeAssert, runU hd, hne, hz]
theorem ta_has {ms : Array (String × TypeId)} (hd : P.underlying u = some (.interface ms)) {t' : TypeId} {i : TypeInfo} (hi : P.info? t' = some i) (hm : Instr.missingMethod ms i.methods = none) (v : Value) (ok : Bool) :
    (Instr.typeAssert (.iface t' v) t u ok).run P w = .ok (if ok then .tuple #[.iface t' v, .bool true] else .iface t' v) w := by
  simp [Instr.typeAssert, runU hd, runI hi, hm]
theorem ta_lacks {ms : Array (String × TypeId)} (hd : P.underlying u = some (.interface ms)) {t' : TypeId} {i : TypeInfo} (hi : P.info? t' = some i) {m : String} (hm : Instr.missingMethod ms i.methods = some m) (v : Value) {z : Value} (hz : (zeroValue u).run P w = .ok z w) :
    (Instr.typeAssert (.iface t' v) t u true).run P w = .ok (.tuple #[z, .bool false]) w := by
  simp [Instr.typeAssert, runU hd, runI hi, hm, hz]
end
theorem typeAssertF_good (he : EnvIs e f) {x : Operand} {t u : TypeId} {ok : Bool} (ho : o.op = .typeAssert x t u ok) (hk : typeAssertF x u ok C e h k = .good) : ∃ v, k v h = .good ∧ PureS C.P o f v := by
  simp only [typeAssertF, obK_good, opdK_good he, asIfaceK_good, boolRec_good, bbK_good] at hk
  obtain ⟨g, hg, hx, hk⟩ := hk
  simp only [isIface, ob_some] at hg
  obtain ⟨d, hd, hg⟩ := hg
  have fin : ∀ v : AV, (∀ (φ : Phi) (w : World) (x' : Value), VR φ (opdS x f) x' → ∃ v', (Instr.typeAssert x' t u ok).run C.P w = .ok v' w ∧ VR φ v v') → PureS C.P o f v := by
    intro v hv φ w ρ H nx hR hρ
    obtain ⟨v', h1, h2⟩ := hv φ w _ (hρ.opd hR hx)
    exact ⟨v', by simp only [execOp, ho, Sem.run_bind, h1, Result.andThen_ok, Sem.run_pure], h2⟩
  rcases hk with ⟨hv, rfl, z, hz, hk⟩ | ⟨t', v, hv, r, hr, hk⟩
  · obtain ⟨z, rfl, hzr⟩ := tZero_some hz
    refine ⟨_, hk, fin _ fun φ w x' hx' => ?_⟩
    rw [hv] at hx'
    rw [hx'.nili_inv]
    exact ⟨_, ta_nil t w hd (hzr w), .tuple (.cons (ofValue_VR φ z) (.cons (.bool false) .nil))⟩
  · have hI : ∀ (φ : Phi) (x' : Value), VR φ (opdS x f) x' → ∃ y, x' = .iface t' y ∧ VR φ v y := by
      intro φ x' hx'
      rw [hv] at hx'
      exact hx'.iface_inv
    simp only [wants, hd] at hr
    by_cases hint : ∃ ms, d = .interface ms
    · obtain ⟨ms, rfl⟩ := hint
      simp only [Option.some.injEq] at hg
      subst hg
      simp only [ob_some] at hr
      obtain ⟨i, hi, hr⟩ := hr
      split at hr
      · rename_i hm
        cases hr
        rcases hk with ⟨_, hk⟩ | ⟨h0, _⟩
        · obtain ⟨v', hk, hf⟩ := foundK_good hk
          refine ⟨v', hk, fin _ fun φ w x' hx' => ?_⟩
          have hx2 := hx'
          obtain ⟨y, rfl, hy⟩ := hI φ x' hx'
          exact ⟨_, ta_has t w hd hi hm y ok, hf φ _ hx2⟩
        · cases h0
      · rename_i m hm
        cases hr
        rcases hk with ⟨h0, _⟩ | ⟨_, rfl, z, hz, hk⟩
        · cases h0
        · obtain ⟨z, rfl, hzr⟩ := tZero_some hz
          refine ⟨_, hk, fin _ fun φ w x' hx' => ?_⟩
          obtain ⟨y, rfl, hy⟩ := hI φ x' hx'
          exact ⟨_, ta_lacks t w hd hi hm y (hzr w), .tuple (.cons (ofValue_VR φ z) (.cons (.bool false) .nil))⟩
    · have hn : ∀ ms, d ≠ .interface ms := fun ms h => hint ⟨ms, h⟩
      have hr' : r = Nat.beq t' u := by cases d <;> first | (exact absurd rfl (hn _)) | (simp only [Option.some.injEq] at hr; exact hr.symm)
      have hg' : g = false := by cases d <;> first | (exact absurd rfl (hn _)) | (simp only [Option.some.injEq] at hg; exact hg.symm)
      subst hr' hg'
      simp only [beqB, decide_eq_true_eq, decide_eq_false_iff_not] at hk
      rcases hk with ⟨rfl, hk⟩ | ⟨hne, rfl, z, hz, hk⟩
      · obtain ⟨v', hk, hf⟩ := foundK_good hk
        refine ⟨v', hk, fin _ fun φ w x' hx' => ?_⟩
        obtain ⟨y, rfl, hy⟩ := hI φ x' hx'
        exact ⟨_, ta_conc t w hd hn y ok, hf φ _ hy⟩
      · obtain ⟨z, rfl, hzr⟩ := tZero_some hz
        refine ⟨_, hk, fin _ fun φ w x' hx' => ?_⟩
        obtain ⟨y, rfl, hy⟩ := hI φ x' hx'
        exact ⟨_, ta_other t w hd hn hne y (hzr w), .tuple (.cons (ofValue_VR φ z) (.cons (.bool false) .nil))⟩
end
end Go.Ev
end

section
set_option maxRecDepth 2000
set_option autoImplicit false
set_option linter.unusedSimpArgs false
set_option linter.unusedVariables false
namespace Go.Ev

section
variable {C : Cx} {e : Env} {f : Nat → AV} {h : Heap} {k : AV → Heap → A} {o : Oper}
theorem lookupF_good {H : Bid → AObj} {nx : Bid} (hh : HS h H nx) (he : EnvIs e f) {t : TypeId} {x i : Operand} {ok : Bool} (ho : o.op = .lookup t x i ok) (hk : lookupF t x i ok C e h k = .good) : ∃ v, k v h = .good ∧ ReadS C.P o f H v := by
  simp only [lookupF, obK_good, opdK_good he, asMapK_good] at hk
  obtain ⟨q, hq, hx, hi, hk⟩ := hk
  obtain ⟨kt, hu, hqt⟩ := keyKind_some hq
  have zero : ∀ (k' : AV → A), (obK (tZero C.P q.2) fun z => foundK ok z false k') = .good → ∃ v, k' v = .good ∧ ∃ z : Value, (∀ w, (zeroValue q.2).run C.P w = .ok z w) ∧ ∀ φ, VR φ v (if ok then .tuple #[z, .bool false] else z) := by
    intro k' hk
    simp only [obK_good] at hk
    obtain ⟨z, hz, hk⟩ := hk
    obtain ⟨z, rfl, hzr⟩ := tZero_some hz
    obtain ⟨r, hk, hr⟩ := foundK_good hk
    exact ⟨r, hk, z, hzr, fun φ => hr φ z (ofValue_VR φ z)⟩
  rcases hk with ⟨hv, hk⟩ | ⟨b, hv, hk⟩
  · obtain ⟨r, hk, hr⟩ := keyEqK_good hk
    obtain ⟨v, hk, z, hz, hvz⟩ := zero _ hk
    refine ⟨v, hk, fun φ w ρ nx hR hρ => ⟨if ok then .tuple #[z, .bool false] else z, ?_, hvz φ⟩⟩
    have hx' := hρ.opd hR hx
    rw [hv] at hx'
    have hy := hx'.nilm_inv
    have h1 := checkKey_run hqt hr (hρ.opd hR hi) true w
    have h2 := (ScanR.nil (q := q.1) (x := opdS i f)).run (P := C.P) hqt (hρ.opd hR hi) EntsR.nil w
    have h2 : (Instr.findKey kt (ρ i) []).run C.P w = .ok none w := h2
    simp only [execOp, ho, Instr.lookup, Sem.run_bind, runU hu, Result.andThen_ok, hy, Sem.run_pure, Array.isEmpty_empty, h1, h2, hz w]
  · simp only [hh.get] at hk
    obtain ⟨es, c, hob, hk⟩ := asMapO_good hk
    obtain ⟨r, hk, hr⟩ := keyEqK_good hk
    obtain ⟨j, hs, hn, hsm⟩ := findEK_good hk
    have base : ∀ (φ : Phi) (w : World) (ρ : Operand → Value) (nx : Bid), R φ H nx w → VRho φ f ρ → ∃ es' : Array MapEntry, EntsR φ es es'.toList ∧ (execOp ρ o).run C.P w = (((match j.bind fun j => (es'.toList[j]?).map fun e => (j, e.val) with
        | some (_, v) => pure (v, true)
        | none => do pure (← zeroValue q.2, false)) : Sem (Value × Bool)).run C.P w).andThen fun r w' => .ok (.value (if ok then .tuple #[r.1, .bool r.2] else r.1)) w' := by
      intro φ w ρ nx hR hρ
      have hx' := hρ.opd hR hx
      rw [hv] at hx'
      obtain ⟨p, hp, hy⟩ := hx'.map_inv
      have hO := hR.obj _ _ hp
      rw [hob] at hO
      obtain ⟨_, es', hc, hE⟩ := hO
      refine ⟨es', hE, ?_⟩
      have h1 := checkKey_run hqt hr (hρ.opd hR hi) es'.isEmpty w
      have h2 := hs.run (P := C.P) hqt (hρ.opd hR hi) hE w
      simp only [execOp, ho, Instr.lookup, Sem.run_bind, runU hu, Result.andThen_ok, hy, getObj_map hc, Sem.run_pure, h1, h2]
      generalize (j.bind fun j => (es'.toList[j]?).map fun e => (j, e.val)) = m
      cases m with
      | none =>
        simp only [Sem.run_bind]
        cases (zeroValue q.2).run C.P w <;> rfl
      | some a => rfl
    cases j with
    | none =>
      obtain ⟨v, hk, z, hz, hvz⟩ := zero _ (hn rfl)
      refine ⟨v, hk, fun φ w ρ nx hR hρ => ?_⟩
      obtain ⟨es', hE, hrun⟩ := base φ w ρ nx hR hρ
      refine ⟨_, ?_, hvz φ⟩
      rw [hrun]
      simp only [Option.bind_none, Sem.run_bind, hz w, Result.andThen_ok, Sem.run_pure]
    | some j =>
      obtain ⟨y, v, n, hj, hk, hkr⟩ := hsm j rfl
      obtain ⟨v', hk, hv'⟩ := foundK_good hk
      refine ⟨v', hk, fun φ w ρ nx hR hρ => ?_⟩
      obtain ⟨es', hE, hrun⟩ := base φ w ρ nx hR hρ
      obtain ⟨y', w', hj', hy', hw'⟩ := hE.get hj
      refine ⟨_, ?_, hv' φ w' hw'⟩
      rw [hrun]
      simp only [Option.bind_some, hj', Option.map_some, Sem.run_pure, Result.andThen_ok]
theorem EntsR.modify {φ : Phi} {es : List AEnt} {es' : List MapEntry} (h : EntsR φ es es') : ∀ {j : Nat} {y v a b : AV} {n : Nat} {g : MapEntry → MapEntry}, es[j]? = some (.mk y v n) → (∀ e' : MapEntry, e'.born = n → VR φ y e'.key → VR φ v e'.val → VR φ a (g e').key ∧ VR φ b (g e').val ∧ (g e').born = n) →
    EntsR φ (es.set j (.mk a b n)) (es'.modify j g) := by
  induction h with
  | nil => intro j y v a b n g h; simp at h
  | @cons k' v' k'' v'' m es es' hk hv h ih =>
    intro j y v a b n g he hg
    cases j with
    | zero =>
      simp only [List.getElem?_cons_zero, Option.some.injEq, AEnt.mk.injEq] at he
      obtain ⟨rfl, rfl, rfl⟩ := he
      obtain ⟨h1, h2, h3⟩ := hg { key := k'', val := v'', born := m } rfl hk hv
      have h4 := EntsR.cons (φ := φ) (g { key := k'', val := v'', born := m }).born h1 h2 h
      have e1 : AEnt.mk a b m = AEnt.mk a b (g { key := k'', val := v'', born := m }).born := by rw [h3]
      show EntsR φ (.mk a b m :: es) (g { key := k'', val := v'', born := m } :: es')
      rw [e1]
      exact h4
    | succ j =>
      have := ih (j := j) (by simpa using he) hg
      simpa using EntsR.cons m hk hv this
theorem EntsR.snoc {φ : Phi} {es : List AEnt} {es' : List MapEntry} (h : EntsR φ es es') {a b : AV} {a' b' : Value} (ha : VR φ a a') (hb : VR φ b b') (n : Nat) : EntsR φ (es ++ [.mk a b n]) (es' ++ [{ key := a', val := b', born := n }]) := by
  induction h with
  | nil => exact .cons n ha hb .nil
  | cons m hk hv _ ih => exact .cons m hk hv ih
theorem EntsR.erase {φ : Phi} {es : List AEnt} {es' : List MapEntry} (h : EntsR φ es es') : ∀ j, EntsR φ (es.eraseIdx j) (es'.eraseIdx j) := by
  induction h with
  | nil => intro j; simp; exact .nil
  | cons m hk hv h ih =>
    intro j
    cases j with
    | zero => simpa using h
    | succ j => simpa using EntsR.cons m hk hv (ih j)
/-- A table is written. -/
theorem map_put {φ : Phi} {H : Bid → AObj} {nx : Bid} {w : World} {b : Bid} {p : PB} {es es₂ : List AEnt} {c c₂ : Nat} {es' : Array MapEntry} (hR : R φ H nx w) (hp : φ b = some p) (hob : H b = .map es c) (hE : EntsR φ es₂ es'.toList) :
    R φ (updB H b (.map es₂ c₂)) nx (w.put p.blk (.map es' c₂)) ∧ Grows φ H nx w φ (updB H b (.map es₂ c₂)) nx (w.put p.blk (.map es' c₂)) := by
  have hO := hR.obj _ _ hp
  rw [hob] at hO
  obtain ⟨h0, _⟩ := hO
  exact ⟨hR.put hp (by rw [hob]; rfl) ⟨h0, es', rfl, hE⟩, Grows.put hp (by rw [hob]; rfl) _ _⟩
theorem keyStays {P : Program} {w : World} {q : KeyK} {x y : AV} {kt : TypeId} {d : TypeDesc} {φ : Phi} {x' y' : Value} (hr : KeyR q x y true) (hq : QTy P kt q) (hd : P.underlying kt = some d) (hx : VR φ x x') (hy : VR φ y y') : (Instr.keyThatStays y' x').run P w = .ok x' w := by
  have := (hr.2 P kt d φ w x' y' hq hd hx hy).2 rfl 9998
  have : Instr.sameBits 10000 y' x' = true := this
  simp [Instr.keyThatStays, this]
theorem QTy.desc {P : Program} {kt : TypeId} {q : KeyK} (hq : QTy P kt q) : ∃ d, P.underlying kt = some d := by
  cases q with
  | int => obtain ⟨k, hk⟩ := hq; exact ⟨_, hk⟩
  | str => exact ⟨_, hq⟩
  | arr len => obtain ⟨e, k, hk, _⟩ := hq; exact ⟨_, hk⟩
theorem mapUpdateF_good {H : Bid → AObj} {nx : Bid} (hh : HS h H nx) (he : EnvIs e f) {t : TypeId} {m i v : Operand} (ho : o.op = .mapUpdate t m i v ∨ o.op = .insert t m i v) (hk : mapUpdateF t m i v C e h k = .good) :
    ∃ v' h' H', k v' h' = .good ∧ HS h' H' nx ∧ OpS C.P o f H nx v' H' nx := by
  simp only [mapUpdateF, obK_good, opdK_good he, asMapK_good, no_good', and_false, false_or, hh.get] at hk
  obtain ⟨q, hq, hm, b, hvm, hk⟩ := hk
  obtain ⟨kt, hu, hqt⟩ := keyKind_some hq
  obtain ⟨d, hd⟩ := hqt.desc
  obtain ⟨es, c, hob, hk⟩ := asMapO_good hk
  simp only [opdK_good he] at hk
  obtain ⟨hi, hv, hk⟩ := hk
  obtain ⟨r, hk, hr⟩ := keyEqK_good hk
  obtain ⟨j, hs, hn, hsm⟩ := findEK_good hk
  have base : ∀ (φ : Phi) (w : World) (ρ : Operand → Value), R φ H nx w → VRho φ f ρ → ∃ p, φ b = some p ∧ ∃ es' : Array MapEntry, EntsR φ es es'.toList ∧ w.heap[p.blk]? = some (.map es' c) ∧
      (execOp ρ o).run C.P w = ((match j.bind fun j => (es'.toList[j]?).map fun e => (j, e.val) with
        | some (i', _) => do
          let key ← Instr.keyThatStays (((es'[i']?).map (·.key)).getD (ρ i)) (ρ i)
          setObj p.blk (.map (es'.modify i' fun e => { e with key, val := ρ v }) c)
        | none => setObj p.blk (.map (es'.push { key := ρ i, val := ρ v, born := c }) (c + 1)) : Sem Unit).run C.P w).andThen fun _ w' => .ok .skip w' := by
    intro φ w ρ hR hρ
    have hm' := hρ.opd hR hm
    rw [hvm] at hm'
    obtain ⟨p, hp, hy⟩ := hm'.map_inv
    have hO := hR.obj _ _ hp
    rw [hob] at hO
    obtain ⟨_, es', hc, hE⟩ := hO
    refine ⟨p, hp, es', hE, hc, ?_⟩
    have h1 := checkKey_run hqt hr (hρ.opd hR hi) false w
    have h2 := hs.run (P := C.P) hqt (hρ.opd hR hi) hE w
    rcases ho with ho | ho <;>
    · simp only [execOp, ho, Instr.mapUpdate, Sem.run_bind, runU hu, Result.andThen_ok, hy, getObj_map hc, h1, h2, Sem.run_pure]
      generalize (j.bind fun j => (es'.toList[j]?).map fun e => (j, e.val)) = mm
      cases mm <;> simp only [Sem.run_bind]
  cases j with
  | none =>
    have hk := hn rfl
    simp only [newEntK, fN_eq, app_eq] at hk
    obtain ⟨h', hh', e'⟩ := hh.set b (o := .map (es ++ [.mk (opdS i f) (opdS v f) c]) (Nat.succ c)) trivial (fun h => k .undef h)
    rw [e'] at hk
    refine ⟨_, _, _, hk, hh', fun φ w ρ hR hρ => ?_⟩
    obtain ⟨p, hp, es', hE, hc, hrun⟩ := base φ w ρ hR hρ
    have hE' := hE.snoc (hρ.opd hR hi) (hρ.opd hR hv) c
    obtain ⟨h1, h2⟩ := map_put (c₂ := Nat.succ c) (es' := es'.push { key := ρ i, val := ρ v, born := c }) hR hp hob (by rw [Array.toList_push]; exact hE')
    refine ⟨φ, _, .skip, ?_, ⟨undef, .tuple .nil, .inr ⟨rfl, rfl⟩⟩, h1, h2⟩
    rw [hrun]
    simp only [Option.bind_none, setObj_map hc, Result.andThen_ok]
  | some j =>
    obtain ⟨y, v₀, n, hj, hk, hkr⟩ := hsm j rfl
    rw [updEK_eq hs rfl hj] at hk
    obtain ⟨h', hh', e'⟩ := hh.set b (o := .map (es.set j (.mk (opdS i f) (opdS v f) n)) c) trivial (fun h => k .undef h)
    rw [e'] at hk
    refine ⟨_, _, _, hk, hh', fun φ w ρ hR hρ => ?_⟩
    obtain ⟨p, hp, es', hE, hc, hrun⟩ := base φ w ρ hR hρ
    obtain ⟨y', w', hj', hy', hw'⟩ := hE.get hj
    have hj'' : es'[j]? = some { key := y', val := w', born := n } := by simpa using hj'
    have hks := keyStays (w := w) hkr hqt hd (hρ.opd hR hi) hy'
    have hE' := hE.modify (g := fun e => { e with key := ρ i, val := ρ v }) hj (fun e' hb _ _ => ⟨hρ.opd hR hi, hρ.opd hR hv, hb⟩)
    obtain ⟨h1, h2⟩ := map_put (c₂ := c) (es' := es'.modify j fun e => { e with key := ρ i, val := ρ v }) hR hp hob (by rw [Array.toList_modify]; exact hE')
    refine ⟨φ, _, .skip, ?_, ⟨undef, .tuple .nil, .inr ⟨rfl, rfl⟩⟩, h1, h2⟩
    rw [hrun]
    simp only [Option.bind_some, hj', Option.map_some, Sem.run_bind, hj'', Option.getD_some, hks, Result.andThen_ok, setObj_map hc]
theorem mapEntryF_good {H : Bid → AObj} {nx : Bid} (hh : HS h H nx) (he : EnvIs e f) {t : TypeId} {m i : Operand} (ho : o.op = .mapEntry t m i) (hk : mapEntryF t m i C e h k = .good) :
    ∃ v' h' H', k v' h' = .good ∧ HS h' H' nx ∧ OpS C.P o f H nx v' H' nx := by
  simp only [mapEntryF, obK_good, opdK_good he, asMapK_good, no_good', and_false, false_or, hh.get] at hk
  obtain ⟨q, hq, hm, b, hvm, hk⟩ := hk
  obtain ⟨kt, hu, hqt⟩ := keyKind_some hq
  obtain ⟨d, hd⟩ := hqt.desc
  obtain ⟨es, c, hob, hk⟩ := asMapO_good hk
  simp only [opdK_good he] at hk
  obtain ⟨hi, hk⟩ := hk
  obtain ⟨r, hk, hr⟩ := keyEqK_good hk
  obtain ⟨j, hs, hn, hsm⟩ := findEK_good hk
  have base : ∀ (φ : Phi) (w : World) (ρ : Operand → Value), R φ H nx w → VRho φ f ρ → ∃ p, φ b = some p ∧ ∃ es' : Array MapEntry, EntsR φ es es'.toList ∧ w.heap[p.blk]? = some (.map es' c) ∧
      (execOp ρ o).run C.P w = ((match j.bind fun j => (es'.toList[j]?).map fun e => (j, e.val) with
        | some (i', v) => do
          let key ← Instr.keyThatStays (((es'[i']?).map (·.key)).getD (ρ i)) (ρ i)
          setObj p.blk (.map (es'.modify i' fun e => { e with key }) c)
          pure (.tuple #[v, goInt (((es'[i']?).map (·.born)).getD 0)])
        | none => do
          let zero ← zeroValue q.2
          setObj p.blk (.map (es'.push { key := ρ i, val := zero, born := c }) (c + 1))
          pure (.tuple #[zero, goInt c]) : Sem Value).run C.P w).andThen fun v w' => .ok (.value v) w' := by
    intro φ w ρ hR hρ
    have hm' := hρ.opd hR hm
    rw [hvm] at hm'
    obtain ⟨p, hp, hy⟩ := hm'.map_inv
    have hO := hR.obj _ _ hp
    rw [hob] at hO
    obtain ⟨_, es', hc, hE⟩ := hO
    refine ⟨p, hp, es', hE, hc, ?_⟩
    have h1 := checkKey_run hqt hr (hρ.opd hR hi) false w
    have h2 := hs.run (P := C.P) hqt (hρ.opd hR hi) hE w
    simp only [execOp, ho, Instr.mapEntry, Sem.run_bind, runU hu, Result.andThen_ok, hy, getObj_map hc, h1, h2, Sem.run_pure]
    generalize (j.bind fun j => (es'.toList[j]?).map fun e => (j, e.val)) = mm
    cases mm <;> simp only [Sem.run_bind]
  cases j with
  | none =>
    have hk := hn rfl
    simp only [obK_good, newEntK, fN_eq, app_eq] at hk
    obtain ⟨z, hz, hk⟩ := hk
    obtain ⟨z, rfl, hzr⟩ := tZero_some hz
    obtain ⟨h', hh', e'⟩ := hh.set b (o := .map (es ++ [.mk (opdS i f) (ofValue z) c]) (Nat.succ c)) trivial (fun h => k (.tuple [ofValue z, .int .i64 c]) h)
    rw [e'] at hk
    refine ⟨_, _, _, hk, hh', fun φ w ρ hR hρ => ?_⟩
    obtain ⟨p, hp, es', hE, hc, hrun⟩ := base φ w ρ hR hρ
    have hE' := hE.snoc (hρ.opd hR hi) (ofValue_VR φ z) c
    obtain ⟨h1, h2⟩ := map_put (c₂ := Nat.succ c) (es' := es'.push { key := ρ i, val := z, born := c }) hR hp hob (by rw [Array.toList_push]; exact hE')
    refine ⟨φ, _, .value (.tuple #[z, goInt c]), ?_, ⟨_, .tuple (.cons (ofValue_VR φ z) (.cons (.int .i64 c) .nil)), .inl rfl⟩, h1, h2⟩
    rw [hrun]
    simp only [Option.bind_none, Sem.run_bind, hzr, setObj_map hc, Result.andThen_ok, Sem.run_pure]
  | some j =>
    obtain ⟨y, v₀, n, hj, hk, hkr⟩ := hsm j rfl
    rw [updEK_eq hs rfl hj] at hk
    obtain ⟨h', hh', e'⟩ := hh.set b (o := .map (es.set j (.mk (opdS i f) v₀ n)) c) trivial (fun h => k (.tuple [v₀, .int .i64 n]) h)
    rw [e'] at hk
    refine ⟨_, _, _, hk, hh', fun φ w ρ hR hρ => ?_⟩
    obtain ⟨p, hp, es', hE, hc, hrun⟩ := base φ w ρ hR hρ
    obtain ⟨y', w', hj', hy', hw'⟩ := hE.get hj
    have hj'' : es'[j]? = some { key := y', val := w', born := n } := by simpa using hj'
    have hks := keyStays (w := w) hkr hqt hd (hρ.opd hR hi) hy'
    have hE' := hE.modify (g := fun e => { e with key := ρ i }) hj (fun e' hb _ hv => ⟨hρ.opd hR hi, hv, hb⟩)
    obtain ⟨h1, h2⟩ := map_put (c₂ := c) (es' := es'.modify j fun e => { e with key := ρ i }) hR hp hob (by rw [Array.toList_modify]; exact hE')
    refine ⟨φ, _, .value (.tuple #[w', goInt n]), ?_, ⟨_, .tuple (.cons hw' (.cons (.int .i64 n) .nil)), .inl rfl⟩, h1, h2⟩
    rw [hrun]
    simp only [Option.bind_some, hj', Option.map_some, Sem.run_bind, hj'', Option.getD_some, hks, Result.andThen_ok, setObj_map hc, Sem.run_pure]
theorem hasBorn_idx {n : Nat} {v : AV} : ∀ {es : List AEnt}, hasBorn n es = true → ∃ j y w, es[j]? = some (.mk y w n) ∧ setBorn n v es = es.set j (.mk y v n) ∧ ∀ i y w m, i < j → es[i]? = some (.mk y w m) → m ≠ n
  | [], h => by cases h
  | .mk y w m :: r, h => by
    have h : (Bool.rec (hasBorn n r) true (Nat.beq m n) : Bool) = true := h
    have e : setBorn n v (.mk y w m :: r) = Bool.rec (.mk y w m :: setBorn n v r) (.mk y v m :: r) (Nat.beq m n) := rfl
    by_cases hm : m = n
    · subst hm
      have hb : Nat.beq m m = true := by simp
      rw [hb] at e
      exact ⟨0, y, w, rfl, e, fun i _ _ _ hi => absurd hi (Nat.not_lt_zero i)⟩
    · have hb : Nat.beq m n = false := by simpa using hm
      rw [hb] at h e
      obtain ⟨j, y', w', h1, h2, h3⟩ := hasBorn_idx (v := v) h
      refine ⟨j + 1, y', w', by simpa using h1, by rw [e, h2]; rfl, fun i y₁ w₁ m₁ hi he => ?_⟩
      cases i with
      | zero => simp only [List.getElem?_cons_zero, Option.some.injEq, AEnt.mk.injEq] at he; rw [← he.2.2]; exact hm
      | succ i => exact h3 i y₁ w₁ m₁ (by omega) (by simpa using he)
theorem EntsR.get' {φ : Phi} {es : List AEnt} {es' : List MapEntry} (h : EntsR φ es es') {j : Nat} {e' : MapEntry} (he : es'[j]? = some e') : ∃ y v, es[j]? = some (.mk y v e'.born) := by
  have hl := h.length
  have hj : j < es.length := by
    rcases Nat.lt_or_ge j es'.length with h' | h'
    · omega
    · rw [List.getElem?_eq_none h'] at he; cases he
  cases hx : es[j] with
  | mk y v n =>
    have hx' : es[j]? = some (.mk y v n) := by rw [List.getElem?_eq_getElem hj, hx]
    obtain ⟨y', v', h1, _⟩ := h.get hx'
    rw [he] at h1
    simp only [Option.some.injEq] at h1
    subst h1
    exact ⟨y, v, hx'⟩
theorem entryStoreF_good {H : Bid → AObj} {nx : Bid} (hh : HS h H nx) (he : EnvIs e f) {t : TypeId} {m s v : Operand} (ho : o.op = .entryStore t m s v) (hk : entryStoreF t m s v C e h k = .good) :
    ∃ v' h' H', k v' h' = .good ∧ HS h' H' nx ∧ OpS C.P o f H nx v' H' nx := by
  simp only [entryStoreF, opdK_good he, asMapK_good, no_good', and_false, false_or, hh.get] at hk
  obtain ⟨hm, b, hvm, hk⟩ := hk
  obtain ⟨es, c, hob, hk⟩ := asMapO_good hk
  simp only [opdK_good he, asNatK_good, bbK_good] at hk
  obtain ⟨hs, js, n, hns, hv, hb, hk⟩ := hk
  obtain ⟨j, y, w₀, hj, hset, hfirst⟩ := hasBorn_idx (v := opdS v f) hb
  rw [hset] at hk
  obtain ⟨h', hh', e'⟩ := hh.set b (o := .map (es.set j (.mk y (opdS v f) n)) c) trivial (fun h => k .undef h)
  rw [e'] at hk
  refine ⟨_, _, _, hk, hh', fun φ w ρ hR hρ => ?_⟩
  have hm' := hρ.opd hR hm
  rw [hvm] at hm'
  obtain ⟨p, hp, hy⟩ := hm'.map_inv
  have hO := hR.obj _ _ hp
  rw [hob] at hO
  obtain ⟨_, es', hc, hE⟩ := hO
  have hs' := hρ.opd hR hs
  rw [hns] at hs'
  have hsv := hs'.int_inv
  obtain ⟨y', w', hj', hy', hw'⟩ := hE.get hj
  have hj'' : es'[j]? = some { key := y', val := w', born := n } := by simpa using hj'
  have hlt : j < es'.size := by
    rcases Nat.lt_or_ge j es'.size with h' | h'
    · exact h'
    · rw [Array.getElem?_eq_none h'] at hj''; cases hj''
  have hidx : es'.findIdx? (fun e => (e.born : Int) == (n : Int)) = some j := by
    rw [Array.findIdx?_eq_some_iff_getElem]
    refine ⟨hlt, ?_, fun i hi => ?_⟩
    · rw [Array.getElem?_eq_getElem hlt] at hj''
      rw [Option.some.inj hj'']; simp
    · have hil : i < es'.size := by omega
      obtain ⟨y₁, v₁, h1⟩ := hE.get' (j := i) (e' := es'[i]) (by simp [hil])
      have := hfirst i _ _ _ hi h1
      simpa using fun h => this (by omega)
  have hE' := EntsR.modify hE (a := y) (b := opdS v f) (g := fun e => { e with val := ρ v }) hj (fun e' hb hk' _ => ⟨hk', hρ.opd hR hv, hb⟩)
  obtain ⟨h1, h2⟩ := map_put (c₂ := c) (es' := es'.modify j fun e => { e with val := ρ v }) hR hp hob (by rw [Array.toList_modify]; exact hE')
  refine ⟨φ, _, .skip, ?_, ⟨undef, .tuple .nil, .inr ⟨rfl, rfl⟩⟩, h1, h2⟩
  simp only [execOp, ho, Instr.entryStore, Sem.run_bind, hy, getObj_map hc, Result.andThen_ok, hsv, asInt, asIntOf, Sem.run_pure, hidx, setObj_map hc]
end
end Go.Ev
end

section
set_option maxRecDepth 2000
set_option autoImplicit false
set_option linter.unusedSimpArgs false
set_option linter.unusedVariables false
namespace Go.Ev

section
variable {C : Cx} {e : Env} {f : Nat → AV} {h : Heap} {k : AV → Heap → A} {o : Oper}
/-- A new block is made. -/
theorem OpS.made {P : Program} {o : Oper} {f : Nat → AV} {H : Bid → AObj} {nx nx' : Bid} {v : AV} {ob : AObj} (hn : nx'.num = nx.num + 1)
    (hr : ∀ (φ : Phi) (w : World) (ρ : Operand → Value), R φ H nx w → VRho φ f ρ → ∃ v' c, (execOp ρ o).run P w = .ok (.value v') (w.push c) ∧ VR (updP φ nx ⟨w.heap.size, 0, 0⟩) v v' ∧ OR (updP φ nx ⟨w.heap.size, 0, 0⟩) ob ⟨w.heap.size, 0, 0⟩ (some c)) : OpS P o f H nx v (updB H nx ob) nx' := by
  intro φ w ρ hR hρ
  obtain ⟨v', c, h1, h2, h3⟩ := hr φ w ρ hR hρ
  exact ⟨_, _, _, h1, ⟨v', h2, .inl rfl⟩, hR.push hn 0 h3, Grows.push hR hn ob c 0⟩
theorem rangeF_good {H : Bid → AObj} {nx : Bid} (hh : HS h H nx) (he : EnvIs e f) {t : TypeId} {x : Operand} (ho : o.op = .range t x) (hk : rangeF t x C e h k = .good) :
    ∃ v' h' H' nx', k v' h' = .good ∧ HS h' H' nx' ∧ OpS C.P o f H nx v' H' nx' := by
  simp only [rangeF, obK_good, opdK_good he, boolRec_good, asMapK_good, asStrK_good, hh.get] at hk
  obtain ⟨s, hs, hx, ⟨rfl, l, d, hv, hk⟩ | ⟨rfl, ⟨hv, hk⟩ | ⟨m, hv, hk⟩⟩⟩ := hk
  · have hu : C.P.underlying t = some .string := by
      simp only [rangeK] at hs
      split at hs
      · assumption
      · cases hs
      · cases hs
    obtain ⟨nx', hn, h', hh', hk⟩ := hh.push (o := .stringIter l d 0) trivial hk
    refine ⟨_, _, _, _, hk, hh', .made hn fun φ w ρ hR hρ => ?_⟩
    have hx' := hρ.opd hR hx
    rw [hv] at hx'
    obtain ⟨t, hy, ht⟩ := hx'.str_inv
    refine ⟨.pointer (some ⟨w.heap.size, 0, none⟩), .stringIter t 0, ?_, .ptr (p := ⟨w.heap.size, 0, 0⟩) 0 (updP_same _ _ _), rfl, t, rfl, ht⟩
    simp only [execOp, ho, hy, Instr.range, Sem.run_bind, runU hu, Result.andThen_ok, Sem.run_pure, run_newObj]; rfl
  · have hu : ∃ kt el, C.P.underlying t = some (.map kt el) := by
      simp only [rangeK] at hs
      split at hs
      · cases hs
      · exact ⟨_, _, by assumption⟩
      · cases hs
    obtain ⟨kt, el, hu⟩ := hu
    obtain ⟨nx', hn, h', hh', hk⟩ := hh.push (o := .nilIter) trivial hk
    refine ⟨_, _, _, _, hk, hh', .made hn fun φ w ρ hR hρ => ?_⟩
    have hx' := hρ.opd hR hx
    rw [hv] at hx'
    refine ⟨.pointer (some ⟨w.heap.size, 0, none⟩), .mapIter none 0 #[] 0, ?_, .ptr (p := ⟨w.heap.size, 0, 0⟩) 0 (updP_same _ _ _), rfl, rfl⟩
    simp only [execOp, ho, hx'.nilm_inv, Instr.range, Sem.run_bind, runU hu, Result.andThen_ok, Sem.run_pure, run_newObj]; rfl
  · have hu : ∃ kt el, C.P.underlying t = some (.map kt el) := by
      simp only [rangeK] at hs
      split at hs
      · cases hs
      · exact ⟨_, _, by assumption⟩
      · cases hs
    obtain ⟨kt, el, hu⟩ := hu
    obtain ⟨es, c, hob, hk⟩ := asMapO_good hk
    obtain ⟨nx', hn, h', hh', hk⟩ := hh.push (o := .mapIter m c [] c) trivial hk
    refine ⟨_, _, _, _, hk, hh', .made hn fun φ w ρ hR hρ => ?_⟩
    have hx' := hρ.opd hR hx
    rw [hv] at hx'
    obtain ⟨p, hp, hy⟩ := hx'.map_inv
    have hO := hR.obj _ _ hp
    rw [hob] at hO
    obtain ⟨_, es', hc, hE⟩ := hO
    refine ⟨.pointer (some ⟨w.heap.size, 0, none⟩), .mapIter (some p.blk) c #[] c, ?_, .ptr (p := ⟨w.heap.size, 0, 0⟩) 0 (updP_same _ _ _), rfl, p, updP_le hR.fresh _ _ hp, rfl⟩
    simp only [execOp, ho, hy, Instr.range, Sem.run_bind, runU hu, Result.andThen_ok, getObj_map hc, Sem.run_pure, run_newObj]; rfl
theorem decode_small {s : ByteArray} {i : Nat} (hi : i < s.size) (h : byteOf s i ≤ 127) : Utf8.decode s i = (byteOf s i, 1) := by
  have hi' : i < s.data.size := hi
  have e : (s.get! (i + 0)).toNat = byteOf s i := by
    rw [byteOf_lt hi', Nat.add_zero]
    have : s.get! i = s.data[i] := by
      cases s with
      | mk d => show d[i]! = _; rw [getElem!_pos d i hi']
    rw [this]
  unfold Utf8.decode
  simp only [e]
  exact if_pos (by omega)
/-- A block that is written, of which nothing is read as cells. -/
theorem obj_put {φ : Phi} {H : Bid → AObj} {nx : Bid} {w : World} {b : Bid} {p : PB} {ob : AObj} {c : Obj} (hR : R φ H nx w) (hp : φ b = some p) (ho : (H b).own = true) (hO : OR φ ob p (some c)) :
    R φ (updB H b ob) nx (w.put p.blk c) ∧ Grows φ H nx w φ (updB H b ob) nx (w.put p.blk c) := ⟨hR.put hp (own_live ho) hO, Grows.put hp ho _ _⟩
theorem getObj_of {P : Program} {w : World} {r : Nat} {c : Obj} (h : w.heap[r]? = some c) (hc : ∀ a e f, c ≠ .cells a e f) : (getObj r).run P w = .ok c w := by
  simp only [getObj, Sem.run, h]
theorem mem_eq (n : Nat) : ∀ l : List Nat, mem n l = l.contains n
  | [] => rfl
  | m :: l => by
    have e : mem n (m :: l) = Bool.rec (mem n l) true (Nat.beq m n) := rfl
    rw [e, mem_eq n l, List.contains_cons]
    by_cases h : m = n
    · subst h; simp
    · have : ¬ n = m := fun e => h e.symm
      simp [h, this]
theorem left_eq (seen : List Nat) : ∀ {es : List AEnt}, left seen es = es.filter fun e => match e with | .mk _ _ n => !seen.contains n
  | [] => rfl
  | .mk q v n :: r => by
    have e : left seen (.mk q v n :: r) = Bool.rec (.mk q v n :: left seen r) (left seen r) (mem n seen) := rfl
    rw [e, mem_eq, left_eq seen (es := r), List.filter_cons]
    cases hc : seen.contains n <;> simp <;> simpa using hc
theorem EntsR.filter {φ : Phi} (g : Nat → Bool) {es : List AEnt} {es' : List MapEntry} (h : EntsR φ es es') : EntsR φ (es.filter fun e => match e with | .mk _ _ n => g n) (es'.filter fun e => g e.born) := by
  induction h with
  | nil => exact .nil
  | cons n hk hv _ ih =>
    rw [List.filter_cons, List.filter_cons]
    simp only
    split
    · exact .cons n hk hv ih
    · exact ih
theorem allGe_eq {φ : Phi} (last : Nat) {es : List AEnt} {es' : List MapEntry} (h : EntsR φ es es') : allGe last es = es'.all fun e => decide (e.born ≥ last) := by
  induction h with
  | nil => rfl
  | @cons k v k' v' n es es' hk hv _ ih =>
    have e : allGe last (.mk k v n :: es) = Bool.rec false (allGe last es) (Nat.ble last n) := rfl
    rw [e, ih, List.all_cons]
    by_cases h : last ≤ n <;> simp [h]
theorem nextF_good {H : Bid → AObj} {nx : Bid} (hh : HS h H nx) (he : EnvIs e f) {it : Operand} {s : Bool} (ho : o.op = .next it s) (hk : nextF it s C e h k = .good) :
    ∃ v' h' H' nx', k v' h' = .good ∧ HS h' H' nx' ∧ OpS C.P o f H nx v' H' nx' := by
  simp only [nextF, opdK_good he, asPtrK_good, bbK_good, beqB, decide_eq_true_eq, hh.get] at hk
  obtain ⟨hx, b, i, hv, rfl, hk⟩ := hk
  have opn : ∀ (φ : Phi) (w : World) (ρ : Operand → Value), R φ H nx w → VRho φ f ρ → ∃ p, φ b = some p ∧ ρ it = .pointer (some ⟨p.blk, 0 + p.sh, none⟩) := by
    intro φ w ρ hR hρ
    have hx' := hρ.opd hR hx
    rw [hv] at hx'
    exact hx'.ptr_inv
  have over : ∀ (P : Program) (v : AV), v = .tuple [.bool false] → (∀ (φ : Phi) (w : World) (ρ : Operand → Value), R φ H nx w → VRho φ f ρ → (Instr.next (ρ it) s o.type).run C.P w = .ok (.tuple #[.bool false]) w) → k v h = .good →
      ∃ v' h' H' nx', k v' h' = .good ∧ HS h' H' nx' ∧ OpS C.P o f H nx v' H' nx' := by
    intro P v hv hr hk
    subst hv
    refine ⟨_, _, _, _, hk, hh, fun φ w ρ hR hρ => ⟨φ, w, .value (.tuple #[.bool false]), ?_, ⟨_, .tuple (.cons (.bool false) .nil), .inl rfl⟩, hR, .refl _ _ _ _⟩⟩
    simp only [execOp, ho, Sem.run_bind, hr φ w ρ hR hρ, Result.andThen_ok, Sem.run_pure]
  cases hob : H b <;> rw [hob] at hk <;> first | (exact absurd hk no_good) | skip
  · rename_i l d pos
    replace hk : bbK s (nextStrK b l d pos h k) = .good := hk
    simp only [bbK_good, nextStrK, boolRec_good, ltB, decide_eq_true_eq, decide_eq_false_iff_not, fN_eq, bleB] at hk
    obtain ⟨rfl, ⟨hlt, hsm, hk⟩ | ⟨hge, hk⟩⟩ := hk
    · obtain ⟨h', hh', e'⟩ := hh.set b (o := .stringIter l d (Nat.succ pos)) trivial (fun h => k (.tuple [.bool true, .int .i64 pos, .int .i32 (byteAt d pos)]) h)
      rw [e'] at hk
      refine ⟨_, _, _, _, hk, hh', fun φ w ρ hR hρ => ?_⟩
      obtain ⟨p, hp, hy⟩ := opn φ w ρ hR hρ
      have hO := hR.obj _ _ hp
      rw [hob] at hO
      obtain ⟨hs0, t, hc, ht⟩ := hO
      obtain ⟨h1, h2⟩ := obj_put (c := .stringIter t (pos + 1)) (ob := .stringIter l d (Nat.succ pos)) hR hp (by rw [hob]; rfl) ⟨hs0, t, rfl, ht⟩
      have hsz := ht.1
      have hb := ht.byte pos
      refine ⟨φ, _, .value (.tuple #[.bool true, goInt pos, .int .i32 (byteOf t pos : Nat)]), ?_, ⟨_, .tuple (.cons (.bool true) (.cons (.int .i64 pos) (.cons (by rw [hb]; exact .int .i32 _) .nil))), .inl rfl⟩, h1, h2⟩
      rw [hs0, Nat.add_zero] at hy
      have hd := decide_eq_true (show pos < t.size by omega)
      simp only [execOp, ho, hy, Instr.next, Sem.run_bind, getObj_of hc (by simp), Result.andThen_ok, show pos < t.size by omega, if_true, decode_small (s := t) (i := pos) (by omega) (by omega), setObj_put hc (by simp), Sem.run_pure]
    · refine over C.P _ rfl (fun φ w ρ hR hρ => ?_) hk
      obtain ⟨p, hp, hy⟩ := opn φ w ρ hR hρ
      have hO := hR.obj _ _ hp
      rw [hob] at hO
      obtain ⟨hs0, t, hc, ht⟩ := hO
      rw [hs0, Nat.add_zero] at hy
      have hsz := ht.1
      simp only [hy, Instr.next, Sem.run_bind, getObj_of hc (by simp), Result.andThen_ok, show ¬ pos < t.size by omega, if_false, Sem.run_pure]
  · rename_i m since seen last
    replace hk : bbK (notB s) (nextMapK b m since seen last h k) = .good := hk
    simp only [bbK_good, notB_eq, Bool.not_eq_true', nextMapK, hh.get] at hk
    obtain ⟨rfl, hk⟩ := hk
    obtain ⟨es, clock, hom, hk⟩ := asMapO_good hk
    simp only [bbK_good, orB_eq, notB_eq] at hk
    obtain ⟨hcond, hk⟩ := hk
    -- what the machine sees
    have see : ∀ (φ : Phi) (w : World) (ρ : Operand → Value), R φ H nx w → VRho φ f ρ → ∃ p q, φ b = some p ∧ p.sh = 0 ∧ φ m = some q ∧ ρ it = .pointer (some ⟨p.blk, 0, none⟩) ∧ w.heap[p.blk]? = some (.mapIter (some q.blk) since seen.toArray last) ∧
        ∃ es' : Array MapEntry, w.heap[q.blk]? = some (.map es' clock) ∧ EntsR φ es es'.toList ∧ (!seen.toArray.isEmpty && !es'.isEmpty && es'.all (·.born ≥ last)) = false ∧
          EntsR φ (left seen es) (es'.filter fun e => !seen.toArray.contains e.born).toList := by
      intro φ w ρ hR hρ
      obtain ⟨p, hp, hy⟩ := opn φ w ρ hR hρ
      have hO := hR.obj _ _ hp
      rw [hob] at hO
      obtain ⟨hs0, q, hq, hc⟩ := hO
      have hO' := hR.obj _ _ hq
      rw [hom] at hO'
      obtain ⟨_, es', hc', hE⟩ := hO'
      rw [hs0, Nat.add_zero] at hy
      refine ⟨p, q, hp, hs0, hq, hy, hc, es', hc', hE, ?_, ?_⟩
      · have h1 : es'.all (·.born ≥ last) = allGe last es := by rw [allGe_eq last hE, ← Array.all_toList]
        have h2 : es'.isEmpty = es.isEmpty := by
          have := hE.length
          rw [Array.length_toList] at this
          cases es with
          | nil => have : es'.size = 0 := by simpa using this.symm
                   simp [Array.isEmpty, this]
          | cons a b => have : es'.size ≠ 0 := by simp at this; omega
                        simp [Array.isEmpty, this]
        have h3 : seen.toArray.isEmpty = seen.isEmpty := by cases seen <;> rfl
        rw [h1, h2, h3]
        revert hcond
        cases seen.isEmpty <;> cases es.isEmpty <;> cases allGe last es <;> simp
      · rw [left_eq, Array.toList_filter]
        have := hE.filter fun n => !seen.contains n
        simpa using this
    cases hl : left seen es with
    | nil =>
      rw [hl] at hk
      refine over C.P _ rfl (fun φ w ρ hR hρ => ?_) hk
      obtain ⟨p, q, hp, hs0, hq, hy, hc, es', hc', hE, hcd, hL⟩ := see φ w ρ hR hρ
      rw [hl] at hL
      have hnil : es'.filter (fun e => !seen.toArray.contains e.born) = #[] := by
        have : (es'.filter fun e => !seen.toArray.contains e.born).toList = [] := by
          generalize (es'.filter fun e => !seen.toArray.contains e.born).toList = x at hL
          cases hL; rfl
        simpa using this
      simp only [hy, Instr.next, Sem.run_bind, getObj_of hc (by simp), getObj_map hc', Result.andThen_ok, hcd, Bool.false_eq_true, if_false, Sem.run_pure, hnil]
      simp [Question.forced]
    | cons a r =>
      rw [hl] at hk
      cases r with
      | cons a' r' => cases a; exact absurd hk no_good
      | nil =>
        cases a with
        | mk y v n =>
        replace hk : bbK (nltB n since) (hsK b (.mapIter m since (app seen [n]) clock) h fun h => k (.tuple [.bool true, y, v]) h) = .good := hk
        simp only [bbK_good, ltB, decide_eq_true_eq, app_eq] at hk
        obtain ⟨hlt, hk⟩ := hk
        obtain ⟨h', hh', e'⟩ := hh.set b (o := .mapIter m since (seen ++ [n]) clock) trivial (fun h => k (.tuple [.bool true, y, v]) h)
        rw [e'] at hk
        refine ⟨_, _, _, _, hk, hh', fun φ w ρ hR hρ => ?_⟩
        obtain ⟨p, q, hp, hs0, hq, hy, hc, es', hc', hE, hcd, hL⟩ := see φ w ρ hR hρ
        rw [hl] at hL
        obtain ⟨y', v', hone, hyy, hvv⟩ : ∃ y' v', (es'.filter fun e => !seen.toArray.contains e.born) = #[{ key := y', val := v', born := n }] ∧ VR φ y y' ∧ VR φ v v' := by
          generalize hx : (es'.filter fun e => !seen.toArray.contains e.born) = x at hL
          obtain ⟨x⟩ := x
          cases hL with
          | cons _ h1 h2 h3 => cases h3; exact ⟨_, _, rfl, h1, h2⟩
        obtain ⟨h1, h2⟩ := obj_put (c := .mapIter (some q.blk) since (seen.toArray.push n) clock) (ob := .mapIter m since (seen ++ [n]) clock) hR hp (by rw [hob]; rfl) ⟨hs0, q, hq, by simp⟩
        refine ⟨φ, _, .value (.tuple #[.bool true, y', v']), ?_, ⟨_, .tuple (.cons (.bool true) (.cons hyy (.cons hvv .nil))), .inl rfl⟩, h1, h2⟩
        simp only [execOp, ho, hy, Instr.next, Sem.run_bind, getObj_of hc (by simp), getObj_map hc', Result.andThen_ok, hcd, Bool.false_eq_true, if_false, Sem.run_pure, hone]
        have hge : ¬ since ≤ n := by omega
        simp [hlt, hge, Question.forced, setObj_put hc]
  · have hk : bbK (notB s) (k (.tuple [.bool false]) h) = .good := hk
    simp only [bbK_good, notB_eq, Bool.not_eq_true'] at hk
    obtain ⟨rfl, hk⟩ := hk
    refine over C.P _ rfl (fun φ w ρ hR hρ => ?_) hk
    obtain ⟨p, hp, hy⟩ := opn φ w ρ hR hρ
    have hO := hR.obj _ _ hp
    rw [hob] at hO
    obtain ⟨hs0, hc⟩ := hO
    rw [hs0, Nat.add_zero] at hy
    simp only [hy, Instr.next, Sem.run_bind, getObj_of hc (by simp), Result.andThen_ok, Sem.run_pure]
theorem findBorn_good {φ : Phi} {n : Nat} {es : List AEnt} {es' : List MapEntry} (h : EntsR φ es es') : ∀ {q v : AV} {m : Nat}, findBorn n es = some (.mk q v m) → ∃ e', es'.find? (·.born == n) = some e' ∧ VR φ q e'.key ∧ VR φ v e'.val := by
  induction h with
  | nil => intro q v m h; cases h
  | @cons k v k' v' m es es' hk hv _ ih =>
    intro q v₂ m₂ h
    have h : (Bool.rec (findBorn n es) (some (.mk k v m)) (Nat.beq m n) : Option AEnt) = some (.mk q v₂ m₂) := h
    by_cases hm : m = n
    · subst hm
      have hb : Nat.beq m m = true := by simp
      rw [hb] at h
      simp only [Option.some.injEq, AEnt.mk.injEq] at h
      obtain ⟨rfl, rfl, rfl⟩ := h
      exact ⟨{ key := k', val := v', born := m }, by simp, hk, hv⟩
    · have hb : Nat.beq m n = false := by simpa using hm
      rw [hb] at h
      obtain ⟨e', h1, h2⟩ := ih h
      exact ⟨e', by rw [List.find?_cons_of_neg (by simpa using hm)]; exact h1, h2⟩
theorem entryF_good {H : Bid → AObj} {nx : Bid} (hh : HS h H nx) (he : EnvIs e f) {it : Operand} (ho : o.op = .entry it) (hk : entryF it C e h k = .good) : ∃ v, k v h = .good ∧ ReadS C.P o f H v := by
  simp only [entryF, opdK_good he, asPtrK_good, bbK_good, beqB, decide_eq_true_eq, hh.get] at hk
  obtain ⟨hx, b, i, hv, rfl, hk⟩ := hk
  cases hob : H b <;> rw [hob] at hk <;> first | (exact absurd hk no_good) | skip
  rename_i m since seen st
  replace hk : hgK m h (fun o => asMapO o fun es c => bbK (Nat.beq c st) (obK seen.getLast? fun n => obK (findBorn n es) fun en => AEnt.rec (fun q v _ => k (.tuple [q, v]) h) en)) = .good := hk
  rw [hh.get] at hk
  obtain ⟨es, c, hom, hk⟩ := asMapO_good hk
  simp only [bbK_good, beqB, decide_eq_true_eq, obK_good] at hk
  obtain ⟨rfl, n, hn, en, hen, hk⟩ := hk
  cases en with
  | mk q v n' =>
  refine ⟨_, hk, fun φ w ρ nx hR hρ => ?_⟩
  have hx' := hρ.opd hR hx
  rw [hv] at hx'
  obtain ⟨p, hp, hy⟩ := hx'.ptr_inv
  have hO := hR.obj _ _ hp
  rw [hob] at hO
  obtain ⟨hs0, q', hq, hc⟩ := hO
  have hO' := hR.obj _ _ hq
  rw [hom] at hO'
  obtain ⟨_, es', hc', hE⟩ := hO'
  have hy : ρ it = .pointer (some ⟨p.blk, 0 + p.sh, none⟩) := hy
  rw [hs0, Nat.add_zero] at hy
  obtain ⟨e', h1, h2, h3⟩ := findBorn_good hE hen
  have hb : seen.toArray.back? = some n := by simpa using hn
  have h1' : es'.find? (·.born == n) = some e' := by rw [← h1]; simp
  refine ⟨.tuple #[e'.key, e'.val], ?_, .tuple (.cons h2 (.cons h3 .nil))⟩
  simp [execOp, ho, hy, Instr.entry, getObj_of hc, hb, getObj_map hc', h1']
end
end Go.Ev
end
