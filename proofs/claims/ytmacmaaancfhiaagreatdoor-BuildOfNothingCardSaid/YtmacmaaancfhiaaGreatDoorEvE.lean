/- Part of the proof: a verified evaluator of the model (its definitions, and that it is sound). -/
import Derived.Test.YtmacmaaancfhiaaGreatDoorEvD
import Derived.Laws.Tables
import Derived.Laws.MakeOwn
section
set_option maxRecDepth 2000
set_option autoImplicit false
set_option linter.unusedSimpArgs false
set_option linter.unusedVariables false
namespace Go.Ev

section
variable {C : Cx} {e : Env} {f : Nat → AV} {h : Heap} {k : AV → Heap → A} {o : Oper}
theorem VRs.size {φ : Phi} {cs : List AV} {c : Array Value} (h : VRs φ cs c.toList) : cs.length = c.size := by have := h.length; simpa using this
theorem over_eq : ∀ (vs cs : List AV), vs.length ≤ cs.length → over vs cs = vs ++ cs.drop vs.length
  | [], cs, _ => by simp [over]
  | v :: vs, [], h => by simp at h
  | v :: vs, c :: cs, h => by
    have := over_eq vs cs (by simpa using h)
    have e : over (v :: vs) (c :: cs) = v :: over vs cs := rfl
    rw [e, this]; simp
theorem lput_eq (vs : List AV) : ∀ (off : Nat) (cs : List AV), off + vs.length ≤ cs.length → lput vs off cs = cs.take off ++ vs ++ cs.drop (off + vs.length)
  | 0, cs, h => by
    have e : lput vs 0 cs = over vs cs := rfl
    rw [e, over_eq vs cs (by omega)]; simp
  | off + 1, [], h => by simp at h
  | off + 1, c :: cs, h => by
    have e : lput vs (off + 1) (c :: cs) = c :: lput vs off cs := rfl
    have := lput_eq vs off cs (by simp only [List.length_cons] at h; omega)
    rw [e, this, show off + 1 + vs.length = (off + vs.length) + 1 by omega]; simp
theorem ovr_toList (vs : List Value) (c : Array Value) (i : Nat) (h : i + vs.length ≤ c.size) : (ovr c i vs).toList = c.toList.take i ++ vs ++ c.toList.drop (i + vs.length) := by
  apply List.ext_getElem?
  intro j
  rw [Array.getElem?_toList, ovr_get _ _ _ _ h, List.append_assoc, List.getElem?_append]
  have hl : (c.toList.take i).length = i := by simp; omega
  rw [hl]
  by_cases h1 : j < i
  · rw [if_neg (by omega), if_pos h1, List.getElem?_take, if_pos h1, Array.getElem?_toList]
  · rw [if_neg h1, List.getElem?_append]
    by_cases h2 : j - i < vs.length
    · rw [if_pos (by omega), if_pos h2]
    · rw [if_neg (by omega), if_neg h2, List.getElem?_drop, Array.getElem?_toList]; congr 1; omega
theorem lput_VRs {φ : Phi} {vs cs : List AV} {vs' : List Value} {c : Array Value} {off : Nat} (hv : VRs φ vs vs') (hc : VRs φ cs c.toList) (h : off + vs.length ≤ cs.length) : VRs φ (lput vs off cs) (ovr c off vs').toList := by
  have h1 := hv.length
  have h2 := hc.size
  rw [lput_eq vs off cs h, ovr_toList _ _ _ (by omega), h1]
  exact ((hc.take off).append hv).append (hc.drop _)
theorem lput_length {vs cs : List AV} {off : Nat} (h : off + vs.length ≤ cs.length) : (lput vs off cs).length = cs.length := by
  rw [lput_eq vs off cs h]; simp; omega
theorem fold_ovr : ∀ (l : List Value) (k off : Nat) (c : Array Value), (l.zipIdx k).foldl (fun cs (x : Value × Nat) => cs.setIfInBounds (off + x.2) x.1) c = ovr c (off + k) l
  | [], _, _, _ => rfl
  | v :: l, k, off, c => by
    rw [List.zipIdx_cons, List.foldl_cons, fold_ovr l (k + 1) off]; rfl
theorem fill_cons {pl : Nat → Option (Nat × Nat)} {c : Array Value} {i off : Nat} {v : Value} {rest : List (Nat × Value)} (hp : pl i = some (off, v.cells.size)) (hs : off + v.cells.size ≤ c.size) :
    Instr.fill pl c ((i, v) :: rest) = Instr.fill pl (ovr c off v.cells.toList) rest := by
  have : ¬ (v.cells.size ≠ v.cells.size ∨ off + v.cells.size > c.size) := by omega
  have e : v.cells.zipIdx.foldl (fun cs (c, j) => cs.setIfInBounds (off + j) c) c = ovr c off v.cells.toList := by
    rw [← Array.foldl_toList, Array.toList_zipIdx]
    exact fold_ovr _ 0 off c
  simp only [Instr.fill, hp]
  simp only [Bool.or_eq_true, decide_eq_true_eq, this, if_false]
  rw [← e]
/-- Parts, laid into cells. -/
theorem partsK_good (he : EnvIs e f) {P : Program} {t : TypeId} {zl : Nat} : ∀ {ps : List (Nat × Operand)} {cs : List AV} {k : List AV → A}, partsK P t zl ps e cs k = .good → cs.length = zl →
    ∃ cs', k cs' = .good ∧ cs'.length = zl ∧ ∀ (φ : Phi) (w : World) (ρ : Operand → Value) (H : Bid → AObj) (nx : Bid) (pl : Nat → Option (Nat × Nat)), (∀ i q, place P t i = some q → pl i = some q) → R φ H nx w → VRho φ f ρ →
      ∀ c : Array Value, VRs φ cs c.toList → ∃ c', Instr.fill pl c (ps.map fun x => (x.1, ρ x.2)) = some c' ∧ VRs φ cs' c'.toList
  | [], cs, k, hk, hl => ⟨cs, hk, hl, fun φ w ρ H nx pl _ _ _ c hc => ⟨c, rfl, hc⟩⟩
  | (i, x) :: ps, cs, k, hk, hl => by
    have hk : obK (place P t i) (fun q => bbK (Nat.ble (Nat.add q.1 q.2) zl) (opdK x e fun v => cellsK v fun vs => bbK (lenIs vs q.2) (partsK P t zl ps e (lput vs q.1 cs) k))) = .good := hk
    simp only [obK_good, bbK_good, bleB, decide_eq_true_eq, opdK_good he, cellsK_good, lenIs_eq] at hk
    obtain ⟨⟨off, n⟩, hpl, hn, hx, hkn, hlen, hk⟩ := hk
    have hn : off + n ≤ zl := hn
    simp only at hlen hk
    have hb : off + (opdS x f).cells.length ≤ cs.length := by omega
    obtain ⟨cs', hk, hl', hs⟩ := partsK_good he hk (by rw [lput_length hb]; exact hl)
    refine ⟨cs', hk, hl', fun φ w ρ H nx pl hpls hR hρ c hc => ?_⟩
    have hv := (hρ.opd hR hx).cells hkn
    have hvl := hv.size
    have hcl := hc.size
    obtain ⟨c', hf, hc'⟩ := hs φ w ρ H nx pl hpls hR hρ _ (lput_VRs hv hc hb)
    refine ⟨c', ?_, hc'⟩
    rw [List.map_cons]
    have hvn : (ρ x).cells.size = n := by omega
    rw [fill_cons (v := ρ x) (off := off) (by rw [hpls i _ hpl, hvn]) (by omega)]
    exact hf
theorem buildF_good (he : EnvIs e f) {t : TypeId} {ps : Array (Nat × Operand)} (ho : o.op = .build t ps) (hk : buildF t ps C e h k = .good) : ∃ v, k v h = .good ∧ PureS C.P o f v := by
  simp only [buildF, bbK_good, zeroK, obK_good, cellsK_good, llen_eq] at hk
  obtain ⟨hb, z, hz, hkn, hk⟩ := hk
  simp only [tZero, ob_some, Option.some.injEq] at hz
  obtain ⟨i, hi, zv, hzv, rfl⟩ := hz
  obtain ⟨cs, hk, hl, hs⟩ := partsK_good he hk rfl
  refine ⟨_, hk, fun φ w ρ H nx hR hρ => ?_⟩
  have hzr := (ofValue_VR φ zv).cells hkn
  simp only [isBuilt] at hb
  have fin : ∀ pl : Nat → Option (Nat × Nat), (∀ i q, place C.P t i = some q → pl i = some q) → (∀ c', Instr.fill pl zv.cells (ps.map fun (i, x) => (i, ρ x)).toList = some c' → C.P.built t (ps.map fun (i, x) => (i, ρ x)).toList = some c') →
      ∃ v', (execOp ρ o).run C.P w = .ok (.value v') w ∧ VR φ (.agg cs) v' := by
    intro pl hpl hbuilt
    obtain ⟨c', hf, hc'⟩ := hs φ w ρ H nx pl hpl hR hρ zv.cells hzr
    have e1 : (ps.map fun (i, x) => (i, ρ x)).toList = ps.toList.map fun x => (x.1, ρ x.2) := by simp
    exact ⟨.agg c', by simp only [execOp, ho, Sem.run_bind, run_build w t _ c' (hbuilt c' (by rw [e1]; exact hf)), Result.andThen_ok, Sem.run_pure], .agg hc'⟩
  split at hb
  · rename_i fs hu
    have hm : ∃ places, fs.toList.mapM (fun f => (C.P.info? f.type).map fun i => (f.offset, i.size)) = some places ∧ ∀ (i : Nat) (fd : Field) (n : Nat), fs.toList[i]? = some fd → tSize C.P fd.type = some n → places[i]? = some (fd.offset, n) := by
      generalize fs.toList = l at hb
      induction l with
      | nil => exact ⟨[], rfl, by simp⟩
      | cons fd l ih =>
        simp only [List.all_cons, Bool.and_eq_true] at hb
        obtain ⟨places, h1, h2⟩ := ih hb.2
        obtain ⟨j, hj⟩ := Option.isSome_iff_exists.1 hb.1
        refine ⟨(fd.offset, j.size) :: places, by simp [List.mapM_cons, hj, h1], fun i fd' n hi hn => ?_⟩
        cases i with
        | zero =>
          simp only [List.getElem?_cons_zero, Option.some.injEq] at hi
          subst hi
          obtain ⟨j', hj', rfl⟩ := tSize_some hn
          rw [hj] at hj'; cases hj'; rfl
        | succ i => exact h2 i fd' n (by simpa using hi) hn
    obtain ⟨places, hpm, hpg⟩ := hm
    refine fin (fun x => places.toArray[x]?) (fun i q hq => ?_) fun c' hf => ?_
    · simp only [place, hu, ob_some, Option.some.injEq] at hq
      obtain ⟨fd, hfd, n, hn, rfl⟩ := hq
      have := hpg i fd n (by simpa using hfd) hn
      simpa using this
    · simp only [Program.built, hi, hu, hzv, hpm]; exact hf
  · rename_i len el hu
    obtain ⟨ie, hie⟩ := Option.isSome_iff_exists.1 hb
    refine fin (fun i => some (i * ie.size, ie.size)) (fun i q hq => ?_) fun c' hf => ?_
    · simp only [place, hu, ob_some, Option.some.injEq, tSize, hie] at hq
      obtain ⟨n, ⟨_, rfl, rfl⟩, rfl⟩ := hq
      rfl
    · simp only [Program.built, hi, hu, hzv, hie]; exact hf
  · cases hb
theorem elemOf_some {P : Program} {t : TypeId} {q : TypeId × Nat} (h : elemOf P t = some q) : P.underlying t = some (.slice q.1) ∧ ∃ i, P.info? q.1 = some i ∧ i.bytes ≤ 65536 ∧ i.size = q.2 := by
  simp only [elemOf, ob_some, bb_some, bleB, decide_eq_true_eq, Option.some.injEq] at h
  obtain ⟨el, hel, i, hi, hb, rfl⟩ := h
  exact ⟨tSlice_some hel, i, hi, hb, rfl⟩
theorem rep_get (z : List AV) : ∀ (n i : Nat), i < n * z.length → (rep n z)[i]? = z[i % z.length]?
  | 0, i, h => by simp at h
  | n + 1, i, h => by
    have e : rep (n + 1) z = z ++ rep n z := by show app z (rep n z) = _; rw [app_eq]
    rw [e, List.getElem?_append]
    by_cases hi : i < z.length
    · rw [if_pos hi, Nat.mod_eq_of_lt hi]
    · rw [if_neg hi, rep_get z n (i - z.length) (by rw [Nat.add_mul, Nat.one_mul] at h; omega)]
      rw [← Nat.mod_eq_sub_mod (by omega)]
theorem rep_length (z : List AV) : ∀ n, (rep n z).length = n * z.length
  | 0 => by show ([] : List AV).length = _; simp
  | n + 1 => by
    have e : rep (n + 1) z = z ++ rep n z := by show app z (rep n z) = _; rw [app_eq]
    rw [e, List.length_append, rep_length z n, Nat.add_mul, Nat.one_mul, Nat.add_comm]
theorem made_VRs {φ : Phi} {z : List AV} {zc : Array Value} (h : VRs φ z zc.toList) (n : Nat) : VRs φ (rep n z) (madeCells zc (n * zc.size)).toList := by
  have hl := h.size
  refine VRs.of_get (by rw [rep_length]; simp [size_madeCells, hl]) fun i x y hx hy => ?_
  have hi : i < n * z.length := by
    rcases Nat.lt_or_ge i (n * z.length) with h' | h'
    · exact h'
    · rw [List.getElem?_eq_none (by rw [rep_length]; exact h')] at hx; cases hx
  rw [rep_get z n i hi] at hx
  have hz : 0 < z.length := by
    rcases Nat.eq_zero_or_pos z.length with h0 | h0
    · rw [h0] at hi; simp at hi
    · exact h0
  obtain ⟨v, hv, hr⟩ := h.get hx
  have hm : i % zc.size < zc.size := Nat.mod_lt _ (by omega)
  simp only [madeCells, Array.toList_map, Array.toList_range, List.getElem?_map] at hy
  rw [hl] at hi
  simp only [List.getElem?_range hi, Option.map_some, Option.some.injEq] at hy
  rw [hl] at hv
  rw [Array.getElem?_toList, Array.getElem?_eq_getElem hm, Option.some.injEq] at hv
  rw [← hy, getElem!_pos zc _ hm, hv]; exact hr
theorem buildSliceF_good {H : Bid → AObj} {nx : Bid} (hh : HS h H nx) (he : EnvIs e f) {t : TypeId} {n : Nat} {ps : Array (Nat × Operand)} (ho : o.op = .buildSlice t n ps) (hk : buildSliceF t n ps C e h k = .good) :
    ∃ v h' nx' ob, k v h' = .good ∧ nx'.num = nx.num + 1 ∧ HS h' (updB H nx ob) nx' ∧ AllocS C.P o f nx v ob := by
  simp only [buildSliceF, obK_good] at hk
  obtain ⟨q, hq, hk⟩ := hk
  obtain ⟨hu, i, hi, hib, his⟩ := elemOf_some hq
  obtain ⟨z, hk, zv, hz, hzr⟩ := zeroK_good hk
  simp only [bbK_good, andB_eq, lenIs_eq, bleB, Bool.and_eq_true, decide_eq_true_eq] at hk
  obtain ⟨⟨hzl, hnm⟩, hk⟩ := hk
  have hnm : n * q.2 ≤ 16777216 := hnm
  obtain ⟨cs, hk, hl, hs⟩ := partsK_good he hk (by rw [rep_length, hzl]; rfl)
  obtain ⟨ob, hob, hk⟩ := mkRowK_good hk
  obtain ⟨nx', hn, h', hh', hk⟩ := hh.push hob.1 hk
  refine ⟨_, _, _, ob, hk, hn, hh', fun φ w ρ H nx hR hfr hρ => ?_⟩
  have hzs : zv.cells.size = q.2 := by have := (hzr φ).size; omega
  have hsz : tSize C.P q.1 = some q.2 := by simp only [tSize, hi, ob_some, Option.some.injEq]; exact ⟨i, rfl, his⟩
  obtain ⟨c', hf, hc'⟩ := hs φ w ρ H nx (fun i => some (i * q.2, q.2)) (fun i x hx => by simp only [place, hu, hsz, ob_some, Option.some.injEq] at hx; obtain ⟨m, rfl, rfl⟩ := hx; rfl) hR hρ _ (made_VRs (hzr φ) n)
  have e1 : (ps.map fun (i, x) => (i, ρ x)).toList = ps.toList.map fun x => (x.1, ρ x.2) := by simp
  have hcl : c'.size = n * q.2 := by have := hc'.size; rw [← this, hl]; rfl
  refine ⟨.slice (some ⟨w.heap.size, 0, none⟩) n n, .cells c' q.1, c'.size, w.drawn, ?_, ?_, ?_⟩
  · have e2 : (Array.range (n * q.2)).map (zv.cells[· % zv.cells.size]!) = madeCells zv.cells (n * zv.cells.size) := by rw [← hzs]; rfl
    have hbig : ¬ (n * q.2 > 2 ^ 24) := by omega
    by_cases h0 : n * q.2 = 0
    · have e3 : madeCells zv.cells (n * zv.cells.size) = #[] := by rw [hzs, h0]; simp [madeCells]
      rw [e3] at hf
      simp only [execOp, ho, Instr.buildSlice, Sem.run_bind, runU hu, Result.andThen_ok, runS hsz, hbig, h0, if_true, if_false, Sem.run_pure, Array.range_zero', e1, hf, newRow, run_newObj]
      simp [hf]
      rfl
    · simp only [execOp, ho, Instr.buildSlice, Sem.run_bind, runU hu, Result.andThen_ok, runS hsz, hbig, h0, if_false, hz, Sem.run_pure, e2, e1, hf, newRow, run_newObj]
      rfl
  · refine .slice (p := ⟨w.heap.size, 0, c'.size⟩) _ _ _ _ _ n (updP_same _ _ _) (Nat.le_refl _) (Nat.le_refl _) (.inr (Nat.lt_succ_self _)) (.inr ⟨rfl, ?_⟩)
    simp only [hcl]; omega
  · have := hob.2 (updP φ _ ⟨w.heap.size, 0, c'.size⟩) w.heap.size c'.toList (hc'.mono (updP_le hfr))
    simpa using this
theorem mkZeroK_good {P : Program} {ty : TypeId} {i : TypeInfo} (hi : P.info? ty = some i) {sz n : Nat} (his : i.size = sz) {k : AObj → A} (hk : mkZeroK P ty sz n k = .good) :
    ∃ ob cs z, k ob = .good ∧ RowOf ob ty cs ∧ i.zero = some z ∧ z.cells.size = i.size ∧ ∀ φ, VRs φ cs (madeCells z.cells (n * z.cells.size)).toList := by
  simp only [mkZeroK, boolRec_good] at hk
  rcases hk with ⟨hb, hk⟩ | ⟨_, hk⟩
  · obtain ⟨_, i', hi', hz, hs⟩ := tByte_some hb
    rw [hi] at hi'; cases hi'
    have hlen : (rep n [AV.int .u8 0]).length = n := by rw [rep_length]; simp
    have hg : ∀ j, j < n → (rep n [AV.int .u8 0])[j]? = some (.int .u8 0) := by
      intro j hj
      rw [rep_get _ n j (by simpa using hj)]
      simp [Nat.mod_one]
    refine ⟨_, rep n [.int .u8 0], .int .u8 0, hk, ⟨trivial, fun φ r l hl => ⟨_, (0, 0), rfl, by simp, ?_, .inl (.inl rfl), fun j hj => ?_⟩⟩, hz, hs.symm, fun φ => ?_⟩
    · have := hl.length; simp only [Nat.zero_add]; omega
    · obtain ⟨y, hy, hr⟩ := hl.get (hg j hj)
      have := hr.int_inv
      subst this
      have e : byteAt 0 j = 0 := by rw [byteAt_eq]; simp
      rw [e]; simpa using hy
    · exact made_VRs (z := [.int .u8 0]) (zc := #[.int .u8 0]) (.cons (.int .u8 0) .nil) n
  · obtain ⟨cs, hk, z, hz, hv⟩ := zeroK_good hk
    simp only [bbK_good, lenIs_eq, decide_eq_true_eq] at hk
    obtain ⟨hlen, hk⟩ := hk
    obtain ⟨ob, hob, hk⟩ := mkRowK_good hk
    have hzs : z.cells.size = i.size := by have := (hv fun _ => none).size; omega
    have hzi : i.zero = some z := by
      have := hz default
      simp only [zeroValue, Sem.run_bind, runI hi, Result.andThen_ok] at this
      cases h0 : i.zero with
      | none => rw [h0] at this; simp at this
      | some z' => rw [h0] at this; simp at this; rw [this]
    exact ⟨ob, _, z, hk, hob, hzi, hzs, fun φ => made_VRs (hv φ) n⟩
theorem makeSliceF_good {H : Bid → AObj} {nx : Bid} (hh : HS h H nx) (he : EnvIs e f) {t : TypeId} {l c : Operand} (ho : o.op = .makeSlice t l c) (hk : makeSliceF t l c C e h k = .good) :
    ∃ v h' nx' ob, k v h' = .good ∧ nx'.num = nx.num + 1 ∧ HS h' (updB H nx ob) nx' ∧ AllocS C.P o f nx v ob := by
  simp only [makeSliceF, obK_good, opdK_good he, asNatK_good, bbK_good, andB_eq, bleB, Bool.and_eq_true, decide_eq_true_eq] at hk
  obtain ⟨q, hq, hl, jl, ln, hvl, hc, jc, cn, hvc, ⟨hlc, hcm⟩, hk⟩ := hk
  obtain ⟨hu, i, hi, hib, his⟩ := elemOf_some hq
  obtain ⟨ob, cs, z, hk, hob, hz, hzs, hv⟩ := mkZeroK_good hi his hk
  obtain ⟨nx', hn, h', hh', hk⟩ := hh.push hob.1 hk
  refine ⟨_, _, _, ob, hk, hn, hh', fun φ w ρ H nx hR hfr hρ => ?_⟩
  have hl' := hρ.opd hR hl
  rw [hvl] at hl'
  have hc' := hρ.opd hR hc
  rw [hvc] at hc'
  have hrun := run_make (P := C.P) w t q.1 i z hu hi hz jl jc (ln : Int) (cn : Int) (by omega) (by omega) (by
    have : i.bytes * cn ≤ 65536 * 65536 := Nat.mul_le_mul hib hcm
    have h2 : ((i.bytes * cn : Nat) : Int) ≤ 281474976710656 := by omega
    rwa [Int.natCast_mul] at h2) (by omega)
  simp only [Int.toNat_natCast] at hrun
  refine ⟨.slice (some ⟨w.heap.size, 0, none⟩) ln cn, .cells (madeCells z.cells (cn * i.size)) q.1, cn * i.size, w.drawn, ?_, ?_, ?_⟩
  · simp only [execOp, ho, hl'.int_inv, hc'.int_inv, Sem.run_bind, hrun, Result.andThen_ok, Sem.run_pure]; rfl
  · refine .slice (p := ⟨w.heap.size, 0, cn * i.size⟩) _ _ _ _ _ cn (updP_same _ _ _) hlc (Nat.le_refl _) (.inr (Nat.lt_succ_self _)) (.inr ⟨rfl, ?_⟩)
    simp only [← his]; omega
  · have := hob.2 (updP φ _ ⟨w.heap.size, 0, cn * i.size⟩) w.heap.size _ ((hv φ).mono (updP_le hfr))
    rw [hzs] at this
    simpa [size_madeCells] using this
end
end Go.Ev
end
