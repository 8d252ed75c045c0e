/- Part of the proof: a verified evaluator of the model (its definitions, and that it is sound). -/
import Derived.Test.YtmacmaaancfhiaaGreatDoorEvH
import Derived.Laws.Append
section
set_option maxRecDepth 2000
set_option autoImplicit false
set_option linter.unusedSimpArgs false
set_option linter.unusedVariables false
namespace Go.Ev

/-! ### append -/
structure ApIs (P : Program) (ts : Array TypeId) (el : TypeId) (sz : Nat) (byte zeros : Bool) (z : Value) : Prop where
  ty : ∃ t, ts[0]? = some t ∧ P.underlying t = some (.slice el)
  info : ∃ i, P.info? el = some i ∧ i.size = sz ∧ i.bytes ≤ 65536 ∧ i.zero = some z
  pos : sz ≠ 0
  cells : z.cells.size = sz
  byte : byte = tByte P el
  snd : (ts[1]? = none ∧ zeros = false) ∨ ∃ u d, ts[1]? = some u ∧ P.underlying u = some d ∧ intD d = some zeros
theorem apKind_some {P : Program} {ts : Array TypeId} {el : TypeId} {sz : Nat} {byte zeros : Bool} (h : apKind P ts = some (.mk el sz byte zeros)) : ∃ z, ApIs P ts el sz byte zeros z := by
  simp only [apKind, ob_some, bb_some, andB_eq, notB_eq, beqB, bleB, Bool.and_eq_true, Bool.not_eq_true', decide_eq_true_eq, decide_eq_false_iff_not] at h
  obtain ⟨t, ht, el', hel, i, hi, z, hz, ⟨⟨hp, hc⟩, hb⟩, h⟩ := h
  cases h1 : ts[1]? with
  | none =>
    rw [h1] at h
    simp only [Option.some.injEq, ApK.mk.injEq] at h
    obtain ⟨rfl, rfl, rfl, rfl⟩ := h
    exact ⟨z, ⟨t, ht, tSlice_some hel⟩, ⟨i, hi, rfl, hb, hz⟩, hp, hc, rfl, .inl ⟨h1, rfl⟩⟩
  | some u =>
    rw [h1] at h
    simp only [ob_some, Option.some.injEq, ApK.mk.injEq] at h
    obtain ⟨d, hd, g, hg, rfl, rfl, rfl, rfl⟩ := h
    exact ⟨z, ⟨t, ht, tSlice_some hel⟩, ⟨i, hi, rfl, hb, hz⟩, hp, hc, rfl, .inr ⟨u, d, h1, hd, hg⟩⟩
/-- What is appended. -/
def SrcIs (P : Program) (sz : Nat) (zeros : Bool) (z : Value) (x' : Value) (n : Nat) (c : Array Value) (w : World) : Prop :=
  (zeros = false ∧ (∀ w, (Builtin.lenOf x').run P w = .ok n w) ∧ ∀ m, (Builtin.firstCells sz n x').run P { w with drawn := m } = .ok c { w with drawn := m }) ∨
    (zeros = true ∧ x' = .int .i64 (n : Int) ∧ n ≤ 65536 ∧ c = madeCells z.cells (n * z.cells.size))
theorem zeroCells_eq (z : Array Value) (n : Nat) : Builtin.zeroCells z n = madeCells z (n * z.size) := rfl
theorem e00 (z : Array Value) : madeCells z 0 = #[] := by simp [madeCells]
theorem intD_true {d : TypeDesc} (h : intD d = some true) : ∃ k, d = .int k := by cases d <;> first | exact ⟨_, rfl⟩ | cases h
theorem intD_false {d : TypeDesc} (h : intD d = some false) : d = .string ∨ ∃ e, d = .slice e := by cases d <;> first | exact .inl rfl | exact .inr ⟨_, rfl⟩ | cases h
theorem append_fit {P : Program} {ts : Array TypeId} {ty el : TypeId} {sz : Nat} {byte zeros : Bool} {z : Value} (ha : ApIs P ts el sz byte zeros z) {base : Option Addr} {len cap n : Nat} {x' : Value} {c : Array Value} {w : World} (hx : SrcIs P sz zeros z x' n c w)
    (h : len + n ≤ cap) : (Builtin.append_ ts ty #[.slice base len cap, x']).run P w = ((match base with | some a => storeCells (a.add (len * sz)) c.toList | none => pure () : Sem Unit).run P w).andThen fun _ w' => .ok (.slice base (len + n) cap) w' := by
  obtain ⟨t, ht, hu⟩ := ha.ty
  obtain ⟨i, hi, his, hib, hiz⟩ := ha.info
  subst his
  rcases hx with ⟨rfl, hl, hf⟩ | ⟨rfl, rfl, hn, rfl⟩
  · have hf : (Builtin.firstCells i.size n x').run P w = .ok c w := hf w.drawn
    rcases ha.snd with ⟨h1, _⟩ | ⟨u, d, h1, hd, hz⟩
    · cases base <;> simp [Builtin.append_, ht, h1, run_underlying hu, sizeOf, typeInfo, hi, hl, h, hf]
    · rcases intD_false hz with rfl | ⟨e, rfl⟩ <;> cases base <;> simp [Builtin.append_, ht, h1, run_underlying hu, run_underlying hd, sizeOf, typeInfo, hi, hl, h, hf]
  · rcases ha.snd with ⟨_, h2⟩ | ⟨u, d, h1, hd, hz⟩
    · cases h2
    · obtain ⟨k, rfl⟩ := intD_true hz
      have hwr : IntKind.i64.wrap (n : Int) = n := by rw [IntKind.wrap_i64]; omega
      have hb : n * i.bytes ≤ 65536 * 65536 := Nat.mul_le_mul hn hib
      have hb2 : ¬ ((281474976710656 : Int) < (n : Int) * (i.bytes : Int)) := by
        rw [← Int.natCast_mul]; omega
      have hneg : ¬ ((n : Int) < 0) := by omega
      have hcs := ha.cells
      by_cases h0 : n * i.size = 0
      · have e0 : madeCells z.cells (n * z.cells.size) = #[] := by rw [ha.cells, h0]; simp [madeCells]
        have h0' : n = 0 ∨ i.size = 0 := Nat.mul_eq_zero.1 h0
        cases base <;> simp [Builtin.append_, ht, h1, run_underlying hu, run_underlying hd, sizeOf, typeInfo, hi, asInt, asIntOf, hwr, hneg, hb2, h, e0, h0', h0]
      · have h0' : ¬ (n = 0 ∨ i.size = 0) := fun h => h0 (Nat.mul_eq_zero.2 h)
        cases base <;> simp [Builtin.append_, ht, h1, run_underlying hu, run_underlying hd, sizeOf, typeInfo, zeroValue, hi, hiz, asInt, asIntOf, hwr, hneg, hb2, h, h0', h0, zeroCells_eq, hcs]
theorem append_grow {P : Program} {ts : Array TypeId} {ty el : TypeId} {sz : Nat} {byte zeros : Bool} {z : Value} (ha : ApIs P ts el sz byte zeros z) {base : Option Addr} {len cap n : Nat} {x' : Value} {c old : Array Value} {w : World} (hx : SrcIs P sz zeros z x' n c w)
    (hold : ∀ m, (Builtin.firstCells sz len (.slice base len cap)).run P { w with drawn := m } = .ok old { w with drawn := m }) (hb : len + n ≤ 16777216) (h : ¬ len + n ≤ cap) :
    ∃ nc, len + n ≤ nc ∧ (Builtin.append_ ts ty #[.slice base len cap, x']).run P w = .ok (.slice (some ⟨w.heap.size, 0, none⟩) (len + n) nc) { w.push (.cells (old ++ (c ++ madeCells z.cells ((nc - (len + n)) * z.cells.size))) el) with drawn := w.drawn + 1 } := by
  show ∃ nc, len + n ≤ nc ∧ (Builtin.append_ ts ty #[.slice base len cap, x']).run P w = .ok (.slice (some ⟨w.heap.size, 0, none⟩) (len + n) nc) (w.drew.alloc (.cells (old ++ (c ++ madeCells z.cells ((nc - (len + n)) * z.cells.size))) el))
  obtain ⟨t, ht, hu⟩ := ha.ty
  obtain ⟨i, hi, his, hib, hiz⟩ := ha.info
  subst his
  have hnx : ¬ (281474976710656 < Builtin.nextslicecap (len + n) cap * i.bytes) := by
    have h1 := nextslicecap_le (need := len + n) (old := cap) (by omega)
    have h2 : Builtin.nextslicecap (len + n) cap * i.bytes ≤ (2 * 16777216) * 65536 := Nat.mul_le_mul (by omega) hib
    omega
  have hmax : ¬ (9223372036854775807 < (len : Int) + (n : Int)) := by omega
  refine ⟨(Question.appendCap (len + n) cap el).cut (w.tape w.drawn (.appendCap (len + n) cap el)), by simp only [Question.cut]; omega, ?_⟩
  generalize hcap : (Question.appendCap (len + n) cap el).cut (w.tape w.drawn (.appendCap (len + n) cap el)) = nc
  have hold' : (Builtin.firstCells i.size len (.slice base len cap)).run P w.drew = .ok old w.drew := hold (w.drawn + 1)
  rcases hx with ⟨rfl, hl, hf⟩ | ⟨rfl, rfl, hn, rfl⟩
  · have hf : (Builtin.firstCells i.size n x').run P w.drew = .ok c w.drew := hf (w.drawn + 1)
    rcases ha.snd with ⟨h1, _⟩ | ⟨u, d, h1, hd, hz⟩
    · simp [Builtin.append_, ht, h1, run_underlying hu, sizeOf, typeInfo, zeroValue, hi, hiz, hl, h, hmax, hnx, Question.forced, hcap, hold', hf, newRow, zeroCells_eq, e00]
    · rcases intD_false hz with rfl | ⟨e, rfl⟩ <;>
        simp [Builtin.append_, ht, h1, run_underlying hu, run_underlying hd, sizeOf, typeInfo, zeroValue, hi, hiz, hl, h, hmax, hnx, Question.forced, hcap, hold', hf, newRow, zeroCells_eq, e00]
  · rcases ha.snd with ⟨_, h2⟩ | ⟨u, d, h1, hd, hz⟩
    · cases h2
    · obtain ⟨k, rfl⟩ := intD_true hz
      have hwr : IntKind.i64.wrap (n : Int) = n := by rw [IntKind.wrap_i64]; omega
      have hb' : n * i.bytes ≤ 65536 * 65536 := Nat.mul_le_mul hn hib
      have hb2 : ¬ ((281474976710656 : Int) < (n : Int) * (i.bytes : Int)) := by
        rw [← Int.natCast_mul]; omega
      have hneg : ¬ ((n : Int) < 0) := by omega
      have hcs := ha.cells
      by_cases h0 : n * i.size = 0
      · have e0 : madeCells z.cells (n * i.size) = #[] := by rw [h0]; simp [madeCells]
        have h0' : n = 0 ∨ i.size = 0 := Nat.mul_eq_zero.1 h0
        simp [Builtin.append_, ht, h1, run_underlying hu, run_underlying hd, sizeOf, typeInfo, zeroValue, hi, hiz, asInt, asIntOf, hwr, hneg, hb2, h, hmax, hnx, Question.forced, hcap, hold', e0, h0', h0, newRow, zeroCells_eq, e00, hcs]
      · have h0' : ¬ (n = 0 ∨ i.size = 0) := fun h => h0 (Nat.mul_eq_zero.2 h)
        simp [Builtin.append_, ht, h1, run_underlying hu, run_underlying hd, sizeOf, typeInfo, zeroValue, hi, hiz, asInt, asIntOf, hwr, hneg, hb2, h, hmax, hnx, Question.forced, hcap, hold', h0', h0, newRow, zeroCells_eq, e00, hcs]
end Go.Ev
end

section
set_option maxRecDepth 2000
set_option autoImplicit false
set_option linter.unusedSimpArgs false
set_option linter.unusedVariables false
namespace Go.Ev

/-- What is appended, on the machine's side: cells. -/
def SrcG (P : Program) (sz : Nat) (zeros : Bool) (z : Value) (x : AV) (n : Nat) (xs : List AV) (H : Bid → AObj) : Prop :=
  ∀ (φ : Phi) (w : World) (nx' : Bid) (x' : Value), R φ H nx' w → VR φ x x' → ∃ c, SrcIs P sz zeros z x' n c w ∧ VRs φ xs c.toList
/-- And bytes. -/
def SrcB (P : Program) (zeros : Bool) (z : Value) (x : AV) (n d : Nat) (H : Bid → AObj) : Prop :=
  ∀ (φ : Phi) (w : World) (nx' : Bid) (x' : Value), R φ H nx' w → VR φ x x' → SrcIs P 1 zeros z x' n (byteCells d n).toArray w
/-- What an append comes to. -/
def ApS (P : Program) (ts : Array TypeId) (s x : AV) (H : Bid → AObj) (nx : Bid) (v : AV) (H' : Bid → AObj) (nx' : Bid) : Prop :=
  ∀ (φ : Phi) (w : World) (s' x' : Value) (ty : TypeId), R φ H nx w → VR φ s s' → VR φ x x' → ∃ φ' w' v', (Builtin.append_ ts ty #[s', x']).run P w = .ok v' w' ∧ VR φ' v v' ∧ R φ' H' nx' w' ∧ Grows φ H nx w φ' H' nx' w'
theorem plain_OR {φ : Phi} {el m r : Nat} {t : CT} {L : List AV} (ht : CTIs t m (ofL L)) (hm : L.length = m) {cells : Array Value} {l tail : List Value} (hc : cells.toList = l ++ tail) (hv : VRs φ L l) : OR φ (.cells el m t .plain) ⟨r, 0, cells.size⟩ (some (.cells cells el)) := by
  have hl := hv.length
  have hs : cells.size = l.length + tail.length := by rw [← Array.length_toList, hc, List.length_append]
  refine ⟨cells, (0, 0), rfl, rfl, by simp only; omega, fun _ i _ hi => absurd hi (Nat.not_lt_zero i), fun h => (by cases h), fun g hg i hi => ?_⟩
  rw [hg.uniq ht hi]
  obtain ⟨y, hy, hr⟩ := hv.get (i := i) (x := L[i]'(by omega)) (List.getElem?_eq_getElem _)
  refine ⟨y, ?_, ?_⟩
  · simp only [Nat.zero_add]
    rw [← Array.getElem?_toList, hc, List.getElem?_append_left (by omega)]; exact hy
  · have : ofL L i = L[i]'(by omega) := by simp [ofL, List.getD_eq_getElem?_getD, show i < L.length by omega]
    rw [this]; exact hr
/-- A new array, of which more is there than is known. -/
theorem grown {φ : Phi} {H : Bid → AObj} {nx nx' : Bid} {w : World} (hR : R φ H nx w) (hn : nx'.num = nx.num + 1) {ob : AObj} {cells : Array Value} {el : TypeId} {nc l2 sz d : Nat} (hcs : nc * sz ≤ cells.size) (hle : l2 ≤ nc)
    (hO : OR (updP φ nx ⟨w.heap.size, 0, cells.size⟩) ob ⟨w.heap.size, 0, cells.size⟩ (some (.cells cells el))) :
    VR (updP φ nx ⟨w.heap.size, 0, cells.size⟩) (.slice nx 0 l2 l2 0 sz) (.slice (some ⟨w.heap.size, 0, none⟩) l2 nc) ∧
    R (updP φ nx ⟨w.heap.size, 0, cells.size⟩) (updB H nx ob) nx' { w.push (.cells cells el) with drawn := d } ∧ Grows φ H nx w (updP φ nx ⟨w.heap.size, 0, cells.size⟩) (updB H nx ob) nx' { w.push (.cells cells el) with drawn := d } := by
  refine ⟨.slice (p := ⟨w.heap.size, 0, cells.size⟩) _ _ _ _ _ nc (updP_same _ _ _) hle hle (.inl rfl) (.inr ⟨rfl, by simp only; omega⟩), (hR.push hn _ hO).drew d, (Grows.push hR hn ob _ _).drew d⟩
theorem made_size (z : Array Value) (n : Nat) : (madeCells z n).toList.length = n := by simp [size_madeCells]
theorem SrcIs.size {P : Program} {sz : Nat} {zeros : Bool} {z x' : Value} {n : Nat} {c : Array Value} {w : World} (h : SrcIs P sz zeros z x' n c w) : True := trivial
theorem firstCells_drew {P : Program} {sz n : Nat} {x' : Value} {c : Array Value} {w : World} (h : ∀ w', w'.heap = w.heap → (Builtin.firstCells sz n x').run P w' = .ok c w') (m : Nat) : (Builtin.firstCells sz n x').run P { w with drawn := m } = .ok c { w with drawn := m } := h _ rfl
section
variable {P : Program} {ts : Array TypeId} {el sz : Nat} {byte zeros : Bool} {z : Value} {s x : AV} {n : Nat} {h : Heap} {H : Bid → AObj} {nx : Bid} {k : AV → Heap → A}
theorem appendTo_good (hh : HS h H nx) (ha : ApIs P ts el sz byte zeros z) {xs : List AV} (hsrc : SrcG P sz zeros z x n xs H) (hk : appendTo P el sz s n xs h k = .good) :
    ∃ v h' H' nx', k v h' = .good ∧ HS h' H' nx' ∧ ApS P ts s x H nx v H' nx' := by
  simp only [appendTo, bbK_good, andB_eq, Bool.and_eq_true, lenIs_eq, decide_eq_true_eq, asSlK_good, boolRec_good, beqB, decide_eq_false_iff_not, bleB, fN_eq, hh.get] at hk
  obtain ⟨⟨h1, hxl⟩, hk⟩ := hk
  have hxl : xs.length = n * sz := hxl
  have hcs := ha.cells
  rcases hk with ⟨rfl, ⟨rfl, hk⟩ | ⟨hn0, hnb, hk⟩⟩ | ⟨b, off, len, cl, ch, zz, rfl, ⟨rfl, hln⟩, hk⟩
  · refine ⟨_, _, _, _, hk, hh, fun φ w s' x' ty hR hs hx => ?_⟩
    obtain ⟨c, hc, hv⟩ := hsrc φ w nx x' hR hx
    rw [hs.nils_inv]
    refine ⟨φ, w, .slice none 0 0, ?_, .nils, hR, .refl _ _ _ _⟩
    rw [append_fit ha hc (by omega)]; rfl
  · obtain ⟨t', ht', hk⟩ := ctofK_good hk
    obtain ⟨nx', hn, h', hh', hk⟩ := hh.push (o := .cells el (Nat.mul n sz) t' .plain) ⟨_, by rw [← show xs.length = Nat.mul n sz from hxl]; exact ht'⟩ hk
    refine ⟨_, _, _, _, hk, hh', fun φ w s' x' ty hR hs hx => ?_⟩
    obtain ⟨c, hc, hv⟩ := hsrc φ w nx x' hR hx
    rw [hs.nils_inv]
    obtain ⟨nc, hnc, hr⟩ := append_grow (ty := ty) (base := none) (len := 0) (cap := 0) ha hc (old := #[]) (fun m => rfl) (by omega) (by omega)
    simp only [Nat.zero_add] at hr hnc
    obtain ⟨cells, hcells⟩ : ∃ cs : Array Value, cs = #[] ++ (c ++ madeCells z.cells ((nc - n) * z.cells.size)) := ⟨_, rfl⟩
    rw [← hcells] at hr
    have hsz : cells.size = n * sz + (nc - n) * sz := by
      have := hv.size
      rw [hcells]
      simp only [Array.size_append, size_madeCells, hcs]; simp; omega
    have hle : nc * sz ≤ n * sz + (nc - n) * sz := by rw [← Nat.add_mul]; exact Nat.mul_le_mul_right _ (by omega)
    have hO := plain_OR (φ := updP φ nx ⟨w.heap.size, 0, cells.size⟩) (el := el) (m := Nat.mul n sz) (r := w.heap.size) (cells := cells) (l := c.toList) (tail := (madeCells z.cells ((nc - n) * z.cells.size)).toList)
      (by rw [← show xs.length = Nat.mul n sz from hxl]; exact ht') hxl (by rw [hcells]; simp) (hv.mono (updP_le hR.fresh))
    obtain ⟨h2, h3, h4⟩ := grown (nc := nc) (l2 := n) (sz := sz) (d := w.drawn + 1) hR hn (by omega) hnc hO
    exact ⟨_, _, _, hr, h2, h3, h4⟩
  · have hln : len + n ≤ 16777216 := hln
    rcases hk with ⟨hfit, hk⟩ | ⟨hnf, hk⟩
    · obtain ⟨o', hst, hk⟩ := stLK_good (hh.ok b) hk
      obtain ⟨h', hh', e'⟩ := hh.set b hst.ok (fun h => k (.slice b off (Nat.add len n) cl ch zz) h)
      rw [e'] at hk
      refine ⟨_, _, _, _, hk, hh', fun φ w s' x' ty hR hs hx => ?_⟩
      have hfit : len + n ≤ cl := hfit
      obtain ⟨c, hc, hv⟩ := hsrc φ w nx x' hR hx
      obtain ⟨p, a, cap, hp, rfl, hnc, hlo, hhi, haa⟩ := hs.slice_inv
      obtain ⟨w', hr, h2, h3⟩ := hst.run P hR hp hv
      have hr' : (storeCells (a.add (len * zz)) c.toList).run P w = .ok () w' := by
        rcases haa with h0 | ⟨rfl, _⟩
        · have hn : n = 0 := by omega
          subst hn
          have hce : c.toList = [] := List.length_eq_zero_iff.1 (by rw [← hv.length, hxl]; simp)
          rw [hce] at hr ⊢
          exact hr
        · rw [add_spot]; exact hr
      refine ⟨φ, w', .slice (some a) (len + n) cap, ?_, .slice _ _ _ _ _ cap hp (by omega) hlo hhi haa, h2, h3⟩
      rw [append_fit ha hc (by omega)]
      simp only [hr', Result.andThen_ok]
    · obtain ⟨old, hld, holdl, hk⟩ := ldLK_good (hh.ok b) hk
      have holdl : old.length = len * zz := holdl
      obtain ⟨t', ht', hk⟩ := ctofK_good hk
      rw [app_eq] at ht'
      have hLl : (old ++ xs).length = (len + n) * zz := by rw [List.length_append, holdl, hxl, Nat.add_mul]
      rw [hLl] at ht'
      have hnf : ¬ len + n ≤ cl := hnf
      -- the new array, where the old one has no room
      have newArr : ∀ (φ : Phi) (w : World) (s' x' : Value) (ty : TypeId) (H₁ : Bid → AObj) (nx' : Bid), nx'.num = nx.num + 1 → R φ H nx w → R φ H₁ nx w → VR φ (.slice b off len cl ch zz) s' → VR φ x x' → ∀ (a : Option Addr) (cap : Nat), s' = .slice a len cap → ¬ len + n ≤ cap →
          ∃ φ' w' v', (Builtin.append_ ts ty #[s', x']).run P w = .ok v' w' ∧ VR φ' (.slice nx 0 (len + n) (len + n) 0 zz) v' ∧ R φ' (updB H₁ nx (.cells el ((len + n) * zz) t' .plain)) nx' w' ∧ Grows φ H₁ nx w φ' (updB H₁ nx (.cells el ((len + n) * zz) t' .plain)) nx' w' := by
        intro φ w s' x' ty H₁ nx' hn hR hR₁ hs hx a₀ cap hs' hcap
        obtain ⟨c, hc, hv⟩ := hsrc φ w nx x' hR hx
        obtain ⟨p, a, cap', hp, he, hnc, hlo, hhi, haa⟩ := hs.slice_inv
        rw [hs'] at he
        simp only [Value.slice.injEq, true_and] at he
        obtain ⟨rfl, rfl⟩ := he
        have hold : ∃ l : List Value, VRs φ old l ∧ ∀ m, (Builtin.firstCells zz len (.slice (some a) len cap)).run P { w with drawn := m } = .ok l.toArray { w with drawn := m } := by
          rcases haa with h0 | ⟨rfl, _⟩
          · have : len = 0 := by omega
            subst this
            have : old = [] := List.length_eq_zero_iff.1 (by simpa using holdl)
            subst this
            exact ⟨[], .nil, fun m => by simp only [Builtin.firstCells, Nat.zero_mul]; rfl⟩
          · have hO := hR.obj _ _ hp
            obtain ⟨cc, e, fr, g1, g2, g3, g4⟩ := hld.sound hO
            refine ⟨_, g4, fun m => ?_⟩
            have := run_loadCells_row P (w := { w with drawn := m }) g1 g3
            rw [holdl] at this ⊢
            exact this
        obtain ⟨l, hl, hlr⟩ := hold
        subst hs'
        obtain ⟨nc, hnc', hr⟩ := append_grow (ty := ty) ha hc hlr hln hcap
        obtain ⟨cells, hcells⟩ : ∃ cs : Array Value, cs = l.toArray ++ (c ++ madeCells z.cells ((nc - (len + n)) * z.cells.size)) := ⟨_, rfl⟩
        rw [← hcells] at hr
        have hsz : cells.size = (len + n) * zz + (nc - (len + n)) * zz := by
          have h1 := hv.size
          have h2 := hl.length
          rw [hcells]
          simp only [Array.size_append, size_madeCells, hcs, List.size_toArray]
          rw [Nat.add_mul]; omega
        have hle : nc * zz ≤ (len + n) * zz + (nc - (len + n)) * zz := by rw [← Nat.add_mul]; exact Nat.mul_le_mul_right _ (by omega)
        have hO := plain_OR (φ := updP φ nx ⟨w.heap.size, 0, cells.size⟩) (el := el) (m := (len + n) * zz) (r := w.heap.size) (cells := cells) (l := l ++ c.toList) (tail := (madeCells z.cells ((nc - (len + n)) * z.cells.size)).toList)
          ht' hLl (by rw [hcells]; simp) ((hl.append hv).mono (updP_le hR.fresh))
        obtain ⟨h2, h3, h4⟩ := grown (nc := nc) (l2 := len + n) (sz := zz) (d := w.drawn + 1) hR₁ hn (by omega) hnc' hO
        exact ⟨_, _, _, hr, h2, h3, h4⟩
      simp only [boolRec_good, bbK_good, andB_eq, Bool.and_eq_true] at hk
      rcases hk with ⟨hsure, hall, hk⟩ | ⟨hsure, ⟨hok, hty⟩, hk⟩
      · obtain ⟨nx', hn, h', hh', hk⟩ := hh.push (o := .cells el (Nat.mul (Nat.add len n) zz) t' .plain) ⟨_, ht'⟩ hk
        refine ⟨_, _, _, _, hk, hh', fun φ w s' x' ty hR hs hx => ?_⟩
        obtain ⟨p, a, cap, hp, he, hnc, hlo, hhi, haa⟩ := hs.slice_inv
        have hcap : ¬ len + n ≤ cap := by
          simp only [surely, boolRec_good, beqB, bleB] at hsure
          by_cases hc0 : ch = 0
          · simp [hc0] at hsure
          · simp [hc0] at hsure
            have : ch ≤ len + n := hsure
            omega
        exact newArr φ w s' x' ty H nx' hn hR hR hs hx _ cap he hcap
      · obtain ⟨h₁, hh₁, e₁⟩ := hh.set b (o := .none) trivial (fun h => hnewK (.cells el (Nat.mul (Nat.add len n) zz) t' .plain) h fun b' h => k (.slice b' 0 (Nat.add len n) (Nat.add len n) 0 zz) h)
        rw [e₁] at hk
        obtain ⟨nx', hn, h', hh', hk⟩ := hh₁.push (o := .cells el (Nat.mul (Nat.add len n) zz) t' .plain) ⟨_, ht'⟩ hk
        refine ⟨_, _, _, _, hk, hh', fun φ w s' x' ty hR hs hx => ?_⟩
        obtain ⟨p, a, cap, hp, he, hnc, hlo, hhi, haa⟩ := hs.slice_inv
        by_cases hcap : len + n ≤ cap
        · subst he
          obtain ⟨c, hc, hv⟩ := hsrc φ w nx x' hR hx
          have haa := haa.resolve_left (by omega)
          obtain ⟨rfl, hbd⟩ := haa
          -- the block, as it is known
          have hO := hR.obj _ _ hp
          have hlive : (H b).isNone = false := by cases hob : H b <;> simp [hob, cellsOk, AObj.isNone] at hok ⊢
          have hown : (H b).own = true := by
            cases hob : H b <;> simp [hob, cellsOk, AObj.own] at hok ⊢
            rename_i kd
            cases kd <;> simp_all [kdOk, Kd.isRead]
          obtain ⟨cc, fr, hblk, hfr, hsz⟩ : ∃ cc fr, w.heap[p.blk]? = some (.cells cc el fr) ∧ (∀ i, fr.1 ≤ i → ¬ i < fr.2) ∧ cc.size = p.cs := by
            cases hob : H b with
            | cells ty₀ m₀ t₀ kd₀ =>
              rw [hob] at hO hok hty
              simp only [cellsOk, tyIs, beqB, decide_eq_true_eq] at hok hty
              obtain ⟨cc, fr, g1, g2, g3, g4, _⟩ := hO
              subst hty
              exact ⟨cc, fr, g1, g4 (by cases kd₀ <;> simp [kdOk, Kd.isRead] at hok ⊢), g2⟩
            | _ => rw [hob] at hok; simp [cellsOk] at hok
          obtain ⟨cc', e', fr', g1, g2, g3, g4⟩ := hld.sound hO
          rw [hblk] at g1
          simp only [Option.some.injEq, Obj.cells.injEq] at g1
          obtain ⟨rfl, rfl, rfl⟩ := g1
          have hcl := hv.size
          have hbd2 : (len + n) * zz ≤ cap * zz := Nat.mul_le_mul_right _ hcap
          rw [Nat.add_mul] at hbd2
          have hone : ∀ v ∈ c.toList, v.oneCell' = true := hv.oneCell h1
          have hst := run_storeCells_put P c.toList (off + len * zz + p.sh) 0 cc w hblk (by rw [Array.length_toList]; omega) (fun j hj => hfr _) hone
          refine ⟨updP φ nx ⟨p.blk, off + p.sh, p.cs⟩, w.put p.blk (.cells (ovr cc (off + len * zz + p.sh + 0) c.toList) el fr), .slice (some (p.addr off)) (len + n) cap, ?_, ?_, ?_, ?_⟩
          · rw [append_fit ha hc hcap]
            simp only [add_spot]
            have : (storeCells (p.addr (off + len * zz)) c.toList).run P w = _ := hst
            rw [this]; rfl
          · exact .slice (p := ⟨p.blk, off + p.sh, p.cs⟩) _ _ _ _ _ cap (updP_same _ _ _) hcap hcap (.inl rfl) (.inr ⟨by simp [PB.addr], by simp only; omega⟩)
          · refine hR.move hn hp hlive rfl ⟨_, fr, rfl, by rw [ovr_size]; exact hsz, ?_, fun _ => hfr, fun h => (by cases h), fun g hg i hi => ?_⟩
            · show off + p.sh + (len + n) * zz ≤ p.cs
              rw [Nat.add_mul]; omega
            · rw [hg.uniq ht' hi]
              have hi : i < (len + n) * zz := hi
              rw [Nat.add_mul] at hi
              show ∃ v, (ovr cc (off + len * zz + p.sh + 0) c.toList)[off + p.sh + i]? = some v ∧ _
              rw [ovr_get _ _ _ _ (by rw [Array.length_toList]; omega), Array.length_toList]
              by_cases hio : i < len * zz
              · rw [if_neg (by omega)]
                obtain ⟨y, hy, hr⟩ := g4.get (i := i) (x := old[i]'(by omega)) (List.getElem?_eq_getElem _)
                rw [rowCut_get, if_pos (by omega)] at hy
                refine ⟨y, by rw [← hy], ?_⟩
                have : ofL (old ++ xs) i = old[i]'(by omega) := by
                  simp only [ofL, List.getD_eq_getElem?_getD]
                  rw [List.getElem?_append_left (by omega), List.getElem?_eq_getElem (by omega)]; rfl
                rw [this]; exact hr.mono (updP_le hR.fresh)
              · rw [if_pos (by omega)]
                obtain ⟨y, hy, hr⟩ := hv.get (i := i - len * zz) (x := xs[i - len * zz]'(by omega)) (List.getElem?_eq_getElem _)
                refine ⟨y, by rw [← hy]; congr 1; omega, ?_⟩
                have : ofL (old ++ xs) i = xs[i - len * zz]'(by omega) := by
                  simp only [ofL, List.getD_eq_getElem?_getD]
                  rw [List.getElem?_append_right (by omega), holdl, List.getElem?_eq_getElem (by omega)]; rfl
                rw [this]; exact hr.mono (updP_le hR.fresh)
          · exact Grows.move hR hn hp hown _ _ rfl
        · obtain ⟨φ', w', v', g1, g2, g3, g4⟩ := newArr φ w s' x' ty (updB H b .none) nx' hn hR (hR.drop b) hs hx _ cap he hcap
          exact ⟨φ', w', v', g1, g2, g3, (Grows.drop hp).trans g4⟩
end
end Go.Ev
end

section
set_option maxRecDepth 2000
set_option autoImplicit false
set_option linter.unusedSimpArgs false
set_option linter.unusedVariables false
namespace Go.Ev

theorem byteCells_append {a b n m : Nat} (hb : b < 256 ^ m) : byteCells a n ++ byteCells b m = byteCells (bytePut a n m b) (n + m) := by
  apply List.ext_getElem?
  intro i
  rw [List.getElem?_append, byteCells_length]
  by_cases h : i < n
  · rw [if_pos h, byteCells_get _ _ _ h, byteCells_get _ _ _ (by omega), byteAt_put _ _ _ _ _ hb, if_neg (by omega)]
  · rw [if_neg h]
    by_cases h2 : i < n + m
    · rw [byteCells_get _ _ _ (by omega), byteCells_get _ _ _ h2, byteAt_put _ _ _ _ _ hb, if_pos (by omega)]
    · rw [List.getElem?_eq_none (by rw [byteCells_length]; omega), List.getElem?_eq_none (by rw [byteCells_length]; omega)]
theorem bytes_OR {φ : Phi} {el n d r : Nat} {g : Bool} {cells : Array Value} {tail : List Value} (hc : cells.toList = byteCells d n ++ tail) : OR φ (.bytes el n d 0 g) ⟨r, 0, cells.size⟩ (some (.cells cells el)) := by
  have hs : cells.size = n + tail.length := by rw [← Array.length_toList, hc, List.length_append, byteCells_length]
  refine ⟨cells, (0, 0), rfl, rfl, by simp only; omega, .inl (.inl rfl), fun i hi => ?_⟩
  simp only [Nat.zero_add]
  rw [← Array.getElem?_toList, hc, List.getElem?_append_left (by rw [byteCells_length]; exact hi), byteCells_get _ _ _ hi]
section
variable {P : Program} {ts : Array TypeId} {el : Nat} {byte zeros : Bool} {z : Value} {s x : AV} {n d : Nat} {h : Heap} {H : Bid → AObj} {nx : Bid} {k : AV → Heap → A}
theorem appendBytes_good (hh : HS h H nx) (ha : ApIs P ts el 1 byte zeros z) (hd : d < 256 ^ n) (hsrc : SrcB P zeros z x n d H) (hk : appendBytes el s n d h k = .good) :
    ∃ v h' H' nx', k v h' = .good ∧ HS h' H' nx' ∧ ApS P ts s x H nx v H' nx' := by
  simp only [appendBytes, bbK_good, andB_eq, Bool.and_eq_true, decide_eq_true_eq, asSlK_good, boolRec_good, beqB, decide_eq_false_iff_not, bleB, fN_eq, hh.get] at hk
  have hcs := ha.cells
  rcases hk with ⟨rfl, ⟨rfl, hk⟩ | ⟨hn0, hnb, hk⟩⟩ | ⟨b, off, len, cl, ch, zz, rfl, ⟨rfl, hln⟩, hk⟩
  · refine ⟨_, _, _, _, hk, hh, fun φ w s' x' ty hR hs hx => ?_⟩
    have hc := hsrc φ w nx x' hR hx
    rw [hs.nils_inv]
    refine ⟨φ, w, .slice none 0 0, ?_, .nils, hR, .refl _ _ _ _⟩
    rw [append_fit ha hc (by omega)]; rfl
  · obtain ⟨nx', hn, h', hh', hk⟩ := hh.push (o := .bytes el n d 0 false) trivial hk
    refine ⟨_, _, _, _, hk, hh', fun φ w s' x' ty hR hs hx => ?_⟩
    have hc := hsrc φ w nx x' hR hx
    rw [hs.nils_inv]
    obtain ⟨nc, hnc, hr⟩ := append_grow (ty := ty) (base := none) (len := 0) (cap := 0) ha hc (old := #[]) (fun m => rfl) (by omega) (by omega)
    simp only [Nat.zero_add] at hr hnc
    obtain ⟨cells, hcells⟩ : ∃ cs : Array Value, cs = #[] ++ ((byteCells d n).toArray ++ madeCells z.cells ((nc - n) * z.cells.size)) := ⟨_, rfl⟩
    rw [← hcells] at hr
    have hsz : cells.size = nc := by
      rw [hcells]
      simp only [Array.size_append, size_madeCells, hcs, List.size_toArray, byteCells_length]; simp; omega
    have hO := bytes_OR (φ := updP φ nx ⟨w.heap.size, 0, cells.size⟩) (el := el) (n := n) (d := d) (r := w.heap.size) (g := false) (cells := cells) (tail := (madeCells z.cells ((nc - n) * z.cells.size)).toList) (by rw [hcells]; simp)
    obtain ⟨h2, h3, h4⟩ := grown (nc := nc) (l2 := n) (sz := 1) (d := w.drawn + 1) hR hn (by omega) hnc hO
    exact ⟨_, _, _, hr, h2, h3, h4⟩
  · have hln : len + n ≤ 16777216 := hln
    cases hob : H b <;> rw [hob] at hk <;> first | (exact absurd hk no_good) | skip
    rename_i ty₀ m d₀ fz g
    simp only [apB, bbK_good, andB_eq, orB_eq, Bool.and_eq_true, Bool.or_eq_true, decide_eq_true_eq, boolRec_good, beqB, decide_eq_false_iff_not, bleB, fN_eq, addE, subE] at hk
    obtain ⟨holm, hk⟩ := hk
    -- what is there, on the machine's side
    have see : ∀ (φ : Phi) (w : World) (s' : Value), R φ H nx w → VR φ (.slice b off len cl ch 1) s' → ∃ p a cap cc fr, φ b = some p ∧ s' = .slice (some a) len cap ∧ len ≤ cap ∧ cl ≤ cap ∧ (ch = 0 ∨ cap < ch) ∧ (cap = 0 ∨ (a = p.addr off ∧ off + p.sh + cap * 1 ≤ p.cs)) ∧
        w.heap[p.blk]? = some (.cells cc ty₀ fr) ∧ cc.size = p.cs ∧ p.sh + m ≤ p.cs ∧ ((fr.1 = fr.2 ∨ fr.2 ≤ p.sh + fz ∨ m < fz) ∨ (g = true ∧ fz = 0 ∧ p.cs ≤ fr.1)) ∧ ∀ i, i < m → cc[p.sh + i]? = some (.int .u8 (byteAt d₀ i : Nat)) := by
      intro φ w s' hR hs
      obtain ⟨p, a, cap, hp, he, hnc, hlo, hhi, haa⟩ := hs.slice_inv
      have hO := hR.obj _ _ hp
      rw [hob] at hO
      obtain ⟨cc, fr, g1, g2, g3, g4, g5⟩ := hO
      exact ⟨p, a, cap, cc, fr, hp, he, hnc, hlo, hhi, haa, g1, g2, g3, g4, g5⟩
    -- the new array
    have newArr : ∀ (φ : Phi) (w : World) (s' x' : Value) (ty : TypeId) (H₁ : Bid → AObj) (nx' : Bid) (fz' : Nat) (g' : Bool), (∀ cells : Array Value, ((0 = 0 ∨ 0 ≤ 0 + fz') ∨ (g' = true ∧ fz' = 0 ∧ cells.size ≤ 0))) → nx'.num = nx.num + 1 → R φ H nx w → R φ H₁ nx w → VR φ (.slice b off len cl ch 1) s' → VR φ x x' → ∀ (a : Option Addr) (cap : Nat), s' = .slice a len cap → ¬ len + n ≤ cap →
        ∃ φ' w' v', (Builtin.append_ ts ty #[s', x']).run P w = .ok v' w' ∧ VR φ' (.slice nx 0 (len + n) (len + n) 0 1) v' ∧ R φ' (updB H₁ nx (.bytes el (len + n) (bytePut (byteCut d₀ off len) len n d) fz' g')) nx' w' ∧
          Grows φ H₁ nx w φ' (updB H₁ nx (.bytes el (len + n) (bytePut (byteCut d₀ off len) len n d) fz' g')) nx' w' := by
      intro φ w s' x' ty H₁ nx' fz' g' _ hn hR hR₁ hs hx a₀ cap hs' hcap
      have hc := hsrc φ w nx x' hR hx
      obtain ⟨p, a, cap', cc, fr, hp, he, hnc, hlo, hhi, haa, g1, g2, g3, g4, g5⟩ := see φ w s' hR hs
      rw [hs'] at he
      simp only [Value.slice.injEq, true_and] at he
      obtain ⟨rfl, rfl⟩ := he
      have hold : ∀ m', (Builtin.firstCells 1 len (.slice (some a) len cap)).run P { w with drawn := m' } = .ok (byteCells (byteCut d₀ off len) len).toArray { w with drawn := m' } := by
        intro m'
        rcases haa with h0 | ⟨rfl, _⟩
        · have : len = 0 := by omega
          subst this
          simp only [Builtin.firstCells, Nat.zero_mul]; rfl
        · simp only [Builtin.firstCells, Nat.mul_one]
          have h1 := run_loadCells_row P (w := { w with drawn := m' }) (o := off + p.sh) (n := len) g1 (by omega)
          have h2 : rowCut cc (off + p.sh) len = byteCells (byteCut d₀ off len) len := by
            apply List.ext_getElem?
            intro i
            rw [rowCut_get]
            by_cases hi : i < len
            · rw [if_pos hi, byteCells_get _ _ _ hi, byteAt_cut, if_pos hi, ← g5 (off + i) (by omega)]; congr 1; omega
            · rw [if_neg hi, List.getElem?_eq_none (by rw [byteCells_length]; omega)]
          rw [h2] at h1
          exact h1
      subst hs'
      obtain ⟨nc, hnc', hr⟩ := append_grow (ty := ty) ha hc hold hln hcap
      obtain ⟨cells, hcells⟩ : ∃ cs : Array Value, cs = (byteCells (byteCut d₀ off len) len).toArray ++ ((byteCells d n).toArray ++ madeCells z.cells ((nc - (len + n)) * z.cells.size)) := ⟨_, rfl⟩
      rw [← hcells] at hr
      have hsz : cells.size = nc := by
        rw [hcells]
        simp only [Array.size_append, size_madeCells, hcs, List.size_toArray, byteCells_length]; omega
      have hO₀ := bytes_OR (φ := updP φ nx ⟨w.heap.size, 0, cells.size⟩) (el := el) (n := len + n) (d := bytePut (byteCut d₀ off len) len n d) (r := w.heap.size) (g := g') (cells := cells) (tail := (madeCells z.cells ((nc - (len + n)) * z.cells.size)).toList) (by
        rw [hcells, ← byteCells_append hd]; simp)
      have hO : OR (updP φ nx ⟨w.heap.size, 0, cells.size⟩) (.bytes el (len + n) (bytePut (byteCut d₀ off len) len n d) fz' g') ⟨w.heap.size, 0, cells.size⟩ (some (.cells cells el)) := by
        obtain ⟨c₁, fr₁, q1, q2, q3, q4, q5⟩ := hO₀
        simp only [Option.some.injEq, Obj.cells.injEq] at q1
        obtain ⟨rfl, _, rfl⟩ := q1
        exact ⟨_, (0, 0), rfl, q2, q3, .inl (.inl rfl), q5⟩
      obtain ⟨h2, h3, h4⟩ := grown (nc := nc) (l2 := len + n) (sz := 1) (d := w.drawn + 1) hR₁ hn (by omega) hnc' hO
      exact ⟨_, _, _, hr, h2, h3, h4⟩
    rcases hk with ⟨hfit, ⟨hm, hfz⟩, hk⟩ | ⟨hnf, ⟨hsure, hk⟩ | ⟨hsure, ⟨rfl, hfz⟩, hk⟩⟩
    · obtain ⟨h', hh', e'⟩ := hh.set b (o := .bytes ty₀ m (bytePut d₀ (off + len) n d) fz g) trivial (fun h => k (.slice b off (len + n) cl ch 1) h)
      rw [e'] at hk
      refine ⟨_, _, _, _, hk, hh', fun φ w s' x' ty hR hs hx => ?_⟩
      have hc := hsrc φ w nx x' hR hx
      obtain ⟨p, a, cap, cc, fr, hp, rfl, hnc, hlo, hhi, haa, g1, g2, g3, g4, g5⟩ := see φ w s' hR hs
      have hone : ∀ v ∈ byteCells d n, v.oneCell' = true := by
        intro v hv
        obtain ⟨i, _, rfl⟩ := List.mem_map.1 hv
        rfl
      have hfr : ∀ j, j < (byteCells d n).length → fr.1 ≤ off + len + p.sh + 0 + j → ¬ off + len + p.sh + 0 + j < fr.2 := by
        intro j hj h1 h2
        rw [byteCells_length] at hj
        rcases hfz with h0 | hfz
        · omega
        · rcases g4 with (g4 | g4) | ⟨_, _, g4⟩ <;> omega
      have hst := run_storeCells_put P (byteCells d n) (off + len + p.sh) 0 cc w g1 (by rw [byteCells_length]; omega) hfr hone
      have hr' : (storeCells (a.add (len * 1)) (byteCells d n)).run P w = .ok () (w.put p.blk (.cells (ovr cc (off + len + p.sh + 0) (byteCells d n)) ty₀ fr)) := by
        rcases haa with h0 | ⟨rfl, _⟩
        · have hn : n = 0 := by omega
          subst hn
          have : byteCells d 0 = [] := rfl
          rw [this] at hst ⊢
          exact hst
        · rw [Nat.mul_one, add_spot]; exact hst
      refine ⟨φ, w.put p.blk (.cells (ovr cc (off + len + p.sh + 0) (byteCells d n)) ty₀ fr), .slice (some a) (len + n) cap, ?_, .slice _ _ _ _ _ cap hp (by omega) hlo hhi haa, ?_, ?_⟩
      · rw [append_fit ha hc (by omega)]
        simp only [List.toList_toArray, hr', Result.andThen_ok]
      · refine hR.put hp (by rw [hob]; rfl) ⟨_, fr, rfl, by rw [ovr_size]; exact g2, g3, g4, fun i hi => ?_⟩
        rw [ovr_get _ _ _ _ (by rw [byteCells_length]; omega), byteCells_length, byteAt_put _ _ _ _ _ hd]
        by_cases hio : off + len ≤ i ∧ i < off + len + n
        · rw [if_pos (by omega), if_pos hio, byteCells_get _ _ _ (by omega)]
          congr 4; omega
        · rw [if_neg (by omega), if_neg hio]; exact g5 i hi
      · exact Grows.put hp (by rw [hob]; rfl) _ _
    · obtain ⟨nx', hn, h', hh', hk⟩ := hh.push (o := .bytes el (len + n) (bytePut (byteCut d₀ off len) len n d) 0 false) trivial hk
      refine ⟨_, _, _, _, hk, hh', fun φ w s' x' ty hR hs hx => ?_⟩
      obtain ⟨p, a, cap, hp, he, hnc, hlo, hhi, haa⟩ := hs.slice_inv
      have hcap : ¬ len + n ≤ cap := by
        simp only [surely, boolRec_good, beqB, bleB] at hsure
        by_cases hc0 : ch = 0
        · simp [hc0] at hsure
        · simp [hc0] at hsure; omega
      exact newArr φ w s' x' ty H nx' 0 false (fun _ => .inl (.inl rfl)) hn hR hR hs hx _ cap he hcap
    · obtain ⟨h₁, hh₁, e₁⟩ := hh.set b (o := .none) trivial (fun h => hnewK (.bytes ty₀ (len + n) (bytePut (byteCut d₀ off len) len n d) (fz - off) g) h fun b' h => k (.slice b' 0 (len + n) (len + n) 0 1) h)
      rw [e₁] at hk
      obtain ⟨nx', hn, h', hh', hk⟩ := hh₁.push (o := .bytes ty₀ (len + n) (bytePut (byteCut d₀ off len) len n d) (fz - off) g) trivial hk
      refine ⟨_, _, _, _, hk, hh', fun φ w s' x' ty hR hs hx => ?_⟩
      obtain ⟨p, a, cap, cc, fr, hp, he, hnc, hlo, hhi, haa, g1, g2, g3, g4, g5⟩ := see φ w s' hR hs
      by_cases hcap : len + n ≤ cap
      · subst he
        have hc := hsrc φ w nx x' hR hx
        obtain ⟨rfl, hbd⟩ := haa.resolve_left (by omega)
        have hone : ∀ v ∈ byteCells d n, v.oneCell' = true := by
          intro v hv
          obtain ⟨i, _, rfl⟩ := List.mem_map.1 hv
          rfl
        have hfr : ∀ j, j < (byteCells d n).length → fr.1 ≤ off + len + p.sh + 0 + j → ¬ off + len + p.sh + 0 + j < fr.2 := by
          intro j hj h1 h2
          rw [byteCells_length] at hj
          rcases g4 with (g4 | g4) | ⟨_, _, g4⟩ <;> omega
        have hst := run_storeCells_put P (byteCells d n) (off + len + p.sh) 0 cc w g1 (by rw [byteCells_length]; omega) hfr hone
        refine ⟨updP φ nx ⟨p.blk, off + p.sh, p.cs⟩, w.put p.blk (.cells (ovr cc (off + len + p.sh + 0) (byteCells d n)) ty₀ fr), .slice (some (p.addr off)) (len + n) cap, ?_, ?_, ?_, ?_⟩
        · rw [append_fit ha hc hcap]
          simp only [Nat.mul_one, add_spot, List.toList_toArray]
          have : (storeCells (p.addr (off + len)) (byteCells d n)).run P w = _ := hst
          rw [this]; rfl
        · exact .slice (p := ⟨p.blk, off + p.sh, p.cs⟩) _ _ _ _ _ cap (updP_same _ _ _) hcap hcap (.inl rfl) (.inr ⟨by simp [PB.addr], by simp only; omega⟩)
        · refine hR.move hn hp (by rw [hob]; rfl) rfl ⟨_, fr, rfl, by rw [ovr_size]; exact g2, ?_, ?_, fun i hi => ?_⟩
          · show off + p.sh + (len + n) ≤ p.cs
            omega
          · show (fr.1 = fr.2 ∨ fr.2 ≤ off + p.sh + (fz - off) ∨ len + n < fz - off) ∨ (g = true ∧ fz - off = 0 ∧ p.cs ≤ fr.1)
            rcases g4 with (g4 | g4) | ⟨h1, h2, g4⟩
            · exact .inl (.inl g4)
            · exact .inl (.inr (.inl (by omega)))
            · exact .inr ⟨h1, by omega, g4⟩
          · show (ovr cc (off + len + p.sh + 0) (byteCells d n))[off + p.sh + i]? = _
            rw [ovr_get _ _ _ _ (by rw [byteCells_length]; omega), byteCells_length, byteAt_put _ _ _ _ _ hd]
            by_cases hio : i < len
            · rw [if_neg (by omega), if_neg (by omega), byteAt_cut, if_pos hio, ← g5 (off + i) (by omega)]; congr 1; omega
            · rw [if_pos (by omega), if_pos (by omega), byteCells_get _ _ _ (by omega)]
              congr 4; omega
        · exact Grows.move hR hn hp (by rw [hob]; rfl) _ _ rfl
      · obtain ⟨φ', w', v', q1, q2, q3, q4⟩ := newArr φ w s' x' ty (updB H b .none) nx' (fz - off) g (fun _ => .inl (.inl rfl)) hn hR (hR.drop b) hs hx _ cap he hcap
        exact ⟨φ', w', v', q1, q2, q3, (Grows.drop hp).trans q4⟩
end
end Go.Ev
end

section
set_option maxRecDepth 2000
set_option autoImplicit false
set_option linter.unusedSimpArgs false
set_option linter.unusedVariables false
namespace Go.Ev

/-! ### builtin functions -/
def BuS (P : Program) (b : Builtin) (ts : Array TypeId) (l : List AV) (H : Bid → AObj) (nx : Bid) (v : AV) (H' : Bid → AObj) (nx' : Bid) : Prop :=
  ∀ (φ : Phi) (w : World) (args : Array Value) (ty : TypeId) (cs : Array Bool), R φ H nx w → VRs φ l args.toList → ∃ φ' w' v', (builtin b ts ty cs args).run P w = .ok (.value v') w' ∧ VR φ' v v' ∧ R φ' H' nx' w' ∧ Grows φ H nx w φ' H' nx' w'
def BuR (P : Program) (b : Builtin) (ts : Array TypeId) (l : List AV) (H : Bid → AObj) (v : AV) : Prop :=
  ∀ (φ : Phi) (w : World) (args : Array Value) (ty : TypeId) (cs : Array Bool) (nx : Bid), R φ H nx w → VRs φ l args.toList → ∃ v', (builtin b ts ty cs args).run P w = .ok (.value v') w ∧ VR φ v v'
theorem BuR.bu {P : Program} {b : Builtin} {ts : Array TypeId} {l : List AV} {H : Bid → AObj} {v : AV} (h : BuR P b ts l H v) (nx : Bid) : BuS P b ts l H nx v H nx := by
  intro φ w args ty cs hR hl
  obtain ⟨v', h1, h2⟩ := h φ w args ty cs nx hR hl
  exact ⟨φ, w, v', h1, h2, hR, .refl _ _ _ _⟩
@[simp] theorem arg1_good {l : List AV} {k : AV → A} : (arg1 l k = .good) ↔ ∃ a, l = [a] ∧ k a = .good := by
  cases l with
  | nil => simp [arg1, no]
  | cons a r => cases r with
    | nil => simp [arg1]
    | cons b r => simp [arg1, no]
@[simp] theorem arg2_good {l : List AV} {k : AV → AV → A} : (arg2 l k = .good) ↔ ∃ a b, l = [a, b] ∧ k a b = .good := by
  cases l with
  | nil => simp [arg2, no]
  | cons a r =>
    show (arg1 r fun b => k a b) = .good ↔ _
    rw [arg1_good]
    constructor
    · rintro ⟨b, rfl, h⟩; exact ⟨a, b, rfl, h⟩
    · rintro ⟨_, b, e, h⟩; cases e; exact ⟨b, rfl, h⟩
@[simp] theorem arg3_good {l : List AV} {k : AV → AV → AV → A} : (arg3 l k = .good) ↔ ∃ a b c, l = [a, b, c] ∧ k a b c = .good := by
  cases l with
  | nil => simp [arg3, no]
  | cons a r =>
    show (arg2 r fun b c => k a b c) = .good ↔ _
    rw [arg2_good]
    constructor
    · rintro ⟨b, c, rfl, h⟩; exact ⟨a, b, c, rfl, h⟩
    · rintro ⟨_, b, c, e, h⟩; cases e; exact ⟨b, c, rfl, h⟩
theorem VRs.one {φ : Phi} {a : AV} {args : Array Value} (h : VRs φ [a] args.toList) : ∃ x, args = #[x] ∧ VR φ a x := by
  obtain ⟨l⟩ := args
  cases h with
  | cons h hs => cases hs; exact ⟨_, rfl, h⟩
theorem VRs.two {φ : Phi} {a b : AV} {args : Array Value} (h : VRs φ [a, b] args.toList) : ∃ x y, args = #[x, y] ∧ VR φ a x ∧ VR φ b y := by
  obtain ⟨l⟩ := args
  cases h with
  | cons h hs => cases hs with
    | cons h2 hs => cases hs; exact ⟨_, _, rfl, h, h2⟩
theorem VRs.three {φ : Phi} {a b c : AV} {args : Array Value} (h : VRs φ [a, b, c] args.toList) : ∃ x y z, args = #[x, y, z] ∧ VR φ a x ∧ VR φ b y ∧ VR φ c z := by
  obtain ⟨l⟩ := args
  cases h with
  | cons h hs => cases hs with
    | cons h2 hs => cases hs with
      | cons h3 hs => cases hs; exact ⟨_, _, _, rfl, h, h2, h3⟩
section
variable {C : Cx} {ts : Array TypeId} {l : List AV} {h : Heap} {H : Bid → AObj} {nx : Bid} {k : AV → Heap → A}
theorem appendF_good (hh : HS h H nx) {s x : AV} (hk : appendF ts s x C h k = .good) : ∃ v h' H' nx', k v h' = .good ∧ HS h' H' nx' ∧ ApS C.P ts s x H nx v H' nx' := by
  simp only [appendF, obK_good] at hk
  obtain ⟨q, hq, hk⟩ := hk
  obtain ⟨el, sz, byte, zeros⟩ := q
  obtain ⟨z, ha⟩ := apKind_some hq
  replace hk : (Bool.rec (srcLenK x fun n => Bool.rec (srcCellsK x n sz h fun xs => appendTo C.P el sz s n xs h k) (srcBytesK x n h fun xs => appendBytes el s n xs h k) byte)
    (asNatK x fun j n => bbK (andB (kindEq j .i64) (Nat.ble n 65536)) (Bool.rec (zeroK C.P el fun z => appendTo C.P el sz s n (rep n z) h k) (appendBytes el s n 0 h k) byte)) zeros : A) = .good := hk
  obtain ⟨i, hi, his, hib, hiz⟩ := ha.info
  have h1 : byte = true → sz = 1 ∧ z = .int .u8 0 := by
    intro hb
    have := ha.byte
    rw [hb] at this
    obtain ⟨_, i', hi', hz', hs'⟩ := tByte_some this.symm
    rw [hi] at hi'; cases hi'
    rw [hiz] at hz'
    exact ⟨by omega, Option.some.inj hz'⟩
  cases zeros with
  | false =>
    obtain ⟨n, hk, hn⟩ := srcLenK_good hk
    cases byte with
    | true =>
      obtain ⟨rfl, rfl⟩ := h1 rfl
      obtain ⟨d, hk, hd, hr⟩ := srcBytesK_good hh hk
      refine appendBytes_good hh ha hd (fun φ w nx' x' hR hx => .inl ⟨rfl, fun w => hn C.P φ w x' hx, fun m => hr C.P φ _ nx' x' (hR.drew m) hx⟩) hk
    | false =>
      obtain ⟨xs, hk, hxl, hr⟩ := srcCellsK_good hh hk
      refine appendTo_good hh ha (fun φ w nx' x' hR hx => ?_) hk
      obtain ⟨c, hc, hv⟩ := hr C.P φ w nx' x' hR hx
      exact ⟨c, .inl ⟨rfl, fun w => hn C.P φ w x' hx, hc⟩, hv⟩
  | true =>
    simp only [asNatK_good, bbK_good, andB_eq, Bool.and_eq_true, kindEq_eq, bleB, decide_eq_true_eq] at hk
    obtain ⟨j, n, rfl, ⟨rfl, hn⟩, hk⟩ := hk
    cases byte with
    | true =>
      obtain ⟨rfl, rfl⟩ := h1 rfl
      refine appendBytes_good hh ha (by exact Nat.pow_pos (by decide)) (fun φ w nx' x' hR hx => .inr ⟨rfl, hx.int_inv, hn, ?_⟩) hk
      apply Array.toList_inj.1
      apply List.ext_getElem?
      intro i
      by_cases hi : i < n
      · simp only [List.toList_toArray]
        rw [byteCells_get _ _ _ hi]
        have : byteAt 0 i = 0 := by rw [byteAt_eq]; simp
        rw [this]
        simp [madeCells, Value.cells, hi, Nat.mod_one]
      · rw [List.getElem?_eq_none (by simp only [List.toList_toArray, byteCells_length]; omega), List.getElem?_eq_none (by simp [size_madeCells, Value.cells]; omega)]
    | false =>
      obtain ⟨cs, hk, z', hz', hv⟩ := zeroK_good hk
      have hzz : z' = z := by
        have := hz' default
        simp [zeroValue, runI hi, hiz] at this
        exact this.symm
      subst hzz
      exact appendTo_good hh ha (fun φ w nx' x' hR hx => ⟨_, .inr ⟨rfl, hx.int_inv, hn, rfl⟩, made_VRs (hv φ) n⟩) hk
theorem putBytesK_good {o : AObj} {i n d : Nat} {k : AObj → A} (hd : d < 256 ^ n) (hk : putBytesK o i n d k = .good) : ∃ o', StL o i ((List.range n).map fun j => .int .u8 (byteAt d j)) o' ∧ k o' = .good := by
  cases o <;> first | (exact absurd hk no_good) | skip
  rename_i ty m d₀ fz g
  simp only [putBytesK, bbK_good, andB_eq, orB_eq, Bool.and_eq_true, Bool.or_eq_true, bleB, beqB, decide_eq_true_eq, fN_eq, addE] at hk
  obtain ⟨⟨h1, h2⟩, hk⟩ := hk
  have hl : ((List.range n).map fun j => AV.int .u8 (byteAt d j)).length = n := by simp
  have := StL.bytes (ty := ty) (m := m) (d := d₀) (fz := fz) (i := i) (x := d) (g := g) (vs := (List.range n).map fun j => AV.int .u8 (byteAt d j)) (by rw [hl]; exact h1) (by rw [hl]; exact h2) ⟨by rw [hl]; exact hd, fun j hj => by rw [hl] at hj; simp [hj]⟩
  rw [hl] at this
  exact ⟨_, this, hk⟩
theorem copyF_good (hh : HS h H nx) {t : TypeId} {d s : AV} (ht : ts[0]? = some t) (hk : copyF t d s C h k = .good) : ∃ v h' H', k v h' = .good ∧ HS h' H' nx ∧ BuS C.P .copy ts [d, s] H nx v H' nx := by
  simp only [copyF, obK_good] at hk
  obtain ⟨q, hq, hk⟩ := hk
  obtain ⟨hu, i, hi, hib, his⟩ := elemOf_some hq
  obtain ⟨n, hk, hn⟩ := srcLenK_good hk
  have hsz : ∀ w, (sizeOf q.1).run C.P w = .ok q.2 w := fun w => by simp [sizeOf, runI hi, his]
  simp only [asSlK_good, bbK_good, beqB, decide_eq_true_eq, fN_eq, hh.get, boolRec_good] at hk
  -- what the machine does
  have mach : ∀ (φ : Phi) (w : World) (d' s' : Value) (ty : TypeId) (cs : Array Bool) (base : Option Addr) (m cap : Nat) (c : Array Value), VR φ s s' → d' = .slice base m cap → (Builtin.firstCells q.2 (Nat.min n m) s').run C.P w = .ok c w →
      (builtin .copy ts ty cs #[d', s']).run C.P w = ((match base with | some a => storeCells a c.toList | none => pure () : Sem Unit).run C.P w).andThen fun _ w' => .ok (.value (goInt (Nat.min n m : Nat))) w' := by
    intro φ w d' s' ty cs base m cap c hs hd hc
    subst hd
    cases base with
    | none => simp [builtin, Builtin.copy_, ht, run_underlying hu, hn C.P φ w s' hs, hsz, hc]
    | some a =>
      simp [builtin, Builtin.copy_, ht, run_underlying hu, hn C.P φ w s' hs, hsz, hc]
      cases (storeCells a c.toList).run C.P w <;> rfl
  have z0 : Nat.min n 0 = 0 := by simp [Nat.min_def]
  rcases hk with ⟨hdn, hk1⟩ | ⟨b, o, m, cl, ch, zz, hds, hzz, hk1⟩
  · refine ⟨_, _, _, hk1, hh, fun φ w args ty cs hR hl => ?_⟩
    obtain ⟨d', s', rfl, hd, hs⟩ := hl.two
    rw [hdn] at hd
    have hc : (Builtin.firstCells q.2 (Nat.min n 0) s').run C.P w = .ok #[] w := by
      rw [z0]
      have hl' := hn C.P φ w s' hs
      cases s' <;> first | (simp [Builtin.lenOf] at hl'; done) | skip
      · rename_i st
        simp [Builtin.firstCells]
      · rename_i a _ _
        cases a <;> simp [Builtin.firstCells, loadCells, loadCellsFrom]
    refine ⟨φ, w, goInt (Nat.min n 0 : Nat), ?_, ?_, hR, .refl _ _ _ _⟩
    · rw [mach φ w d' s' ty cs none 0 0 #[] hs hd.nils_inv hc]; rfl
    · rw [z0]; exact .int .i64 0
  · subst hzz
    have fin : ∀ (xs : List AV) (o' : AObj), StL (H b) o xs o' → (∀ (φ : Phi) (w : World) (s' : Value), R φ H nx w → VR φ s s' → ∃ c : Array Value, (Builtin.firstCells q.2 (Nat.min n m) s').run C.P w = .ok c w ∧ VRs φ xs c.toList) → (Nat.min n m = 0 → xs = []) → k (.int .i64 (minN n m)) h = k (.int .i64 (minN n m)) h →
        BuS C.P .copy ts [d, s] H nx (.int .i64 (minN n m)) (updB H b o') nx := by
      intro xs o' hst hsrc hx0 _ φ w args ty cs hR hl
      obtain ⟨d', s', rfl, hd, hs⟩ := hl.two
      rw [hds] at hd
      obtain ⟨p, a, cap, hp, hde, hnc, hlo, hhi, haa⟩ := hd.slice_inv
      obtain ⟨c, hc, hv⟩ := hsrc φ w s' hR hs
      obtain ⟨w', hr, h2, h3⟩ := hst.run C.P hR hp hv
      have hr' : (storeCells a c.toList).run C.P w = .ok () w' := by
        rcases haa with h0 | ⟨rfl, _⟩
        · have hm0 : m = 0 := by omega
          subst hm0
          have := hx0 z0
          subst this
          have hce : c.toList = [] := List.length_eq_zero_iff.1 (by rw [← hv.length]; rfl)
          rw [hce] at hr ⊢
          exact hr
        · exact hr
      refine ⟨φ, w', goInt (Nat.min n m : Nat), ?_, ?_, h2, h3⟩
      · rw [mach φ w d' s' ty cs (some a) m cap c hs hde hc]
        simp only [hr', Result.andThen_ok]
      · rw [minN_eq]; exact .int .i64 _
    have hmn : Nat.min n m = minN n m := by rw [minN_eq]
    rcases hk1 with ⟨_, hq1, hk1⟩ | ⟨_, hk1⟩
    · obtain ⟨dd, hk2, hdd, hr⟩ := srcBytesK_good hh hk1
      obtain ⟨o', hst, hk3⟩ := putBytesK_good hdd hk2
      obtain ⟨h', hh', e'⟩ := hh.set b hst.ok (fun h => k (.int .i64 (minN n m)) h)
      rw [e'] at hk3
      refine ⟨_, _, _, hk3, hh', fin _ o' hst (fun φ w s' hR hs => ?_) (fun h0 => ?_) rfl⟩
      · refine ⟨_, by rw [hmn, hq1]; exact hr C.P φ w nx s' hR hs, ?_⟩
        exact bytes_VRs φ dd (minN n m)
      · rw [← hmn, h0]; rfl
    · obtain ⟨xs, hk2, hxl, hr⟩ := srcCellsK_good hh hk1
      obtain ⟨o', hst, hk3⟩ := stLK_good (hh.ok b) hk2
      obtain ⟨h', hh', e'⟩ := hh.set b hst.ok (fun h => k (.int .i64 (minN n m)) h)
      rw [e'] at hk3
      refine ⟨_, _, _, hk3, hh', fin xs o' hst (fun φ w s' hR hs => ?_) (fun h0 => ?_) rfl⟩
      · obtain ⟨c, hc, hv⟩ := hr C.P φ w nx s' hR hs
        exact ⟨c, by rw [hmn]; exact hc w.drawn, hv⟩
      · rw [← hmn, h0, Nat.zero_mul] at hxl
        exact List.length_eq_zero_iff.1 hxl
end
end Go.Ev
end

section
set_option maxRecDepth 2000
set_option autoImplicit false
set_option linter.unusedSimpArgs false
set_option linter.unusedVariables false
namespace Go.Ev

section
variable {C : Cx} {ts : Array TypeId} {h : Heap} {H : Bid → AObj} {nx : Bid} {k : AV → Heap → A}
theorem capF_good {x : AV} {t el : TypeId} (ht : ts[0]? = some t) (hu : C.P.underlying t = some (.slice el)) (hk : (asSlK x (k (.int .i64 0) h) fun _ _ _ lo hi _ => Bool.rec (k (.cap lo hi) h) (k (.int .i64 lo) h) (Nat.beq hi (Nat.succ lo))) = .good) :
    ∃ v, k v h = .good ∧ BuR C.P .cap ts [x] H v := by
  simp only [asSlK_good, boolRec_good, beqB, decide_eq_true_eq, decide_eq_false_iff_not] at hk
  rcases hk with ⟨rfl, hk⟩ | ⟨b, o, n, lo, hi, z, rfl, ⟨rfl, hk⟩ | ⟨_, hk⟩⟩
  · refine ⟨_, hk, fun φ w args ty cs nx hR hl => ?_⟩
    obtain ⟨x', rfl, hx⟩ := hl.one
    rw [hx.nils_inv]
    exact ⟨goInt 0, by simp [builtin, Builtin.cap_, ht, run_underlying hu], .int .i64 0⟩
  · refine ⟨_, hk, fun φ w args ty cs nx hR hl => ?_⟩
    obtain ⟨x', rfl, hx⟩ := hl.one
    obtain ⟨p, a, c, hp, rfl, hnc, hlo, hhi, haa⟩ := hx.slice_inv
    refine ⟨goInt c, by simp [builtin, Builtin.cap_, ht, run_underlying hu], ?_⟩
    have : c = lo := by omega
    subst this; exact .int .i64 c
  · refine ⟨_, hk, fun φ w args ty cs nx hR hl => ?_⟩
    obtain ⟨x', rfl, hx⟩ := hl.one
    obtain ⟨p, a, c, hp, rfl, hnc, hlo, hhi, haa⟩ := hx.slice_inv
    exact ⟨goInt c, by simp [builtin, Builtin.cap_, ht, run_underlying hu], .cap _ _ c hlo hhi⟩
theorem lenF_good (hh : HS h H nx) {x : AV} {t : TypeId} {q : LenK} (ht : ts[0]? = some t) (hq : lenKind C.P t = some q) (hk : lenK q x h (fun v => k v h) = .good) : ∃ v, k v h = .good ∧ BuR C.P .len ts [x] H v := by
  simp only [lenKind] at hq
  split at hq
  · rename_i n el hu
    cases hq
    refine ⟨_, hk, fun φ w args ty cs nx hR hl => ?_⟩
    obtain ⟨x', rfl, hx⟩ := hl.one
    exact ⟨goInt n, by simp [builtin, Builtin.len_, ht, run_underlying hu], .int .i64 n⟩
  · rename_i a hu
    split at hq
    · rename_i n el hu'
      cases hq
      refine ⟨_, hk, fun φ w args ty cs nx hR hl => ?_⟩
      obtain ⟨x', rfl, hx⟩ := hl.one
      exact ⟨goInt n, by simp [builtin, Builtin.len_, ht, run_underlying hu, run_underlying hu'], .int .i64 n⟩
    · cases hq
  · rename_i hu
    cases hq
    simp only [lenK, asStrK_good] at hk
    obtain ⟨l, d, rfl, hk⟩ := hk
    refine ⟨_, hk, fun φ w args ty cs nx hR hl => ?_⟩
    obtain ⟨x', rfl, hx⟩ := hl.one
    obtain ⟨s, rfl, hs⟩ := hx.str_inv
    exact ⟨goInt s.size, by simp [builtin, Builtin.len_, ht, run_underlying hu], by rw [hs.1]; exact .int .i64 l⟩
  · rename_i el hu
    cases hq
    simp only [lenK, asSlK_good] at hk
    rcases hk with ⟨rfl, hk⟩ | ⟨b, o, n, lo, hi, z, rfl, hk⟩
    · refine ⟨_, hk, fun φ w args ty cs nx hR hl => ?_⟩
      obtain ⟨x', rfl, hx⟩ := hl.one
      rw [hx.nils_inv]
      exact ⟨goInt 0, by simp [builtin, Builtin.len_, ht, run_underlying hu], .int .i64 0⟩
    · refine ⟨_, hk, fun φ w args ty cs nx hR hl => ?_⟩
      obtain ⟨x', rfl, hx⟩ := hl.one
      obtain ⟨p, a, c, hp, rfl, hnc, hlo, hhi, haa⟩ := hx.slice_inv
      exact ⟨goInt n, by simp [builtin, Builtin.len_, ht, run_underlying hu], .int .i64 n⟩
  · rename_i kt el hu
    cases hq
    simp only [lenK, asMapK_good, hh.get] at hk
    rcases hk with ⟨rfl, hk⟩ | ⟨b, rfl, hk⟩
    · refine ⟨_, hk, fun φ w args ty cs nx hR hl => ?_⟩
      obtain ⟨x', rfl, hx⟩ := hl.one
      rw [hx.nilm_inv]
      exact ⟨goInt 0, by simp [builtin, Builtin.len_, ht, run_underlying hu], .int .i64 0⟩
    · obtain ⟨es, c, hob, hk⟩ := asMapO_good hk
      simp only [fN_eq, llen_eq] at hk
      refine ⟨_, hk, fun φ w args ty cs nx hR hl => ?_⟩
      obtain ⟨x', rfl, hx⟩ := hl.one
      obtain ⟨p, hp, rfl⟩ := hx.map_inv
      have hO := hR.obj _ _ hp
      rw [hob] at hO
      obtain ⟨_, es', hc, hE⟩ := hO
      have hle : es.length = es'.size := by have := hE.length; simpa using this
      refine ⟨goInt es'.size, by simp [builtin, Builtin.len_, ht, run_underlying hu, getObj_map hc], ?_⟩
      rw [hle]; exact .int .i64 es'.size
  · cases hq
theorem minMax_good {f : Nat → Nat → Nat} {b : Builtin} {x y : AV} (hf : ∀ (j : IntKind) (p q : Nat) (ty : TypeId) (cs : Array Bool) (w : World), (builtin b ts ty cs #[.int j p, .int j q]).run C.P w = .ok (.value (.int j (f p q : Nat))) w)
    (hk : minMaxK f x y (fun v => k v h) = .good) : ∃ v, k v h = .good ∧ BuR C.P b ts [x, y] H v := by
  simp only [minMaxK, asNatK_good, bbK_good, kindEq_eq, decide_eq_true_eq, fN_eq] at hk
  obtain ⟨j, p, rfl, j', q, rfl, rfl, hk⟩ := hk
  refine ⟨_, hk, fun φ w args ty cs nx hR hl => ?_⟩
  obtain ⟨x', y', rfl, hx, hy⟩ := hl.two
  rw [hx.int_inv, hy.int_inv]
  exact ⟨_, hf j p q ty cs w, .int j _⟩
theorem maxF_good {x y : AV} (hk : minMaxK maxN x y (fun v => k v h) = .good) : ∃ v, k v h = .good ∧ BuR C.P .max ts [x, y] H v := by
  refine minMax_good (fun j p q ty cs w => ?_) hk
  have : (if (q : Int) > (p : Int) then (q : Int) else (p : Int)) = ((maxN p q : Nat) : Int) := by rw [maxN_eq]; split <;> omega
  simp [builtin, Builtin.max_, Builtin.max2]
  simpa using this
theorem minF_good {x y : AV} (hk : minMaxK minN x y (fun v => k v h) = .good) : ∃ v, k v h = .good ∧ BuR C.P .min ts [x, y] H v := by
  refine minMax_good (fun j p q ty cs w => ?_) hk
  have : (if (q : Int) < (p : Int) then (q : Int) else (p : Int)) = ((minN p q : Nat) : Int) := by rw [minN_eq]; split <;> omega
  simp [builtin, Builtin.min_, Builtin.min2]
  simpa using this
theorem deleteF_good (hh : HS h H nx) {m i : AV} {t : TypeId} {q : KeyK × TypeId} (ht : ts[0]? = some t) (hq : keyKind C.P t = some q)
    (hk : (keyEqK q.1 i i fun _ => asMapK m (k .undef h) fun b => hgK b h fun o => asMapO o fun es c => delEK q.1 i es fun es => hsK b (.map es c) h fun h => k .undef h) = .good) :
    ∃ v h' H', k v h' = .good ∧ HS h' H' nx ∧ BuS C.P .delete ts [m, i] H nx v H' nx := by
  obtain ⟨kt, hu, hqt⟩ := keyKind_some hq
  obtain ⟨r, hk, hr⟩ := keyEqK_good hk
  simp only [asMapK_good, hh.get] at hk
  rcases hk with ⟨hmn, hk1⟩ | ⟨b, hmb, hk1⟩
  · refine ⟨_, _, _, hk1, hh, fun φ w args ty cs hR hl => ?_⟩
    obtain ⟨m', i', rfl, hm, hi⟩ := hl.two
    rw [hmn] at hm
    rw [hm.nilm_inv]
    refine ⟨φ, w, .tuple #[], ?_, .tuple .nil, hR, .refl _ _ _ _⟩
    have := checkKey_run hqt hr hi true w
    simp [builtin, Builtin.delete_, ht, run_underlying hu, this]
  · obtain ⟨es, c, hob, hk2⟩ := asMapO_good hk1
    obtain ⟨j, hs, hk3⟩ := delEK_good hk2
    obtain ⟨h', hh', e'⟩ := hh.set b (o := .map (delAt es j) c) trivial (fun h => k .undef h)
    rw [e'] at hk3
    refine ⟨_, _, _, hk3, hh', fun φ w args ty cs hR hl => ?_⟩
    obtain ⟨m', i', rfl, hm, hi⟩ := hl.two
    rw [hmb] at hm
    obtain ⟨p, hp, rfl⟩ := hm.map_inv
    have hO := hR.obj _ _ hp
    rw [hob] at hO
    obtain ⟨_, es', hc, hE⟩ := hO
    have h1 := checkKey_run hqt hr hi es'.isEmpty w
    have h2 := hs.run (P := C.P) hqt hi hE w
    cases j with
    | none =>
      obtain ⟨h3, h4⟩ := map_put (c₂ := c) (es' := es') hR hp hob hE
      refine ⟨φ, _, .tuple #[], ?_, .tuple .nil, h3, h4⟩
      simp only [Option.bind_none] at h2
      simp [builtin, Builtin.delete_, ht, run_underlying hu, getObj_map hc, h1, h2, setObj_map hc]
    | some j =>
      have hE' := hE.erase j
      obtain ⟨h3, h4⟩ := map_put (c₂ := c) (es' := es'.eraseIdxIfInBounds j) hR hp hob (by
        have : (es'.eraseIdxIfInBounds j).toList = es'.toList.eraseIdx j := by
          by_cases hj : j < es'.size
          · simp [Array.eraseIdxIfInBounds, hj]
          · rw [List.eraseIdx_of_length_le (by simpa using hj)]; simp [Array.eraseIdxIfInBounds, hj]
        rw [this]; exact hE')
      refine ⟨φ, _, .tuple #[], ?_, .tuple .nil, h3, h4⟩
      have hj : j < es'.toList.length := by
        rw [← hE.length]
        clear hk3 hk2 hk1 hk e' hh' hE' h2 h3 h4
        generalize hgj : some j = jj at hs
        clear hob hE
        induction hs generalizing j with
        | nil => cases hgj
        | hit h => cases hgj; simp
        | miss h t ih => 
          rename_i i₀
          cases i₀ with
          | none => cases hgj
          | some i₀ => simp only [Option.map_some, Option.some.injEq] at hgj; subst hgj; have := ih i₀ rfl; simp; omega
      obtain ⟨e', he'⟩ : ∃ e', es'.toList[j]? = some e' := ⟨_, List.getElem?_eq_getElem hj⟩
      simp only [Option.bind_some, he', Option.map_some] at h2
      simp [builtin, Builtin.delete_, ht, run_underlying hu, getObj_map hc, h1, h2, setObj_map hc]
theorem sliceDataF_good {x : AV} (hk : (asSlK x (k .nilp h) fun b o _ lo _ _ => bbK (notB (Nat.beq lo 0)) (k (.ptr b o) h)) = .good) : ∃ v, k v h = .good ∧ BuR C.P .unsafeSliceData ts [x] H v := by
  simp only [asSlK_good, bbK_good, notB_eq, beqB, Bool.not_eq_true', decide_eq_false_iff_not] at hk
  rcases hk with ⟨rfl, hk⟩ | ⟨b, o, n, lo, hi, z, rfl, hlo0, hk⟩
  · refine ⟨_, hk, fun φ w args ty cs nx hR hl => ?_⟩
    obtain ⟨x', rfl, hx⟩ := hl.one
    rw [hx.nils_inv]
    exact ⟨.pointer none, rfl, .nilp⟩
  · refine ⟨_, hk, fun φ w args ty cs nx hR hl => ?_⟩
    obtain ⟨x', rfl, hx⟩ := hl.one
    obtain ⟨p, a, c, hp, rfl, hnc, hlo, hhi, haa⟩ := hx.slice_inv
    obtain ⟨rfl, _⟩ := haa.resolve_left (by omega)
    have : c ≠ 0 := by omega
    refine ⟨.pointer (some (p.addr o)), ?_, .ptr o hp⟩
    have e : (Builtin.unsafeSliceData_ ts ty #[.slice (some (p.addr o)) n c]).run C.P w = .ok (.pointer (some (p.addr o))) w := by
      refine (congrArg (fun s => Sem.run C.P s w) (rfl : _ = (if c ≠ 0 then pure (Value.pointer (some (p.addr o))) else _))).trans ?_
      rw [if_pos this]; rfl
    simp only [builtin, Sem.run_bind, e, Result.andThen_ok, Sem.run_pure]
theorem loadBytes_row {P : Program} {w : World} {r : Nat} {c : Array Value} {ty : TypeId} {fr : Nat × Nat} {d : Nat} (h : w.heap[r]? = some (.cells c ty fr)) : ∀ (n i o : Nat) (acc : ByteArray), (∀ j, j < n → c[o + j]? = some (.int .u8 (byteAt d (i + j) : Nat))) →
    ∃ s, (loadBytes ⟨r, o, none⟩ acc n).run P w = .ok s w ∧ s.data.toList = acc.data.toList ++ (List.range' i n).map fun j => UInt8.ofNat (byteAt d j)
  | 0, i, o, acc, _ => ⟨acc, rfl, by simp⟩
  | n + 1, i, o, acc, hc => by
    have h0 := hc 0 (by omega)
    rw [Nat.add_zero, Nat.add_zero] at h0
    obtain ⟨s, h1, h2⟩ := loadBytes_row (P := P) h n (i + 1) (o + 1) (acc.push (UInt8.ofNat (byteAt d i))) (fun j hj => by have := hc (j + 1) (by omega); rw [show o + 1 + j = o + (j + 1) by omega, show i + 1 + j = i + (j + 1) by omega]; exact this)
    refine ⟨s, ?_, ?_⟩
    · have e : (loadBytes ⟨r, o, none⟩ acc (n + 1)).run P w = (loadBytes ((⟨r, o, none⟩ : Addr).add 1) (acc.push (UInt8.ofNat (byteAt d i))) n).run P w := by
        simp [loadBytes, cell_at h, h0]
      rw [e, add_addr]; exact h1
    · rw [h2, List.range'_succ]; simp [ByteArray.push]
theorem rowAt_bytes {P : Program} {fits : TypeId → Bool} {d : Nat} {e count off n : Nat} (hc : P.cellsOf e = 1) (hn : off + n ≤ count) (hf : fits e = true) : rowAt P fits (d + 1) e count off n = true := by
  simp [rowAt, hc, hf, Nat.mod_one, hn]
theorem unsafeStringF_good (hh : HS h H nx) {p n : AV} {pt : TypeId} (ht : ts[0]? = some pt)
    (hk : (asNatK n fun _ n => asPtrZ p (bbK (Nat.beq n 0) (k (.str 0 0) h)) fun b o => Bool.rec (hgK b h fun ob => usK C.P pt ob o n fun d ob => hsK b ob h fun h => k (.str n d) h) (k (.str 0 0) h) (Nat.beq n 0)) = .good) :
    ∃ v h' H', k v h' = .good ∧ HS h' H' nx ∧ BuS C.P .unsafeString ts [p, n] H nx v H' nx := by
  simp only [asNatK_good, asPtrZ_good, bbK_good, beqB, decide_eq_true_eq, boolRec_good, decide_eq_false_iff_not, hh.get] at hk
  obtain ⟨j, n, rfl, ⟨rfl, rfl, hk⟩ | ⟨b, o, rfl, ⟨rfl, hk⟩ | ⟨hn0, hk⟩⟩⟩ := hk
  · refine ⟨_, _, _, hk, hh, (BuR.bu (fun φ w args ty cs nx hR hl => ?_) nx)⟩
    obtain ⟨p', n', rfl, hp, hn⟩ := hl.two
    rw [hp.nilp_inv, hn.int_inv]
    refine ⟨.string .empty, ?_, .str ⟨rfl, rfl⟩⟩
    have e : (Builtin.unsafeString_ ts ty #[.pointer none, .int j ((0 : Nat) : Int)]).run C.P w = .ok (.string .empty) w := by
      refine (congrArg (fun s => Sem.run C.P s w) (rfl : _ = (asInt (.int j ((0 : Nat) : Int)) >>= _))).trans ?_
      simp [asInt, asIntOf, ht]
    simp only [builtin, Sem.run_bind, Sem.run_pure]
    rw [e]; rfl
  · refine ⟨_, _, _, hk, hh, (BuR.bu (fun φ w args ty cs nx hR hl => ?_) nx)⟩
    obtain ⟨p', n', rfl, hp, hn⟩ := hl.two
    obtain ⟨q, hq, rfl⟩ := hp.ptr_inv
    rw [hn.int_inv]
    refine ⟨.string .empty, ?_, .str ⟨rfl, rfl⟩⟩
    have e : (Builtin.unsafeString_ ts ty #[.pointer (some (q.addr o)), .int j ((0 : Nat) : Int)]).run C.P w = .ok (.string .empty) w := by
      refine (congrArg (fun s => Sem.run C.P s w) (rfl : _ = (asInt (.int j ((0 : Nat) : Int)) >>= _))).trans ?_
      simp [asInt, asIntOf, ht]
    simp only [builtin, Sem.run_bind, Sem.run_pure]
    rw [e]; rfl
  · cases hob : H b <;> rw [hob] at hk <;> first | (exact absurd hk no_good) | skip
    rename_i ty m d fz g
    simp only [usK, bbK_good, andB_eq, notB_eq, Bool.and_eq_true, bleB, beqB, decide_eq_true_eq, fN_eq, maxN_eq, addE, Bool.not_eq_true'] at hk
    obtain ⟨⟨⟨hom, rfl⟩, hg, hus, hnb⟩, hk⟩ := hk
    obtain ⟨h', hh', e'⟩ := hh.set b (o := .bytes ty m d (max fz n) g) trivial (fun h => k (.str n (byteCut d 0 n)) h)
    rw [e'] at hk
    refine ⟨_, _, _, hk, hh', fun φ w args ty' cs hR hl => ?_⟩
    obtain ⟨p', n', rfl, hp, hn⟩ := hl.two
    obtain ⟨q, hq, rfl⟩ := hp.ptr_inv
    have hn := hn.int_inv
    subst hn
    have hO := hR.obj _ _ hq
    rw [hob] at hO
    obtain ⟨cc, fr, g1, g2, g3, g4, g5⟩ := hO
    simp only [usOk] at hus
    split at hus
    · rename_i u hu
      simp only [andB_eq, Bool.and_eq_true, beqB, decide_eq_true_eq] at hus
      obtain ⟨hc1, hid⟩ := hus
      obtain ⟨s, hl1, hl2⟩ := loadBytes_row (P := C.P) (d := d) g1 n 0 (0 + q.sh) .empty (fun i hi => by rw [show 0 + q.sh + i = q.sh + i by omega, Nat.zero_add]; exact g5 i (by omega))
      have hl1 : (loadBytes (q.addr 0) .empty n).run C.P w = .ok s w := hl1
      have hs : s.data.toList = (List.range' 0 n).map fun j => UInt8.ofNat (byteAt d j) := by rw [hl2]; rfl
      have hpk : PackIs s n (byteCut d 0 n) := by
        refine .of (by have : s.data.toList.length = n := by rw [hs]; simp
                       rw [Array.length_toList] at this; exact this) (byteCut_lt _ _ _) fun i hi => ?_
        rw [byteAt_cut, if_pos hi, Nat.zero_add]
        simp only [byteOf, hs, List.map_map, List.getD_eq_getElem?_getD, List.getElem?_map, List.getElem?_range' hi, Option.map_some, Option.getD_some, Function.comp]
        rw [UInt8.toNat_ofNat_of_lt' (by have := byteAt_lt d (0 + 1 * i); exact this)]
        simp
      have hlay : (variablesAt (q.addr 0) u n).run C.P w = .ok true w := by
        have hs1 : w.shape? (q.addr 0).block = some (ty, cc.size) := by simp [World.shape?, PB.addr, g1]
        have : liesAt C.P C.P.depth ty (cc.size / C.P.cellsOf ty) (q.addr 0).off u n = true := by
          have hd : ∃ dd, C.P.depth = dd + 2 := ⟨2 * (C.P.types.size + Made.depth), rfl⟩
          obtain ⟨dd, hd⟩ := hd
          rw [hd, liesAt, hd]
          rw [rowAt_bytes hc1 (by rw [hc1, Nat.div_one]; simp only [PB.addr]; omega) (by simp [sameLayout, hid])]
          rfl
        simp [variablesAt, hs1, this]
      have hO' : OR φ (.bytes ty m d (max fz n) g) q (some (.cells cc ty (if fr.1 == fr.2 then (q.sh, q.sh + n) else (min fr.1 q.sh, max fr.2 (q.sh + n))))) := by
        refine ⟨cc, _, rfl, g2, g3, .inl ?_, g5⟩
        by_cases hf : fr.1 = fr.2
        · have : (fr.1 == fr.2) = true := by simpa using hf
          rw [this]; exact .inr (by simp only [if_true]; omega)
        · have : (fr.1 == fr.2) = false := by simpa using hf
          rw [this]
          refine .inr ?_
          rcases g4 with (g4 | g4) | ⟨g4, _, _⟩
          · exact absurd g4 hf
          · simp only [Bool.false_eq_true, if_false]; omega
          · rw [hg] at g4; cases g4
      refine ⟨φ, w.put q.blk (.cells cc ty (if fr.1 == fr.2 then (q.sh, q.sh + n) else (min fr.1 q.sh, max fr.2 (q.sh + n)))), .string s, ?_, .str hpk, hR.put hq (by rw [hob]; rfl) hO', Grows.put hq (by rw [hob]; rfl) _ _⟩
      have hm : ¬ ((n : Int) > IntKind.i64.max) := by
        have : IntKind.i64.max = 9223372036854775807 := rfl
        rw [this]; omega
      have hneg : ¬ ((n : Int) < 0) := by omega
      have hel : (Go.elemOf pt).run C.P w = .ok u w := by simp [Go.elemOf, run_underlying hu]
      have hfz : w.freeze (q.addr 0) n = w.put q.blk (.cells cc ty (if fr.1 == fr.2 then (q.sh, q.sh + n) else (min fr.1 q.sh, max fr.2 (q.sh + n)))) := by
        have hlt : q.blk < w.heap.size := hR.inside _ _ hq (by rw [hob]; rfl)
        simp only [World.freeze, World.put, if_neg hn0]
        congr 1
        apply Array.ext_getElem?
        intro i
        rw [Array.getElem?_modify, Array.getElem?_setIfInBounds]
        simp only [PB.addr, Nat.zero_add]
        by_cases hi : q.blk = i
        · subst hi
          rw [if_pos rfl, if_pos rfl, if_pos hlt, g1]
          rfl
        · rw [if_neg hi, if_neg hi]
      have h0 : ¬ ((n : Int) = 0) := by omega
      have hm2 : ¬ ((9223372036854775807 : Int) < (n : Int)) := by omega
      have e : (Builtin.unsafeString_ ts ty' #[.pointer (some (q.addr 0)), .int j (n : Int)]).run C.P w = .ok (.string s) (w.freeze (q.addr 0) n) := by
        refine (congrArg (fun s => Sem.run C.P s w) (rfl : _ = (asInt (.int j (n : Int)) >>= _))).trans ?_
        simp [asInt, asIntOf, ht, hm, hm2, hneg, h0, hn0, hel, hlay, hl1]
      simp only [builtin, Sem.run_bind, Sem.run_pure, e, Result.andThen_ok, hfz]
    · cases hus
end
end Go.Ev
end

section
set_option maxRecDepth 2000
set_option autoImplicit false
set_option linter.unusedSimpArgs false
set_option linter.unusedVariables false
namespace Go.Ev

/-! ### functions of the library that have no Go body -/
def ExS (P : Program) (e : Array Value → Sem Value) (l : List AV) (H : Bid → AObj) (nx : Bid) (v : AV) (H' : Bid → AObj) (nx' : Bid) : Prop :=
  ∀ (φ : Phi) (w : World) (args : Array Value), R φ H nx w → VRs φ l args.toList → ∃ φ' w' v', (e args).run P w = .ok v' w' ∧ VR φ' v v' ∧ R φ' H' nx' w' ∧ Grows φ H nx w φ' H' nx' w'
/-- What the function must be. -/
def ExtIs (P : Program) (q : Ext) (e : Array Value → Sem Value) : Prop := match q with
  | .load k => e = Extern.Atomic.loadT (.int k)
  | .store => e = Extern.Atomic.storeT
  | .cas k => e = Extern.Atomic.casT (.int k)
  | .add k => e = Extern.Atomic.update (Op.intArith .add) k true
  | .nop p => if p then ∀ a w, (e #[.pointer (some a)]).run P w = .ok undef w else ∀ w, (e #[]).run P w = .ok undef w
  | .same => ∀ x, e #[x] = pure x
  | .indexByteString => e = Extern.BytealgIndexByte.indexByte
  | .overlaps => ∃ ps rs t el n, e = Extern.SlicesOverlaps.overlaps ps rs ∧ ps[0]? = some t ∧ P.underlying t = some (.slice el) ∧ tSize P el = some n
section
variable {P : Program} {h : Heap} {H : Bid → AObj} {nx : Bid} {k : AV → Heap → A}
theorem cellK_good (hh : HS h H nx) {x : AV} {k : Bid → Nat → AObj → IntKind → Nat → A} (hk : cellK x h k = .good) : ∃ b i j n, x = .ptr b i ∧ k b i (H b) j n = .good ∧ LdL (H b) i [.int j n] := by
  simp only [cellK, asPtrK_good, hh.get] at hk
  obtain ⟨b, i, rfl, hk⟩ := hk
  obtain ⟨v, hl, hk⟩ := ldK_good (hh.ok b) hk
  simp only [asNatK_good] at hk
  obtain ⟨j, n, rfl, hk⟩ := hk
  exact ⟨b, i, j, n, rfl, hk, hl⟩
theorem lit21 (x y : Value) (h1 : (#[x, y] : Array Value).size = 2) (h2 : 1 < 2) : (#[x, y] : Array Value).getLit 1 h1 h2 = y := rfl
theorem lit31 (x y z : Value) (h1 : (#[x, y, z] : Array Value).size = 3) (h2 : 1 < 3) : (#[x, y, z] : Array Value).getLit 1 h1 h2 = y := rfl
theorem lit32 (x y z : Value) (h1 : (#[x, y, z] : Array Value).size = 3) (h2 : 2 < 3) : (#[x, y, z] : Array Value).getLit 2 h1 h2 = z := rfl
theorem read_int {a : Addr} {w : World} {j : IntKind} {n : Int} (hc : w.cell? a = some (.int j n)) : (Extern.Atomic.read (.int j) a).run P w = .ok (.int j n) w := by
  simp [Extern.Atomic.read, hc]
theorem stored (hh : HS h H nx) {b : Bid} {i : Nat} {o' : AObj} {v r : AV} (hst : StL (H b) i [v] o') (hk : (hsK b o' h fun h => k r h) = .good) {l : List AV} {e : Array Value → Sem Value}
    (he : ∀ (φ : Phi) (w : World) (args : Array Value), R φ H nx w → VRs φ l args.toList → ∃ p v' r', φ b = some p ∧ VR φ v v' ∧ (∀ w', (store (p.addr i) v' .atomic).run P w = .ok () w' → (e args).run P w = .ok r' w') ∧ VR φ r r') :
    ∃ v' h' H' nx', k v' h' = .good ∧ HS h' H' nx' ∧ ExS P e l H nx v' H' nx' := by
  obtain ⟨h', hh', e'⟩ := hh.set b hst.ok (fun h => k r h)
  rw [e'] at hk
  refine ⟨_, _, _, _, hk, hh', fun φ w args hR hl => ?_⟩
  obtain ⟨p, v', r', hp, hv, hrun, hr⟩ := he φ w args hR hl
  obtain ⟨w', h1, h2, h3⟩ := hst.run1 P .atomic hR hp hv
  exact ⟨φ, w', r', hrun w' h1, hr, h2, h3⟩
theorem findByte_good {d c : Nat} {k : AV → A} : ∀ {n i : Nat}, findByte d c n i k = .good → ∃ v, k v = .good ∧ ((∃ j, i ≤ j ∧ j < i + n ∧ byteAt d j = c ∧ (∀ m, i ≤ m → m < j → byteAt d m ≠ c) ∧ v = .int .i64 j) ∨ ((∀ m, i ≤ m → m < i + n → byteAt d m ≠ c) ∧ v = .neg .i64 0))
  | 0, i, hk => ⟨_, hk, .inr ⟨fun m h1 h2 => by omega, rfl⟩⟩
  | n + 1, i, hk => by
    have hk : (Bool.rec (findByte d c n (Nat.succ i) k) (fN i fun i => k (.int .i64 i)) (Nat.beq (byteAt d i) c) : A) = .good := hk
    simp only [boolRec_good, beqB, decide_eq_true_eq, decide_eq_false_iff_not, fN_eq] at hk
    rcases hk with ⟨h1, hk⟩ | ⟨h1, hk⟩
    · exact ⟨_, hk, .inl ⟨i, Nat.le_refl _, by omega, h1, fun m h1 h2 => by omega, rfl⟩⟩
    · obtain ⟨v, hk, ⟨j, h2, h3, h4, h5, h6⟩ | ⟨h2, h3⟩⟩ := findByte_good hk
      · refine ⟨v, hk, .inl ⟨j, by omega, by omega, h4, fun m h7 h8 => ?_, h6⟩⟩
        by_cases hm : m = i
        · subst hm; exact h1
        · exact h5 m (by omega) h8
      · refine ⟨v, hk, .inr ⟨fun m h7 h8 => ?_, h3⟩⟩
        by_cases hm : m = i
        · subst hm; exact h1
        · exact h2 m (by omega) (by omega)
theorem runExt_good (hh : HS h H nx) {q : Ext} {l : List AV} {e : Array Value → Sem Value} (hq : ExtIs P q e) (hk : runExt q l h k = .good) : ∃ v h' H' nx', k v h' = .good ∧ HS h' H' nx' ∧ ExS P e l H nx v H' nx' := by
  have pure_ : ∀ v, k v h = .good → (∀ (φ : Phi) (w : World) (args : Array Value), R φ H nx w → VRs φ l args.toList → ∃ v', (e args).run P w = .ok v' w ∧ VR φ v v') → ∃ v h' H' nx', k v h' = .good ∧ HS h' H' nx' ∧ ExS P e l H nx v H' nx' := by
    intro v hk hr
    refine ⟨v, h, H, nx, hk, hh, fun φ w args hR hl => ?_⟩
    obtain ⟨v', h1, h2⟩ := hr φ w args hR hl
    exact ⟨φ, w, v', h1, h2, hR, .refl _ _ _ _⟩
  cases q with
  | load j =>
    replace hk : arg1 l (fun a => cellK a h fun _ _ _ j' n => bbK (kindEq j' j) (k (.int j n) h)) = .good := hk
    simp only [arg1_good] at hk
    obtain ⟨a, rfl, hk⟩ := hk
    obtain ⟨b, i, j', n, rfl, hk, hl⟩ := cellK_good hh hk
    simp only [bbK_good, kindEq_eq, decide_eq_true_eq] at hk
    obtain ⟨rfl, hk⟩ := hk
    refine pure_ _ hk fun φ w args hR ha => ?_
    obtain ⟨x, rfl, hx⟩ := ha.one
    obtain ⟨p, hp, rfl⟩ := hx.ptr_inv
    obtain ⟨v', hv, hc⟩ := hl.run1 (hR.obj _ _ hp)
    have := hv.int_inv
    subst this
    have hq : e = Extern.Atomic.loadT (.int j') := hq
    subst hq
    refine ⟨_, ?_, .int j' n⟩
    refine (congrArg (fun s => Sem.run P s w) (rfl : _ = (asAddr (.pointer (some (p.addr i))) >>= _))).trans ?_
    simp only [asAddr, Sem.run_bind, Sem.run_pure, Result.andThen_ok, read_int hc]
  | store =>
    replace hk : arg2 l (fun a v => asPtrK a fun b i => hgK b h fun o => stK o i v fun o => hsK b o h fun h => k .undef h) = .good := hk
    simp only [arg2_good, asPtrK_good, hh.get] at hk
    obtain ⟨_, v, rfl, b, i, rfl, hk⟩ := hk
    obtain ⟨o', hst, hk⟩ := stK_good (hh.ok b) hk
    refine stored hh hst hk fun φ w args hR ha => ?_
    obtain ⟨x, y, rfl, hx, hy⟩ := ha.two
    obtain ⟨p, hp, rfl⟩ := hx.ptr_inv
    have hq : e = Extern.Atomic.storeT := hq
    subst hq
    refine ⟨p, y, undef, hp, hy, fun w' hw => ?_, .tuple .nil⟩
    refine (congrArg (fun s => Sem.run P s w) (rfl : _ = (asAddr (.pointer (some (p.addr i))) >>= _))).trans ?_
    simp only [asAddr, Sem.run_bind, Sem.run_pure, Result.andThen_ok, lit21, hw]; rfl
  | cas j =>
    replace hk : arg3 l (fun a old new => cellK a h fun b i o j' n => bbK (andB (kindEq j' j) (isCells o)) (asNatK old fun _ m => Bool.rec (k (.bool false) h) (stK o i new fun o => hsK b o h fun h => k (.bool true) h) (Nat.beq n m))) = .good := hk
    simp only [arg3_good] at hk
    obtain ⟨_, old, new, rfl, hk⟩ := hk
    obtain ⟨b, i, j', n, rfl, hk, hl⟩ := cellK_good hh hk
    simp only [bbK_good, andB_eq, Bool.and_eq_true, kindEq_eq, decide_eq_true_eq, asNatK_good, boolRec_good, beqB, decide_eq_false_iff_not] at hk
    obtain ⟨⟨hjj, hic⟩, jo, m, hold, hk1⟩ := hk
    subst hjj hold
    have hq : e = Extern.Atomic.casT (.int j') := hq
    subst hq
    have base : ∀ (φ : Phi) (w : World) (args : Array Value), R φ H nx w → VRs φ [.ptr b i, .int jo m, new] args.toList → ∃ p z, φ b = some p ∧ VR φ new z ∧ (Extern.Atomic.casT (.int j') args).run P w = ((if ((n : Int) == (m : Int)) = true then store (p.addr i) z .atomic else pure ()) >>= fun _ => (pure (.bool ((n : Int) == (m : Int))) : Sem Value)).run P w := by
      intro φ w args hR ha
      obtain ⟨x, y, z, rfl, hx, hy, hz⟩ := ha.three
      obtain ⟨p, hp, rfl⟩ := hx.ptr_inv
      have hO := hR.obj _ _ hp
      obtain ⟨v', hv, hc⟩ := hl.run1 hO
      have := hv.int_inv
      subst this
      rw [hy.int_inv]
      refine ⟨p, z, hp, hz, ?_⟩
      obtain ⟨cc, ty, fr, g1, g2⟩ := isCells_OR hic hO
      have hs1 : w.shape? (p.addr i).block = some (ty, cc.size) := by simp [World.shape?, PB.addr, g1]
      have hfz : w.frozen? (p.addr i) = false := by
        rw [PB.addr, frozen_at g1]
        by_cases h' : fr.1 ≤ i + p.sh
        · simp [g2 _ h']
        · simp [h']
      refine (congrArg (fun s => Sem.run P s w) (rfl : _ = (asAddr (.pointer (some (p.addr i))) >>= _))).trans ?_
      simp only [asAddr, Sem.run_bind, Sem.run_pure, Result.andThen_ok, Extern.Atomic.touchesFrozen, viewAt, run_shape, hs1, Option.isSome_some, if_true, run_frozen, hfz, Bool.false_eq_true, if_false, read_int hc, lit31, lit32]
      cases ((n : Int) == (m : Int)) <;> simp
    rcases hk1 with ⟨hnm, hk⟩ | ⟨hnm, hk⟩
    · obtain ⟨o', hst, hk⟩ := stK_good (hh.ok b) hk
      refine stored hh hst hk fun φ w args hR ha => ?_
      obtain ⟨p, z, hp, hz, hrun⟩ := base φ w args hR ha
      refine ⟨p, z, .bool true, hp, hz, fun w' hw => ?_, .bool true⟩
      rw [hrun]
      have : ((n : Int) == (m : Int)) = true := by simp; omega
      simp only [this, if_true, Sem.run_bind, hw, Result.andThen_ok, Sem.run_pure]
    · refine pure_ _ hk fun φ w args hR ha => ?_
      obtain ⟨p, z, hp, hz, hrun⟩ := base φ w args hR ha
      refine ⟨.bool false, ?_, .bool false⟩
      rw [hrun]
      have : ((n : Int) == (m : Int)) = false := by simp; omega
      simp only [this, Bool.false_eq_true, if_false, Sem.run_bind, Sem.run_pure, Result.andThen_ok]
  | add j =>
    replace hk : arg2 l (fun a y => cellK a h fun b i o j' n => bbK (kindEq j' j) (asIntK y (fun _ m => mkK j (Nat.add n m) fun v => stK o i v fun o => hsK b o h fun h => k v h) fun _ m => wrapK j (Int.ofNat n + Int.negSucc m) fun v => stK o i v fun o => hsK b o h fun h => k v h)) = .good := hk
    simp only [arg2_good] at hk
    obtain ⟨_, y, rfl, hk⟩ := hk
    obtain ⟨b, i, j', n, rfl, hk, hl⟩ := cellK_good hh hk
    simp only [bbK_good, kindEq_eq, decide_eq_true_eq, asIntK_good] at hk
    obtain ⟨hjj, hk1⟩ := hk
    subst hjj
    have hq : e = Extern.Atomic.update (Op.intArith .add) j' true := hq
    subst hq
    have fin : ∀ (v : AV) (zi : Int), NumIs v j' (j'.wrap ((n : Int) + zi)) → (∀ φ y', VR φ y y' → ∃ jy, y' = .int jy zi) → (stK (H b) i v fun o => hsK b o h fun h => k v h) = .good → ∃ v h' H' nx', k v h' = .good ∧ HS h' H' nx' ∧ ExS P (Extern.Atomic.update (Op.intArith .add) j' true) [.ptr b i, y] H nx v H' nx' := by
      intro v zi hv hy hk
      obtain ⟨o', hst, hk⟩ := stK_good (hh.ok b) hk
      refine stored hh hst hk fun φ w args hR ha => ?_
      obtain ⟨x, y', rfl, hx, hyy⟩ := ha.two
      obtain ⟨p, hp, rfl⟩ := hx.ptr_inv
      obtain ⟨v', hvv, hc⟩ := hl.run1 (hR.obj _ _ hp)
      have := hvv.int_inv
      subst this
      obtain ⟨jy, rfl⟩ := hy φ y' hyy
      refine ⟨p, _, _, hp, hv φ, fun w' hw => ?_, hv φ⟩
      refine (congrArg (fun s => Sem.run P s w) (rfl : _ = (asAddr (.pointer (some (p.addr i))) >>= _))).trans ?_
      simp only [asAddr, Sem.run_bind, Sem.run_pure, Result.andThen_ok, read_int hc, asInt, asIntOf, Op.intArith, lit21, hw, if_true]
    rcases hk1 with ⟨jy, m, hy, hk2⟩ | ⟨jy, m, hy, hk2⟩
    · obtain ⟨v, hk3, hv⟩ := mkK_good hk2
      subst hy
      exact fin v m (hv.of_eq (by rw [addE, Int.natCast_add])) (fun φ y' h => ⟨jy, h.int_inv⟩) hk3
    · obtain ⟨v, hk3, hv⟩ := zK_good hk2
      subst hy
      exact fin v _ hv (fun φ y' h => ⟨jy, h.neg_inv⟩) hk3
  | nop p =>
    cases p with
    | false =>
      have h1 : ∀ w, (e #[]).run P w = .ok undef w := hq
      cases l with
      | nil =>
        refine pure_ _ hk fun φ w args hR ha => ?_
        obtain ⟨la⟩ := args
        cases ha
        exact ⟨undef, h1 w, .tuple .nil⟩
      | cons a r => exact absurd hk no_good
    | true =>
      have h2 : ∀ a w, (e #[.pointer (some a)]).run P w = .ok undef w := hq
      replace hk : arg1 l (fun a => asPtrK a fun _ _ => k .undef h) = .good := hk
      simp only [arg1_good, asPtrK_good] at hk
      obtain ⟨a, rfl, b, i, rfl, hk⟩ := hk
      refine pure_ _ hk fun φ w args hR ha => ?_
      obtain ⟨x, rfl, hx⟩ := ha.one
      obtain ⟨p, hp, rfl⟩ := hx.ptr_inv
      exact ⟨undef, h2 _ w, .tuple .nil⟩
  | same =>
    replace hk : arg1 l (fun a => k a h) = .good := hk
    simp only [arg1_good] at hk
    obtain ⟨a, rfl, hk⟩ := hk
    refine pure_ _ hk fun φ w args hR ha => ?_
    obtain ⟨x, rfl, hx⟩ := ha.one
    exact ⟨x, by rw [hq x]; rfl, hx⟩
  | indexByteString =>
    replace hk : arg2 l (fun s c => asStrK s fun l d => u8K c fun c => findByte d c l 0 fun v => k v h) = .good := hk
    simp only [arg2_good, asStrK_good, u8K_good] at hk
    obtain ⟨_, _, rfl, l, d, rfl, c, rfl, hc, hk⟩ := hk
    have hq : e = Extern.BytealgIndexByte.indexByte := hq
    subst hq
    obtain ⟨v, hk, hv⟩ := findByte_good hk
    refine pure_ _ hk fun φ w args hR ha => ?_
    obtain ⟨x, y, rfl, hx, hy⟩ := ha.two
    obtain ⟨s, rfl, hs⟩ := hx.str_inv
    rw [hy.int_inv]
    have hget : ∀ i, i < l → ((s[i]! == (c : Int).toNat.toUInt8) = decide (byteAt d i = c)) := by
      intro i hi
      have hi' : i < s.size := by rw [hs.1]; exact hi
      have h1 : s[i]! = s.data[i]'hi' := by rw [getElem!_pos s i hi']; rfl
      rw [h1, hs.byte, byteOf_lt hi', Bool.eq_iff_iff]
      simp only [beq_iff_eq, decide_eq_true_eq, Int.toNat_natCast]
      constructor
      · intro h2; rw [h2]; exact UInt8.toNat_ofNat_of_lt' (by show c < 256; omega)
      · intro h2; apply UInt8.toNat_inj.1; rw [h2]; exact (UInt8.toNat_ofNat_of_lt' (by show c < 256; omega)).symm
    have run : ∀ r : Option Nat, (List.range s.size).find? (fun i => s[i]! == (c : Int).toNat.toUInt8) = r → (Extern.BytealgIndexByte.indexByte #[.string s, .int .u8 (c : Int)]).run P w = .ok (match r with | some i => goInt i | none => goInt (-1)) w := by
      intro r hr
      refine (congrArg (fun s => Sem.run P s w) (rfl : _ = (Extern.Bytes.bytesOf (.string s) >>= _))).trans ?_
      simp only [Extern.Bytes.bytesOf, Extern.Bytes.asByte, lit21, Sem.run_bind, Sem.run_pure, Result.andThen_ok, hr]
      cases r <;> rfl
    rw [Nat.zero_add] at hv
    rcases hv with ⟨j, _, h1, h2, h3, rfl⟩ | ⟨h1, rfl⟩
    · refine ⟨goInt j, run (some j) ?_, .int .i64 j⟩
      rw [List.find?_range_eq_some, hs.1]
      exact ⟨by rw [hget j h1]; simpa using h2, by simpa using h1, fun i hi => by rw [hget i (by omega)]; simpa using h3 i (Nat.zero_le _) hi⟩
    · refine ⟨goInt (-1), run none ?_, .neg .i64 0⟩
      rw [List.find?_range_eq_none, hs.1]
      exact fun i hi => by rw [hget i hi]; simpa using h1 i (Nat.zero_le _) hi
  | overlaps =>
    obtain ⟨ps, rs, t, el, n, rfl, ht, hu, hn⟩ := hq
    replace hk : arg2 l (fun x y => asSlK x (asSlK y (k (.bool false) h) fun _ _ _ _ _ _ => k (.bool false) h) fun a _ n _ _ _ => asSlK y (k (.bool false) h) fun b _ m _ _ _ => Bool.rec (hgK a h fun o => hgK b h fun o' => bbK (andB (notB (bidEq a b)) (andB (isCells o) (isCells o'))) (k (.bool false) h)) (k (.bool false) h) (orB (Nat.beq n 0) (Nat.beq m 0))) = .good := hk
    simp only [arg2_good] at hk
    obtain ⟨x, y, rfl, hk⟩ := hk
    have hsz : ∀ w, (sizeOf el).run P w = .ok n w := fun w => runS hn w
    have r0 : ∀ (w : World) (a b : Option Addr) (la ca lb cb : Nat), (a = none ∨ b = none ∨ la = 0 ∨ lb = 0) → (Extern.SlicesOverlaps.overlaps ps rs #[.slice a la ca, .slice b lb cb]).run P w = .ok (.bool false) w := by
      intro w a b la ca lb cb hr
      unfold Extern.SlicesOverlaps.overlaps
      rw [ht]
      refine (congrArg (fun s => Sem.run P s w) (rfl : _ = (underlying t >>= _))).trans ?_
      simp only [Sem.run_bind, runU hu, Result.andThen_ok, hsz]
      rcases hr with rfl | rfl | rfl | rfl
      · rfl
      · cases a <;> rfl
      · cases a <;> cases b <;> simp
      · cases a <;> cases b <;> simp
    simp only [asSlK_good, hh.get, boolRec_good, bbK_good, andB_eq, orB_eq, notB_eq, Bool.and_eq_true, Bool.or_eq_true, Bool.or_eq_false_iff, beqB, decide_eq_true_eq, bidEq_eq, Bool.not_eq_true', decide_eq_false_iff_not] at hk
    rcases hk with ⟨rfl, ⟨rfl, hk⟩ | ⟨b, o, m, lo, hi, z, rfl, hk⟩⟩ | ⟨b, o, m, lo, hi, z, rfl, ⟨rfl, hk⟩ | ⟨b', o', m', lo', hi', z', rfl, ⟨hz, hk⟩ | ⟨hz, ⟨hne, hc1, hc2⟩, hk⟩⟩⟩
    · refine pure_ _ hk fun φ w args hR ha => ?_
      obtain ⟨x, y, rfl, hx, hy⟩ := ha.two
      rw [hx.nils_inv, hy.nils_inv]
      exact ⟨_, r0 w _ _ _ _ _ _ (.inl rfl), .bool false⟩
    · refine pure_ _ hk fun φ w args hR ha => ?_
      obtain ⟨x, y, rfl, hx, hy⟩ := ha.two
      obtain ⟨p, a, c, hp, rfl, _⟩ := hy.slice_inv
      rw [hx.nils_inv]
      exact ⟨_, r0 w _ _ _ _ _ _ (.inl rfl), .bool false⟩
    · refine pure_ _ hk fun φ w args hR ha => ?_
      obtain ⟨x, y, rfl, hx, hy⟩ := ha.two
      obtain ⟨p, a, c, hp, rfl, _⟩ := hx.slice_inv
      rw [hy.nils_inv]
      exact ⟨_, r0 w _ _ _ _ _ _ (.inr (.inl rfl)), .bool false⟩
    · refine pure_ _ hk fun φ w args hR ha => ?_
      obtain ⟨x, y, rfl, hx, hy⟩ := ha.two
      obtain ⟨p, a, c, hp, rfl, _⟩ := hx.slice_inv
      obtain ⟨p', a', c', hp', rfl, _⟩ := hy.slice_inv
      exact ⟨_, r0 w _ _ _ _ _ _ (.inr (.inr hz)), .bool false⟩
    · refine pure_ _ hk fun φ w args hR ha => ?_
      obtain ⟨x, y, rfl, hx, hy⟩ := ha.two
      obtain ⟨p, a, c, hp, rfl, hnc, hlo, hhi, haa⟩ := hx.slice_inv
      obtain ⟨p', a', c', hp', rfl, hnc', hlo', hhi', haa'⟩ := hy.slice_inv
      obtain ⟨rfl, _⟩ := haa.resolve_left (by omega)
      obtain ⟨rfl, _⟩ := haa'.resolve_left (by omega)
      obtain ⟨cc, ty, fr, h1, h2⟩ := isCells_OR hc1 (hR.obj _ _ hp)
      obtain ⟨cc', ty', fr', h3, h4⟩ := isCells_OR hc2 (hR.obj _ _ hp')
      have live : ∀ o, isCells o = true → o.isNone = false := by intro o; cases o <;> simp [isCells, AObj.isNone]
      have hblk : p.blk ≠ p'.blk := fun e => hne (hR.inj _ _ _ _ hp hp' (live _ hc1) (live _ hc2) e)
      refine ⟨.bool false, ?_, .bool false⟩
      unfold Extern.SlicesOverlaps.overlaps
      rw [ht]
      refine (congrArg (fun s => Sem.run P s w) (rfl : _ = (underlying t >>= _))).trans ?_
      have f1 : ∀ i s, w.frozen? ⟨p.blk, i, s⟩ = false := by
        intro i s
        simp only [World.frozen?, h1]
        by_cases h : fr.1 ≤ i
        · simp [h2 i h]
        · simp [h]
      have f2 : ∀ i s, w.frozen? ⟨p'.blk, i, s⟩ = false := by
        intro i s
        simp only [World.frozen?, h3]
        by_cases h : fr'.1 ≤ i
        · simp [h4 i h]
        · simp [h]
      have s1 : w.shape? p.blk = some (ty, cc.size) := by simp [World.shape?, h1]
      have s2 : w.shape? p'.blk = some (ty', cc'.size) := by simp [World.shape?, h3]
      have hz' : ¬ (m = 0) ∧ ¬ (m' = 0) := hz
      simp [runU hu, hsz, hz'.1, hz'.2, PB.addr, f1, f2, hblk, noView, viewAt, mayBeOne, stringish, s1, s2]
end
end Go.Ev
end

section
set_option maxRecDepth 2000
set_option autoImplicit false
set_option linter.unusedSimpArgs false
set_option linter.unusedVariables false
namespace Go.Ev

/-! ### the plain operations, all of them -/
section
variable {C : Cx} {e : Env} {f : Nat → AV} {h : Heap} {k : AV → Heap → A} {o : Oper}
theorem call_run {P : Program} {c : Call} {b : Builtin} (ho : o.op = .call c) (hb : c.callee = .builtin b) (ρ : Operand → Value) (w : World) :
    ∃ cs : Array Bool, (execOp ρ o).run P w = (builtin b c.argTypes o.type cs (c.args.map ρ)).run P w := by
  refine ⟨c.args.map fun x => match x with | .const _ => true | _ => false, ?_⟩
  simp only [execOp, ho, resolve, hb, Sem.run_bind, Sem.run_pure, Result.andThen_ok, invoke]
  rfl
theorem BuS.op {P : Program} {c : Call} {b : Builtin} (ho : o.op = .call c) (hb : c.callee = .builtin b) {H H' : Bid → AObj} {nx nx' : Bid} {v : AV} (hx : ∀ x ∈ c.args.toList, opdOk x) (h : BuS P b c.argTypes (c.args.toList.map (opdS · f)) H nx v H' nx') : OpS P o f H nx v H' nx' := by
  intro φ w ρ hR hρ
  obtain ⟨cs, hcs⟩ := call_run (P := P) ho hb ρ w
  obtain ⟨φ', w', v', h1, h2, h3, h4⟩ := h φ w (c.args.map ρ) o.type cs hR (by rw [Array.toList_map]; exact hρ.opds hR hx)
  exact ⟨φ', w', _, hcs.trans h1, ⟨v', h2, .inl rfl⟩, h3, h4⟩
theorem BuR.read {P : Program} {c : Call} {b : Builtin} (ho : o.op = .call c) (hb : c.callee = .builtin b) {H : Bid → AObj} {v : AV} (hx : ∀ x ∈ c.args.toList, opdOk x) (h : BuR P b c.argTypes (c.args.toList.map (opdS · f)) H v) : ReadS P o f H v := by
  intro φ w ρ nx hR hρ
  obtain ⟨cs, hcs⟩ := call_run (P := P) ho hb ρ w
  obtain ⟨v', h1, h2⟩ := h φ w (c.args.map ρ) o.type cs nx hR (by rw [Array.toList_map]; exact hρ.opds hR hx)
  exact ⟨v', hcs.trans h1, h2⟩
def bcls : Builtin → Nat
  | .len => 1
  | .max => 1
  | .min => 1
  | _ => 3
theorem cls_call {P : Program} {c : Call} {b : Builtin} (ho : o.op = .call c) (hb : c.callee = .builtin b) : cls' P o.op = bcls b := by
  rw [ho]
  obtain ⟨callee, args, ats⟩ := c
  simp only at hb
  subst hb
  cases b <;> rfl
/-- An operation by itself. -/
theorem execK_good {H : Bid → AObj} {nx : Bid} (hh : HS h H nx) (he : EnvIs e f) {z : A} (hk : execK o.op C e h k z = .good) :
    (∃ v h' H' nx', k v h' = .good ∧ HS h' H' nx' ∧ Cls C.P o f H nx v H' nx') ∨ (z = .good ∧ ((∃ c, o.op = .call c ∧ ∀ b, c.callee = .builtin b → b = .recover) ∨ ∃ c, o.op = .defer c)) := by
  have alloc_ : (∃ v h' nx' ob, k v h' = .good ∧ nx'.num = nx.num + 1 ∧ HS h' (updB H nx ob) nx' ∧ AllocS C.P o f nx v ob) → ¬ cls' C.P o.op ≤ 1 → ∃ v h' H' nx', k v h' = .good ∧ HS h' H' nx' ∧ Cls C.P o f H nx v H' nx' := by
    rintro ⟨v, h', nx', ob, hk, hn, hh', ha⟩ hc
    exact ⟨v, h', _, nx', hk, hh', .of_alloc ha hn (by have := hh'.ok nx; rwa [updB_same] at this) hc⟩
  have pure_ : (∃ v, k v h = .good ∧ PureS C.P o f v) → cls' C.P o.op ≠ 2 → ∃ v h' H' nx', k v h' = .good ∧ HS h' H' nx' ∧ Cls C.P o f H nx v H' nx' := by
    rintro ⟨v, hk, hp⟩ hc
    exact ⟨v, h, H, nx, hk, hh, .of_pure hp hc⟩
  have read_ : (∃ v, k v h = .good ∧ ReadS C.P o f H v) → cls' C.P o.op = 1 ∨ cls' C.P o.op = 3 → ∃ v h' H' nx', k v h' = .good ∧ HS h' H' nx' ∧ Cls C.P o f H nx v H' nx' := by
    rintro ⟨v, hk, hp⟩ hc
    exact ⟨v, h, H, nx, hk, hh, .of_read hp (fun h => by omega) (by omega)⟩
  have rp_ : (∃ v, k v h = .good ∧ ReadS C.P o f H v ∧ (cls' C.P o.op = 0 → PureS C.P o f v)) → cls' C.P o.op ≠ 2 → ∃ v h' H' nx', k v h' = .good ∧ HS h' H' nx' ∧ Cls C.P o f H nx v H' nx' := by
    rintro ⟨v, hk, hp, hp0⟩ hc
    exact ⟨v, h, H, nx, hk, hh, .of_read hp hp0 hc⟩
  have op_ : (∃ v h' H', k v h' = .good ∧ HS h' H' nx ∧ OpS C.P o f H nx v H' nx) → cls' C.P o.op = 3 → ∃ v h' H' nx', k v h' = .good ∧ HS h' H' nx' ∧ Cls C.P o f H nx v H' nx' := by
    rintro ⟨v, h', H', hk, hh', hp⟩ hc
    exact ⟨v, h', H', nx, hk, hh', .of_op hp hc⟩
  have opx_ : (∃ v h' H' nx', k v h' = .good ∧ HS h' H' nx' ∧ OpS C.P o f H nx v H' nx') → cls' C.P o.op = 3 → ∃ v h' H' nx', k v h' = .good ∧ HS h' H' nx' ∧ Cls C.P o f H nx v H' nx' := by
    rintro ⟨v, h', H', nx', hk, hh', hp⟩ hc
    exact ⟨v, h', H', nx', hk, hh', .of_op hp hc⟩
  cases ho : o.op with
  | move a => rw [ho] at hk; exact .inl (pure_ (moveF_good he (.inl ho) hk) (by rw [ho]; simp [cls', cls]))
  | assign a => rw [ho] at hk; exact .inl (pure_ (moveF_good he (.inr ho) hk) (by rw [ho]; simp [cls', cls]))
  | pick c a b => rw [ho] at hk; exact .inl (pure_ (pickF_good he ho hk) (by rw [ho]; simp [cls', cls]))
  | alloc t => rw [ho] at hk; exact .inl (alloc_ (allocF_good (e := e) hh ho hk) (by rw [ho]; simp [cls', cls]))
  | box t x => rw [ho] at hk; exact .inl (alloc_ (boxF_good hh he ho hk) (by rw [ho]; simp [cls', cls]))
  | build t ps => rw [ho] at hk; exact .inl (pure_ (buildF_good he ho hk) (by rw [ho]; simp [cls', cls]))
  | buildSlice t n ps => rw [ho] at hk; exact .inl (alloc_ (buildSliceF_good hh he ho hk) (by rw [ho]; simp [cls', cls]))
  | insert t m i v => rw [ho] at hk; exact .inl (op_ (mapUpdateF_good hh he (.inr ho) hk) (by rw [ho]; simp [cls', cls]))
  | load t a => rw [ho] at hk; exact .inl (read_ (loadF_good hh he ho hk) (.inl (by rw [ho]; simp [cls', cls])))
  | store t a v => rw [ho] at hk; exact .inl (op_ (storeF_good hh he ho hk) (by rw [ho]; simp [cls', cls]))
  | ready g => rw [ho] at hk; exact absurd hk no_good
  | waits g => rw [ho] at hk; exact absurd hk no_good
  | nilCheck x => rw [ho] at hk; exact .inl (pure_ (nilCheckF_good he ho hk) (by rw [ho]; simp [cls', cls]))
  | binOp op t x y u =>
    rw [ho] at hk
    refine .inl (rp_ (binF_good hh he ho hk) ?_)
    rw [ho]; cases op <;> simp [cls'] <;> split <;> simp
  | unOp op t x => rw [ho] at hk; exact .inl (pure_ (unF_good he ho hk) (by rw [ho]; simp [cls', cls]))
  | convert s d x => rw [ho] at hk; exact .inl (convertF_good hh he ho hk)
  | sliceToArrayPointer t x => rw [ho] at hk; exact absurd hk no_good
  | makeInterface t x => rw [ho] at hk; exact .inl (pure_ (makeIfaceF_good he ho hk) (by rw [ho]; simp [cls', cls]))
  | makeFunc fn a c => rw [ho] at hk; exact .inl (pure_ (makeFuncF_good he ho hk) (by rw [ho]; simp [cls', cls]))
  | makeMap t r => rw [ho] at hk; exact .inl (alloc_ (makeMapF_good (e := e) hh ho hk) (by rw [ho]; simp [cls', cls]))
  | makeChan t r => rw [ho] at hk; exact absurd hk no_good
  | makeSlice t l c => rw [ho] at hk; exact .inl (alloc_ (makeSliceF_good hh he ho hk) (by rw [ho]; simp [cls', cls]))
  | slice t x lo hi mx =>
    rw [ho] at hk
    refine .inl (rp_ (sliceF_good hh he ho hk) ?_)
    rw [ho]; simp only [cls']; split <;> simp
  | fieldAddr t x i => rw [ho] at hk; exact .inl (pure_ (fieldAddrF_good he ho hk) (by rw [ho]; simp [cls', cls]))
  | field t x i => rw [ho] at hk; exact .inl (pure_ (fieldF_good he ho hk) (by rw [ho]; simp [cls', cls]))
  | indexAddr t x i => rw [ho] at hk; exact .inl (pure_ (indexAddrF_good he ho hk) (by rw [ho]; simp [cls', cls]))
  | index t x i => rw [ho] at hk; exact .inl (pure_ (indexF_good he ho hk) (by rw [ho]; simp [cls', cls]))
  | lookup t x i ok => rw [ho] at hk; exact .inl (read_ (lookupF_good hh he ho hk) (.inl (by rw [ho]; simp [cls', cls])))
  | mapUpdate t m i v => rw [ho] at hk; exact .inl (op_ (mapUpdateF_good hh he (.inl ho) hk) (by rw [ho]; simp [cls', cls]))
  | mapEntry t m i => rw [ho] at hk; exact .inl (op_ (mapEntryF_good hh he ho hk) (by rw [ho]; simp [cls', cls]))
  | entryStore t m s v => rw [ho] at hk; exact .inl (op_ (entryStoreF_good hh he ho hk) (by rw [ho]; simp [cls', cls]))
  | range t x => rw [ho] at hk; exact .inl (opx_ (rangeF_good hh he ho hk) (by rw [ho]; simp [cls', cls]))
  | next it s => rw [ho] at hk; exact .inl (opx_ (nextF_good hh he ho hk) (by rw [ho]; simp [cls', cls]))
  | entry it => rw [ho] at hk; exact .inl (read_ (entryF_good hh he ho hk) (.inr (by rw [ho]; simp [cls', cls])))
  | typeAssert x t u ok => rw [ho] at hk; exact .inl (pure_ (typeAssertF_good he ho hk) (by rw [ho]; simp [cls', cls]))
  | extract t i => rw [ho] at hk; exact .inl (pure_ (extractF_good he ho hk) (by rw [ho]; simp [cls', cls]))
  | call c =>
    rw [ho] at hk
    have hk : (Callee.rec (fun _ => z) (fun _ _ => z) (fun b => Bool.rec (opdsK c.args.toList e fun l => builtinF b c.argTypes l C h k) z (decide (b = .recover))) c.callee : A) = .good := hk
    cases hb : c.callee with
    | value x => rw [hb] at hk; exact .inr ⟨hk, .inl ⟨c, rfl, fun b h => by rw [hb] at h; cases h⟩⟩
    | invoke r n => rw [hb] at hk; exact .inr ⟨hk, .inl ⟨c, rfl, fun b h => by rw [hb] at h; cases h⟩⟩
    | builtin b =>
      rw [hb] at hk
      have hcls := cls_call (P := C.P) ho hb
      simp only [boolRec_good, opdsK_good he, decide_eq_true_eq, decide_eq_false_iff_not] at hk
      rcases hk with ⟨rfl, hk⟩ | ⟨_, hx, hk⟩
      · exact .inr ⟨hk, .inl ⟨c, rfl, fun b h => by rw [hb] at h; cases h; rfl⟩⟩
      · left
        have bs_ : (∃ v h' H' nx', k v h' = .good ∧ HS h' H' nx' ∧ BuS C.P b c.argTypes (c.args.toList.map (opdS · f)) H nx v H' nx') → cls' C.P o.op = 3 → ∃ v h' H' nx', k v h' = .good ∧ HS h' H' nx' ∧ Cls C.P o f H nx v H' nx' := by
          rintro ⟨v, h', H', nx', h1, h2, h3⟩ h4
          exact ⟨v, h', H', nx', h1, h2, .of_op (h3.op ho hb hx) h4⟩
        have br_ : (∃ v, k v h = .good ∧ BuR C.P b c.argTypes (c.args.toList.map (opdS · f)) H v) → cls' C.P o.op = 1 ∨ cls' C.P o.op = 3 → ∃ v h' H' nx', k v h' = .good ∧ HS h' H' nx' ∧ Cls C.P o f H nx v H' nx' := by
          rintro ⟨v, h1, h3⟩ h4
          exact read_ ⟨v, h1, h3.read ho hb hx⟩ h4
        cases b <;> first | (exact absurd hk no_good) | skip
        · simp only [builtinF, arg2_good] at hk
          obtain ⟨s, x, hl, hk⟩ := hk
          obtain ⟨v, h', H', nx', h1, h2, h3⟩ := appendF_good hh hk
          refine bs_ ⟨v, h', H', nx', h1, h2, fun φ w args ty cs hR hv => ?_⟩ hcls
          rw [hl] at hv
          obtain ⟨s', x', rfl, hs, hx'⟩ := hv.two
          obtain ⟨φ', w', v', g1, g2, g3, g4⟩ := h3 φ w s' x' ty hR hs hx'
          exact ⟨φ', w', v', by simp only [builtin, Sem.run_bind, g1, Result.andThen_ok, Sem.run_pure], g2, g3, g4⟩
        · simp only [builtinF, arg1_good, obK_good] at hk
          obtain ⟨x, hl, t, ht, el, hel, hk⟩ := hk
          rw [hl] at br_
          exact br_ (capF_good ht (tSlice_some hel) hk) (.inr hcls)
        · simp only [builtinF, arg2_good, obK_good] at hk
          obtain ⟨d, s, hl, t, ht, hk⟩ := hk
          rw [hl] at bs_
          obtain ⟨v, h', H', h1, h2, h3⟩ := copyF_good hh ht hk
          exact bs_ ⟨v, h', H', nx, h1, h2, h3⟩ hcls
        · simp only [builtinF, arg2_good, obK_good] at hk
          obtain ⟨d, s, hl, t, ht, q, hq, hk⟩ := hk
          rw [hl] at bs_
          obtain ⟨v, h', H', h1, h2, h3⟩ := deleteF_good hh ht hq hk
          exact bs_ ⟨v, h', H', nx, h1, h2, h3⟩ hcls
        · simp only [builtinF, arg1_good, obK_good] at hk
          obtain ⟨x, hl, t, ht, q, hq, hk⟩ := hk
          rw [hl] at br_
          exact br_ (lenF_good hh ht hq hk) (.inl hcls)
        · simp only [builtinF, arg2_good] at hk
          obtain ⟨x, y, hl, hk⟩ := hk
          rw [hl] at br_
          exact br_ (maxF_good hk) (.inl hcls)
        · simp only [builtinF, arg2_good] at hk
          obtain ⟨x, y, hl, hk⟩ := hk
          rw [hl] at br_
          exact br_ (minF_good hk) (.inl hcls)
        · simp only [builtinF, arg1_good] at hk
          obtain ⟨x, hl, hk⟩ := hk
          rw [hl] at br_
          exact br_ (sliceDataF_good hk) (.inr hcls)
        · simp only [builtinF, arg2_good, obK_good] at hk
          obtain ⟨p, n, hl, pt, ht, hk⟩ := hk
          rw [hl] at bs_
          obtain ⟨v, h', H', h1, h2, h3⟩ := unsafeStringF_good hh ht hk
          exact bs_ ⟨v, h', H', nx, h1, h2, h3⟩ hcls
  | go c => rw [ho] at hk; exact absurd hk no_good
  | defer c => rw [ho] at hk; exact .inr ⟨hk, .inr ⟨c, rfl⟩⟩
  | panic x => rw [ho] at hk; exact absurd hk no_good
  | send a b => rw [ho] at hk; exact absurd hk no_good
  | recv t a ok => rw [ho] at hk; exact absurd hk no_good
  | select cs b => rw [ho] at hk; exact absurd hk no_good
end
end Go.Ev
end
