/- What each kind of operation comes to: numbers, slices, new memory, stores, appends, calls. -/
import Derived.Test.YtmkodknmknfdkaaE3
import Derived.Laws.AppendOwn
set_option linter.unusedVariables false
set_option linter.unusedSimpArgs false
namespace Go.Proofs.Ytmkodknmknfdkaa
namespace E
open Go

/-! ### Numbers and truth values -/
section nums
variable {P : Program} {n : Nat} {env : Env} {Γ : List SProp} {L : Loc} {ty t t' : TypeId} {x y : Operand} {a b : Int} {k : IntKind}

theorem wrapI {z : Int} (h1 : -9223372036854775808 ≤ z) (h2 : z ≤ 9223372036854775807) : IntKind.i64.wrap z = z := IntWalk.i64_in z ⟨h1, h2⟩

theorem q_addK (hx : ev env x = some (.int k a)) (hy : ev env y = some (.int k b)) : Quiet P (.binOp .add t x y t') ty n env Γ L (.int k (k.wrap (a + b))) :=
  fun _ _ _ _ _ ac w _ h1 _ _ => by simp [execOp, h1.ev hx, h1.ev hy, eqGuard, binOp, Op.intArith]
theorem q_subK (hx : ev env x = some (.int k a)) (hy : ev env y = some (.int k b)) : Quiet P (.binOp .sub t x y t') ty n env Γ L (.int k (k.wrap (a - b))) :=
  fun _ _ _ _ _ ac w _ h1 _ _ => by simp [execOp, h1.ev hx, h1.ev hy, eqGuard, binOp, Op.intArith]
theorem q_mulK (hx : ev env x = some (.int k a)) (hy : ev env y = some (.int k b)) : Quiet P (.binOp .mul t x y t') ty n env Γ L (.int k (k.wrap (a * b))) :=
  fun _ _ _ _ _ ac w _ h1 _ _ => by simp [execOp, h1.ev hx, h1.ev hy, eqGuard, binOp, Op.intArith]
theorem q_add (hx : ev env x = some (.int .i64 a)) (hy : ev env y = some (.int .i64 b)) (h1 : -9223372036854775808 ≤ a + b) (h2 : a + b ≤ 9223372036854775807) : Quiet P (.binOp .add t x y t') ty n env Γ L (.int .i64 (a + b)) := by
  have := q_addK (P := P) (n := n) (ty := ty) (t := t) (t' := t') (Γ := Γ) (L := L) hx hy
  rwa [wrapI h1 h2] at this
theorem q_sub (hx : ev env x = some (.int .i64 a)) (hy : ev env y = some (.int .i64 b)) (h1 : -9223372036854775808 ≤ a - b) (h2 : a - b ≤ 9223372036854775807) : Quiet P (.binOp .sub t x y t') ty n env Γ L (.int .i64 (a - b)) := by
  have := q_subK (P := P) (n := n) (ty := ty) (t := t) (t' := t') (Γ := Γ) (L := L) hx hy
  rwa [wrapI h1 h2] at this
theorem q_mul (hx : ev env x = some (.int .i64 a)) (hy : ev env y = some (.int .i64 b)) (h1 : -9223372036854775808 ≤ a * b) (h2 : a * b ≤ 9223372036854775807) : Quiet P (.binOp .mul t x y t') ty n env Γ L (.int .i64 (a * b)) := by
  have := q_mulK (P := P) (n := n) (ty := ty) (t := t) (t' := t') (Γ := Γ) (L := L) hx hy
  rwa [wrapI h1 h2] at this
theorem q_rem (hx : ev env x = some (.int k a)) (hy : ev env y = some (.int k b)) (hb : b ≠ 0) : Quiet P (.binOp .rem t x y t') ty n env Γ L (.int k (a.tmod b)) :=
  fun _ _ _ _ _ ac w _ h1 _ _ => by simp [execOp, h1.ev hx, h1.ev hy, eqGuard, binOp, Op.intDiv, hb]
theorem q_quo (hx : ev env x = some (.int k a)) (hy : ev env y = some (.int k b)) (hb : b ≠ 0) : Quiet P (.binOp .quo t x y t') ty n env Γ L (.int k (k.wrap (a.tdiv b))) :=
  fun _ _ _ _ _ ac w _ h1 _ _ => by simp [execOp, h1.ev hx, h1.ev hy, eqGuard, binOp, Op.intDiv, hb]
theorem q_eql (hx : ev env x = some (.int k a)) (hy : ev env y = some (.int k b)) : Quiet P (.binOp .eql t x y t') ty n env Γ L (.bool (decide (a = b))) :=
  fun _ _ _ _ _ ac w _ h1 _ _ => by
    simp only [execOp, h1.ev hx, h1.ev hy, eqGuard, binOp, Op.intCmp]
    simp
    rfl
theorem q_neq (hx : ev env x = some (.int k a)) (hy : ev env y = some (.int k b)) : Quiet P (.binOp .neq t x y t') ty n env Γ L (.bool (decide (a ≠ b))) :=
  fun _ _ _ _ _ ac w _ h1 _ _ => by
    simp only [execOp, h1.ev hx, h1.ev hy, eqGuard, binOp, Op.intCmp]
    simp [bne]
    rfl
theorem q_lss (hx : ev env x = some (.int k a)) (hy : ev env y = some (.int k b)) : Quiet P (.binOp .lss t x y t') ty n env Γ L (.bool (decide (a < b))) :=
  fun _ _ _ _ _ ac w _ h1 _ _ => by simp [execOp, h1.ev hx, h1.ev hy, eqGuard, binOp, Op.intCmp]
theorem q_leq (hx : ev env x = some (.int k a)) (hy : ev env y = some (.int k b)) : Quiet P (.binOp .leq t x y t') ty n env Γ L (.bool (decide (a ≤ b))) :=
  fun _ _ _ _ _ ac w _ h1 _ _ => by simp [execOp, h1.ev hx, h1.ev hy, eqGuard, binOp, Op.intCmp]
theorem q_gtr (hx : ev env x = some (.int k a)) (hy : ev env y = some (.int k b)) : Quiet P (.binOp .gtr t x y t') ty n env Γ L (.bool (decide (b < a))) :=
  fun _ _ _ _ _ ac w _ h1 _ _ => by simp [execOp, h1.ev hx, h1.ev hy, eqGuard, binOp, Op.intCmp]
theorem q_geq (hx : ev env x = some (.int k a)) (hy : ev env y = some (.int k b)) : Quiet P (.binOp .geq t x y t') ty n env Γ L (.bool (decide (b ≤ a))) :=
  fun _ _ _ _ _ ac w _ h1 _ _ => by simp [execOp, h1.ev hx, h1.ev hy, eqGuard, binOp, Op.intCmp]
theorem q_neg (hx : ev env x = some (.int .i64 a)) (h1 : -9223372036854775807 ≤ a) (h2 : a ≤ 9223372036854775807) : Quiet P (.unOp .neg t x) ty n env Γ L (.int .i64 (-a)) :=
  fun _ _ _ _ _ ac w _ h1' _ _ => by
    have := wrapI (z := 0 - a) (by omega) (by omega)
    simp [execOp, h1'.ev hx, Op.unary, Op.intArith]
    rw [show (-a) = 0 - a by omega, this]
theorem q_not {p : Bool} (hx : ev env x = some (.bool p)) : Quiet P (.unOp .not t x) ty n env Γ L (.bool (!p)) :=
  fun _ _ _ _ _ ac w _ h1 _ _ => by simp [execOp, h1.ev hx, Op.unary]
theorem q_convInt {d d' : TypeId} {sd : TypeDesc} (hs : P.underlying d = some sd) (hd : P.underlying d' = some (.int k)) {k' : IntKind} (hx : ev env x = some (.int k' a)) : Quiet P (.convert d d' x) ty n env Γ L (.int k (k.wrap a)) :=
  fun _ _ _ _ _ ac w _ h1 _ _ => by simp [execOp, h1.ev hx, convert, underlying, hs, hd, Conv.intToInt]
theorem q_eqBool {p q : Bool} (ht : P.underlying t = some .bool) (hx : ev env x = some (.bool p)) (hy : ev env y = some (.bool q)) : Quiet P (.binOp .eql t x y t') ty n env Γ L (.bool (p == q)) :=
  fun _ _ _ _ _ ac w _ h1 _ _ => by
    have := run_equalIn_bool' (P := P) w 9999 t p q ht
    simp [execOp, h1.ev hx, h1.ev hy, eqGuard, binOp, Op.equal, Op.maxDepth, this]
theorem q_neqBool {p q : Bool} (ht : P.underlying t = some .bool) (hx : ev env x = some (.bool p)) (hy : ev env y = some (.bool q)) : Quiet P (.binOp .neq t x y t') ty n env Γ L (.bool (!(p == q))) :=
  fun _ _ _ _ _ ac w _ h1 _ _ => by
    have := run_equalIn_bool' (P := P) w 9999 t p q ht
    simp [execOp, h1.ev hx, h1.ev hy, eqGuard, binOp, Op.equal, Op.maxDepth, this]
theorem q_max {k' : IntKind} {ats : Array TypeId} (hx : ev env x = some (.int k a)) (hy : ev env y = some (.int k' b)) : Quiet P (.call ⟨.builtin .max, #[x, y], ats⟩) ty n env Γ L (.int k (max a b)) :=
  fun _ _ _ _ _ ac w _ h1 _ _ => by
    have := Lib.run_max_ints (P := P) w ats ty k k' a b
    simp [execOp, resolve, invoke, builtin, h1.ev hx, h1.ev hy, this]
theorem q_min {k' : IntKind} {ats : Array TypeId} (hx : ev env x = some (.int k a)) (hy : ev env y = some (.int k' b)) : Quiet P (.call ⟨.builtin .min, #[x, y], ats⟩) ty n env Γ L (.int k (min a b)) :=
  fun _ _ _ _ _ ac w _ h1 _ _ => by
    have := Lib.run_min_ints (P := P) w ats ty k k' a b
    simp [execOp, resolve, invoke, builtin, h1.ev hx, h1.ev hy, this]
end nums

/-! ### Slices that never turn -/

/-- The slice at a, of capacity c, reads as these rows of k cells each, and never turns. -/
@[irreducible] def sl (a : Option Addr) (c k : Nat) (rows : List (List Value)) : SProp :=
  ⟨fun H => rows.length ≤ c ∧ c ≤ maxLen ∧ (∀ r ∈ rows, r.length = k) ∧ (rows = [] ∨ ∃ a', a = some a' ∧ a'.spot = none ∧ ∃ cs T z, H a'.block = some (.cells cs T z) ∧ ∀ i j v, (rows[i]?).bind (·[j]?) = some v → cs[a'.off + i * k + j]? = some v),
   fun _ _ h ⟨h1, h0, h2, h3⟩ => ⟨h1, h0, h2, h3.imp id fun ⟨a', e, s, cs, T, z, e', r⟩ => ⟨a', e, s, cs, T, z, h _ _ e', r⟩⟩⟩
theorem sl_def {a : Option Addr} {c k : Nat} {rows : List (List Value)} {H : Hp} : (sl a c k rows).holds H ↔
    rows.length ≤ c ∧ c ≤ maxLen ∧ (∀ r ∈ rows, r.length = k) ∧ (rows = [] ∨ ∃ a', a = some a' ∧ a'.spot = none ∧ ∃ cs T z, H a'.block = some (.cells cs T z) ∧ ∀ i j v, (rows[i]?).bind (·[j]?) = some v → cs[a'.off + i * k + j]? = some v) := by
  unfold sl; rfl
def adr (a : Option Addr) : Addr := a.getD default
theorem sl_nil {H : Hp} (c k : Nat) (a : Option Addr) (hc : c ≤ maxLen) : (sl a c k []).holds H := sl_def.2 ⟨Nat.zero_le _, hc, by simp, .inl rfl⟩

section slices
variable {P : Program} {n : Nat} {env : Env} {Γ : List SProp} {L : Loc} {ty t e : TypeId} {x y : Operand} {a : Option Addr} {c k len : Nat} {rows : List (List Value)} {v : Value}

theorem sl_cell {X : Cx} {w : World} {H : Hp} (h : (sl a c k rows).holds H) (h3 : St X w H L) {i j : Nat} {r : List Value} (hr : rows[i]? = some r) (hv : r[j]? = some v) :
    w.cell? (((adr a).add (i * k)).add j) = some v := by
  obtain ⟨_, _, _, h4⟩ := sl_def.1 h
  rcases h4 with rfl | ⟨a', rfl, hs, cs, T, z, e, hk⟩
  · simp at hr
  · have := hk i j v (by rw [hr]; exact hv)
    show w.cell? ((a'.add (i * k)).add j) = some v
    rw [cell_of (cs := cs) (T := T) (z := z) (by rw [add_block, add_block]; exact h3.sub _ _ e) (add_spot j (add_spot _ hs)), add_off, add_off]
    exact this
theorem Rd.sl {i j : Nat} {r : List Value} (h : E.sl a c k rows ∈ Γ) (hr : rows[i]? = some r) (hv : r[j]? = some v) : Rd Γ L (((adr a).add (i * k)).add j) v :=
  fun _ _ _ h2 h3 => sl_cell (Holds.mem h h2) h3 hr hv
theorem Rd.sl0 {i : Nat} {r : List Value} (h : E.sl a c k rows ∈ Γ) (hr : rows[i]? = some r) (hv : r[0]? = some v) : Rd Γ L ((adr a).add (i * k)) v :=
  fun _ _ _ h2 h3 => by simpa [Addr.add] using sl_cell (Holds.mem h h2) h3 hr hv
theorem RdS.sl0 {i : Nat} {r : List Value} (h : E.sl a c k rows ∈ Γ) (hr : rows[i]? = some r) : RdS Γ L ((adr a).add (i * k)) r :=
  fun _ _ _ h2 h3 _ _ hj => sl_cell (Holds.mem h h2) h3 hr hj
theorem add_add {a : Addr} (hs : a.spot = none) (m j : Nat) : (a.add m).add j = a.add (m + j) := by
  cases a
  simp at hs
  subst hs
  unfold Addr.add
  split <;> split <;> split <;> simp_all <;> omega
theorem RdS.sl {i m sz : Nat} {r vs : List Value} (h : E.sl a c k rows ∈ Γ) (hr : rows[i]? = some r) (hv : slcL r m sz = vs) : RdS Γ L (((adr a).add (i * k)).add m) vs :=
  fun _ _ H h2 h3 j v hj => by
    have hv' : r[m + j]? = some v := by
      subst hv
      unfold slcL at hj
      rw [List.getElem?_take] at hj
      split at hj
      · simpa using hj
      · cases hj
    have h4 := sl_cell (Holds.mem h h2) h3 hr hv'
    obtain ⟨_, _, _, h5⟩ := sl_def.1 (Holds.mem h h2)
    rcases h5 with rfl | ⟨a', rfl, hs, _⟩
    · simp at hr
    · show World.cell? _ (((a'.add (i * k)).add m).add j) = some v
      rw [add_add (add_spot _ hs)]
      exact h4

theorem q_len {cap : Nat} (ht : P.underlying t = some (.slice e)) (hx : ev env x = some (.slice a len cap)) : Quiet P (.call ⟨.builtin .len, #[x], #[t]⟩) ty n env Γ L (.int .i64 len) :=
  fun _ _ _ _ _ ac w _ h1 _ _ => by simp [execOp, resolve, invoke, builtin, Builtin.len_, h1.ev hx, underlying, ht, goInt]
theorem q_lenS {s : ByteArray} (ht : P.underlying t = some .string) (hx : ev env x = some (.string s)) : Quiet P (.call ⟨.builtin .len, #[x], #[t]⟩) ty n env Γ L (.int .i64 s.size) :=
  fun _ _ _ _ _ ac w _ h1 _ _ => by simp [execOp, resolve, invoke, builtin, Builtin.len_, h1.ev hx, underlying, ht, goInt]
theorem q_indexRaw {a : Addr} {ki : IntKind} {z : Int} {i len cap sz by_ : Nat} {sc : Bool} {zero : Value} (ht : P.underlying t = some (.slice e)) (he : tRow P e = some (sc, sz, by_, zero))
    (hx : ev env x = some (.slice (some a) len cap)) (hy : ev env y = some (.int ki z)) (hz : z = (i : Int)) (hi : i < len) :
    Quiet P (.indexAddr t x y) ty n env Γ L (.pointer (some (a.add (i * sz)))) :=
  fun X _ _ _ _ ac w H h1 h2 h3 => by
    subst hz
    have h0 : (0 : Int) ≤ (i : Int) ∧ (i : Int) < (len : Int) := ⟨by omega, by omega⟩
    simp [execOp, h1.ev hx, h1.ev hy, Instr.indexAt, asIntOf, underlying, ht, hi, tRow_size he]
theorem q_index {ki : IntKind} {z : Int} {i cap sz by_ : Nat} {sc : Bool} {zero : Value} (ht : P.underlying t = some (.slice e)) (he : tRow P e = some (sc, sz, by_, zero))
    (hx : ev env x = some (.slice a len cap)) (hs : E.sl a c sz rows ∈ Γ) (hl : len = rows.length) (hy : ev env y = some (.int ki z)) (hz : z = (i : Int)) (hi : i < len) :
    Quiet P (.indexAddr t x y) ty n env Γ L (.pointer (some ((adr a).add (i * sz)))) :=
  fun X d pos aft g ac w H h1 h2 h3 => by
    obtain ⟨_, _, _, h4⟩ := sl_def.1 (Holds.mem hs h2)
    rcases h4 with h5 | ⟨a', ha, _⟩
    · subst hl; simp [h5] at hi
    · subst ha
      exact q_indexRaw (L := L) ht he hx hy hz hi X d pos aft g ac w H h1 h2 h3

/-- The head of a slice cut from l on. -/
def subA (a : Option Addr) (c k l : Nat) : Option Addr := if c = l then a else a.map (·.add (l * k))
theorem sl_sub {H : Hp} {l h : Nat} (hs : (sl a c k rows).holds H) (hl : l ≤ h) (hh : h ≤ rows.length) : (sl (subA a c k l) (c - l) k ((rows.drop l).take (h - l))).holds H := by
  obtain ⟨h1, h0, h2, h3⟩ := sl_def.1 hs
  refine sl_def.2 ⟨by simp; omega, by omega, fun r hr => h2 r (List.mem_of_mem_drop (List.mem_of_mem_take hr)), ?_⟩
  by_cases he : c = l
  · left
    have : h - l = 0 := by omega
    simp [this]
  · rcases h3 with rfl | ⟨a', rfl, hsp, cs, T, z, e, hk⟩
    · left; simp
    · right
      refine ⟨a'.add (l * k), by simp [subA, he], add_spot _ hsp, cs, T, z, by rw [add_block]; exact e, fun i j v hv => ?_⟩
      rw [add_off]
      have : (rows[l + i]?).bind (·[j]?) = some v := by
        rw [List.getElem?_take] at hv
        split at hv
        · simpa using hv
        · cases hv
      have := hk (l + i) j v this
      rw [Nat.add_mul] at this
      rw [show a'.off + l * k + i * k + j = a'.off + (l * k + i * k) + j by omega]
      exact this
theorem run_bound {P : Program} {ki : IntKind} {z : Int} {y i : Nat} {code : BoundsCode} (w : World) (hz : z = (i : Int)) (hi : i ≤ y) : (Instr.sliceBound (.int ki z) y code).run P w = .ok i w := by
  subst hz
  simp [Instr.sliceBound, asIntOf, hi]
theorem q_slice {ko kh : IntKind} {zl zh : Int} {l h sz by_ : Nat} {sc : Bool} {zero : Value} {lo hi : Operand} (ht : P.underlying t = some (.slice e)) (he : tRow P e = some (sc, sz, by_, zero))
    (hx : ev env x = some (.slice a len c)) (hlo : ev env lo = some (.int ko zl)) (hzl : zl = (l : Int)) (hhi : ev env hi = some (.int kh zh)) (hzh : zh = (h : Int)) (hl : l ≤ h) (hh : h ≤ c) :
    Quiet P (.slice t x (some lo) (some hi) none) ty n env Γ L (.slice (subA a c sz l) (h - l) (c - l)) :=
  fun X _ _ _ _ ac w H h1 h2 h3 => by
    simp [execOp, h1.ev hx, h1.ev hlo, h1.ev hhi, Instr.sliceAt, Instr.slice, underlying, ht, Instr.sliceBounds, run_bound w hzl hl, run_bound w hzh hh, tRow_size he, subA]
theorem q_sliceLo {ko : IntKind} {zl : Int} {l sz by_ : Nat} {sc : Bool} {zero : Value} {lo : Operand} (ht : P.underlying t = some (.slice e)) (he : tRow P e = some (sc, sz, by_, zero))
    (hx : ev env x = some (.slice a len c)) (hlo : ev env lo = some (.int ko zl)) (hzl : zl = (l : Int)) (hl : l ≤ len) :
    Quiet P (.slice t x (some lo) none none) ty n env Γ L (.slice (subA a c sz l) (len - l) (c - l)) :=
  fun X _ _ _ _ ac w H h1 h2 h3 => by
    simp [execOp, h1.ev hx, h1.ev hlo, Instr.sliceAt, Instr.slice, underlying, ht, Instr.sliceBounds, run_bound w hzl hl, tRow_size he, subA]
theorem q_sliceHi {kh : IntKind} {zh : Int} {h sz by_ : Nat} {sc : Bool} {zero : Value} {hi : Operand} (ht : P.underlying t = some (.slice e)) (he : tRow P e = some (sc, sz, by_, zero))
    (hx : ev env x = some (.slice a len c)) (hhi : ev env hi = some (.int kh zh)) (hzh : zh = (h : Int)) (hh : h ≤ c) :
    Quiet P (.slice t x none (some hi) none) ty n env Γ L (.slice (subA a c sz 0) h c) :=
  fun X _ _ _ _ ac w H h1 h2 h3 => by
    have h0 : subA a c sz 0 = if c = 0 then a else a.map (·.add 0) := by simp [subA]
    simp [execOp, h1.ev hx, h1.ev hhi, Instr.sliceAt, Instr.slice, underlying, ht, Instr.sliceBounds, run_bound w hzh hh, tRow_size he, h0]
end slices

/-! ### New memory, stores -/
section loud
variable {P : Program} {n : Nat} {env : Env} {Γ : List SProp} {L : Loc} {ty t e : TypeId} {x y : Operand} {v : Value}

theorem Loud.ofRun {op : Op} {R : Value → List SProp → Loc → Prop}
    (h : ∀ X d pos aft g a w H, Agr n env a → Holds Γ H → St X w H L → ∃ v w' H' Γ' L', (execOp a.eval ⟨d, op, ty, pos, aft, g⟩).run P w = .ok (.value v) w' ∧ R v Γ' L' ∧ H.le H' ∧ Holds Γ' H' ∧ St X w' H' L') :
    Loud P op ty n env Γ L R := fun X d pos aft g a w H h1 h2 h3 K Q hk => by
  obtain ⟨v, w', H', Γ', L', e, hr, h4, h5, h6⟩ := h X d pos aft g a w H h1 h2 h3
  unfold Oper.wp
  rw [e]
  exact hk v Γ' L' w' H' hr h4 h5 h6
theorem Loud.ofSkip {op : Op} {R : Value → List SProp → Loc → Prop}
    (h : ∀ X d pos aft g a w H, Agr n env a → Holds Γ H → St X w H L → ∃ w' H' Γ' L', (execOp a.eval ⟨d, op, ty, pos, aft, g⟩).run P w = .ok .skip w' ∧ R undef Γ' L' ∧ H.le H' ∧ Holds Γ' H' ∧ St X w' H' L') :
    Loud P op ty n env Γ L R := fun X d pos aft g a w H h1 h2 h3 K Q hk => by
  obtain ⟨w', H', Γ', L', e, hr, h4, h5, h6⟩ := h X d pos aft g a w H h1 h2 h3
  unfold Oper.wp
  rw [e]
  exact hk undef Γ' L' w' H' hr h4 h5 h6

/-- A new variable. -/
def New (Γ : List SProp) (L : Loc) (t : TypeId) (cs : Array Value) : Value → List SProp → Loc → Prop :=
  fun v Γ' L' => ∃ b, v = .pointer (some ⟨b, 0, none⟩) ∧ Γ' = Γ ∧ L' = [(b, .cells cs t (0, 0))] :: L
theorem l_alloc {sc : Bool} {size bytes : Nat} {zero : Value} (ht : tRow P t = some (sc, size, bytes, zero)) : Loud P (.alloc t) ty n env Γ L (New Γ L t zero.cells) :=
  Loud.ofRun fun X d pos aft g a w H h1 h2 h3 => by
    refine ⟨_, _, H, Γ, _, ?_, ⟨w.heap.size, rfl, rfl, rfl⟩, Hp.le_refl H, h2, h3.push _⟩
    simp [execOp, Instr.alloc, tRow_zero ht, newVar, newRow, newObj, Sem.run]
theorem l_box (hx : ev env x = some v) : Loud P (.box t x) ty n env Γ L (New Γ L t v.cells) :=
  Loud.ofRun fun X d pos aft g a w H h1 h2 h3 => by
    refine ⟨_, _, H, Γ, _, ?_, ⟨w.heap.size, rfl, rfl, rfl⟩, Hp.le_refl H, h2, h3.push _⟩
    simp [execOp, Instr.box, h1.ev hx, newVar, newRow, newObj, Sem.run]

/-- Cells laid over a row. -/
def spl (cs : List Value) (k : Nat) (vs : List Value) : List Value := cs.take k ++ vs ++ cs.drop (k + vs.length)
/-- A store. -/
theorem l_store {sc : Bool} {size bytes b k i : Nat} {zero : Value} {cs : List Value} {T : TypeId} (ht : tRow P t = some (sc, size, bytes, zero)) (hx : ev env x = some (.pointer (some ⟨b, k, none⟩))) (hy : ev env y = some v)
    (hL : L[i]? = some [(b, .cells cs.toArray T (0, 0))]) (hs : Nat.beq v.cells.size size = true) (hfit : Nat.ble (k + v.cells.size) cs.length = true) (h1 : v.cells.toList.all Value.oneCell' = true) :
    Loud P (.store t x y) ty n env Γ L (fun _ Γ' L' => Γ' = Γ ∧ L' = L.set i [(b, .cells (spl cs k v.cells.toList).toArray T (0, 0))]) :=
  Loud.ofSkip fun X d pos aft g a w H h1' h2 h3 => by
    have hf := h3.front hL
    have hg : w.heap[b]? = some (.cells cs.toArray T (0, 0)) := hf.loc (b, _) (List.mem_cons_self ..)
    have hst := run_storeCells_at P b k T v.cells.toList 0 cs.toArray w hg (by have := Nat.le_of_ble_eq_true hfit; simpa using this) (List.all_eq_true.1 h1)
    refine ⟨_, H, Γ, _, ?_, ⟨rfl, rfl⟩, Hp.le_refl H, h2, St.back [(b, .cells (spl cs k v.cells.toList).toArray T (0, 0))] hL (hf.set (w' := w.setRow b (spl cs k v.cells.toList).toArray) rfl rfl rfl (setRow_heap w b cs.toArray _ T (0, 0) hg) fun c hc => setRow_other w b c _ hc)⟩
    have hs' := Nat.eq_of_beq_eq_true hs
    simp [execOp, h1'.ev hx, h1'.ev hy, Instr.storeAt, Instr.sureAddr, storeVar, tRow_size ht, hs', hst, spl]

theorem fill_range {len size : Nat} : ∀ {vs : List (Nat × Value)} {cells cs : List Value}, lay ((List.range len).map fun i => (i * size, size, true)) cells vs = some cs →
    Instr.fill (fun i => some (i * size, size)) cells.toArray vs = some cs.toArray
  | [], cells, cs, h => by simp [lay] at h; subst h; rfl
  | (i, v) :: rest, cells, cs, h => by
    simp only [lay] at h
    cases hp : ((List.range len).map fun i => (i * size, size, true))[i]? with
    | none => rw [hp] at h; cases h
    | some p =>
      have hp' : p = (i * size, size, true) := by
        rw [List.getElem?_map] at hp
        by_cases hi : i < len
        · rw [List.getElem?_range hi] at hp; simpa using hp.symm
        · simp [List.getElem?_eq_none (l := List.range len) (i := i) (by simp; omega)] at hp
      rw [hp, hp'] at h
      simp only [cond_eq_ite, Bool.and_eq_true] at h
      split at h
      · rename_i hc
        have h1 := Nat.eq_of_beq_eq_true hc.1
        have h2 := Nat.le_of_ble_eq_true hc.2
        have h3 := over_fold v.cells.toList cells (i * size) 0
        simp only [Instr.fill]
        rw [if_neg (by simp; omega)]
        have h4 : (v.cells.zipIdx.foldl (fun (cs : Array Value) (c, j) => cs.setIfInBounds (i * size + j) c) cells.toArray) = (lay.over cells (i * size) v.cells.toList).toArray := by
          rw [← Array.foldl_toList]
          simpa using h3
        rw [h4]
        exact fill_range h
      · cases h
/-- A zero value, again and again. -/
theorem zeros_eq {z : Array Value} {len size : Nat} (hs : z.size = size) :
    (Array.range (len * size)).map (z[· % z.size]!) = ((List.replicate len z.toList).flatten).toArray := by
  subst hs
  apply Array.ext'
  apply List.ext_getElem?
  intro i
  have hfl : ∀ len : Nat, ((List.replicate len z.toList).flatten).length = len * z.size := by
    intro len
    induction len with
    | zero => simp
    | succ n ih => simp only [List.replicate_succ, List.flatten_cons, List.length_append, ih, Array.length_toList, Nat.add_mul]; omega
  by_cases hi : i < len * z.size
  · have hz : 0 < z.size := by
      rcases Nat.eq_zero_or_pos z.size with h | h
      · rw [h] at hi; simp at hi
      · exact h
    have hm : i % z.size < z.size := Nat.mod_lt _ hz
    have hg : ∀ (len i : Nat), i < len * z.size → ((List.replicate len z.toList).flatten)[i]? = z.toList[i % z.size]? := by
      intro len
      induction len with
      | zero => intro i h; simp at h
      | succ n ih =>
        intro i h
        rw [List.replicate_succ, List.flatten_cons]
        by_cases hlt : i < z.size
        · rw [List.getElem?_append_left (by simpa using hlt), Nat.mod_eq_of_lt hlt]
        · have hge : z.size ≤ i := by omega
          rw [List.getElem?_append_right (by simpa using hge)]
          have hsub : i - z.toList.length < n * z.size := by
            rw [Nat.succ_mul] at h
            simp
            omega
          rw [ih _ hsub, Array.length_toList, ← Nat.mod_eq_sub_mod hge]
    rw [hg len i hi]
    simp [hi, hm]
  · rw [List.getElem?_eq_none (by simp; omega), List.getElem?_eq_none (by rw [hfl]; omega)]
/-- A slice written out. -/
theorem l_buildSlice {sc : Bool} {len size bytes : Nat} {zero : Value} {parts : List (Nat × Operand)} {vs : List (Nat × Value)} {flat : List Value} (ht : P.underlying t = some (.slice e)) (he : tRow P e = some (sc, size, bytes, zero))
    (hv : evPs env parts = some vs) (hzs : Nat.beq zero.cells.size size = true) (hsm : Nat.ble (len * size) 16777216 = true) (hne : Nat.beq (len * size) 0 = false)
    (hc : lay ((List.range len).map fun i => (i * size, size, true)) ((List.replicate len zero.cells.toList).flatten) vs = some flat) :
    Loud P (.buildSlice t len parts.toArray) ty n env Γ L (fun v Γ' L' => ∃ b, v = .slice (some ⟨b, 0, none⟩) len len ∧ Γ' = Γ ∧ L' = [(b, .cells flat.toArray e (0, 0))] :: L) :=
  Loud.ofRun fun X d pos aft g a w H h1 h2 h3 => by
    refine ⟨_, _, H, Γ, _, ?_, ⟨w.heap.size, rfl, rfl, rfl⟩, Hp.le_refl H, h2, h3.push _⟩
    have h5 : (parts.toArray.map fun (i, x) => (i, a.eval x)).toList = vs := by rw [Array.toList_map]; exact evPs_spec h1 hv
    have h6 : ¬ (len * size > 2 ^ 24) := by have := Nat.le_of_ble_eq_true hsm; omega
    have h7 : ¬ (len * size = 0) := fun h => by rw [h] at hne; simp at hne
    have h8 := fill_range hc
    have hz := zeros_eq (z := zero.cells) (len := len) (Nat.eq_of_beq_eq_true hzs)
    simp only [execOp, Instr.buildSlice, Sem.run_bind, underlying, run_program, Result.andThen_ok, ht, Sem.run_pure, tRow_size he, h6, h7, if_false, tRow_zero he, h5, hz]
    rw [h8]
    simp [newRow, newObj, Sem.run]
end loud
end E
end Go.Proofs.Ytmkodknmknfdkaa
