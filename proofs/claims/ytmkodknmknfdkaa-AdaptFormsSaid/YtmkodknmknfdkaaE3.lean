/- What each kind of operation comes to. -/
import Derived.Test.YtmkodknmknfdkaaE2
import Derived.Lib.MinMax
set_option linter.unusedVariables false
set_option linter.unusedSimpArgs false
namespace Go.Proofs.Ytmkodknmknfdkaa
namespace E
open Go

/-! ### Types -/

def scalarD : TypeDesc → Bool
  | .struct _ | .array _ _ => false
  | _ => true
/-- What is known of a type: is it of one piece; how many cells and bytes it has; its zero value. -/
def tRow (P : Program) (t : TypeId) : Option (Bool × Nat × Nat × Value) :=
  match P.underlying t, P.info? t with
  | some d, some i => i.zero.map fun z => (scalarD d, i.size, i.bytes, z)
  | _, _ => none
/-- Of a struct: where its fields lie, how many cells each has, is it of one piece. -/
def sRow (P : Program) (t : TypeId) : Option (List (Nat × Nat × Bool)) :=
  match P.underlying t with
  | some (.struct fs) => fs.toList.mapM fun f => (tRow P f.type).map fun r => (f.offset, r.2.1, r.1)
  | _ => none

section runs
variable {P : Program} {t : TypeId} {sc : Bool} {size bytes : Nat} {zero : Value} {w : World}
theorem tRow_parts (h : tRow P t = some (sc, size, bytes, zero)) : ∃ d i, P.underlying t = some d ∧ P.info? t = some i ∧ scalarD d = sc ∧ i.size = size ∧ i.bytes = bytes ∧ i.zero = some zero := by
  unfold tRow at h
  split at h
  · rename_i d i h1 h2
    cases hz : i.zero with
    | none => rw [hz] at h; cases h
    | some z =>
      rw [hz] at h
      simp only [Option.map_some, Option.some.injEq, Prod.mk.injEq] at h
      obtain ⟨e1, e2, e3, e4⟩ := h
      exact ⟨d, i, h1, h2, e1, e2, e3, by rw [hz, e4]⟩
  · cases h
theorem tRow_size (h : tRow P t = some (sc, size, bytes, zero)) : (sizeOf t).run P w = .ok size w := by
  obtain ⟨d, i, _, h2, _, h4, _⟩ := tRow_parts h
  simp [sizeOf, typeInfo, h2, h4]
theorem tRow_zero (h : tRow P t = some (sc, size, bytes, zero)) : (zeroValue t).run P w = .ok zero w := by
  obtain ⟨d, i, _, h2, _, _, _, h4⟩ := tRow_parts h
  simp [zeroValue, typeInfo, h2, h4]
theorem tRow_agg (h : tRow P t = some (sc, size, bytes, zero)) : (isAgg t).run P w = .ok (!sc) w := by
  obtain ⟨d, i, h1, _, h3, _⟩ := tRow_parts h
  subst h3
  simp only [isAgg, underlying, Sem.run_bind, run_program, Result.andThen_ok, h1, Sem.run_pure]
  cases d <;> rfl
theorem tRow_info (h : tRow P t = some (sc, size, bytes, zero)) : ∃ i, (∀ w, (typeInfo t).run P w = .ok i w) ∧ i.bytes = bytes := by
  obtain ⟨d, i, _, h2, _, _, h4, _⟩ := tRow_parts h
  exact ⟨i, fun w => by simp [typeInfo, h2], h4⟩
theorem sRow_parts {pl : List (Nat × Nat × Bool)} (h : sRow P t = some pl) : ∃ fs : Array Field, P.underlying t = some (.struct fs) ∧ fs.toList.mapM (fun f => (tRow P f.type).map fun r => (f.offset, r.2.1, r.1)) = some pl := by
  unfold sRow at h
  split at h
  · rename_i fs hf; exact ⟨fs, hf, h⟩
  · cases h
theorem mapM_get {α β : Type} {f : α → Option β} : ∀ {l : List α} {r : List β}, l.mapM f = some r → ∀ (i : Nat) (b : β), r[i]? = some b → ∃ a, l[i]? = some a ∧ f a = some b
  | [], r, h, i, b, hb => by simp at h; subst h; simp at hb
  | a :: l, r, h, i, b, hb => by
    simp only [List.mapM_cons] at h
    cases ha : f a with
    | none => rw [ha] at h; cases h
    | some c =>
      rw [ha] at h
      cases hl : l.mapM f with
      | none => rw [hl] at h; cases h
      | some r' =>
        rw [hl] at h
        have h' : some (c :: r') = some r := h
        simp at h'
        subst h'
        cases i with
        | zero => simp at hb; subst hb; exact ⟨a, by simp, ha⟩
        | succ i => simpa using mapM_get hl i b (by simpa using hb)
theorem sRow_field {pl : List (Nat × Nat × Bool)} {i off sz : Nat} {s : Bool} (h : sRow P t = some pl) (hi : pl[i]? = some (off, sz, s)) :
    ∃ (fs : Array Field) (f : Field), P.underlying t = some (.struct fs) ∧ fs[i]? = some f ∧ f.offset = off ∧ ∃ by_ z, tRow P f.type = some (s, sz, by_, z) := by
  obtain ⟨fs, h1, h2⟩ := sRow_parts h
  obtain ⟨f, h3, h4⟩ := mapM_get h2 i _ hi
  refine ⟨fs, f, h1, by simpa using h3, ?_⟩
  cases hr : tRow P f.type with
  | none => rw [hr] at h4; cases h4
  | some r =>
    rw [hr] at h4
    obtain ⟨r1, r2, r3, r4⟩ := r
    simp at h4
    obtain ⟨e1, e2, e3⟩ := h4
    exact ⟨e1, r3, r4, by rw [e2, e3]⟩
theorem run_places : ∀ {l : List Field} {pl : List (Nat × Nat × Bool)}, l.mapM (fun f => (tRow P f.type).map fun r => (f.offset, r.2.1, r.1)) = some pl →
    (l.mapM fun f => do pure (f.offset, ← sizeOf f.type) : Sem (List (Nat × Nat))).run P w = .ok (pl.map fun p => (p.1, p.2.1)) w
  | [], pl, h => by simp at h; subst h; simp
  | f :: l, pl, h => by
    simp only [List.mapM_cons] at h
    cases hr : tRow P f.type with
    | none => rw [hr] at h; cases h
    | some r =>
      obtain ⟨r1, r2, r3, r4⟩ := r
      cases hl : l.mapM (fun f => (tRow P f.type).map fun r => (f.offset, r.2.1, r.1)) with
      | none => rw [hr, hl] at h; cases h
      | some pl' =>
        rw [hr, hl] at h
        have h' : some ((f.offset, r2, r1) :: pl') = some pl := h
        simp only [Option.some.injEq] at h'
        subst h'
        have ih := run_places hl
        simp only [List.mapM_cons, Sem.run_bind, tRow_size hr, Result.andThen_ok, Sem.run_pure, ih, List.map_cons]
end runs

/-! ### Reading memory -/

/-- A block that never turns holds these cells. -/
@[irreducible] def blk (b : Nat) (cs : Array Value) : SProp :=
  ⟨fun H => ∃ T z, H b = some (.cells cs T z), fun _ _ h ⟨T, z, e⟩ => ⟨T, z, h _ _ e⟩⟩
theorem blk_def {b : Nat} {cs : Array Value} {H : Hp} : (blk b cs).holds H ↔ ∃ T z, H b = some (.cells cs T z) := by unfold blk; rfl
/-- From this address on lie these cells, and never turn. -/
@[irreducible] def cellsAt (a : Addr) (vs : List Value) : SProp :=
  ⟨fun H => a.spot = none ∧ ∃ cs T z, H a.block = some (.cells cs T z) ∧ ∀ j v, vs[j]? = some v → cs[a.off + j]? = some v,
   fun _ _ h ⟨s, cs, T, z, e, k⟩ => ⟨s, cs, T, z, h _ _ e, k⟩⟩
theorem cellsAt_def {a : Addr} {vs : List Value} {H : Hp} : (cellsAt a vs).holds H ↔ a.spot = none ∧ ∃ cs T z, H a.block = some (.cells cs T z) ∧ ∀ j v, vs[j]? = some v → cs[a.off + j]? = some v := by
  unfold cellsAt; rfl

/-- In every such state the cell holds v. -/
def Rd (Γ : List SProp) (L : Loc) (a : Addr) (v : Value) : Prop := ∀ X w H, Holds Γ H → St X w H L → w.cell? a = some v
/-- From the cell on lie these. -/
def RdS (Γ : List SProp) (L : Loc) (a : Addr) (vs : List Value) : Prop := ∀ X w H, Holds Γ H → St X w H L → ∀ j v, vs[j]? = some v → w.cell? (a.add j) = some v

theorem cell_of {w : World} {a : Addr} {cs : Array Value} {T : TypeId} {z : Nat × Nat} (h : w.heap[a.block]? = some (.cells cs T z)) (hs : a.spot = none) : w.cell? a = cs[a.off]? := by
  simp [World.cell?, h, hs]
theorem add_block (a : Addr) (j : Nat) : (a.add j).block = a.block := by unfold Addr.add; split <;> rfl
theorem add_off (a : Addr) (j : Nat) : (a.add j).off = a.off + j := by unfold Addr.add; split <;> simp_all
theorem add_spot {a : Addr} (j : Nat) (h : a.spot = none) : (a.add j).spot = none := by unfold Addr.add; split <;> simp_all

section reads
variable {Γ : List SProp} {L : Loc} {b k : Nat} {cs : Array Value} {T : TypeId} {z : Nat × Nat} {v : Value} {a : Addr} {vs : List Value}
theorem Rd.loc {i : Nat} (h : L[i]? = some [(b, Obj.cells cs T z)]) (hv : cs[k]? = some v) : Rd Γ L ⟨b, k, none⟩ v := fun _ _ _ _ h3 => by
  rw [cell_of (h3.mem (List.mem_of_getElem? h) (List.mem_singleton.2 rfl)) rfl]; exact hv
theorem Rd.blk (h : E.blk b cs ∈ Γ) (hv : cs[k]? = some v) : Rd Γ L ⟨b, k, none⟩ v := fun X w H h2 h3 => by
  obtain ⟨T, z, e⟩ := blk_def.1 (Holds.mem h h2)
  rw [cell_of (h3.sub _ _ e) rfl]; exact hv
theorem Rd.at {j : Nat} (h : cellsAt a vs ∈ Γ) (hv : vs[j]? = some v) : Rd Γ L (a.add j) v := fun X w H h2 h3 => by
  obtain ⟨hs, cs, T, z, e, hk⟩ := cellsAt_def.1 (Holds.mem h h2)
  rw [cell_of (cs := cs) (T := T) (z := z) (by rw [add_block]; exact h3.sub _ _ e) (add_spot j hs), add_off]
  exact hk j v hv
theorem Rd.at0 (h : cellsAt a vs ∈ Γ) (hv : vs[0]? = some v) : Rd Γ L a v := fun X w H h2 h3 => by
  have := Rd.at (L := L) h hv X w H h2 h3
  simpa [Addr.add] using this
/-- k cells of a row. -/
def slc (cs : Array Value) (k : Nat) : Nat → Option (List Value)
  | 0 => some []
  | m + 1 => match cs[k]?, slc cs (k + 1) m with
    | some v, some vs => some (v :: vs)
    | _, _ => none
theorem slc_get {cs : Array Value} : ∀ {m k : Nat} {vs : List Value}, slc cs k m = some vs → vs.length = m ∧ ∀ j v, vs[j]? = some v → cs[k + j]? = some v
  | 0, k, vs, h => by simp [slc] at h; subst h; simp
  | m + 1, k, vs, h => by
    simp only [slc] at h
    split at h
    · rename_i u us h1 h2
      simp at h
      subst h
      obtain ⟨h3, h4⟩ := slc_get h2
      refine ⟨by simp [h3], fun j v hj => ?_⟩
      cases j with
      | zero => simp at hj; subst hj; simpa using h1
      | succ j => have := h4 j v (by simpa using hj); rwa [show k + (j + 1) = k + 1 + j by omega]
    · cases h
theorem RdS.loc {m i : Nat} (h : L[i]? = some [(b, Obj.cells cs T z)]) (hv : slc cs k m = some vs) : RdS Γ L ⟨b, k, none⟩ vs := fun _ _ _ _ h3 j v hj => by
  rw [cell_of (cs := cs) (T := T) (z := z) (by rw [add_block]; exact h3.mem (List.mem_of_getElem? h) (List.mem_singleton.2 rfl)) (add_spot j rfl), add_off]
  exact (slc_get hv).2 j v hj
theorem RdS.blk {m : Nat} (h : E.blk b cs ∈ Γ) (hv : slc cs k m = some vs) : RdS Γ L ⟨b, k, none⟩ vs := fun X w H h2 h3 j v hj => by
  obtain ⟨T, z, e⟩ := blk_def.1 (Holds.mem h h2)
  rw [cell_of (cs := cs) (T := T) (z := z) (by rw [add_block]; exact h3.sub _ _ e) (add_spot j rfl), add_off]
  exact (slc_get hv).2 j v hj
def slcL (cs : List Value) (k m : Nat) : List Value := (cs.drop k).take m
theorem RdS.at {ws : List Value} {k m : Nat} (h : cellsAt a ws ∈ Γ) (hv : slcL ws k m = vs) : RdS Γ L (a.add k) vs := fun X w H h2 h3 j v hj => by
  have : ws[k + j]? = some v := by
    subst hv
    unfold slcL at hj
    rw [List.getElem?_take] at hj
    split at hj
    · simpa using hj
    · cases hj
  have h4 := Rd.at (L := L) h this X w H h2 h3
  obtain ⟨hs, _⟩ := cellsAt_def.1 (Holds.mem h h2)
  have e : (a.add k).add j = a.add (k + j) := by
    cases a
    simp at hs
    subst hs
    unfold Addr.add
    split <;> split <;> split <;> simp_all <;> omega
  rw [e]; exact h4
theorem RdS.at0 {ws : List Value} {m : Nat} (h : cellsAt a ws ∈ Γ) (hv : slcL ws 0 m = vs) : RdS Γ L a vs := fun X w H h2 h3 j v hj => by
  have := RdS.at (L := L) h hv X w H h2 h3 j v hj
  simpa [Addr.add] using this
end reads

/-! ### Operations that only compute or read -/
section quiet
variable {P : Program} {n : Nat} {env : Env} {Γ : List SProp} {L : Loc} {ty t : TypeId} {x y : Operand} {u v : Value} {zero : Value} {size bytes : Nat} {a : Addr}

theorem q_move (hx : ev env x = some v) : Quiet P (.move x) ty n env Γ L v := fun _ _ _ _ _ a w _ h1 _ _ => by simp [execOp, h1.ev hx]
theorem q_assign (hx : ev env x = some v) : Quiet P (.assign x) ty n env Γ L v := fun _ _ _ _ _ a w _ h1 _ _ => by simp [execOp, h1.ev hx]
theorem q_pickT {c : Operand} (hc : ev env c = some (.bool true)) (hx : ev env x = some v) : Quiet P (.pick c x y) ty n env Γ L v :=
  fun _ _ _ _ _ a w _ h1 _ _ => by simp [execOp, h1.ev hx, h1.ev hc, asBool]
theorem q_pickF {c : Operand} (hc : ev env c = some (.bool false)) (hy : ev env y = some v) : Quiet P (.pick c x y) ty n env Γ L v :=
  fun _ _ _ _ _ a w _ h1 _ _ => by simp [execOp, h1.ev hy, h1.ev hc, asBool]
theorem q_load (ht : tRow P t = some (true, size, bytes, zero)) (hx : ev env x = some (.pointer (some a))) (hr : Rd Γ L a v) : Quiet P (.load t x) ty n env Γ L v :=
  fun X _ _ _ _ ac w H h1 h2 h3 => by
    simp [execOp, h1.ev hx, Instr.loadAt, Instr.sureAddr, loadVar, tRow_agg ht, hr X w H h2 h3]
theorem q_loadS {vs : List Value} (ht : tRow P t = some (false, size, bytes, zero)) (hx : ev env x = some (.pointer (some a))) (hr : RdS Γ L a vs) (hs : vs.length = size) :
    Quiet P (.load t x) ty n env Γ L (.agg vs.toArray) :=
  fun X _ _ _ _ ac w H h1 h2 h3 => by
    have := run_loadCells_list (P := P) w a vs (hr X w H h2 h3)
    rw [hs] at this
    simp [execOp, h1.ev hx, Instr.loadAt, Instr.sureAddr, loadVar, tRow_agg ht, tRow_size ht, this]
theorem q_fieldAddr {pl : List (Nat × Nat × Bool)} {i k sz : Nat} {s : Bool} (ht : sRow P t = some pl) (hi : pl[i]? = some (k, sz, s)) (hfs : Nat.beq sz 0 = false)
    (hx : ev env x = some (.pointer (some a))) : Quiet P (.fieldAddr t x i) ty n env Γ L (.pointer (some (a.add k))) :=
  fun X _ _ _ _ ac w H h1 h2 h3 => by
    have h0 : sz ≠ 0 := fun e => by subst e; simp at hfs
    obtain ⟨fs, f, e1, e2, e3, by_, z, e4⟩ := sRow_field ht hi
    simp [execOp, h1.ev hx, Instr.fieldAt, Instr.sureAddr, underlying, e1, e2, fieldPlace, tRow_size e4, h0, e3]
theorem q_field {pl : List (Nat × Nat × Bool)} {i k sz : Nat} {cs : Array Value} (ht : sRow P t = some pl) (hi : pl[i]? = some (k, sz, true))
    (hx : ev env x = some (.agg cs)) (hv : cs[k]? = some v) : Quiet P (.field t x i) ty n env Γ L v :=
  fun X _ _ _ _ ac w H h1 h2 h3 => by
    obtain ⟨fs, f, e1, e2, e3, by_, z, e4⟩ := sRow_field ht hi
    simp [execOp, h1.ev hx, Instr.field, underlying, e1, e2, asAgg, part, tRow_agg e4, e3, hv]
theorem q_fieldS {pl : List (Nat × Nat × Bool)} {i k sz : Nat} {cs : Array Value} {vs : List Value} (ht : sRow P t = some pl) (hi : pl[i]? = some (k, sz, false))
    (hx : ev env x = some (.agg cs)) (hv : slc cs k sz = some vs) : Quiet P (.field t x i) ty n env Γ L (.agg vs.toArray) :=
  fun X _ _ _ _ ac w H h1 h2 h3 => by
    obtain ⟨fs, f, e1, e2, e3, by_, z, e4⟩ := sRow_field ht hi
    have e : cs.extract k (k + sz) = vs.toArray := by
      obtain ⟨h4, h5⟩ := slc_get hv
      apply Array.ext'
      apply List.ext_getElem?
      intro j
      simp only [Array.toList_extract]
      rw [List.getElem?_take]
      split
      · rename_i hj
        have hj' : j < vs.length := by omega
        have := h5 j _ (List.getElem?_eq_getElem hj')
        simp [hj', ← this]
      · rename_i hj
        simp [List.getElem?_eq_none (l := vs) (i := j) (by omega)]
    simp [execOp, h1.ev hx, Instr.field, underlying, e1, e2, asAgg, part, tRow_agg e4, tRow_size e4, e3, e]
theorem q_nilCheck (hx : ev env x = some (.pointer (some a))) : Quiet P (.nilCheck x) ty n env Γ L (.pointer (some a)) :=
  fun _ _ _ _ _ ac w _ h1 _ _ => by simp [execOp, h1.ev hx]
theorem q_extract {vs : Array Value} {i : Nat} (hx : ev env x = some (.tuple vs)) (hv : vs[i]? = some v) : Quiet P (.extract x i) ty n env Γ L v :=
  fun _ _ _ _ _ ac w _ h1 _ _ => by simp [execOp, h1.ev hx, Instr.extract, hv]
def evPs (env : Env) : List (Nat × Operand) → Option (List (Nat × Value))
  | [] => some []
  | (i, x) :: xs => match ev env x, evPs env xs with
    | some v, some vs => some ((i, v) :: vs)
    | _, _ => none
theorem evPs_spec {ac : Act} (h : Agr n env ac) : ∀ {ps : List (Nat × Operand)} {vs : List (Nat × Value)}, evPs env ps = some vs → ps.map (fun (i, x) => (i, ac.eval x)) = vs
  | [], vs, e => by simp [evPs] at e; subst e; rfl
  | (i, x) :: xs, vs, e => by
    simp only [evPs] at e
    split at e
    · rename_i v vs' h1 h2
      simp at e
      subst e
      simp [h.ev h1, evPs_spec h h2]
    · cases e
/-- The parts of a struct laid over cells. -/
def lay (pl : List (Nat × Nat × Bool)) (cells : List Value) : List (Nat × Value) → Option (List Value)
  | [] => some cells
  | (i, v) :: rest => match pl[i]? with
    | none => none
    | some (off, size, _) => bif Nat.beq v.cells.size size && Nat.ble (off + v.cells.size) cells.length then lay pl (over cells off v.cells.toList) rest else none
where
  over : List Value → Nat → List Value → List Value
    | cs, _, [] => cs
    | cs, k, v :: vs => over (cs.set k v) (k + 1) vs
theorem over_len : ∀ (cs : List Value) (k : Nat) (vs : List Value), (lay.over cs k vs).length = cs.length
  | _, _, [] => rfl
  | cs, k, v :: vs => by simp [lay.over, over_len]
theorem over_fold : ∀ (vs : List Value) (cs : List Value) (off k : Nat),
    (vs.zipIdx k).foldl (fun (cs : Array Value) (c, j) => cs.setIfInBounds (off + j) c) cs.toArray = (lay.over cs (off + k) vs).toArray
  | [], cs, off, k => rfl
  | v :: vs, cs, off, k => by
    simp only [List.zipIdx_cons, List.foldl_cons, lay.over, List.setIfInBounds_toArray]
    rw [over_fold vs]
    rfl
theorem lay_spec {pl : List (Nat × Nat × Bool)} : ∀ {vs : List (Nat × Value)} {cells cs : List Value}, lay pl cells vs = some cs →
    Instr.fill ((pl.map fun p => (p.1, p.2.1)).toArray[·]?) cells.toArray vs = some cs.toArray
  | [], cells, cs, h => by simp [lay] at h; subst h; rfl
  | (i, v) :: rest, cells, cs, h => by
    simp only [lay] at h
    cases hp : pl[i]? with
    | none => rw [hp] at h; cases h
    | some p =>
      obtain ⟨off, size, s⟩ := p
      rw [hp] at h
      simp only [cond_eq_ite, Bool.and_eq_true] at h
      split at h
      · rename_i hc
        have h1 := Nat.eq_of_beq_eq_true hc.1
        have h2 := Nat.le_of_ble_eq_true hc.2
        have h3 := over_fold v.cells.toList cells off 0
        have h5 : (pl.map fun p => (p.1, p.2.1)).toArray[i]? = some (off, size) := by simp [hp]
        simp only [Instr.fill, h5]
        rw [if_neg (by simp; omega)]
        have h4 : (v.cells.zipIdx.foldl (fun (cs : Array Value) (c, j) => cs.setIfInBounds (off + j) c) cells.toArray) = (lay.over cells off v.cells.toList).toArray := by
          rw [← Array.foldl_toList]
          simpa using h3
        rw [h4]
        exact lay_spec h
      · cases h
theorem q_build {parts : List (Nat × Operand)} {vs : List (Nat × Value)} {pl : List (Nat × Nat × Bool)} {zc cs : List Value} (ht : tRow P t = some (false, size, bytes, .agg zc.toArray)) (hs : sRow P t = some pl)
    (hv : evPs env parts = some vs) (hc : lay pl zc vs = some cs) : Quiet P (.build t parts.toArray) ty n env Γ L (.agg cs.toArray) :=
  fun X _ _ _ _ ac w H h1 h2 h3 => by
    obtain ⟨fs, e1, e2⟩ := sRow_parts hs
    have e3 := run_places (P := P) (w := w) e2
    have e4 : (fs.mapM fun f => do pure (f.offset, ← sizeOf f.type) : Sem (Array (Nat × Nat))).run P w = .ok (pl.map fun p => (p.1, p.2.1)).toArray w := by
      rw [Array.mapM_eq_mapM_toList]
      show Sem.run P (List.toArray <$> _) w = _
      rw [map_eq_pure_bind, Sem.run_bind, e3]
      rfl
    have e5 : (parts.toArray.map fun (i, x) => (i, ac.eval x)).toList = vs := by rw [Array.toList_map]; exact evPs_spec h1 hv
    simp only [execOp, Instr.build, Sem.run_bind, tRow_zero ht, Result.andThen_ok, underlying, run_program, e1, Sem.run_pure, Value.cells]
    rw [e4]
    simp only [Result.andThen_ok, e5, lay_spec hc, Sem.run_pure]
end quiet
end E
end Go.Proofs.Ytmkodknmknfdkaa
