/- Structs of whole numbers, held against each other. -/
import Derived.Test.YtmkodknmknfdkaaE7
set_option linter.unusedVariables false
set_option linter.unusedSimpArgs false
namespace Go.Proofs.Ytmkodknmknfdkaa
namespace E
open Go

def intsOf : List Value → Option (List Int)
  | [] => some []
  | .int .i64 a :: vs => match intsOf vs with
    | some as => some (a :: as)
    | none => none
  | _ => none
theorem intsOf_spec : ∀ {vs : List Value} {as : List Int}, intsOf vs = some as → vs = as.map (Value.int .i64 ·)
  | [], as, h => by simp [intsOf] at h; subst h; rfl
  | v :: vs, as, h => by
    unfold intsOf at h
    split at h
    · cases ‹_ = []›
    · rename_i a vs' heq
      simp only [List.cons.injEq] at heq
      obtain ⟨rfl, rfl⟩ := heq
      split at h
      · rename_i as' h'
        cases h
        simp [← intsOf_spec h']
      · cases h
    · cases h

def intField (P : Program) (f : Field) (i : Nat) : Bool :=
  Nat.beq f.offset i && (f.name != "_" && ((match P.underlying f.type with | some (.int .i64) => true | _ => false) && Nat.beq (P.cellsOf f.type) 1))
theorem intField_parts {P : Program} {f : Field} {i : Nat} (h : intField P f i = true) : f.offset = i ∧ f.name ≠ "_" ∧ P.underlying f.type = some (.int .i64) ∧ P.cellsOf f.type = 1 := by
  simp only [intField, Bool.and_eq_true, bne_iff_ne] at h
  obtain ⟨h1, h2, h3, h4⟩ := h
  refine ⟨Nat.eq_of_beq_eq_true h1, h2, ?_, Nat.eq_of_beq_eq_true h4⟩
  split at h3
  · assumption
  · cases h3
def intFieldsL (P : Program) : List Field → Nat → Bool
  | [], _ => true
  | f :: fs, i => intField P f i && intFieldsL P fs (i + 1)
def intStruct (P : Program) (t : TypeId) (k : Nat) : Bool :=
  match P.underlying t with
  | some (.struct fs) => Nat.beq fs.size k && (intFieldsL P fs.toList 0 && (!P.stoodInHeld t && !P.eqGuardType P.depth t))
  | _ => false

section
variable {P : Program} {w : World}
theorem run_part_int {f : Field} {i : Nat} (h : intField P f i = true) {cs : Array Value} {v : Value} (hv : cs[i]? = some v) : (part f.type cs f.offset).run P w = .ok v w := by
  obtain ⟨h1, _, hk, _⟩ := intField_parts h
  subst h1
  simp [part, isAgg, underlying, hk, hv]
theorem run_eqFields {d : Nat} : ∀ {fs : List Field} {i : Nat} {as bs : List Int} {xs ys : Array Value}, intFieldsL P fs i = true → fs.length = as.length → fs.length = bs.length →
    (∀ j, xs[i + j]? = as[j]?.map (Value.int .i64 ·)) → (∀ j, ys[i + j]? = bs[j]?.map (Value.int .i64 ·)) →
    (Op.eqFields (d + 1) xs ys fs).run P w = .ok (decide (as = bs)) w
  | [], i, as, bs, xs, ys, _, h1, h2, _, _ => by
    have : as = [] := List.eq_nil_of_length_eq_zero (by simpa using h1.symm)
    have : bs = [] := List.eq_nil_of_length_eq_zero (by simpa using h2.symm)
    subst_vars
    simp [Op.eqFields]
  | f :: fs, i, [], bs, xs, ys, _, h1, _, _, _ => by simp at h1
  | f :: fs, i, a :: as, [], xs, ys, _, _, h2, _, _ => by simp at h2
  | f :: fs, i, a :: as, b :: bs, xs, ys, h, h1, h2, hx, hy => by
    simp only [intFieldsL, Bool.and_eq_true] at h
    have e1 := run_part_int (P := P) (w := w) h.1 (cs := xs) (v := .int .i64 a) (by have := hx 0; simpa using this)
    have e2 := run_part_int (P := P) (w := w) h.1 (cs := ys) (v := .int .i64 b) (by have := hy 0; simpa using this)
    obtain ⟨_, hn, hk, _⟩ := intField_parts h.1
    have e3 := run_equalIn_int (P := P) w d f.type .i64 .i64 a b hk
    have ih := run_eqFields (d := d) (fs := fs) (i := i + 1) (as := as) (bs := bs) (xs := xs) (ys := ys) h.2 (by simpa using h1) (by simpa using h2)
      (fun j => by have := hx (j + 1); rw [show i + 1 + j = i + (j + 1) by omega]; simpa using this) (fun j => by have := hy (j + 1); rw [show i + 1 + j = i + (j + 1) by omega]; simpa using this)
    simp only [Op.eqFields, hn, ne_eq, not_false_eq_true, if_true, Sem.run_bind, e1, e2, Result.andThen_ok, e3]
    by_cases hab : a = b
    · subst hab
      simp [ih]
    · simp [hab]
end

section
variable {P : Program} {n : Nat} {env : Env} {Γ : List SProp} {L : Loc} {ty t t' : TypeId} {x y : Operand} {k : Nat} {xs ys : List Value} {as bs : List Int}
theorem run_eqStruct {op : BinOp} {w : World} (hT : intStruct P t k = true) (ha : intsOf xs = some as) (hb : intsOf ys = some bs) (hla : Nat.beq as.length k = true) (hlb : Nat.beq bs.length k = true) :
    (Op.equalIn 10000 t (.agg xs.toArray) (.agg ys.toArray)).run P w = .ok (decide (as = bs)) w ∧ (eqGuard op t x y (.agg xs.toArray) (.agg ys.toArray)).run P w = .ok () w := by
  unfold intStruct at hT
  split at hT
  · rename_i fs hfs
    simp only [Bool.and_eq_true] at hT
    obtain ⟨h1, h2, h3, h4⟩ := hT
    have h1 := Nat.eq_of_beq_eq_true h1
    have hla := Nat.eq_of_beq_eq_true hla
    have hlb := Nat.eq_of_beq_eq_true hlb
    have hf : P.fieldsOf t = fs := by simp [Program.fieldsOf, hfs]
    have hx := intsOf_spec ha
    have hy := intsOf_spec hb
    have e := run_equalIn_struct (P := P) w 9999 t xs.toArray ys.toArray (by rw [hf]; exact hfs) (by simpa using h3)
    rw [hf] at e
    refine ⟨e.trans (run_eqFields (d := 9998) h2 (by simp; omega) (by simp; omega) (fun j => by subst hx; simp) (fun j => by subst hy; simp)), ?_⟩
    exact run_eqGuard_agg w op t x y _ _ (by simpa using h4)
  · cases hT
theorem q_eqStruct (hT : intStruct P t k = true) (hx : ev env x = some (.agg xs.toArray)) (hy : ev env y = some (.agg ys.toArray)) (ha : intsOf xs = some as) (hb : intsOf ys = some bs) (hla : Nat.beq as.length k = true) (hlb : Nat.beq bs.length k = true) :
    Quiet P (.binOp .eql t x y t') ty n env Γ L (.bool (decide (as = bs))) := fun _ _ _ _ _ ac w _ h1 _ _ => by
  obtain ⟨e1, e2⟩ := run_eqStruct (op := .eql) (x := x) (y := y) (w := w) hT ha hb hla hlb
  simp [execOp, h1.ev hx, h1.ev hy, e2, run_eql_struct, e1]
theorem q_neqStruct (hT : intStruct P t k = true) (hx : ev env x = some (.agg xs.toArray)) (hy : ev env y = some (.agg ys.toArray)) (ha : intsOf xs = some as) (hb : intsOf ys = some bs) (hla : Nat.beq as.length k = true) (hlb : Nat.beq bs.length k = true) :
    Quiet P (.binOp .neq t x y t') ty n env Γ L (.bool (!decide (as = bs))) := fun _ _ _ _ _ ac w _ h1 _ _ => by
  obtain ⟨e1, e2⟩ := run_eqStruct (op := .neq) (x := x) (y := y) (w := w) hT ha hb hla hlb
  simp [execOp, h1.ev hx, h1.ev hy, e2, run_neq_struct, e1]
end

/-! ### Blocks that turn no more -/
theorem sl_of_block {H : Hp} {b c k : Nat} {rows : List (List Value)} {cs : Array Value} {T : TypeId} {z : Nat × Nat} (h : H b = some (.cells cs T z)) (hc : Nat.ble rows.length c = true) (hk : ∀ r ∈ rows, r.length = k) (hcs : cs.toList.take (rows.length * k) = rows.flatten) (hcm : c ≤ maxLen := by decide) :
    (sl (some ⟨b, 0, none⟩) c k rows).holds H :=
  sl_def.2 ⟨Nat.le_of_ble_eq_true hc, hcm, hk, .inr ⟨_, rfl, rfl, cs, T, z, h, fun i j v hv => by
    cases hr : rows[i]? with
    | none => rw [hr] at hv; cases hv
    | some r =>
      rw [hr] at hv
      have := flat_get hk hr hv
      rw [← hcs, List.getElem?_take] at this
      split at this
      · simpa using this
      · cases this⟩⟩
end E
end Go.Proofs.Ytmkodknmknfdkaa
