/- From a law's row to a contract: how what came in is read. -/
import Derived.Test.YtmkodknmknfdkaaE8
import Derived.ProofKit
import Derived.OpenShut
import Derived.ChangeOld
import Derived.Carry
import Derived.Deep.Slices
set_option linter.unusedVariables false
set_option linter.unusedSimpArgs false
namespace Go.Proofs.Ytmkodknmknfdkaa
namespace E
open Go Go.RowKit

/-- A world's whole memory, as memory that never turns. -/
def hp (w : World) : Hp := fun b => w.heap[b]?
def cx (w : World) : Cx := ⟨w.os, w.tape, w.output⟩
theorem st_of (w : World) : St (cx w) w (hp w) [] := ⟨rfl, rfl, rfl, fun _ _ h => h, fun _ h => by simp at h, fun _ h => by simp at h, by simp⟩
theorem below_of {w w' : World} {H : Hp} {L : Loc} (hle : (hp w).le H) (h : St (cx w) w' H L) : Below w.heap.size w w' := by
  refine ⟨h.os, h.tape, h.output, ?_, fun k hk => ?_⟩
  · rcases Nat.eq_zero_or_pos w.heap.size with h0 | h0
    · omega
    · have hk : w.heap.size - 1 < w.heap.size := by omega
      have := h.sub _ _ (hle (w.heap.size - 1) _ (Array.getElem?_eq_getElem hk))
      have := (Array.getElem?_eq_some_iff.1 this).1
      omega
  · have := h.sub _ _ (hle k _ (Array.getElem?_eq_getElem hk))
    rw [this, Array.getElem?_eq_getElem hk]

section
variable {H : Type} {enc : TypeId × Value → H} {P : Program} {w : World} {base : Nat} {spare : Nat → Bool} {held : Bool}

theorem cells_get {b : Nat} {a : Addr} {n : Nat} {cs : List Value} (h : w.cells? b a n = some cs) : cs.length = n ∧ ∀ (j : Nat) (v : Value), cs[j]? = some v → w.cell? (a.add j) = some v := by
  unfold World.cells? at h
  split at h
  · have key : ∀ (l : List Nat) (cs : List Value), l.mapM (fun i => w.cell? (a.add i)) = some cs → cs.length = l.length ∧ ∀ (j : Nat) (v : Value), cs[j]? = some v → ∃ i, l[j]? = some i ∧ w.cell? (a.add i) = some v := by
      intro l
      induction l with
      | nil => intro cs h; simp at h; subst h; simp
      | cons x l ih =>
        intro cs h
        simp only [List.mapM_cons] at h
        cases hx : w.cell? (a.add x) with
        | none => rw [hx] at h; cases h
        | some u =>
          cases hl : l.mapM (fun i => w.cell? (a.add i)) with
          | none => rw [hx, hl] at h; cases h
          | some us =>
            rw [hx, hl] at h
            have h' : some (u :: us) = some cs := h
            simp at h'
            subst h'
            obtain ⟨h1, h2⟩ := ih us hl
            refine ⟨by simp [h1], fun j v hj => ?_⟩
            cases j with
            | zero => simp at hj; subst hj; exact ⟨x, by simp, hx⟩
            | succ j => simpa using h2 j v (by simpa using hj)
    obtain ⟨h1, h2⟩ := key _ _ h
    refine ⟨by simpa using h1, fun j v hj => ?_⟩
    obtain ⟨i, hi, hc⟩ := h2 j v hj
    have hjn : j < n := by
      have := lt_of_get hj
      rw [h1] at this
      simpa using this
    rw [List.getElem?_range hjn] at hi
    simp at hi
    subst hi
    exact hc
  · cases h

/-- A slice that came in: rows of k cells each, each of which reads. -/
theorem openSl {t e k fuel : Nat} {cs : List Value} {x : DataW H × List MemPlace} (ht : P.underlying t = some (.slice e)) (hk : P.cellsOf e = k) (hpos : Nat.blt 0 k = true) (h : DataW.trod enc P w base spare held fuel t cs = some x) :
    ∃ a c rows, cs = [.slice a rows.length c] ∧ (sl a c k rows).holds (hp w) ∧ rows.length ≤ c ∧ c ≤ maxLen ∧
      ∃ n elems sp, ((x.1 = .nil ∧ elems = []) ∨ x.1 = .slice elems sp) ∧ elems.length = rows.length ∧ ∀ (i : Nat) (r : List Value), rows[i]? = some r → ∃ y : DataW H × List MemPlace, DataW.trod enc P w base spare held n e r = some y ∧ elems[i]? = some y.1 := by
  subst hk
  have hpos' : 0 < P.cellsOf e := by simpa [Nat.blt_eq] using hpos
  rcases Deep.open_slice ht h with ⟨rfl, rfl⟩ | ⟨a, len, cap, m, n, D, Pl, rfl, hb, hl, hm, hmm, rfl, hx⟩
  · exact ⟨none, 0, [], rfl, sl_nil _ _ _ (Nat.zero_le _), Nat.le_refl _, Nat.zero_le _, 0, [], [], .inl ⟨rfl, rfl⟩, rfl, fun i r hr => by simp at hr⟩
  have hml : len ≤ m := by rw [hmm]; split <;> omega
  have hex : ∀ i, i < len → ∃ cs', w.cells? base (a.add (i * P.cellsOf e)) (P.cellsOf e) = some cs' ∧ DataW.trod enc P w base spare held n e cs' = some (D i, Pl i) := fun i hi => hx i (by omega)
  obtain ⟨R, hR⟩ := Deep.choose_lt (α := List Value) (p := fun i cs' => w.cells? base (a.add (i * P.cellsOf e)) (P.cellsOf e) = some cs' ∧ DataW.trod enc P w base spare held n e cs' = some (D i, Pl i)) hex
  refine ⟨some a, cap, (List.range len).map R, by simp, sl_def.2 ⟨by simp; omega, hm, ?_, ?_⟩, by simp; omega, hm, n, (List.range len).map D, (List.range (m - len)).map fun j => D (len + j), .inr rfl, by simp, ?_⟩
  · intro r hr
    obtain ⟨i, hi, rfl⟩ := List.mem_map.1 hr
    exact (cells_get (hR i (List.mem_range.1 hi)).1).1
  · rcases Nat.eq_zero_or_pos len with h0 | h0
    · left; simp [h0]
    right
    -- the block
    obtain ⟨h1, h2⟩ := cells_get (hR 0 h0).1
    have hc0 : ∃ v, (R 0)[0]? = some v := get_of_lt (by rw [h1]; exact hpos')
    obtain ⟨v0, hv0⟩ := hc0
    have hc := h2 0 v0 hv0
    have hsp : a.spot = none ∧ ∃ cs T z, w.heap[a.block]? = some (.cells cs T z) := by
      have : (a.add (0 * P.cellsOf e)).add 0 = a := by simp [Addr.add]
      rw [this] at hc
      unfold World.cell? at hc
      split at hc
      · rename_i c T z hh
        split at hc
        · cases hc
        · rename_i hs
          refine ⟨?_, _, _, _, hh⟩
          cases hsp : a.spot with
          | none => rfl
          | some s => simp [hsp] at hs
      · cases hc
    obtain ⟨hs, cs, T, z, hh⟩ := hsp
    refine ⟨a, rfl, hs, cs, T, z, hh, fun i j v hv => ?_⟩
    cases hr : ((List.range len).map R)[i]? with
    | none => rw [hr] at hv; cases hv
    | some r =>
      rw [hr] at hv
      have hi : i < len := by have := lt_of_get hr; simpa using this
      have : r = R i := by
        rw [List.getElem?_map, List.getElem?_range hi] at hr
        simpa using hr.symm
      subst this
      have h3 := (cells_get (hR i hi).1).2 j v hv
      rw [cell_of (cs := cs) (T := T) (z := z) (by rw [add_block, add_block]; exact hh) (add_spot j (add_spot _ hs)), add_off, add_off] at h3
      exact h3
  · intro i r hr
    have hi : i < len := by have := lt_of_get hr; simpa using this
    rw [List.getElem?_map, List.getElem?_range hi] at hr
    simp at hr
    subst hr
    exact ⟨_, (hR i hi).2, by rw [List.getElem?_map, List.getElem?_range hi]; rfl⟩


/-- A struct of whole numbers that came in. -/
theorem intFieldsL_get {fs : List Field} : ∀ {i j : Nat} {f : Field}, intFieldsL P fs i = true → fs[j]? = some f → intField P f (i + j) = true := by
  induction fs with
  | nil => intro i j f _ h; simp at h
  | cons g fs ih =>
    intro i j f h hj
    simp only [intFieldsL, Bool.and_eq_true] at h
    cases j with
    | zero => simp at hj; subst hj; exact h.1
    | succ j => have := ih h.2 (by simpa using hj); rwa [show i + 1 + j = i + (j + 1) by omega] at this
theorem wf_bounds {n : Int} (h : (Lit.int .i64 n).wf = true) : -9223372036854775808 ≤ n ∧ n ≤ 9223372036854775807 := by
  simp only [Lit.wf, Bool.and_eq_true, decide_eq_true_eq] at h
  have e1 : IntKind.i64.min = -9223372036854775808 := by decide
  have e2 : IntKind.i64.max = 9223372036854775807 := by decide
  rw [e1, e2] at h
  exact h
theorem openIntStruct {t k fuel : Nat} {cs : List Value} {x : DataW H × List MemPlace} (hT : intStruct P t k = true) (hC : P.cellsOf t = k) (h : DataW.trod enc P w base spare held fuel t cs = some x) :
    ∃ as : List Int, cs = as.map (Value.int .i64 ·) ∧ as.length = k ∧ ∀ a ∈ as, -9223372036854775808 ≤ a ∧ a ≤ 9223372036854775807 := by
  unfold intStruct at hT
  split at hT
  · rename_i fs hfs
    simp only [Bool.and_eq_true] at hT
    obtain ⟨h1, h2, _⟩ := hT
    have h1 := Nat.eq_of_beq_eq_true h1
    obtain ⟨xs, n, _, rfl, hl, hlen, hf⟩ := DataW.trod_struct hfs h
    have each : ∀ j, j < k → ∃ a : Int, cs[j]? = some (.int .i64 a) ∧ -9223372036854775808 ≤ a ∧ a ≤ 9223372036854775807 := by
      intro j hj
      obtain ⟨f, hfj⟩ := get_of_lt (l := fs.toList) (i := j) (by simp; omega)
      have hi := intFieldsL_get h2 hfj
      rw [Nat.zero_add] at hi
      obtain ⟨e1, _, e2, e3⟩ := intField_parts hi
      have e4 := hf j f (by simpa using hfj)
      obtain ⟨y, hy⟩ := get_of_lt (l := xs) (i := j) (by omega)
      rw [hy, e1, e3] at e4
      obtain ⟨a, e5, _, wf⟩ := DataW.trod_int e2 e4
      refine ⟨a, ?_, wf_bounds wf⟩
      have : ((cs.drop j).take 1)[0]? = some (.int .i64 a) := by rw [e5]; rfl
      simpa [List.getElem?_take] using this
    obtain ⟨g, hg⟩ := Deep.choose_lt (α := Int) (p := fun j a => cs[j]? = some (.int .i64 a) ∧ -9223372036854775808 ≤ a ∧ a ≤ 9223372036854775807) each
    refine ⟨(List.range k).map g, ?_, by simp, fun a ha => ?_⟩
    · apply List.ext_getElem?
      intro j
      by_cases hj : j < k
      · rw [(hg j hj).1, List.getElem?_map, List.getElem?_map, List.getElem?_range hj]; rfl
      · rw [List.getElem?_eq_none (by omega), List.getElem?_eq_none (by simp; omega)]
    · obtain ⟨j, hj, rfl⟩ := List.mem_map.1 ha
      exact (hg j (List.mem_range.1 hj)).2
  · cases hT
end
end E
end Go.Proofs.Ytmkodknmknfdkaa
