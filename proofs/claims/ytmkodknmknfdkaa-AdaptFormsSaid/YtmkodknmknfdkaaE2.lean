/- The operations of a region, one by one: what only computes or reads, what changes memory, a call; a region whose order is open. -/
import Derived.Test.YtmkodknmknfdkaaE1
set_option linter.unusedVariables false
set_option linter.unusedSimpArgs false
namespace Go.Proofs.Ytmkodknmknfdkaa
namespace E
open Go

/-- In every such state the operation comes to v and changes nothing. -/
def Quiet (P : Program) (op : Op) (ty : TypeId) (n : Nat) (env : Env) (Γ : List SProp) (L : Loc) (v : Value) : Prop :=
  ∀ X d pos aft g a w H, Agr n env a → Holds Γ H → St X w H L → (execOp a.eval ⟨d, op, ty, pos, aft, g⟩).run P w = .ok (.value v) w

/-- In every such state the operation comes to a value of which R tells, with facts and own memory anew. -/
def Loud (P : Program) (op : Op) (ty : TypeId) (n : Nat) (env : Env) (Γ : List SProp) (L : Loc) (R : Value → List SProp → Loc → Prop) : Prop :=
  ∀ X d pos aft g a w H, Agr n env a → Holds Γ H → St X w H L → ∀ (K : Act → World → Prop) (Q : Exit → Act → World → Prop),
    (∀ v Γ' L' w' H', R v Γ' L' → H.le H' → Holds Γ' H' → St X w' H' L' → K (a.put d v) w') → (⟨d, op, ty, pos, aft, g⟩ : Oper).wp P a w K Q

section list
variable {X : Cx} {n : Nat} {P : Program} {ops : Array Oper} {Q : Exit → Act → World → Prop} {rest : List Oper} {env : Env} {Γ : List SProp} {L : Loc}
variable {d : Nat} {op : Op} {ty : TypeId} {pos : String} {aft : Array Edge} {g : Option (Nat × Bool)}

theorem At.region {id : Nat} {l : List Oper} (h : At X n (wpList P l.toArray Q l) env Γ L) : At X n ((Code.region id l.toArray false).wp P Q) env Γ L :=
  h.imp fun _ _ => wp_region_lit
theorem At.nil (h : At X n (Q .normal) env Γ L) : At X n (wpList P ops Q []) env Γ L := h

/-- Whether a guarded operation is wanted: what its guard holds. -/
def gd (ops : List Oper) (env : Env) (j : Nat) : Option Bool :=
  match (ops[j]?).bind (·.dst) with
  | some t => match lk env t with | some (.bool b) => some b | _ => none
  | none => none
theorem gd_spec {ops : List Oper} {env : Env} {j : Nat} {b : Bool} {a : Act} (h : gd ops env j = some b) (ha : Agr n env a) : yielded ops.toArray a.tmps j = some b := by
  unfold gd at h
  unfold yielded
  split at h
  · rename_i t ht
    split at h
    · rename_i b' hb
      simp at h
      subst h
      have := ha.get _ _ hb
      simp at ht ⊢
      simp [ht, this]
    · cases h
  · cases h

/-- The guard itself was not reached. -/
def gdU (ops : List Oper) (env : Env) (j : Nat) : Bool :=
  match (ops[j]?).bind (·.dst) with
  | some t => match lk env t with | some (.tuple _) => true | _ => false
  | none => false
theorem gdU_spec {ops : List Oper} {env : Env} {j : Nat} {a : Act} (h : gdU ops env j = true) (ha : Agr n env a) : yielded ops.toArray a.tmps j = none := by
  unfold gdU at h
  unfold yielded
  split at h
  · rename_i t ht
    split at h
    · rename_i b' hb
      have := ha.get _ _ hb
      simp at ht ⊢
      simp [ht, this]
    · cases h
  · cases h

theorem wpList_wanted {o : Oper} {a : Act} {w : World} (hw : Region.wanted o (yielded ops a.tmps) = true) (h : o.wp P a w (wpList P ops Q rest) Q) : wpList P ops Q (o :: rest) a w := by
  unfold wpList
  rw [if_pos hw]
  exact .inl h

theorem At.quiet {v : Value} (hq : Quiet P op ty n env Γ L v) (hd : Nat.blt d n = true) (h : At X n (wpList P ops Q rest) ((d, v) :: env) Γ L) :
    At X n (wpList P ops Q (⟨some d, op, ty, pos, aft, none⟩ :: rest)) env Γ L := fun a w H h1 h2 h3 => by
  refine wpList_wanted rfl ?_
  unfold Oper.wp
  rw [hq X _ _ _ _ a w H h1 h2 h3]
  exact h _ w H (h1.put hd) h2 h3
/-- A check whose value nobody wants. -/
theorem At.quietN {v : Value} (hq : Quiet P op ty n env Γ L v) (h : At X n (wpList P ops Q rest) env Γ L) :
    At X n (wpList P ops Q (⟨none, op, ty, pos, aft, none⟩ :: rest)) env Γ L := fun a w H h1 h2 h3 => by
  refine wpList_wanted rfl ?_
  unfold Oper.wp
  rw [hq X _ _ _ _ a w H h1 h2 h3]
  exact h _ w H h1 h2 h3
theorem At.loud {R : Value → List SProp → Loc → Prop} (hq : Loud P op ty n env Γ L R) (hd : Nat.blt d n = true)
    (h : ∀ v Γ' L', R v Γ' L' → At X n (wpList P ops Q rest) ((d, v) :: env) Γ' L') :
    At X n (wpList P ops Q (⟨some d, op, ty, pos, aft, none⟩ :: rest)) env Γ L := fun a w H h1 h2 h3 =>
  wpList_wanted rfl (hq X _ _ _ _ a w H h1 h2 h3 _ _ fun v Γ' L' w' H' hr _ h4 h5 => h v Γ' L' hr _ w' H' (h1.put hd) h4 h5)
theorem At.loudN {R : Value → List SProp → Loc → Prop} (hq : Loud P op ty n env Γ L R)
    (h : ∀ v Γ' L', R v Γ' L' → At X n (wpList P ops Q rest) env Γ' L') :
    At X n (wpList P ops Q (⟨none, op, ty, pos, aft, none⟩ :: rest)) env Γ L := fun a w H h1 h2 h3 =>
  wpList_wanted rfl (hq X _ _ _ _ a w H h1 h2 h3 _ _ fun v Γ' L' w' H' hr _ h4 h5 => h v Γ' L' hr _ w' H' h1 h4 h5)
/-- The guard is shut. -/
theorem At.shut {l : List Oper} {j : Nat} {b c : Bool} (hg : gd l env j = some b) (hb : b = !c) (hd : Nat.blt d n = true) (h : At X n (wpList P l.toArray Q rest) ((d, undef) :: env) Γ L) :
    At X n (wpList P l.toArray Q (⟨some d, op, ty, pos, aft, some (j, c)⟩ :: rest)) env Γ L := fun a w H h1 h2 h3 => by
  unfold wpList
  rw [if_neg (by subst hb; simp only [Region.wanted, gd_spec hg h1]; cases c <;> simp)]
  exact h _ w H (h1.put hd) h2 h3
theorem At.shutN {l : List Oper} {j : Nat} {b c : Bool} (hg : gd l env j = some b) (hb : b = !c) (h : At X n (wpList P l.toArray Q rest) env Γ L) :
    At X n (wpList P l.toArray Q (⟨none, op, ty, pos, aft, some (j, c)⟩ :: rest)) env Γ L := fun a w H h1 h2 h3 => by
  unfold wpList
  rw [if_neg (by subst hb; simp only [Region.wanted, gd_spec hg h1]; cases c <;> simp)]
  exact h _ w H h1 h2 h3
theorem At.shutU {l : List Oper} {j : Nat} {c : Bool} (hg : gdU l env j = true) (hd : Nat.blt d n = true) (h : At X n (wpList P l.toArray Q rest) ((d, undef) :: env) Γ L) :
    At X n (wpList P l.toArray Q (⟨some d, op, ty, pos, aft, some (j, c)⟩ :: rest)) env Γ L := fun a w H h1 h2 h3 => by
  unfold wpList
  rw [if_neg (by simp only [Region.wanted, gdU_spec hg h1]; cases c <;> simp)]
  exact h _ w H (h1.put hd) h2 h3
theorem At.shutUN {l : List Oper} {j : Nat} {c : Bool} (hg : gdU l env j = true) (h : At X n (wpList P l.toArray Q rest) env Γ L) :
    At X n (wpList P l.toArray Q (⟨none, op, ty, pos, aft, some (j, c)⟩ :: rest)) env Γ L := fun a w H h1 h2 h3 => by
  unfold wpList
  rw [if_neg (by simp only [Region.wanted, gdU_spec hg h1]; cases c <;> simp)]
  exact h _ w H h1 h2 h3
/-- The guard is open: as without one. -/
theorem At.open {l : List Oper} {j : Nat} {b c : Bool} {dst : Option Nat} (hg : gd l env j = some b) (hb : b = c) (h : At X n (wpList P l.toArray Q (⟨dst, op, ty, pos, aft, none⟩ :: rest)) env Γ L) :
    At X n (wpList P l.toArray Q (⟨dst, op, ty, pos, aft, some (j, c)⟩ :: rest)) env Γ L := fun a w H h1 h2 h3 => by
  have := h a w H h1 h2 h3
  unfold wpList at *
  have hw0 : Region.wanted (⟨dst, op, ty, pos, aft, none⟩ : Oper) (yielded l.toArray a.tmps) = true := rfl
  rw [if_pos hw0] at this
  rw [if_pos (by subst hb; simp [Region.wanted, gd_spec hg h1])]
  exact this
end list

/-! ### A region whose order is open -/

/-- Words on a state: what may be relied upon while the region runs. -/
def Rely (X : Cx) (Γ : List SProp) (L : Loc) (w : World) : Prop := ∃ H, Holds Γ H ∧ St X w H L

section draw
variable {P : Program} {ops : Array Oper} {Q : Exit → Act → World → Prop}

/-- Whatever order is picked from here on; S: what holds as long as one of the first m operations has not come up; it only grows. -/
def wpAnyS (P : Program) (ops : Array Oper) (Q : Exit → Act → World → Prop) (m : Nat) : Nat → (World → Prop) → Array Bool → Act → World → Prop
  | 0, _, listed, a, w => Region.ready .any ops listed = [] ∧ Q .normal a w
  | fuel + 1, S, listed, a, w =>
    (Region.ready .any ops listed = [] → Q .normal a w) ∧
    ∀ i ∈ Region.ready .any ops listed, wpOp P ops Q i (fun a' w' => ∃ S' : World → Prop, (i < m → S' w' ∧ ∀ u, S' u → S u) ∧ wpAnyS P ops Q m fuel S' (listed.setIfInBounds i true) a' w') a w

theorem wpAny_of_S {m : Nat} : ∀ (fuel : Nat) (S : World → Prop) (listed : Array Bool) (a : Act) (w : World), wpAnyS P ops Q m fuel S listed a w → wpAny P .any ops Q fuel listed a w
  | 0, _, _, _, _, h => h
  | fuel + 1, _, _, _, _, h => ⟨h.1, fun i hi => wpOp_mono (fun a' w' ⟨S', _, h'⟩ => wpAny_of_S fuel S' _ a' w' h') (h.2 i hi)⟩

theorem YieldsIf.strong {S S' : World → Prop} {o : Oper} {v : Value} {a : Act} (h : YieldsIf P ops S o v a) (hs : ∀ u, S' u → S u) : YieldsIf P ops S' o v a :=
  h.imp (fun ⟨h1, h2⟩ => ⟨h1, fun w hw => h2 w (hs w hw)⟩) id

/-- What is listed, of that all that it waits for is listed too. -/
def Down (ops : Array Oper) (listed : Array Bool) : Prop := ∀ j oj, ops[j]? = some oj → listed.getD j false = true → ∀ e ∈ oj.after, Region.binds .any e = true → listed.getD e.on false = true
theorem Down.set {listed : Array Bool} {i : Nat} (h : Down ops listed) (hi : i ∈ Region.ready .any ops listed) : Down ops (listed.setIfInBounds i true) := by
  intro j oj hj hl e he hb
  by_cases hij : i = j
  · subst hij
    obtain ⟨_, o, ho, hall⟩ := mem_ready.1 hi
    rw [hj] at ho
    cases ho
    exact getD_set_true (hall e he hb)
  · rw [getD_set_ne false hij] at hl
    exact getD_set_true (h j oj hj hl e he hb)
theorem Down.none (n : Nat) : Down ops (Array.replicate n false) := by
  intro j oj _ hl
  rcases Nat.lt_or_ge j n with h | h
  · simp [h] at hl
  · simp [Array.getElem?_eq_none, h] at hl
/-- What waits for i, through others. -/
def deps (ops : Array Oper) (i : Nat) : Nat → List Nat
  | 0 => [i]
  | k + 1 => bif (match ops[k]? with | some o => o.after.any fun e => Region.binds .any e && (deps ops i k).contains e.on | none => false) then k :: deps ops i k else deps ops i k
theorem deps_unlisted {i : Nat} {listed : Array Bool} (hd : Down ops listed) (hi : listed.getD i false = false) : ∀ (k : Nat), ∀ x ∈ deps ops i k, listed.getD x false = false := by
  intro k
  induction k with
  | zero => intro x hx; simp [deps] at hx; subst hx; exact hi
  | succ k ih =>
    intro x hx
    simp only [deps] at hx
    cases hb : (match ops[k]? with | some o => o.after.any fun e => Region.binds .any e && (deps ops i k).contains e.on | none => false)
    · rw [hb] at hx; exact ih x hx
    · rw [hb] at hx
      simp only [cond_true, List.mem_cons] at hx
      rcases hx with rfl | hx
      · split at hb
        · rename_i o ho
          obtain ⟨e, he, hc⟩ := Array.any_eq_true'.1 hb
          simp only [Bool.and_eq_true, List.contains_eq_mem, decide_eq_true_eq] at hc
          cases hl : listed.getD x false
          · rfl
          · have := hd x o ho hl e he hc.1
            rw [ih _ hc.2] at this
            cases this
        · cases hb
      · exact ih x hx
/-- None of these comes up as long as i has not. -/
def Waits (ops : Array Oper) (m i : Nat) : Prop := ∀ listed, Down ops listed → listed.getD i false = false → ∀ j, m ≤ j → j ∉ Region.ready .any ops listed
theorem waits_of {m i : Nat} (him : i < m) (h : ((List.range ops.size).all fun j => Nat.blt j m || (match ops[j]? with | some oj => (oj.after.any fun e => Region.binds .any e && Nat.beq e.on i) || (oj.after.any fun e => Region.binds .any e && (deps ops i ops.size).contains e.on) | none => true)) = true) : Waits ops m i := by
  intro listed hd hi j hj hr
  obtain ⟨_, oj, hoj, hall⟩ := mem_ready.1 hr
  have := List.all_eq_true.1 h j (List.mem_range.2 (Array.getElem?_eq_some_iff.1 hoj).1)
  simp only [hoj, Bool.or_eq_true] at this
  rcases this with h' | h' | h'
  · have : j < m := by simpa [Nat.blt_eq] using h'
    omega
  · obtain ⟨e, he, hb⟩ := Array.any_eq_true'.1 h'
    simp only [Bool.and_eq_true] at hb
    have h1 := hall e he hb.1
    rw [Nat.eq_of_beq_eq_true hb.2, hi] at h1
    cases h1
  · obtain ⟨e, he, hb⟩ := Array.any_eq_true'.1 h'
    simp only [Bool.and_eq_true, List.contains_eq_mem, decide_eq_true_eq] at hb
    have h1 := hall e he hb.1
    rw [deps_unlisted hd hi _ _ hb.2] at h1
    cases h1

theorem wpAnyS_first {m i : Nat} {oi : Oper} {v : Value} (hi : ops[i]? = some oi) (him : i < m) (hsel : ∀ (j : Nat) (o : Oper) cs b, ops[j]? = some o → o.op ≠ .select cs b)
    (hQ : ∀ c a w, Q (.panic c) (a.put oi.dst v) w → Q (.panic c) a w)
    (htail : Waits ops m i) :
    ∀ (fuel : Nat) (S : World → Prop) (listed : Array Bool) (a : Act) (w : World), Down ops listed →
      (∀ j oj, ops[j]? = some oj → j ≠ i → listed.getD j true = false → (∀ e ∈ oj.after, Region.binds .any e = true → e.on ≠ i) → oi.apart ops oj = true) →
      i ∈ Region.ready .any ops listed → YieldsIf P ops S oi v a → S w →
      wpAnyS P ops Q m fuel S (listed.setIfInBounds i true) (a.put oi.dst v) w → wpAnyS P ops Q m (fuel + 1) S listed a w := by
  intro fuel
  induction fuel with
  | zero =>
    intro S listed a w _ _ hr hy hS H
    refine ⟨fun h => (by rw [h] at hr; cases hr), fun j hj => ?_⟩
    by_cases hji : j = i
    · subst hji; exact hy.wpOp hi hS ⟨S, fun _ => ⟨hS, fun _ h => h⟩, H⟩
    · have := ready_mono hj hji
      rw [H.1] at this
      cases this
  | succ fuel ih =>
    intro S listed a w hdown hfree hr hy hS H
    refine ⟨fun h => (by rw [h] at hr; cases hr), fun j hj => ?_⟩
    by_cases hji : j = i
    · subst hji; exact hy.wpOp hi hS ⟨S, fun _ => ⟨hS, fun _ h => h⟩, H⟩
    · have h1 := H.2 j (ready_mono hj hji)
      obtain ⟨hjun, oj, hoj, hall⟩ := mem_ready.1 hj
      have hilist : listed.getD i false = false := by
        have h0 := (mem_ready.1 hr).1
        rcases Nat.lt_or_ge i listed.size with h' | h'
        · simp [h'] at h0 ⊢; exact h0
        · simp [Array.getElem?_eq_none h']
      have hnot : ∀ e ∈ oj.after, Region.binds .any e = true → e.on ≠ i := fun e he hb heq => by
        have h1 := hall e he hb
        rw [heq, hilist] at h1
        cases h1
      have hjm : j < m := by
        refine Nat.lt_of_not_le fun hle => ?_
        exact htail listed hdown hilist j hle hj
      have h2 := wpOp_putIf hoj (hfree j oj hoj hji hjun hnot) (fun cs b => hsel i oi cs b hi) (fun cs b => hsel j oj cs b hoj) hQ hy h1
      have hfree' : ∀ k ok, ops[k]? = some ok → k ≠ i → (listed.setIfInBounds j true).getD k true = false →
          (∀ e ∈ ok.after, Region.binds .any e = true → e.on ≠ i) → oi.apart ops ok = true := fun k ok hk hki hun hno => by
        refine hfree k ok hk hki ?_ hno
        by_cases hjk : j = k
        · subst hjk; exact hjun
        · rw [getD_set_ne true hjk] at hun; exact hun
      refine wpOp_mono (fun a' w' ⟨h3, S', h4, h5⟩ => ⟨S', h4, ih S' (listed.setIfInBounds j true) a' w' (hdown.set hj) hfree' (ready_mono hr (Ne.symm hji)) (YieldsIf.strong h3 (h4 hjm).2) (h4 hjm).1 ?_⟩) h2
      rw [Array.setIfInBounds_comm _ _ hji]
      exact h5

/-- An order in which the first operations are taken: 'q': it only computes or reads, and may be taken first; 'o': nothing else may come up; 't', 'u': two, three may come up. The others follow one by one. -/
inductive Ord where
  | e
  | q (i : Nat) (r : Ord)
  | o (i : Nat) (r : Ord)
  | t (i : Nat) (r : Ord) (j : Nat) (s : Ord)
  | u (i : Nat) (r : Ord) (j : Nat) (s : Ord) (k : Nat) (p : Ord)
def ordGo (ops : Array Oper) (m : Nat) : Nat → Array Bool → Ord → Bool
  | 0, listed, .e => tailGo (ops.size - m) m listed
  | f + 1, listed, .q i r => Nat.blt i m && (Region.free .any ops listed i && ((Region.ready .any ops listed).contains i && ordGo ops m f (listed.setIfInBounds i true) r))
  | f + 1, listed, .o i r => Nat.blt i m && (decide (Region.ready .any ops listed = [i]) && ordGo ops m f (listed.setIfInBounds i true) r)
  | f + 1, listed, .t i r j s => Nat.blt i m && (Nat.blt j m && (decide (Region.ready .any ops listed = [i, j]) && (ordGo ops m f (listed.setIfInBounds i true) r && ordGo ops m f (listed.setIfInBounds j true) s)))
  | f + 1, listed, .u i r j s k p => Nat.blt i m && (Nat.blt j m && (Nat.blt k m && (decide (Region.ready .any ops listed = [i, j, k]) &&
      (ordGo ops m f (listed.setIfInBounds i true) r && (ordGo ops m f (listed.setIfInBounds j true) s && ordGo ops m f (listed.setIfInBounds k true) p)))))
  | _, _, _ => false
where
  tailGo : Nat → Nat → Array Bool → Bool
    | 0, _, listed => decide (Region.ready .any ops listed = [])
    | f + 1, k, listed => decide (Region.ready .any ops listed = [k]) && tailGo f (k + 1) (listed.setIfInBounds k true)
def tailAfter (ops : Array Oper) (m : Nat) : Bool :=
  (List.range m).all fun i => (List.range ops.size).all fun j => Nat.blt j m || match ops[j]? with
    | some oj => (oj.after.any fun e => Region.binds .any e && Nat.beq e.on i) || (oj.after.any fun e => Region.binds .any e && (deps ops i ops.size).contains e.on)
    | none => true
def ordOk (ops : Array Oper) (m : Nat) (order : Ord) : Bool :=
  Region.noSelect ops && (tailAfter ops m && (Nat.ble m ops.size && ordGo ops m m (Array.replicate ops.size false) order))

/-- The walk in that order. -/
def wpOrd (P : Program) (ops : Array Oper) (Q : Exit → Act → World → Prop) (tail : List Oper) : (World → Prop) → Ord → Act → World → Prop
  | _, .e, a, w => wpList P ops Q tail a w
  | S, .q i r, a, w => ∃ o v, ops[i]? = some o ∧ YieldsIf P ops S o v a ∧ (∀ c a w, Q (.panic c) (a.put o.dst v) w → Q (.panic c) a w) ∧ wpOrd P ops Q tail S r (a.put o.dst v) w
  | S, .o i r, a, w => wpOp P ops Q i (fun a' w' => ∃ S' : World → Prop, S' w' ∧ (∀ u, S' u → S u) ∧ wpOrd P ops Q tail S' r a' w') a w
  | S, .t i r j s, a, w => wpOp P ops Q i (fun a' w' => ∃ S' : World → Prop, S' w' ∧ (∀ u, S' u → S u) ∧ wpOrd P ops Q tail S' r a' w') a w ∧
      wpOp P ops Q j (fun a' w' => ∃ S' : World → Prop, S' w' ∧ (∀ u, S' u → S u) ∧ wpOrd P ops Q tail S' s a' w') a w
  | S, .u i r j s k p, a, w => wpOp P ops Q i (fun a' w' => ∃ S' : World → Prop, S' w' ∧ (∀ u, S' u → S u) ∧ wpOrd P ops Q tail S' r a' w') a w ∧
      wpOp P ops Q j (fun a' w' => ∃ S' : World → Prop, S' w' ∧ (∀ u, S' u → S u) ∧ wpOrd P ops Q tail S' s a' w') a w ∧
      wpOp P ops Q k (fun a' w' => ∃ S' : World → Prop, S' w' ∧ (∀ u, S' u → S u) ∧ wpOrd P ops Q tail S' p a' w') a w

theorem wpAnyS_tail {m : Nat} : ∀ (f k : Nat) (S : World → Prop) (listed : Array Bool) (a : Act) (w : World), k + f = ops.size → m ≤ k → ordGo.tailGo ops f k listed = true →
    wpList P ops Q (ops.toList.drop k) a w → wpAnyS P ops Q m f S listed a w := by
  intro f
  induction f with
  | zero =>
    intro k S listed a w hk _ ht h
    rw [List.drop_eq_nil_of_le (by simp; omega)] at h
    exact ⟨by simpa [ordGo.tailGo] using ht, h⟩
  | succ f ih =>
    intro k S listed a w hk hm ht h
    simp only [ordGo.tailGo, Bool.and_eq_true, decide_eq_true_eq] at ht
    have hlt : k < ops.toList.length := by simp; omega
    rw [List.drop_eq_getElem_cons hlt] at h
    refine ⟨fun h0 => (by rw [ht.1] at h0; cases h0), fun i hi => ?_⟩
    rw [ht.1] at hi
    simp at hi
    subst hi
    have hget : ops[i]? = some ops.toList[i] := by rw [Array.getElem?_eq_getElem (by simpa using hlt)]; simp
    unfold wpOp
    simp only [hget]
    unfold wpList at h
    split at h
    · rename_i hw
      rw [if_pos hw]
      rcases h with h | h
      · exact .inl (Oper.wp_mono (fun a' w' h' => ⟨S, fun hlt' => absurd hlt' (by omega), ih (i + 1) S _ a' w' (by omega) (by omega) ht.2 h'⟩) h)
      · exact .inr h
    · rename_i hw
      rw [if_neg hw]
      exact ⟨S, fun hlt' => absurd hlt' (by omega), ih (i + 1) S _ _ w (by omega) (by omega) ht.2 h⟩

theorem wpAnyS_ord {m : Nat} (hsel : Region.noSelect ops = true) (htail : tailAfter ops m = true) (hm : m ≤ ops.size) :
    ∀ (order : Ord) (f : Nat) (S : World → Prop) (listed : Array Bool) (a : Act) (w : World), ordGo ops m f listed order = true → Down ops listed → S w →
      wpOrd P ops Q (ops.toList.drop m) S order a w → wpAnyS P ops Q m (f + (ops.size - m)) S listed a w := by
  have step : ∀ {i : Nat} {r : Ord} {f : Nat} {S : World → Prop} {listed : Array Bool} {a : Act} {w : World},
      (∀ (S : World → Prop) (a : Act) (w : World), S w → wpOrd P ops Q (ops.toList.drop m) S r a w → wpAnyS P ops Q m (f + (ops.size - m)) S (listed.setIfInBounds i true) a w) →
      wpOp P ops Q i (fun a' w' => ∃ S' : World → Prop, S' w' ∧ (∀ u, S' u → S u) ∧ wpOrd P ops Q (ops.toList.drop m) S' r a' w') a w →
      wpOp P ops Q i (fun a' w' => ∃ S' : World → Prop, (i < m → S' w' ∧ ∀ u, S' u → S u) ∧ wpAnyS P ops Q m (f + (ops.size - m)) S' (listed.setIfInBounds i true) a' w') a w :=
    fun ih h => wpOp_mono (fun a' w' ⟨S', hS', hw, h'⟩ => ⟨S', fun _ => ⟨hS', hw⟩, ih S' a' w' hS' h'⟩) h
  intro order
  induction order with
  | e =>
    intro f S listed a w ho hd _ h
    cases f with
    | zero =>
      rw [Nat.zero_add]
      exact wpAnyS_tail (ops.size - m) m S listed a w (by omega) (Nat.le_refl _) (by simpa [ordGo] using ho) h
    | succ f => simp [ordGo] at ho
  | q i r ih =>
    intro f S listed a w ho hd hS h
    cases f with
    | zero => simp [ordGo] at ho
    | succ f =>
      rw [show f + 1 + (ops.size - m) = (f + (ops.size - m)) + 1 by omega]
      obtain ⟨o, v, hi, hy, hQ, h⟩ := h
      simp only [ordGo, Bool.and_eq_true] at ho
      obtain ⟨h1, h2, h3, h4⟩ := ho
      have him : i < m := by simpa [Nat.blt_eq] using h1
      refine wpAnyS_first hi him (Region.noSelect_spec hsel) hQ (waits_of him (List.all_eq_true.1 htail i (List.mem_range.2 him))) _ S listed a w hd (Region.free_spec hi h2) (by simpa using h3) hy hS (ih f S _ _ w h4 (hd.set (by simpa using h3)) hS h)
  | o i r ih =>
    intro f S listed a w ho hd hS h
    cases f with
    | zero => simp [ordGo] at ho
    | succ f =>
      rw [show f + 1 + (ops.size - m) = (f + (ops.size - m)) + 1 by omega]
      simp only [ordGo, Bool.and_eq_true, decide_eq_true_eq] at ho
      obtain ⟨h1, h2, h3⟩ := ho
      refine ⟨fun h0 => (by rw [h2] at h0; cases h0), fun j hj => ?_⟩
      rw [h2] at hj
      simp at hj
      subst hj
      exact step (fun S' a' w' hS' h' => ih f S' _ a' w' h3 (hd.set (by rw [h2]; simp)) hS' h') h
  | t i r j s ihr ihs =>
    intro f S listed a w ho hd hS h
    cases f with
    | zero => simp [ordGo] at ho
    | succ f =>
      rw [show f + 1 + (ops.size - m) = (f + (ops.size - m)) + 1 by omega]
      simp only [ordGo, Bool.and_eq_true, decide_eq_true_eq] at ho
      obtain ⟨_, _, h2, h3, h4⟩ := ho
      refine ⟨fun h0 => (by rw [h2] at h0; cases h0), fun x hx => ?_⟩
      rw [h2] at hx
      simp only [List.mem_cons, List.not_mem_nil, or_false] at hx
      rcases hx with rfl | rfl
      · exact step (fun S' a' w' hS' h' => ihr f S' _ a' w' h3 (hd.set (by rw [h2]; simp)) hS' h') h.1
      · exact step (fun S' a' w' hS' h' => ihs f S' _ a' w' h4 (hd.set (by rw [h2]; simp)) hS' h') h.2
  | u i r j s k p ihr ihs ihp =>
    intro f S listed a w ho hd hS h
    cases f with
    | zero => simp [ordGo] at ho
    | succ f =>
      rw [show f + 1 + (ops.size - m) = (f + (ops.size - m)) + 1 by omega]
      simp only [ordGo, Bool.and_eq_true, decide_eq_true_eq] at ho
      obtain ⟨_, _, _, h2, h3, h4, h5⟩ := ho
      refine ⟨fun h0 => (by rw [h2] at h0; cases h0), fun x hx => ?_⟩
      rw [h2] at hx
      simp only [List.mem_cons, List.not_mem_nil, or_false] at hx
      rcases hx with rfl | rfl | rfl
      · exact step (fun S' a' w' hS' h' => ihr f S' _ a' w' h3 (hd.set (by rw [h2]; simp)) hS' h') h.1
      · exact step (fun S' a' w' hS' h' => ihs f S' _ a' w' h4 (hd.set (by rw [h2]; simp)) hS' h') h.2.1
      · exact step (fun S' a' w' hS' h' => ihp f S' _ a' w' h5 (hd.set (by rw [h2]; simp)) hS' h') h.2.2

theorem wp_region_ord {id m : Nat} {order : Ord} {S : World → Prop} {a : Act} {w : World} (hmix : P.follows .mixedOrders = true) (hok : ordOk ops m order = true)
    (hS : S { w with drawn := w.drawn + 1 }) (h : wpOrd P ops Q (ops.toList.drop m) S order a { w with drawn := w.drawn + 1 }) : (Code.region id ops true).wp P Q a w := by
  simp only [ordOk, Bool.and_eq_true] at hok
  obtain ⟨h1, h2, h3, h5⟩ := hok
  have hm : m ≤ ops.size := Nat.le_of_ble_eq_true h3
  refine wp_region_any hmix (wpAny_of_S (m := m) _ S _ _ _ ?_)
  have := wpAnyS_ord h1 h2 hm order m S (Array.replicate ops.size false) a { w with drawn := w.drawn + 1 } h5 (Down.none _) hS h
  have e : m + (ops.size - m) = ops.size := by omega
  rwa [e] at this
end draw

section order
variable {X : Cx} {n : Nat} {P : Program} {Q : Exit → Act → World → Prop} {env : Env} {Γ : List SProp} {L L0 : Loc} {l tail : List Oper} {r : Ord} {i d : Nat}
variable {op : Op} {ty : TypeId} {pos : String} {aft : Array Edge} {g : Option (Nat × Bool)}

/-- Panics tell nothing of the frame. -/
def Calm (Q : Exit → Act → World → Prop) : Prop := ∀ c a d v w, Q (.panic c) (Act.put a d v) w → Q (.panic c) a w

/-- The walk of such a region, in the order that was picked; L0: the own memory that may be read while it runs. -/
def AtO (X : Cx) (n : Nat) (P : Program) (l : List Oper) (Q : Exit → Act → World → Prop) (tail : List Oper) (r : Ord) (L0 : Loc) (env : Env) (Γ : List SProp) (L : Loc) : Prop :=
  At X n (wpOrd P l.toArray Q tail (Rely X Γ L0) r) env Γ L

/-- What lies behind the first m. -/
def behind : Nat → List Oper → Option (List Oper)
  | 0, l => some l
  | m + 1, _ :: l => behind m l
  | _ + 1, [] => some []
theorem behind_drop : ∀ {m : Nat} {l t : List Oper}, behind m l = some t → l.drop m = t
  | 0, l, t, h => by simpa [behind] using h
  | m + 1, [], t, h => by simp [behind] at h; subst h; simp
  | m + 1, _ :: l, t, h => by simpa using behind_drop (m := m) (by simpa [behind] using h)
theorem At.draw {id : Nat} (m : Nat) (order : Ord) (L0 : Loc) (hL0 : L0.Sublist L) (hmix : P.follows .mixedOrders = true) (hok : ordOk l.toArray m order = true) (ht : behind m l = some tail)
    (h : AtO X n P l Q tail order L0 env Γ L) : At X n ((Code.region id l.toArray true).wp P Q) env Γ L := fun a _ H h1 h2 h3 => by
  have e := behind_drop ht
  subst e
  exact wp_region_ord (S := Rely X Γ L0) hmix hok ⟨H, h2, (h3.drawn _).drop hL0⟩ (h a _ H h1 h2 (h3.drawn _))

theorem AtO.done (h : At X n (wpList P l.toArray Q tail) env Γ L) : AtO X n P l Q tail .e L0 env Γ L := h

theorem AtO.quiet {v : Value} (ho : l[i]? = some ⟨some d, op, ty, pos, aft, none⟩) (hq : Quiet P op ty n env Γ L0 v) (hd : Nat.blt d n = true) (hQ : Calm Q)
    (h : AtO X n P l Q tail r L0 ((d, v) :: env) Γ L) : AtO X n P l Q tail (.q i r) L0 env Γ L := fun a w H h1 h2 h3 =>
  ⟨_, v, by simpa using ho, .inl ⟨rfl, fun w' ⟨H', k2, k3⟩ => hq X _ _ _ _ a w' H' h1 k2 k3⟩, fun c a w => hQ c a _ v w, h _ w H (h1.put hd) h2 h3⟩
theorem AtO.quietN {v : Value} (ho : l[i]? = some ⟨none, op, ty, pos, aft, none⟩) (hq : Quiet P op ty n env Γ L0 v) (hQ : Calm Q)
    (h : AtO X n P l Q tail r L0 env Γ L) : AtO X n P l Q tail (.q i r) L0 env Γ L := fun a w H h1 h2 h3 =>
  ⟨⟨none, op, ty, pos, aft, none⟩, v, by simpa using ho, .inl ⟨rfl, fun w' ⟨H', k2, k3⟩ => hq X _ _ _ _ a w' H' h1 k2 k3⟩, fun c a w => hQ c a _ v w, h a w H h1 h2 h3⟩
/-- A guarded one, the guard open. -/
theorem AtO.quietG {v : Value} {j : Nat} {b c : Bool} (ho : l[i]? = some ⟨some d, op, ty, pos, aft, some (j, c)⟩) (hg : gd l env j = some b) (hb : b = c) (hq : Quiet P op ty n env Γ L0 v) (hd : Nat.blt d n = true) (hQ : Calm Q)
    (h : AtO X n P l Q tail r L0 ((d, v) :: env) Γ L) : AtO X n P l Q tail (.q i r) L0 env Γ L := fun a w H h1 h2 h3 =>
  ⟨_, v, by simpa using ho, .inl ⟨by subst hb; simp [Region.wanted, gd_spec hg h1], fun w' ⟨H', k2, k3⟩ => hq X _ _ _ _ a w' H' h1 k2 k3⟩, fun c a w => hQ c a _ v w, h _ w H (h1.put hd) h2 h3⟩
/-- A guarded one, the guard shut. -/
theorem AtO.shut {j : Nat} {b c : Bool} (ho : l[i]? = some ⟨some d, op, ty, pos, aft, some (j, c)⟩) (hg : gd l env j = some b) (hb : b = !c) (hd : Nat.blt d n = true) (hQ : Calm Q)
    (h : AtO X n P l Q tail r L0 ((d, undef) :: env) Γ L) : AtO X n P l Q tail (.q i r) L0 env Γ L := fun a w H h1 h2 h3 =>
  ⟨_, undef, by simpa using ho, .inr ⟨by subst hb; simp only [Region.wanted, gd_spec hg h1]; cases c <;> simp, rfl⟩, fun c a w => hQ c a _ undef w, h _ w H (h1.put hd) h2 h3⟩
theorem AtO.shutU {j : Nat} {c : Bool} (ho : l[i]? = some ⟨some d, op, ty, pos, aft, some (j, c)⟩) (hg : gdU l env j = true) (hd : Nat.blt d n = true) (hQ : Calm Q)
    (h : AtO X n P l Q tail r L0 ((d, undef) :: env) Γ L) : AtO X n P l Q tail (.q i r) L0 env Γ L := fun a w H h1 h2 h3 =>
  ⟨_, undef, by simpa using ho, .inr ⟨by simp only [Region.wanted, gdU_spec hg h1]; cases c <;> simp, rfl⟩, fun c a w => hQ c a _ undef w, h _ w H (h1.put hd) h2 h3⟩
theorem AtO.shutN {j : Nat} {b c : Bool} (ho : l[i]? = some ⟨none, op, ty, pos, aft, some (j, c)⟩) (hg : gd l env j = some b) (hb : b = !c) (hQ : Calm Q)
    (h : AtO X n P l Q tail r L0 env Γ L) : AtO X n P l Q tail (.q i r) L0 env Γ L := fun a w H h1 h2 h3 =>
  ⟨⟨none, op, ty, pos, aft, some (j, c)⟩, undef, by simpa using ho, .inr ⟨by subst hb; simp only [Region.wanted, gd_spec hg h1]; cases c <;> simp, rfl⟩, fun c a w => hQ c a _ undef w, h a w H h1 h2 h3⟩
/-- What changes memory: it keeps what the region relies upon. -/
theorem AtO.loud {R : Value → List SProp → Loc → Prop} (ho : l[i]? = some ⟨some d, op, ty, pos, aft, none⟩) (hq : Loud P op ty n env Γ L R) (hd : Nat.blt d n = true)
    (hk : ∀ v Γ' L', R v Γ' L' → (∀ H, Holds Γ' H → Holds Γ H) ∧ L0.Sublist L')
    (h : ∀ v Γ' L', R v Γ' L' → AtO X n P l Q tail r L0 ((d, v) :: env) Γ' L') : AtO X n P l Q tail (.o i r) L0 env Γ L := fun a w H h1 h2 h3 => by
  show wpOp P l.toArray Q i _ a w
  unfold wpOp
  have ho' : l.toArray[i]? = some ⟨some d, op, ty, pos, aft, none⟩ := by simpa using ho
  simp only [ho']
  have hw0 : Region.wanted (⟨some d, op, ty, pos, aft, none⟩ : Oper) (yielded l.toArray a.tmps) = true := rfl
  rw [if_pos hw0]
  refine .inl (hq X _ _ _ _ a w H h1 h2 h3 _ _ fun v Γ' L' w' H' hr _ h4 h5 => ?_)
  obtain ⟨k1, k2⟩ := hk v Γ' L' hr
  exact ⟨Rely X Γ' L0, ⟨H', h4, h5.drop k2⟩, fun u ⟨H1, q1, q2⟩ => ⟨H1, k1 H1 q1, q2⟩, h v Γ' L' hr _ w' H' (h1.put hd) h4 h5⟩
theorem AtO.loudN {R : Value → List SProp → Loc → Prop} (ho : l[i]? = some ⟨none, op, ty, pos, aft, none⟩) (hq : Loud P op ty n env Γ L R)
    (hk : ∀ v Γ' L', R v Γ' L' → (∀ H, Holds Γ' H → Holds Γ H) ∧ L0.Sublist L')
    (h : ∀ v Γ' L', R v Γ' L' → AtO X n P l Q tail r L0 env Γ' L') : AtO X n P l Q tail (.o i r) L0 env Γ L := fun a w H h1 h2 h3 => by
  show wpOp P l.toArray Q i _ a w
  unfold wpOp
  have ho' : l.toArray[i]? = some ⟨none, op, ty, pos, aft, none⟩ := by simpa using ho
  simp only [ho']
  have hw0 : Region.wanted (⟨none, op, ty, pos, aft, none⟩ : Oper) (yielded l.toArray a.tmps) = true := rfl
  rw [if_pos hw0]
  refine .inl (hq X _ _ _ _ a w H h1 h2 h3 _ _ fun v Γ' L' w' H' hr _ h4 h5 => ?_)
  obtain ⟨k1, k2⟩ := hk v Γ' L' hr
  exact ⟨Rely X Γ' L0, ⟨H', h4, h5.drop k2⟩, fun u ⟨H1, q1, q2⟩ => ⟨H1, k1 H1 q1, q2⟩, h v Γ' L' hr _ w' H' h1 h4 h5⟩
/-- The same, guarded, the guard open. -/
theorem AtO.loudG {R : Value → List SProp → Loc → Prop} {j : Nat} {b c : Bool} (ho : l[i]? = some ⟨some d, op, ty, pos, aft, some (j, c)⟩) (hg : gd l env j = some b) (hb : b = c) (hq : Loud P op ty n env Γ L R) (hd : Nat.blt d n = true)
    (hk : ∀ v Γ' L', R v Γ' L' → (∀ H, Holds Γ' H → Holds Γ H) ∧ L0.Sublist L')
    (h : ∀ v Γ' L', R v Γ' L' → AtO X n P l Q tail r L0 ((d, v) :: env) Γ' L') : AtO X n P l Q tail (.o i r) L0 env Γ L := fun a w H h1 h2 h3 => by
  show wpOp P l.toArray Q i _ a w
  unfold wpOp
  have ho' : l.toArray[i]? = some ⟨some d, op, ty, pos, aft, some (j, c)⟩ := by simpa using ho
  simp only [ho']
  rw [if_pos (by subst hb; simp [Region.wanted, gd_spec hg h1])]
  refine .inl (hq X _ _ _ _ a w H h1 h2 h3 _ _ fun v Γ' L' w' H' hr _ h4 h5 => ?_)
  obtain ⟨k1, k2⟩ := hk v Γ' L' hr
  exact ⟨Rely X Γ' L0, ⟨H', h4, h5.drop k2⟩, fun u ⟨H1, q1, q2⟩ => ⟨H1, k1 H1 q1, q2⟩, h v Γ' L' hr _ w' H' (h1.put hd) h4 h5⟩
/-- Two, three may come up. -/
theorem AtO.two {j : Nat} {s : Ord} (h : AtO X n P l Q tail (.o i r) L0 env Γ L) (h' : AtO X n P l Q tail (.o j s) L0 env Γ L) : AtO X n P l Q tail (.t i r j s) L0 env Γ L :=
  fun a w H h1 h2 h3 => ⟨h a w H h1 h2 h3, h' a w H h1 h2 h3⟩
theorem AtO.three {j k : Nat} {s p : Ord} (h : AtO X n P l Q tail (.o i r) L0 env Γ L) (h' : AtO X n P l Q tail (.o j s) L0 env Γ L) (h'' : AtO X n P l Q tail (.o k p) L0 env Γ L) : AtO X n P l Q tail (.u i r j s k p) L0 env Γ L :=
  fun a w H h1 h2 h3 => ⟨h a w H h1 h2 h3, h' a w H h1 h2 h3, h'' a w H h1 h2 h3⟩
end order

/-! ### Calls -/

/-- A contract: with these arguments, facts and own memory the function returns; R tells what. Whatever else is the caller's own stays. -/
def Con (P : Program) (f : FuncId) (args : List Value) (pre : List SProp) (M : Loc) (R : Value → List SProp → Loc → Prop) : Prop :=
  ∀ X w H L, Holds pre H → St X w H (M ++ L) → Calls P f args.toArray w fun e w' => ∃ v Γ' M' H', e = .returned v ∧ R v Γ' M' ∧ H.le H' ∧ Holds Γ' H' ∧ St X w' H' (M' ++ L)

theorem Con.mono {P : Program} {f : FuncId} {args : List Value} {pre pre' : List SProp} {M : Loc} {R R' : Value → List SProp → Loc → Prop} (h : Con P f args pre M R)
    (hp : ∀ H, Holds pre' H → Holds pre H) (hr : ∀ v Γ M, R v Γ M → R' v Γ M) : Con P f args pre' M R' := fun X w H L h1 h2 =>
  (h X w H L (hp H h1) h2).mono fun _ _ ⟨v, Γ', M', H', h3, h4, h5⟩ => ⟨v, Γ', M', H', h3, hr _ _ _ h4, h5⟩

/-- What a body must come to. -/
def Post (P : Program) (fn : Func) (X : Cx) (H₀ : Hp) (L₀ : Loc) (R : Value → List SProp → Loc → Prop) : Exit → Act → World → Prop :=
  bodyPost P fn fun e w' => ∃ v Γ' M' H', e = .returned v ∧ R v Γ' M' ∧ H₀.le H' ∧ Holds Γ' H' ∧ St X w' H' (M' ++ L₀)

theorem Post.calm {P : Program} {fn : Func} {X : Cx} {H₀ : Hp} {L₀ : Loc} {R : Value → List SProp → Loc → Prop} : Calm (Post P fn X H₀ L₀ R) := fun c a d v w h => by
  obtain ⟨_, _, _, _, h, _⟩ := h.2
  cases h
theorem Calm.then {K : Act → World → Prop} {Q : Exit → Act → World → Prop} (h : Calm Q) : Calm (Exit.then K Q) := fun c a d v w hq => h c a d v w hq
theorem Calm.inBlock {i : Nat} {Q : Exit → Act → World → Prop} (h : Calm Q) : Calm (Exit.inBlock i Q) := fun c a d v w hq => h c a d v w hq

/-- The old memory, as a fact: so that a body's own states keep it. -/
def old (H₀ : Hp) : SProp := ⟨fun H => H₀.le H, fun _ _ h k => Hp.le_trans k h⟩

def argEnv : List Value → Nat → Env
  | [], _ => []
  | v :: vs, k => (k, v) :: argEnv vs (k + 1)
theorem argEnv_get : ∀ (args : List Value) (k t : Nat) (v : Value), lk (argEnv args k) t = some v → k ≤ t ∧ args[t - k]? = some v
  | [], _, _, _, e => by simp [argEnv, lk] at e
  | u :: us, k, t, v, e => by
    simp only [argEnv, lk] at e
    cases hb : Nat.beq k t
    · rw [hb] at e
      obtain ⟨h1, h2⟩ := argEnv_get us (k + 1) t v e
      have : t - k = (t - (k + 1)) + 1 := by omega
      exact ⟨by omega, by rw [this]; simpa using h2⟩
    · rw [hb] at e
      simp at e
      subst e
      have := Nat.eq_of_beq_eq_true hb
      subst this
      exact ⟨Nat.le_refl _, by simp⟩

theorem Con.body {P : Program} {f : FuncId} {fn : Func} {c : Code} {args : List Value} {pre : List SProp} {M : Loc} {R : Value → List SProp → Loc → Prop} (nt : Nat)
    (hf : P.funcs[f]? = some fn) (hb : fn.body = some c) (hn : fn.ntmps = nt) (hle : Nat.ble args.length nt = true)
    (h : ∀ X H₀ L₀, At X nt (c.wp P (Post P fn X H₀ L₀ R)) (argEnv args 0) (old H₀ :: pre) (M ++ L₀)) : Con P f args pre M R := fun X w H L h1 h2 => by
  have hle' : args.length ≤ nt := Nat.le_of_ble_eq_true hle
  refine calls_of_wp hf hb ?_
  refine h X H L _ w H ⟨by simp [hn]; omega, rfl, fun t v e => ?_⟩ ⟨Hp.le_refl H, h1⟩ h2
  obtain ⟨_, h3⟩ := argEnv_get args 0 t v e
  have ht : t < args.length := by
    rcases Nat.lt_or_ge t args.length with h' | h'
    · exact h'
    · simp [List.getElem?_eq_none h'] at h3
  simp only [Nat.sub_zero] at h3
  rw [Array.getElem?_append_left (by simpa using ht)]
  simpa using h3
end E
end Go.Proofs.Ytmkodknmknfdkaa
