/- Many small steps at once: copies, comparisons, shut guards; a field's read; a truth value parted. -/
import Derived.Test.YtmkodknmknfdkaaE6
set_option linter.unusedVariables false
set_option linter.unusedSimpArgs false
namespace Go.Proofs.Ytmkodknmknfdkaa
namespace E
open Go

/-- What a plain operation comes to, reckoned on the frame's words alone. -/
def plainV (env : Env) : Op → Option Value
  | .move x => ev env x
  | .assign x => ev env x
  | .pick c a b => match ev env c with
    | some (.bool true) => ev env a
    | some (.bool false) => ev env b
    | _ => none
  | .binOp .eql _ x y _ => match ev env x, ev env y with
    | some (.int k a), some (.int k' b) => bif decide (k = k') then some (.bool (decide (a = b))) else none
    | _, _ => none
  | .binOp .neq _ x y _ => match ev env x, ev env y with
    | some (.int k a), some (.int k' b) => bif decide (k = k') then some (.bool (decide (a ≠ b))) else none
    | _, _ => none
  | .binOp .lss _ x y _ => match ev env x, ev env y with
    | some (.int k a), some (.int k' b) => bif decide (k = k') then some (.bool (decide (a < b))) else none
    | _, _ => none
  | .binOp .leq _ x y _ => match ev env x, ev env y with
    | some (.int k a), some (.int k' b) => bif decide (k = k') then some (.bool (decide (a ≤ b))) else none
    | _, _ => none
  | .binOp .gtr _ x y _ => match ev env x, ev env y with
    | some (.int k a), some (.int k' b) => bif decide (k = k') then some (.bool (decide (b < a))) else none
    | _, _ => none
  | .binOp .geq _ x y _ => match ev env x, ev env y with
    | some (.int k a), some (.int k' b) => bif decide (k = k') then some (.bool (decide (b ≤ a))) else none
    | _, _ => none
  | .unOp .not _ x => match ev env x with
    | some (.bool b) => some (.bool (!b))
    | _ => none
  | .nilCheck x => match ev env x with
    | some (.pointer (some a)) => some (.pointer (some a))
    | _ => none
  | .extract x i => match ev env x with
    | some (.tuple vs) => vs[i]?
    | _ => none
  | _ => none

theorem plainV_quiet {P : Program} {op : Op} {ty : TypeId} {n : Nat} {env : Env} {Γ : List SProp} {L : Loc} {v : Value} (h : plainV env op = some v) : Quiet P op ty n env Γ L v := by
  cases op with
  | move x => exact q_move h
  | assign x => exact q_assign h
  | pick c a b =>
    simp only [plainV] at h
    split at h
    · rename_i hc; exact q_pickT hc h
    · rename_i hc; exact q_pickF hc h
    · cases h
  | unOp op t x =>
    cases op <;> simp only [plainV] at h <;> try (cases h; done)
    split at h
    · rename_i b hx
      cases h
      exact q_not hx
    · cases h
  | nilCheck x =>
    simp only [plainV] at h
    split at h
    · rename_i a hx
      cases h
      exact q_nilCheck hx
    · cases h
  | extract x i =>
    simp only [plainV] at h
    split at h
    · rename_i vs hx; exact q_extract hx h
    · cases h
  | binOp op t x y t' =>
    cases op <;> simp only [plainV] at h <;> try (cases h; done)
    all_goals
      split at h
      · rename_i k a k' b hx hy
        cases hk : decide (k = k')
        · rw [hk] at h; cases h
        · rw [hk] at h
          have := of_decide_eq_true hk
          subst this
          cases h
          first | exact q_eql hx hy | exact q_neq hx hy | exact q_lss hx hy | exact q_leq hx hy | exact q_gtr hx hy | exact q_geq hx hy
      · cases h
  | _ => cases h

/-- k operations of a list, each of them plain or shut. -/
def skim (ops : List Oper) : Nat → List Oper → Env → Option (List Oper × Env)
  | 0, l, env => some (l, env)
  | k + 1, ⟨some d, op, _, _, _, none⟩ :: l, env => match plainV env op with
    | some v => skim ops k l ((d, v) :: env)
    | none => none
  | k + 1, ⟨none, op, _, _, _, none⟩ :: l, env => match plainV env op with
    | some _ => skim ops k l env
    | none => none
  | k + 1, ⟨some d, op, _, _, _, some (j, c)⟩ :: l, env => match gd ops env j with
    | some b => bif b == c then (match plainV env op with
      | some v => skim ops k l ((d, v) :: env)
      | none => none) else skim ops k l ((d, undef) :: env)
    | none => bif gdU ops env j then skim ops k l ((d, undef) :: env) else none
  | k + 1, ⟨none, op, _, _, _, some (j, c)⟩ :: l, env => match gd ops env j with
    | some b => bif b == c then (match plainV env op with
      | some _ => skim ops k l env
      | none => none) else skim ops k l env
    | none => bif gdU ops env j then skim ops k l env else none
  | _, _, _ => none

section
variable {X : Cx} {n : Nat} {P : Program} {ops : Array Oper} {Q : Exit → Act → World → Prop} {rest l l' : List Oper} {env env' : Env} {Γ : List SProp} {L : Loc}

def dstsOk (n : Nat) (l : List Oper) : Nat → Bool
  | 0 => true
  | k + 1 => match l with
    | [] => true
    | o :: l => (match o.dst with | some d => Nat.blt d n | none => true) && dstsOk n l k

theorem At.skim {full : List Oper} : ∀ (k : Nat) {l l' : List Oper} {env env' : Env}, skim full k l env = some (l', env') → dstsOk n l k = true → At X n (wpList P full.toArray Q l') env' Γ L → At X n (wpList P full.toArray Q l) env Γ L
  | 0, l, l', env, env', h, _, hk => by
    simp only [E.skim, Option.some.injEq, Prod.mk.injEq] at h
    obtain ⟨rfl, rfl⟩ := h
    exact hk
  | k + 1, [], l', env, env', h, _, hk => by simp [E.skim] at h
  | k + 1, ⟨dst, op, ty, pos, aft, g⟩ :: l, l', env, env', h, hd, hk => by
    simp only [dstsOk, Bool.and_eq_true] at hd
    obtain ⟨hd1, hd2⟩ := hd
    cases g with
    | none =>
      cases dst with
      | some d =>
        simp only [E.skim] at h
        split at h
        · rename_i v hv; exact At.quiet (plainV_quiet hv) hd1 (At.skim k h hd2 hk)
        · cases h
      | none =>
        simp only [E.skim] at h
        split at h
        · rename_i v hv; exact At.quietN (plainV_quiet hv) (At.skim k h hd2 hk)
        · cases h
    | some g =>
      obtain ⟨j, c⟩ := g
      cases dst with
      | some d =>
        simp only [E.skim] at h
        split at h
        · rename_i b hg
          cases hb : b == c
          · rw [hb] at h
            exact At.shut hg (by cases b <;> cases c <;> simp_all) hd1 (At.skim k h hd2 hk)
          · rw [hb] at h
            simp only [cond_true] at h
            split at h
            · rename_i v hv
              exact At.open hg (by simpa using hb) (At.quiet (plainV_quiet hv) hd1 (At.skim k h hd2 hk))
            · cases h
        · cases hu : gdU full env j
          · rw [hu] at h; cases h
          · rw [hu] at h
            exact At.shutU hu hd1 (At.skim k h hd2 hk)
      | none =>
        simp only [E.skim] at h
        split at h
        · rename_i b hg
          cases hb : b == c
          · rw [hb] at h
            exact At.shutN hg (by cases b <;> cases c <;> simp_all) (At.skim k h hd2 hk)
          · rw [hb] at h
            simp only [cond_true] at h
            split at h
            · rename_i v hv
              exact At.open hg (by simpa using hb) (At.quietN (plainV_quiet hv) (At.skim k h hd2 hk))
            · cases h
        · cases hu : gdU full env j
          · rw [hu] at h; cases h
          · rw [hu] at h
            exact At.shutUN hu (At.skim k h hd2 hk)

/-- A truth value, parted. -/
theorem At.split {K : Act → World → Prop} {d : Nat} {t : Bool} (hd : lk env d = some (.bool t)) (hT : t = true → At X n K ((d, .bool true) :: env) Γ L) (hF : t = false → At X n K ((d, .bool false) :: env) Γ L) : At X n K env Γ L :=
  fun a w H h1 h2 h3 => by
    have put : ∀ b, t = b → Agr n ((d, .bool b) :: env) a := fun b hb => ⟨h1.size, h1.defers, fun s v e => by
      subst hb
      simp only [lk] at e
      cases hc : Nat.beq d s
      · rw [hc] at e; exact h1.get s v e
      · rw [hc] at e
        have := Nat.eq_of_beq_eq_true hc
        subst this
        simp only [cond_true, Option.some.injEq] at e
        subst e
        exact h1.get d _ hd⟩
    cases ht : t
    · exact hF ht a w H (put false ht) h2 h3
    · exact hT ht a w H (put true ht) h2 h3
theorem At.splitP {K : Act → World → Prop} {d : Nat} {p : Prop} [Decidable p] (hd : lk env d = some (.bool (decide p))) (hT : p → At X n K ((d, .bool true) :: env) Γ L) (hF : ¬ p → At X n K ((d, .bool false) :: env) Γ L) : At X n K env Γ L :=
  At.split hd (fun e => hT (of_decide_eq_true e)) (fun e => hF (of_decide_eq_false e))
/-- A slot's value, said otherwise. -/
theorem At.say {K : Act → World → Prop} {v : Value} (d : Nat) (u : Value) (hd : lk env d = some v) (hv : v = u) (h : At X n K ((d, u) :: env) Γ L) : At X n K env Γ L :=
  fun a w H h1 h2 h3 => h a w H ⟨h1.size, h1.defers, fun s x e => by
    subst hv
    simp only [lk] at e
    cases hc : Nat.beq d s
    · rw [hc] at e; exact h1.get s x e
    · rw [hc] at e
      have := Nat.eq_of_beq_eq_true hc
      subst this
      simp only [cond_true, Option.some.injEq] at e
      subst e
      exact h1.get d _ hd⟩ h2 h3

/-- A field of a variable, read: its address, then what lies there. -/
theorem At.fld {d d' : Nat} {ty ty' s t : TypeId} {pos pos' : String} {aft aft' : Array Edge} {x : Operand} {i k sz : Nat} {b : Bool} {pl : List (Nat × Nat × Bool)} {size bytes : Nat} {zero v : Value} {a : Addr}
    (hs : sRow P s = some pl) (ht : tRow P t = some (true, size, bytes, zero)) (hi : pl[i]? = some (k, sz, b)) (hz : Nat.beq sz 0 = false) (hx : ev env x = some (.pointer (some a))) (hr : Rd Γ L (a.add k) v)
    (hd : Nat.blt d n = true) (hd' : Nat.blt d' n = true) (h : At X n (wpList P ops Q rest) ((d', v) :: (d, .pointer (some (a.add k))) :: env) Γ L) :
    At X n (wpList P ops Q (⟨some d, .fieldAddr s x i, ty, pos, aft, none⟩ :: ⟨some d', .load t (.tmp d), ty', pos', aft', none⟩ :: rest)) env Γ L :=
  At.quiet (q_fieldAddr hs hi hz hx) hd (At.quiet (q_load ht (by simp [ev, lk]) hr) hd' h)

theorem Tells.meet {env' chg base : Env} {ws : List Nat} (m : Nat) (h : allLk env' chg) (hd : env'.drop m = base) (hm : (env'.take m).all (fun p => ws.any (Nat.beq p.1 ·)) = true) : Tells env' chg ws base :=
  ⟨h, fun t v k => by rw [lk_skip (without_lk k).2 m hm, hd]; exact (without_lk k).1⟩
theorem wpList_app : ∀ {l1 l2 : List Oper} {a : Act} {w : World}, wpList P ops (Exit.then (wpList P ops Q l2) Q) l1 a w → wpList P ops Q (l1 ++ l2) a w
  | [], l2, a, w, h => h
  | o :: l1, l2, a, w, h => by
    unfold wpList at h
    show wpList P ops Q (o :: (l1 ++ l2)) a w
    unfold wpList
    split at h
    · rename_i hw
      rw [if_pos hw]
      rcases h with h | h
      · refine .inl ?_
        have key : ∀ (r : Result Next), o.upon P a (wpList P ops (Exit.then (wpList P ops Q l2) Q) l1) (Exit.then (wpList P ops Q l2) Q) r → o.upon P a (wpList P ops Q (l1 ++ l2)) Q r := by
          intro r hr
          cases r with
          | ok n w' =>
            cases n <;> simp only [Oper.upon] at hr ⊢ <;>
              first
                | exact wpList_app hr
                | exact Calls.mono hr (fun e w'' he => by cases e <;> first | exact wpList_app he | exact he)
                | exact Rows.mono hr (fun _ _ he => wpList_app he)
          | halt x w' => cases x <;> simp only [Oper.upon] at hr ⊢ <;> exact hr
        exact key _ h
      · exact .inr h
    · rename_i hw
      rw [if_neg hw]
      exact wpList_app h
def ahead : Nat → List Oper → List Oper
  | 0, _ => []
  | m + 1, o :: l => o :: ahead m l
  | _ + 1, [] => []
theorem ahead_behind : ∀ {m : Nat} {l t : List Oper}, behind m l = some t → ahead m l ++ t = l
  | 0, l, t, h => by simp [behind] at h; subst h; rfl
  | m + 1, [], t, h => by simp [behind] at h; subst h; rfl
  | m + 1, o :: l, t, h => by simp only [behind] at h; simp [ahead, ahead_behind h]
/-- Ways that meet again within a region: the first m operations, then the others. -/
theorem At.cutOps {ι : Type} (m : Nat) (ws : List Nat) (e : ι → Env) (G : ι → List SProp) (M : ι → Loc) (L₀ : Loc) (I : ι → Prop) (ht : behind m l = some l')
    (h : At X n (wpList P ops (Exit.then (Meet X n (fun i => e i ++ without ws env) (fun i => G i ++ Γ) (fun i => M i ++ L₀) I) Q) (ahead m l)) env Γ L)
    (h' : ∀ i, I i → At X n (wpList P ops Q l') (e i ++ without ws env) (G i ++ Γ) (M i ++ L₀)) : At X n (wpList P ops Q l) env Γ L := fun a w H h1 h2 h3 => by
  have e0 := ahead_behind ht
  rw [← e0]
  refine wpList_app ?_
  have key : ∀ {K K' : Act → World → Prop} (l1 : List Oper) (a : Act) (w : World), (∀ a w, K a w → K' a w) → wpList P ops (Exit.then K Q) l1 a w → wpList P ops (Exit.then K' Q) l1 a w := by
    intro K K' l1
    induction l1 with
    | nil => intro a w hk hh; exact hk a w hh
    | cons o l1 ih =>
      intro a w hk hh
      unfold wpList at hh ⊢
      split at hh
      · rename_i hw
        rw [if_pos hw]
        rcases hh with hh | hh
        · refine .inl ?_
          have key2 : ∀ (r : Result Next), o.upon P a (wpList P ops (Exit.then K Q) l1) (Exit.then K Q) r → o.upon P a (wpList P ops (Exit.then K' Q) l1) (Exit.then K' Q) r := by
            intro r hr
            cases r with
            | ok n w' =>
              cases n <;> simp only [Oper.upon] at hr ⊢ <;>
                first
                  | exact ih _ _ hk hr
                  | exact Calls.mono hr (fun e w'' he => by cases e <;> first | exact ih _ _ hk he | exact he)
                  | exact Rows.mono hr (fun _ _ he => ih _ _ hk he)
            | halt x w' => cases x <;> simp only [Oper.upon] at hr ⊢ <;> exact hr
          exact key2 _ hh
        · exact .inr hh
      · rename_i hw
        rw [if_neg hw]
        exact ih _ _ hk hh
  refine key _ a w ?_ (h a w H h1 h2 h3)
  intro a' w' ⟨j, H', hI, k1, k2, k3⟩
  exact h' j hI a' w' H' k1 k2 k3
theorem AtO.say {tail : List Oper} {r : Ord} {L0 : Loc} {v : Value} (d : Nat) (u : Value) (hd : lk env d = some v) (hv : v = u) (h : AtO X n P l Q tail r L0 ((d, u) :: env) Γ L) : AtO X n P l Q tail r L0 env Γ L := At.say d u hd hv h
theorem AtO.split {tail : List Oper} {r : Ord} {L0 : Loc} {d : Nat} {t : Bool} (hd : lk env d = some (.bool t)) (hT : t = true → AtO X n P l Q tail r L0 ((d, .bool true) :: env) Γ L) (hF : t = false → AtO X n P l Q tail r L0 ((d, .bool false) :: env) Γ L) : AtO X n P l Q tail r L0 env Γ L := At.split hd hT hF
theorem AtO.splitP {tail : List Oper} {r : Ord} {L0 : Loc} {d : Nat} {p : Prop} [Decidable p] (hd : lk env d = some (.bool (decide p))) (hT : p → AtO X n P l Q tail r L0 ((d, .bool true) :: env) Γ L) (hF : ¬ p → AtO X n P l Q tail r L0 ((d, .bool false) :: env) Γ L) : AtO X n P l Q tail r L0 env Γ L := At.splitP hd hT hF

theorem map_get {α β : Type} {f : α → β} {l : List α} {i : Nat} {x : α} (h : l[i]? = some x) : (l.map f)[i]? = some (f x) := by simp [h]
theorem lt_of_get {α : Type} {l : List α} {i : Nat} {x : α} (h : l[i]? = some x) : i < l.length := (List.getElem?_eq_some_iff.1 h).1
theorem get_of_lt {α : Type} {l : List α} {i : Nat} (h : i < l.length) : ∃ x, l[i]? = some x := ⟨_, List.getElem?_eq_getElem h⟩
theorem q_makeFunc {fn : Fn} {first captured : List Operand} {vs us : List Value} {ty : TypeId} (h1 : evs env first = some vs) (h2 : evs env captured = some us) : Quiet P (.makeFunc fn first.toArray captured.toArray) ty n env Γ L (.func fn vs.toArray us.toArray) :=
  fun _ _ _ _ _ ac w _ h _ _ => by
    have e1 := h.evs h1
    have e2 := h.evs h2
    simp [execOp, Instr.makeFunc, e1, e2]

theorem spl_take {cs vs : List Value} {K N : Nat} (h1 : K ≤ cs.length) (h2 : K + vs.length ≤ N) : (spl cs K vs).take N = spl (cs.take N) K vs := by
  have hl : (cs.take K ++ vs).length = K + vs.length := by simp; omega
  unfold spl
  rw [List.take_append, hl, List.take_of_length_le (by omega), List.drop_take, List.take_take, Nat.min_eq_left (by omega)]
/-- A store into a row of an own slice. -/
theorem Own.stored {T : TypeId} {k c p j : Nat} {rows : List (List Value)} {a : Option Addr} {M : Seg} {r vs : List Value} (h : Own T k rows a c M) (hr : rows[p]? = some r) (hj : j + vs.length ≤ r.length) :
    ∃ g cur, a = some ⟨g, 0, none⟩ ∧ M = [(g, .cells cur T (0, 0))] ∧ p * k + j + vs.length ≤ cur.size ∧
      Own T k (rows.set p (spl r j vs)) a c [(g, .cells (spl cur.toList (p * k + j) vs).toArray T (0, 0))] := by
  obtain ⟨hk, hM⟩ := h
  rcases hM with ⟨_, _, rfl, _⟩ | ⟨g, cur, rfl, rfl, h5, h6, h7, h8⟩
  · simp at hr
  · have hp : p < rows.length := lt_of_get hr
    have hrk : r.length = k := hk r (List.mem_of_getElem? hr)
    have hmul : p * k + k ≤ rows.length * k := by rw [← Nat.succ_mul]; exact Nat.mul_le_mul_right _ hp
    have hsz : rows.length * k ≤ cur.size := by rw [h7]; exact Nat.mul_le_mul_right _ h5
    refine ⟨g, cur, rfl, rfl, by omega, ?_, .inr ⟨g, _, rfl, rfl, by simpa using h5, h6, ?_, ?_⟩⟩
    · intro r' hr'
      rcases List.mem_or_eq_of_mem_set hr' with h' | h'
      · exact hk r' h'
      · subst h'
        simp only [spl, List.length_append, List.length_take, List.length_drop]
        omega
    · simp only [spl, List.size_toArray, List.length_append, List.length_take, List.length_drop, Array.length_toList]
      omega
    · have hfl : (rows.set p (spl r j vs)).flatten = spl rows.flatten (p * k + j) vs := by
        have hd : ∀ (rows : List (List Value)) (p : Nat), (∀ r ∈ rows, r.length = k) → rows[p]? = some r → (rows.set p (spl r j vs)).flatten = spl rows.flatten (p * k + j) vs := by
          intro rows
          induction rows with
          | nil => intro p _ h; simp at h
          | cons x rows ih =>
            intro p hk hr
            have hx : x.length = k := hk x (by simp)
            cases p with
            | zero =>
              simp at hr
              subst hr
              simp only [List.set_cons_zero, List.flatten_cons, Nat.zero_mul, Nat.zero_add, spl]
              rw [List.take_append_of_le_length (by omega), List.drop_append_of_le_length (by omega)]
              simp [List.append_assoc]
            | succ p =>
              have := ih p (fun r hr => hk r (List.mem_cons_of_mem _ hr)) (by simpa using hr)
              simp only [List.set_cons_succ, List.flatten_cons]
              rw [this]
              simp only [spl]
              have e1 : (p + 1) * k + j = x.length + (p * k + j) := by rw [Nat.succ_mul, hx]; omega
              have e2 : (p + 1) * k + j + vs.length = x.length + (p * k + j + vs.length) := by rw [Nat.succ_mul, hx]; omega
              rw [e2, e1, List.take_length_add_append, List.drop_length_add_append]
              simp [List.append_assoc]
        exact hd rows p hk hr
      have hlen : (rows.set p (spl r j vs)).length = rows.length := by simp
      rw [hlen, hfl]
      have hle : p * k + j + vs.length ≤ rows.length * k := by omega
      rw [← h8]
      exact spl_take (by simp; omega) hle

theorem l_storeOwn {t T : TypeId} {ty : TypeId} {sc : Bool} {size bytes p j k c i : Nat} {zero v : Value} {x y : Operand} {rows : List (List Value)} {a : Option Addr} {M : Seg} {r : List Value}
    (ht : tRow P t = some (sc, size, bytes, zero)) (hx : ev env x = some (.pointer (some (((adr a).add (p * k)).add j)))) (hy : ev env y = some v) (ho : Own T k rows a c M) (hL : L[i]? = some M) (hr : rows[p]? = some r)
    (hs : Nat.beq v.cells.size size = true) (hfit : Nat.ble (j + v.cells.size) r.length = true) (h1 : v.cells.toList.all Value.oneCell' = true) :
    Loud P (.store t x y) ty n env Γ L (fun _ Γ' L' => ∃ M', Own T k (rows.set p (spl r j v.cells.toList)) a c M' ∧ Γ' = Γ ∧ L' = L.set i M') :=
  Loud.ofSkip fun X d pos aft g ac w H k1 k2 k3 => by
    obtain ⟨b, cur, rfl, rfl, h4, h5⟩ := ho.stored hr (vs := v.cells.toList) (j := j) (by have := Nat.le_of_ble_eq_true hfit; simpa using this)
    have hf := k3.front hL
    have hg : w.heap[b]? = some (.cells cur T (0, 0)) := hf.loc (b, _) (List.mem_cons_self ..)
    have hst := run_storeCells_at P b (p * k + j) T v.cells.toList 0 cur w hg (by simpa using h4) (List.all_eq_true.1 h1)
    refine ⟨_, H, Γ, _, ?_, ⟨_, h5, rfl, rfl⟩, Hp.le_refl H, k2, St.back _ hL (hf.set (w' := w.setRow b (spl cur.toList (p * k + j) v.cells.toList).toArray) rfl rfl rfl (setRow_heap w b cur _ T (0, 0) hg) fun c hc => setRow_other w b c _ hc)⟩
    have hs' := Nat.eq_of_beq_eq_true hs
    have ha : ((adr (some (⟨b, 0, none⟩ : Addr))).add (p * k)).add j = ⟨b, p * k + j, none⟩ := by
      show ((⟨b, 0, none⟩ : Addr).add (p * k)).add j = _
      unfold Addr.add
      split <;> split <;> simp_all
    rw [ha] at hx
    simp [execOp, k1.ev hx, k1.ev hy, Instr.storeAt, Instr.sureAddr, storeVar, tRow_size ht, hs', hst, spl]
end
end E
end Go.Proofs.Ytmkodknmknfdkaa
