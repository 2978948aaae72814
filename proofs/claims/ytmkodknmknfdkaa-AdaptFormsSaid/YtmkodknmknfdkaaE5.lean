/- Slices of the call's own: made, appended to, written; calls of functions; the body's end. -/
import Derived.Test.YtmkodknmknfdkaaE4
set_option linter.unusedVariables false
set_option linter.unusedSimpArgs false
namespace Go.Proofs.Ytmkodknmknfdkaa
namespace E
open Go

/-- The slice at a, of capacity c, is the call's own: M holds it; its rows have k cells each. -/
def Own (T : TypeId) (k : Nat) (rows : List (List Value)) (a : Option Addr) (c : Nat) (M : Seg) : Prop :=
  (∀ r ∈ rows, r.length = k) ∧ ((a = none ∧ c = 0 ∧ rows = [] ∧ M = []) ∨
    ∃ g cur, a = some ⟨g, 0, none⟩ ∧ M = [(g, .cells cur T (0, 0))] ∧ rows.length ≤ c ∧ c ≤ maxLen ∧ cur.size = c * k ∧ cur.toList.take (rows.length * k) = rows.flatten)
theorem Own.nil (T : TypeId) (k : Nat) : Own T k [] none 0 [] := ⟨by simp, .inl ⟨rfl, rfl, rfl, rfl⟩⟩
theorem flat_len {k : Nat} : ∀ {rows : List (List Value)}, (∀ r ∈ rows, r.length = k) → rows.flatten.length = rows.length * k
  | [], _ => by simp
  | r :: rows, h => by
    have h1 := h r (by simp)
    have h2 := flat_len (k := k) (rows := rows) fun r hr => h r (List.mem_cons_of_mem _ hr)
    simp only [List.flatten_cons, List.length_append, h1, h2, List.length_cons, Nat.add_mul]
    omega
theorem flat_get {k : Nat} : ∀ {rows : List (List Value)} {i j : Nat} {r : List Value} {v : Value}, (∀ r ∈ rows, r.length = k) → rows[i]? = some r → r[j]? = some v → rows.flatten[i * k + j]? = some v
  | [], i, j, r, v, _, h, _ => by simp at h
  | r' :: rows, 0, j, r, v, hk, h, hv => by
    simp at h
    subst h
    have hj : j < r'.length := by
      rcases Nat.lt_or_ge j r'.length with h' | h'
      · exact h'
      · simp [List.getElem?_eq_none h'] at hv
    simp [List.getElem?_append_left hj, hv]
  | r' :: rows, i + 1, j, r, v, hk, h, hv => by
    have h1 := hk r' (by simp)
    have ih := flat_get (k := k) (rows := rows) (i := i) (j := j) (r := r) (v := v) (fun r hr => hk r (List.mem_cons_of_mem _ hr)) (by simpa using h) hv
    rw [List.flatten_cons, List.getElem?_append_right (by rw [h1, Nat.add_mul]; omega), h1, Nat.add_mul]
    rw [show i * k + 1 * k + j - k = i * k + j by omega]
    exact ih

section own
variable {P : Program} {n : Nat} {env : Env} {Γ : List SProp} {L : Loc} {ty t T : TypeId} {x y : Operand} {v : Value} {a : Option Addr} {c k i : Nat} {rows : List (List Value)} {M : Seg}

theorem Own.cell {X : Cx} {w : World} {H : Hp} (h : Own T k rows a c M) (hL : L[i]? = some M) (h3 : St X w H L) {p j : Nat} {r : List Value} (hr : rows[p]? = some r) (hv : r[j]? = some v) :
    w.cell? (((adr a).add (p * k)).add j) = some v := by
  obtain ⟨hk, hM⟩ := h
  rcases hM with ⟨_, _, rfl, _⟩ | ⟨g, cur, rfl, rfl, _, _, hs, ht⟩
  · simp at hr
  · show w.cell? (((⟨g, 0, none⟩ : Addr).add (p * k)).add j) = some v
    have hg : w.heap[g]? = some (.cells cur T (0, 0)) := h3.mem (List.mem_of_getElem? hL) (List.mem_singleton.2 rfl)
    rw [cell_of (cs := cur) (T := T) (z := (0, 0)) (by rw [add_block, add_block]; exact hg) (add_spot j (add_spot _ rfl)), add_off, add_off]
    have := flat_get hk hr hv
    rw [← ht, List.getElem?_take] at this
    split at this
    · simpa using this
    · cases this
theorem Rd.own {p j : Nat} {r : List Value} (h : Own T k rows a c M) (hL : L[i]? = some M) (hr : rows[p]? = some r) (hv : r[j]? = some v) : Rd Γ L (((adr a).add (p * k)).add j) v :=
  fun _ _ _ _ h3 => h.cell hL h3 hr hv
theorem Rd.own0 {p : Nat} {r : List Value} (h : Own T k rows a c M) (hL : L[i]? = some M) (hr : rows[p]? = some r) (hv : r[0]? = some v) : Rd Γ L ((adr a).add (p * k)) v :=
  fun _ _ _ _ h3 => by simpa [Addr.add] using h.cell hL h3 hr hv
theorem RdS.own0 {p : Nat} {r : List Value} (h : Own T k rows a c M) (hL : L[i]? = some M) (hr : rows[p]? = some r) : RdS Γ L ((adr a).add (p * k)) r :=
  fun _ _ _ _ h3 _ _ hj => h.cell hL h3 hr hj
theorem q_indexOwn {ki : IntKind} {z : Int} {p len sz by_ : Nat} {sc : Bool} {zero : Value} {e : TypeId} (ht : P.underlying t = some (.slice e)) (he : tRow P e = some (sc, sz, by_, zero))
    (hx : ev env x = some (.slice a len c)) (hs : Own T sz rows a c M) (hl : len = rows.length) (hy : ev env y = some (.int ki z)) (hz : z = (p : Int)) (hp : p < len) :
    Quiet P (.indexAddr t x y) ty n env Γ L (.pointer (some ((adr a).add (p * sz)))) := by
  obtain ⟨_, hM⟩ := hs
  rcases hM with ⟨_, _, rfl, _⟩ | ⟨g, cur, rfl, rfl, _⟩
  · subst hl; simp at hp
  · exact q_indexRaw ht he hx hy hz hp

/-- The slice turns no more. -/
theorem Own.frozen {X : Cx} {w : World} {H : Hp} (h : Own T k rows a c M) (hL : L[i]? = some M) (h3 : St X w H L) :
    ∃ H', St X w H' (L.eraseIdx i) ∧ H.le H' ∧ (sl a c k rows).holds H' := by
  obtain ⟨hk, hM⟩ := h
  rcases hM with ⟨rfl, rfl, rfl, rfl⟩ | ⟨g, cur, rfl, rfl, h5, h50, hs, ht⟩
  · refine ⟨H, h3.drop (List.eraseIdx_sublist L i), Hp.le_refl H, sl_nil _ _ _ (Nat.zero_le _)⟩
  · obtain ⟨h6, h7⟩ := h3.freeze hL
    refine ⟨_, h6, h7, sl_def.2 ⟨h5, h50, hk, .inr ⟨_, rfl, rfl, cur, T, (0, 0), Hp.with_self H g _, fun p j v hv => ?_⟩⟩⟩
    cases hr : rows[p]? with
    | none => rw [hr] at hv; cases hv
    | some r =>
      rw [hr] at hv
      have := flat_get hk hr hv
      rw [← ht, List.getElem?_take] at this
      split at this
      · simpa using this
      · cases this
theorem At.freezeOwn {X : Cx} {K : Act → World → Prop} (i : Nat) (h : Own T k rows a c M) (hL : L[i]? = some M) (hk : At X n K env (sl a c k rows :: Γ) (L.eraseIdx i)) : At X n K env Γ L :=
  fun ac w H h1 h2 h3 => by
    obtain ⟨H', h4, h5, h6⟩ := h.frozen hL h3
    exact hk ac w H' h1 ⟨h6, h2.mono h5⟩ h4

/-- Rows laid behind others. -/
theorem l_append {e : TypeId} {sc : Bool} {size bytes m len c' : Nat} {zero : Value} {ats : Array TypeId} {a' : Addr} {news : List (List Value)} (hats : ats = #[t, t]) (ht : P.underlying t = some (.slice e)) (he : tRow P e = some (sc, size, bytes, zero))
    (hx : ev env x = some (.slice a len c)) (hy : ev env y = some (.slice (some a') m c')) (hs : Own e size rows a c M) (hl : len = rows.length) (hL : L[i]? = some M)
    (hm : news.length = m) (hn : ∀ r ∈ news, r.length = size) (hsrc : RdS Γ L a' news.flatten) (h1 : news.flatten.all Value.oneCell' = true) (hz : Nat.beq zero.cells.size size = true) (hpos : Nat.blt 0 size = true)
    (hb : (len + m) * bytes ≤ 140737488355328) (hb' : len + m ≤ maxLen) :
    Loud P (.call ⟨.builtin .append, #[x, y], ats⟩) ty n env Γ L (fun v Γ' L' => ∃ a₂ c₂ M₂, v = .slice a₂ (len + m) c₂ ∧ Own e size (rows ++ news) a₂ c₂ M₂ ∧ Γ' = Γ ∧ L' = L.set i M₂) :=
  Loud.ofRun fun X d pos aft g ac w H k1 k2 k3 => by
    subst hats
    subst hl
    obtain ⟨td, inf, e1, e2, _, e3, e4, e5⟩ := tRow_parts he
    have hz' := Nat.eq_of_beq_eq_true hz
    have hpos' : 0 < size := by simpa [Nat.blt_eq] using hpos
    have hfl : news.flatten.length = m * size := by rw [flat_len hn, hm]
    have hall := List.all_eq_true.1 h1
    have hsmall : rows.length + m ≤ 9223372036854775807 := by simp only [maxLen] at hb'; omega
    obtain ⟨hk, hM⟩ := hs
    have hk2 : ∀ r ∈ rows ++ news, r.length = size := fun r hr => (List.mem_append.1 hr).elim (hk r) (hn r)
    have hexec : ∀ {v w'}, (Builtin.append_ #[t, t] ty #[.slice a rows.length c, .slice (some a') m c']).run P w = .ok v w' →
        (execOp ac.eval ⟨d, .call ⟨.builtin .append, #[x, y], #[t, t]⟩, ty, pos, aft, g⟩).run P w = .ok (.value v) w' := fun h => by
      simp [execOp, resolve, invoke, builtin, k1.ev hx, k1.ev hy, h]
    subst e3
    subst e4
    -- a new row
    have grown : ∀ (old : Nat) (olds : List Value), olds.length = rows.length * inf.size → olds = rows.flatten → ∀ (R : Seg), StF X w H R →
        ∃ M₂, Own e inf.size (rows ++ news) (some ⟨w.heap.size, 0, none⟩) (grownCap w (rows.length + m) old e) M₂ ∧
          StF X (w.drew.alloc (.cells (olds.toArray ++ news.flatten.toArray ++ Builtin.zeroCells zero.cells (grownCap w (rows.length + m) old e - (rows.length + m))) e)) H (M₂ ++ R) := by
      intro old olds ho1 ho2 R hR
      have hge := grownCap_ge w (rows.length + m) old e
      have hcm := grownCap_le_maxLen w (rows.length + m) old e hb'
      refine ⟨[(w.heap.size, .cells (olds.toArray ++ news.flatten.toArray ++ Builtin.zeroCells zero.cells (grownCap w (rows.length + m) old e - (rows.length + m))) e (0, 0))], ⟨hk2, .inr ⟨_, _, rfl, rfl, by simpa [hm] using hge, hcm, ?_, ?_⟩⟩, (hR.drawn (w.drawn + 1)).push _⟩
      · simp only [Array.size_append, List.size_toArray, size_zeroCells, hz', ho1, hfl, ← Nat.add_mul]
        congr 1
        omega
      · have hlen : (rows ++ news).length * inf.size = (olds ++ news.flatten).length := by rw [List.length_append, List.length_append, ho1, hfl, hm, Nat.add_mul]
        simp only [Array.toList_append, List.append_assoc]
        rw [← List.append_assoc, hlen, List.take_left, ho2, List.flatten_append]
    rcases hM with ⟨rfl, rfl, rfl, rfl⟩ | ⟨b, cur, rfl, rfl, h5, h6, h7, h8⟩
    · by_cases hm0 : m = 0
      · subst hm0
        have hnn : news = [] := List.eq_nil_of_length_eq_zero hm
        subst hnn
        refine ⟨.slice none 0 0, w, H, Γ, _, hexec ?_, ⟨none, 0, [], rfl, Own.nil _ _, rfl, rfl⟩, Hp.le_refl H, k2, ?_⟩
        · simp [Builtin.append_, run_underlying ht, sizeOf, typeInfo, e2, Builtin.lenOf, Builtin.firstCells, loadCells, loadCellsFrom]
        · exact St.back [] hL (k3.front hL)
      · have hr := run_append_nil (P := P) w t ty e inf zero ht e2 e5 a' m c' news.flatten hfl (hsrc X w H k2 k3) (by omega) (by simp at hsmall; omega) (by simp at hb; omega)
        obtain ⟨M₂, g1, g2⟩ := grown 0 [] (by simp) (by simp) _ (k3.front hL)
        simp only [List.length_nil, Nat.zero_add] at g1 g2 ⊢
        refine ⟨_, _, H, Γ, _, hexec hr, ⟨_, _, M₂, rfl, g1, rfl, rfl⟩, Hp.le_refl H, k2, St.back M₂ hL ?_⟩
        simpa using g2
    · have hg : w.heap[b]? = some (.cells cur e (0, 0)) := k3.mem (List.mem_of_getElem? hL) (List.mem_singleton.2 rfl)
      have hol : rows.flatten.length = rows.length * inf.size := flat_len hk
      by_cases hroom : rows.length + m ≤ c
      · have hfit : rows.length * inf.size + news.flatten.length ≤ cur.size := by rw [hfl, h7, ← Nat.add_mul]; exact Nat.mul_le_mul_right _ hroom
        have hr := run_append_room (P := P) w t ty e inf ht e2 b rows.length c cur hg a' m c' news.flatten hfl (hsrc X w H k2 k3) hall hroom hfit
        refine ⟨_, _, H, Γ, _, hexec hr, ⟨_, _, [(b, .cells (cur.toList.take (rows.length * inf.size) ++ news.flatten ++ cur.toList.drop (rows.length * inf.size + news.flatten.length)).toArray e (0, 0))], rfl, ⟨hk2, .inr ⟨b, _, rfl, rfl, by simpa [hm] using hroom, h6, ?_, ?_⟩⟩, rfl, rfl⟩, Hp.le_refl H, k2, ?_⟩
        · simp only [List.size_toArray, List.length_append, List.length_take, List.length_drop, Array.length_toList]
          omega
        · have hlen : (rows ++ news).length * inf.size = (rows.flatten ++ news.flatten).length := by rw [List.length_append, List.length_append, hol, hfl, hm, Nat.add_mul]
          rw [h8, hlen, List.take_left, List.flatten_append]
        · exact St.back _ hL ((k3.front hL).set rfl rfl rfl (setRow_heap w b cur _ e (0, 0) hg) fun c hc => setRow_other w b c _ hc)
      · have holds : ∀ j u, rows.flatten[j]? = some u → w.cell? ((⟨b, 0, none⟩ : Addr).add j) = some u := fun j u hu => by
          rw [cell_of (cs := cur) (T := e) (z := (0, 0)) (by rw [add_block]; exact hg) (add_spot j rfl), add_off]
          rw [← h8, List.getElem?_take] at hu
          split at hu
          · simpa using hu
          · cases hu
        have hr := run_append_grow (P := P) w t ty e inf zero ht e2 e5 ⟨b, 0, none⟩ rows.length c rows.flatten hol holds a' m c' news.flatten hfl (hsrc X w H k2 k3) (by omega) (by omega) (growslice_fits (by omega) hb)
        have hR : StF X w H (L.eraseIdx i).flatten := (k3.front hL).drop (by simp)
        obtain ⟨M₂, g1, g2⟩ := grown c rows.flatten hol rfl _ hR
        exact ⟨_, _, H, Γ, _, hexec hr, ⟨_, _, M₂, rfl, g1, rfl, rfl⟩, Hp.le_refl H, k2, St.back M₂ hL g2⟩
end own

/-! ### Calls -/
section calls
variable {P : Program} {n : Nat} {env : Env} {Γ : List SProp} {L : Loc} {ty : TypeId}

/-- A function that can be entered. -/
def Enters (P : Program) (f : FuncId) : Prop := ∀ args w, (callFunc f args).run P w = .ok (.enter f args) w
theorem Enters.mk' {f : FuncId} {fn : Func} {c : Code} (hf : P.funcs[f]? = some fn) (hb : fn.body = some c) (hn : (fn.name == "runtime.NumGoroutine") = false) : Enters P f := fun args w => by
  simp only [callFunc, Sem.run_bind, run_program, Result.andThen_ok, hf, hn, Bool.false_eq_true, if_false, hb, Option.isNone_some]
  rfl

theorem wp_of_con {f : FuncId} {args : List Value} {pre : List SProp} {M L0 : Loc} {R : Value → List SProp → Loc → Prop} {X : Cx} {w : World} {H : Hp} {a : Act} {o : Oper} {K : Act → World → Prop} {Q : Exit → Act → World → Prop}
    (he : (execOp a.eval o).run P w = .ok (.enter f args.toArray) w) (c : Con P f args pre M R) (hp : Holds pre H) (hΓ : Holds Γ H) (hs : St X w H (M ++ L0))
    (hk : ∀ v Γ' M' w' H', R v Γ' M' → H.le H' → Holds (Γ' ++ Γ) H' → St X w' H' (M' ++ L0) → K (a.put o.dst v) w') : o.wp P a w K Q := by
  unfold Oper.wp
  rw [he]
  refine (c X w H L0 hp hs).mono ?_
  rintro e w' ⟨v, Γ', M', H', rfl, h1, h2, h3, h4⟩
  exact hk v Γ' M' w' H' h1 h2 (h3.app (hΓ.mono h2)) h4

/-- What a call leaves. -/
def Left (Γ : List SProp) (L0 : Loc) (R : Value → List SProp → Loc → Prop) : Value → List SProp → Loc → Prop :=
  fun v Γ' L' => ∃ Γr Mr, R v Γr Mr ∧ Γ' = Γr ++ Γ ∧ L' = Mr ++ L0

theorem l_call {f : FuncId} {args : List Operand} {vs : List Value} {ats : Array TypeId} {pre : List SProp} {M L0 : Loc} {R : Value → List SProp → Loc → Prop} (hf : Enters P f) (ha : evs env args = some vs)
    (c : Con P f vs pre M R) (hp : ∀ H, Holds Γ H → Holds pre H) (hL : (M ++ L0).Perm L) : Loud P (.call ⟨.value (.func f), args.toArray, ats⟩) ty n env Γ L (Left Γ L0 R) :=
  fun X d pos aft g a w H h1 h2 h3 K Q hk => by
    refine wp_of_con (Γ := Γ) (L0 := L0) ?_ c (hp H h2) h2 (h3.perm hL) fun v Γ' M' w' H' k1 k2 k3 k4 => hk v _ _ w' H' ⟨Γ', M', k1, rfl, rfl⟩ k2 k3 k4
    have := h1.evs ha
    have e : (args.toArray.map a.eval) = vs.toArray := by simp [this]
    simp only [execOp, resolve, Sem.run_bind, e]
    show Result.andThen (Sem.run P (Deferred.ofValue (.func (.func f) #[] #[]) vs.toArray) w) _ = _
    simp [Deferred.ofValue, invoke]
    exact hf _ w
/-- A call through a value. -/
theorem l_callV {f : FuncId} {x : Operand} {first captured : Array Value} {args : List Operand} {vs : List Value} {ats : Array TypeId} {pre : List SProp} {M L0 : Loc} {R : Value → List SProp → Loc → Prop} {all : List Value} (hf : Enters P f)
    (hx : ev env x = some (.func (.func f) first captured)) (ha : evs env args = some vs) (hall : first ++ vs.toArray ++ captured = all.toArray)
    (c : Con P f all pre M R) (hp : ∀ H, Holds Γ H → Holds pre H) (hL : (M ++ L0).Perm L) : Loud P (.call ⟨.value x, args.toArray, ats⟩) ty n env Γ L (Left Γ L0 R) :=
  fun X d pos aft g a w H h1 h2 h3 K Q hk => by
    refine wp_of_con (Γ := Γ) (L0 := L0) ?_ c (hp H h2) h2 (h3.perm hL) fun v Γ' M' w' H' k1 k2 k3 k4 => hk v _ _ w' H' ⟨Γ', M', k1, rfl, rfl⟩ k2 k3 k4
    have := h1.evs ha
    have e : (args.toArray.map a.eval) = vs.toArray := by simp [this]
    simp only [execOp, resolve, Sem.run_bind, e, h1.ev hx]
    simp [Deferred.ofValue, invoke, hall]
    exact hf _ w
end calls

/-! ### The end of a body -/
section results
variable {P : Program} {X : Cx} {n : Nat} {env : Env} {Γ : List SProp} {L : Loc}

/-- What a result variable holds. -/
def RVal (P : Program) (env : Env) (Γ : List SProp) (L : Loc) : ResultVar → Value → Prop
  | .tmp t, v => lk env t = some v
  | .cell p ty, v => ∃ a, lk env p = some (.pointer (some a)) ∧ ∃ sc size bytes zero, tRow P ty = some (sc, size, bytes, zero) ∧
      ((sc = true ∧ Rd Γ L a v) ∨ (sc = false ∧ ∃ vs : List Value, vs.length = size ∧ v = .agg vs.toArray ∧ RdS Γ L a vs))
theorem RVal.tmp {t : Tmp} {v : Value} (h : lk env t = some v) : RVal P env Γ L (.tmp t) v := h
theorem RVal.cell {p ty : Nat} {a : Addr} {v : Value} {size bytes : Nat} {zero : Value} (h : lk env p = some (.pointer (some a))) (ht : tRow P ty = some (true, size, bytes, zero)) (hr : Rd Γ L a v) : RVal P env Γ L (.cell p ty) v :=
  ⟨a, h, _, _, _, _, ht, .inl ⟨rfl, hr⟩⟩
theorem RVal.cellS {p ty : Nat} {a : Addr} {vs : List Value} {size bytes : Nat} {zero : Value} (h : lk env p = some (.pointer (some a))) (ht : tRow P ty = some (false, size, bytes, zero)) (hr : RdS Γ L a vs) (hs : vs.length = size) :
    RVal P env Γ L (.cell p ty) (.agg vs.toArray) :=
  ⟨a, h, _, _, _, _, ht, .inr ⟨rfl, vs, hs, rfl, hr⟩⟩
inductive RVals (P : Program) (env : Env) (Γ : List SProp) (L : Loc) : List ResultVar → List Value → Prop where
  | nil : RVals P env Γ L [] []
  | cons {r : ResultVar} {v : Value} {rs : List ResultVar} {vs : List Value} (h : RVal P env Γ L r v) (t : RVals P env Γ L rs vs) : RVals P env Γ L (r :: rs) (v :: vs)

def oneRes (a : Act) : ResultVar → Sem Value
  | .tmp t => pure (a.tmps.getD t undef)
  | .cell p t => do loadVar t (← asAddr (a.tmps.getD p undef))
theorem RVal.run {r : ResultVar} {v : Value} (h : RVal P env Γ L r v) {a : Act} {w : World} {H : Hp} (h1 : Agr n env a) (h2 : Holds Γ H) (h3 : St X w H L) :
    (oneRes a r).run P w = .ok v w := by
  cases r with
  | tmp t =>
    have := h1.get t v h
    simp [oneRes, this]
  | cell p ty =>
    obtain ⟨ad, e, sc, size, bytes, zero, ht, hv⟩ := h
    have e1 := h1.get p _ e
    rcases hv with ⟨rfl, hr⟩ | ⟨rfl, vs, hs, rfl, hr⟩
    · simp [oneRes, e1, asAddr, loadVar, tRow_agg ht, hr X w H h2 h3]
    · have := run_loadCells_list (P := P) w ad vs (hr X w H h2 h3)
      rw [hs] at this
      simp [oneRes, e1, asAddr, loadVar, tRow_agg ht, tRow_size ht, this]
theorem RVals.run {a : Act} {w : World} {H : Hp} (h1 : Agr n env a) (h2 : Holds Γ H) (h3 : St X w H L) : ∀ {rs : List ResultVar} {vs : List Value}, RVals P env Γ L rs vs →
    (rs.mapM (oneRes a) : Sem (List Value)).run P w = .ok vs w
  | [], _, .nil => by simp
  | r :: rs, _, .cons h t => by
    have e1 := h.run h1 h2 h3
    have e2 := RVals.run h1 h2 h3 t
    rw [List.mapM_cons, Sem.run_bind, e1, Result.andThen_ok, Sem.run_bind, e2]
    rfl
def resVal : List Value → Value
  | [v] => v
  | vs => .tuple vs.toArray

theorem At.results {fn : Func} {H₀ : Hp} {L₀ M : Loc} {R : Value → List SProp → Loc → Prop} {rs : List ResultVar} {vs : List Value} {Γr : List SProp}
    (hr : fn.results = rs.toArray) (hv : RVals P env Γ L rs vs) (hold : old H₀ ∈ Γ) (hΓ : ∀ H, Holds Γ H → Holds Γr H) (hL : (M ++ L₀).Sublist L) (hR : R (resVal vs) Γr M) :
    At X n (Post P fn X H₀ L₀ R .ret) env Γ L := fun a w H h1 h2 h3 => by
  refine ⟨h1.defers, resVal vs, ?_, resVal vs, Γr, M, H, rfl, hR, Holds.mem hold h2, hΓ H h2, h3.drop hL⟩
  have e := RVals.run h1 h2 h3 hv
  have e0 : Go.results fn a.tmps = (fn.results.mapM (oneRes a) >>= fun vs => pure (if h : vs.size = 1 then vs[0] else .tuple vs)) := rfl
  rw [e0, hr, Array.mapM_eq_mapM_toList, Sem.run_bind, map_eq_pure_bind, Sem.run_bind, e]
  simp only [Result.andThen_ok, Sem.run_pure]
  match vs with
  | [] => rfl
  | [v] => rfl
  | v :: u :: us => simp [resVal]
theorem At.resultsN {fn : Func} {H₀ : Hp} {L₀ M : Loc} {R : Value → List SProp → Loc → Prop} {rs : List ResultVar} {vs : List Value} {Γr : List SProp}
    (hr : fn.results = rs.toArray) (hv : RVals P env Γ L rs vs) (hold : old H₀ ∈ Γ) (hΓ : ∀ H, Holds Γ H → Holds Γr H) (hL : (M ++ L₀).Sublist L) (hR : R (resVal vs) Γr M) :
    At X n (Post P fn X H₀ L₀ R .normal) env Γ L := fun a w H h1 h2 h3 => At.results hr hv hold hΓ hL hR a w H h1 h2 h3
end results
end E
end Go.Proofs.Ytmkodknmknfdkaa
