/- More of what changes memory: make, append from a slice that never turns, clones; calls that read memory of the caller's own; relying upon more as a region runs. -/
import Derived.Test.YtmkodknmknfdkaaE11
import Derived.Laws.MakeOwn
import Derived.Lib.SliceRun
set_option linter.unusedVariables false
set_option linter.unusedSimpArgs false
namespace Go.Proofs.Ytmkodknmknfdkaa
namespace E
open Go

section
variable {P : Program} {n : Nat} {env : Env} {Γ : List SProp} {L : Loc} {ty t e : TypeId} {x y : Operand} {v : Value} {a : Option Addr} {c k i : Nat} {rows : List (List Value)} {M : Seg}

theorem At.pieces {X : Cx} {K : Act → World → Prop} {L' : Loc} (hL : L = L') (h : At X n K env Γ L') : At X n K env Γ L := hL ▸ h
theorem At.lenOf {X : Cx} {K : Act → World → Prop} (hs : sl a c k rows ∈ Γ) (h : rows.length ≤ 9223372036854775807 → At X n K env Γ L) : At X n K env Γ L :=
  At.have _ (fun _ hH => by have h1 := sl_def.1 (hH.mem hs); have h2 := h1.2.1; have h3 := h1.1; simp only [maxLen] at h2; omega) h
theorem madeCells_eq {z : Array Value} {m size : Nat} (hs : z.size = size) : madeCells z (m * size) = ((List.replicate m z.toList).flatten).toArray := zeros_eq hs
theorem l_makeSlice {sc : Bool} {size bytes m : Nat} {zero : Value} {kl kc : IntKind} {zl zc : Int} (ht : P.underlying t = some (.slice e)) (he : tRow P e = some (sc, size, bytes, zero))
    (hx : ev env x = some (.int kl zl)) (hy : ev env y = some (.int kc zc)) (hl : zl = (m : Int)) (hc : zc = (m : Int)) (hz : Nat.beq zero.cells.size size = true) (hb : bytes * m ≤ 281474976710656) (h63 : m ≤ maxLen) :
    Loud P (.makeSlice t x y) ty n env Γ L (fun v Γ' L' => ∃ b M, v = .slice (some ⟨b, 0, none⟩) m m ∧ Own e size (List.replicate m zero.cells.toList) (some ⟨b, 0, none⟩) m M ∧ Γ' = Γ ∧ L' = M :: L) :=
  Loud.ofRun fun X d pos aft g ac w H h1 h2 h3 => by
    subst hl; subst hc
    obtain ⟨td, inf, e1, e2, _, e3, e4, e5⟩ := tRow_parts he
    subst e3; subst e4
    have hz' := Nat.eq_of_beq_eq_true hz
    have hb' : (inf.bytes : Int) * (m : Int) ≤ 281474976710656 := by
      have h : ((inf.bytes * m : Nat) : Int) ≤ 281474976710656 := by omega
      rwa [Int.natCast_mul] at h
    have hr := run_make (P := P) w t e inf zero ht e2 e5 kl kc m m (by omega) (Int.le_refl _) hb' (by simp only [maxLen] at h63; omega)
    simp only [Int.toNat_natCast] at hr
    refine ⟨_, _, H, Γ, _, ?_, ⟨w.heap.size, [(w.heap.size, .cells (madeCells zero.cells (m * inf.size)) e (0, 0))], rfl, ⟨?_, .inr ⟨_, _, rfl, rfl, by simp, h63, size_madeCells _ _, ?_⟩⟩, rfl, rfl⟩, Hp.le_refl H, h2, h3.push _⟩
    · simp [execOp, h1.ev hx, h1.ev hy, hr]
    · intro r hr
      rw [List.eq_of_mem_replicate hr]
      simpa using hz'
    · rw [madeCells_eq hz']
      have hfl : ((List.replicate m zero.cells.toList).flatten).length = m * inf.size := by
        rw [flat_len (k := inf.size) (fun r hr => by rw [List.eq_of_mem_replicate hr]; simpa using hz'), List.length_replicate]
      rw [List.length_replicate]
      exact List.take_of_length_le (Nat.le_of_eq hfl)

theorem loadCells_zero (w : World) (a : Addr) : (loadCells a 0).run P w = .ok #[] w := by
  simp [loadCells, loadCellsFrom]
/-- Nothing laid behind a slice. -/
theorem run_append_none (w : World) (inf : TypeInfo) (ht : P.underlying t = some (.slice e)) (hi : P.info? e = some inf) (a a' : Option Addr) (len c c' : Nat) (hc : len ≤ c) :
    (Builtin.append_ #[t, t] ty #[.slice a len c, .slice a' 0 c']).run P w = .ok (.slice a len c) w := by
  cases a <;> cases a' <;> simp [Builtin.append_, run_underlying ht, sizeOf, typeInfo, hi, Builtin.lenOf, Builtin.firstCells, loadCells_zero, hc, storeCells]

/-- The rows of a slice that never turns, laid behind those of a slice of the call's own. -/
theorem l_appendSl {sc : Bool} {size bytes len m c' cf : Nat} {zero : Value} {ats : Array TypeId} {a' : Option Addr} {news : List (List Value)} (hats : ats = #[t, t]) (ht : P.underlying t = some (.slice e)) (he : tRow P e = some (sc, size, bytes, zero))
    (hx : ev env x = some (.slice a len c)) (hy : ev env y = some (.slice a' m c')) (hs : Own e size rows a c M) (hl : len = rows.length) (hL : L[i]? = some M) (hsrc : sl a' cf size news ∈ Γ) (hm : m = news.length)
    (h1 : ∀ r ∈ news, r.all Value.oneCell' = true) (hz : Nat.beq zero.cells.size size = true) (hpos : Nat.blt 0 size = true) (hb : (len + m) * bytes ≤ 140737488355328) (hb' : len + m ≤ maxLen) :
    Loud P (.call ⟨.builtin .append, #[x, y], ats⟩) ty n env Γ L (fun v Γ' L' => ∃ a₂ c₂ M₂, v = .slice a₂ (len + m) c₂ ∧ Own e size (rows ++ news) a₂ c₂ M₂ ∧ Γ' = Γ ∧ L' = L.set i M₂) := by
  by_cases h0 : news = []
  · subst h0
    have hm0 : m = 0 := by simpa using hm
    subst hm0
    refine Loud.ofRun fun X d pos aft g ac w H k1 k2 k3 => ?_
    subst hats
    subst hl
    obtain ⟨td, inf, e1, e2, _, _⟩ := tRow_parts he
    have hlc : rows.length ≤ c := by
      rcases hs.2 with ⟨_, rfl, rfl, _⟩ | ⟨_, _, _, _, h, _⟩
      · simp
      · exact h
    have hr := run_append_none (P := P) (ty := ty) w inf ht e2 a a' rows.length c c' hlc
    refine ⟨_, w, H, Γ, L.set i M, ?_, ⟨a, c, M, rfl, by simpa using hs, rfl, rfl⟩, Hp.le_refl H, k2, ?_⟩
    · simp [execOp, resolve, invoke, builtin, k1.ev hx, k1.ev hy, hr]
    · exact St.back M hL (k3.front hL)
  · intro X d pos aft g ac w H k1 k2 k3 K Q hk
    obtain ⟨q1, q2, q3, q4⟩ := sl_def.1 (Holds.mem hsrc k2)
    rcases q4 with q4 | ⟨b, rfl, _⟩
    · exact absurd q4 h0
    · refine l_append (rows := rows) hats ht he hx hy hs hl hL hm.symm q3 (news := news) ?_ ?_ hz hpos hb hb' X d pos aft g ac w H k1 k2 k3 K Q hk
      · intro X' w' H' p1 p2 j u hj
        have hs' := Holds.mem hsrc p1
        have hpos' : 0 < size := by simpa [Nat.blt_eq] using hpos
        have hjl := lt_of_get hj
        rw [flat_len q3] at hjl
        have hr : ∃ r, news[j / size]? = some r := get_of_lt (by rw [Nat.div_lt_iff_lt_mul hpos']; exact hjl)
        obtain ⟨r, hr⟩ := hr
        have hrl := q3 r (List.mem_of_getElem? hr)
        obtain ⟨u', hu'⟩ : ∃ u', r[j % size]? = some u' := get_of_lt (by rw [hrl]; exact Nat.mod_lt _ hpos')
        have h5 := flat_get q3 hr hu'
        rw [Nat.mul_comm, Nat.div_add_mod] at h5
        rw [h5] at hj
        cases hj
        have h6 := sl_cell hs' p2 hr hu'
        obtain ⟨_, _, _, q4⟩ := sl_def.1 hs'
        rcases q4 with q4 | ⟨b', hb', hsp, _⟩
        · exact absurd q4 h0
        · cases hb'
          rw [add_add (show (adr (some b)).spot = none from hsp)] at h6
          rw [Nat.mul_comm, Nat.div_add_mod] at h6
          exact h6
      · refine List.all_eq_true.2 fun u hu => ?_
        obtain ⟨r, hr, hur⟩ := List.mem_flatten.1 hu
        exact List.all_eq_true.1 (h1 r hr) u hur

/-- A slice of no capacity, behind which a slice's rows are laid: what comes of it never turns. -/
theorem l_appendNew {sc : Bool} {size bytes m c' cf : Nat} {zero : Value} {ats : Array TypeId} {a' : Option Addr} {news : List (List Value)} (hats : ats = #[t, t]) (ht : P.underlying t = some (.slice e)) (he : tRow P e = some (sc, size, bytes, zero))
    (hx : ev env x = some (.slice a 0 0)) (hy : ev env y = some (.slice a' m c')) (hsrc : sl a' cf size news ∈ Γ) (hm : m = news.length)
    (hz : Nat.beq zero.cells.size size = true) (hb : m * bytes ≤ 140737488355328) (hb' : m ≤ maxLen) (hpos : Nat.blt 0 size = true) :
    Loud P (.call ⟨.builtin .append, #[x, y], ats⟩) ty n env Γ L (fun v Γ' L' => ∃ a₂ c₂, v = .slice a₂ m c₂ ∧ Γ' = sl a₂ c₂ size news :: Γ ∧ L' = L) := by
  refine Loud.ofRun fun X d pos aft g ac w H k1 k2 k3 => ?_
  subst hats
  subst hm
  obtain ⟨td, inf, e1, e2, _, e3, e4, e5⟩ := tRow_parts he
  subst e3; subst e4
  obtain ⟨q1, q2, q3, q4⟩ := sl_def.1 (Holds.mem hsrc k2)
  have hexec : ∀ {v w'}, (Builtin.append_ #[t, t] ty #[.slice a 0 0, .slice a' news.length c']).run P w = .ok v w' →
        (execOp ac.eval ⟨d, .call ⟨.builtin .append, #[x, y], #[t, t]⟩, ty, pos, aft, g⟩).run P w = .ok (.value v) w' := fun h => by
      simp [execOp, resolve, invoke, builtin, k1.ev hx, k1.ev hy, h]
  by_cases h0 : news = []
  · subst h0
    exact ⟨_, w, H, _, L, hexec (run_append_none (P := P) (ty := ty) w inf ht e2 a a' 0 0 c' (Nat.le_refl _)), ⟨a, 0, rfl, rfl, rfl⟩, Hp.le_refl H, ⟨sl_nil _ _ _ (Nat.zero_le _), k2⟩, k3⟩
  · rcases q4 with q4 | ⟨b, rfl, hsp, cs, T, z, hcs, hkk⟩
    · exact absurd q4 h0
    · have hnl : 0 < news.length := List.length_pos_iff.2 h0
      have hz' := Nat.eq_of_beq_eq_true hz
      have hfl : news.flatten.length = news.length * inf.size := flat_len q3
      have hpos' : 0 < inf.size := by simpa [Nat.blt_eq] using hpos
      have hsrc' : ∀ j u, news.flatten[j]? = some u → w.cell? (b.add j) = some u := fun j u hj => by
        have hjl := lt_of_get hj
        rw [hfl] at hjl
        obtain ⟨r, hr⟩ : ∃ r, news[j / inf.size]? = some r := get_of_lt (by rw [Nat.div_lt_iff_lt_mul hpos']; exact hjl)
        have hrl := q3 r (List.mem_of_getElem? hr)
        obtain ⟨u', hu'⟩ : ∃ u', r[j % inf.size]? = some u' := get_of_lt (by rw [hrl]; exact Nat.mod_lt _ hpos')
        have h5 := flat_get q3 hr hu'
        rw [Nat.mul_comm, Nat.div_add_mod] at h5
        rw [h5] at hj
        cases hj
        have h6 := sl_cell (Holds.mem hsrc k2) k3 hr hu'
        rw [add_add (show (adr (some b)).spot = none from hsp), Nat.mul_comm, Nat.div_add_mod] at h6
        exact h6
      have h63 : ((news.length : Nat) : Int) ≤ 9223372036854775807 := by simp only [maxLen] at hb'; omega
      have key : ∃ old, (Builtin.append_ #[t, t] ty #[.slice a 0 0, .slice (some b) news.length c']).run P w = .ok (.slice (some ⟨w.heap.size, 0, none⟩) news.length (grownCap w news.length old e))
          (w.drew.alloc (.cells (news.flatten.toArray ++ Builtin.zeroCells zero.cells (grownCap w news.length old e - news.length)) e)) := by
        cases a with
        | none => exact ⟨0, run_append_nil (P := P) w t ty e inf zero ht e2 e5 b news.length c' news.flatten hfl hsrc' hnl h63 (by omega)⟩
        | some a0 =>
          have hr := run_append_grow (P := P) w t ty e inf zero ht e2 e5 a0 0 0 [] (by simp) (by simp) b news.length c' news.flatten hfl hsrc' (by omega) (by omega) (growslice_fits (by omega) (by rw [Nat.zero_add]; omega))
          simp only [Nat.zero_add] at hr
          exact ⟨0, by simpa using hr⟩
      obtain ⟨old, hr⟩ := key
      have hp := (k3.drawn (w.drawn + 1)).push (.cells (news.flatten.toArray ++ Builtin.zeroCells zero.cells (grownCap w news.length old e - news.length)) e)
      obtain ⟨f1, f2⟩ := hp.freeze (i := 0) rfl
      have hge := grownCap_ge w news.length old e
      have hcm := grownCap_le_maxLen w news.length old e hb'
      refine ⟨_, _, _, _, L, hexec hr, ⟨_, _, rfl, rfl, rfl⟩, f2, ⟨?_, k2.mono f2⟩, f1⟩
      refine sl_def.2 ⟨hge, hcm, q3, .inr ⟨_, rfl, rfl, _, _, _, Hp.with_self H _ _, fun p j u hv => ?_⟩⟩
      cases hrr : news[p]? with
      | none => rw [hrr] at hv; cases hv
      | some r =>
        rw [hrr] at hv
        have := flat_get q3 hrr hv
        have hlt := lt_of_get this
        rw [Array.getElem?_append_left (by simpa using hlt)]
        simpa using this
theorem q_slice00 {ko km : IntKind} {zl zh : Int} {sz by_ len : Nat} {sc : Bool} {zero : Value} {hi mx : Operand} (ht : P.underlying t = some (.slice e)) (he : tRow P e = some (sc, sz, by_, zero))
    (hx : ev env x = some (.slice a len c)) (hhi : ev env hi = some (.int ko zl)) (hmx : ev env mx = some (.int km zh)) (h0 : zl = 0) (h1 : zh = 0) :
    Quiet P (.slice t x none (some hi) (some mx)) ty n env Γ L (.slice a 0 0) :=
  fun X _ _ _ _ ac w H k1 h2 h3 => by
    subst h0; subst h1
    simp [execOp, k1.ev hx, k1.ev hhi, k1.ev hmx, Instr.sliceAt, Instr.slice, underlying, ht, Instr.sliceBounds, Instr.sliceBound, asIntOf, tRow_size he]
end

section
variable {P : Program} {n : Nat} {env : Env} {Γ : List SProp} {L : Loc}
/-- A store of a whole element. -/
theorem l_storeOwn0 {t T : TypeId} {ty : TypeId} {sc : Bool} {size bytes p k c i : Nat} {zero v : Value} {x y : Operand} {rows : List (List Value)} {a : Option Addr} {M : Seg} {r : List Value}
    (ht : tRow P t = some (sc, size, bytes, zero)) (hx : ev env x = some (.pointer (some ((adr a).add (p * k))))) (hy : ev env y = some v) (ho : Own T k rows a c M) (hL : L[i]? = some M) (hr : rows[p]? = some r)
    (hs : Nat.beq v.cells.size size = true) (hfit : Nat.ble (0 + v.cells.size) r.length = true) (h1 : v.cells.toList.all Value.oneCell' = true) :
    Loud P (.store t x y) ty n env Γ L (fun _ Γ' L' => ∃ M', Own T k (rows.set p (spl r 0 v.cells.toList)) a c M' ∧ Γ' = Γ ∧ L' = L.set i M') := by
  refine l_storeOwn ht ?_ hy ho hL hr hs hfit h1
  rw [hx]
  obtain ⟨_, hM⟩ := ho
  rcases hM with ⟨_, _, rfl, _⟩ | ⟨g, cur, rfl, _⟩
  · simp at hr
  · rw [add_add (show (adr (some (⟨g, 0, none⟩ : Addr))).spot = none from rfl), Nat.add_zero]
end

section
variable {P : Program} {n : Nat} {env : Env} {Γ : List SProp} {L : Loc} {ty t t' e : TypeId} {x y : Operand} {a : Option Addr} {c len c' len' : Nat}
theorem q_eqSliceNil (ht : P.underlying t = some (.slice e)) (hx : ev env x = some (.slice a len c)) (hy : ev env y = some (.slice none len' c')) :
    Quiet P (.binOp .eql t x y t') ty n env Γ L (.bool a.isNone) :=
  fun _ _ _ _ _ ac w _ h1 _ _ => by
    have := Lib.run_equalIn_slice_nil (P := P) w 9999 t e a len c len' c' ht
    cases a <;> simp [execOp, h1.ev hx, h1.ev hy, eqGuard, binOp, Op.equal, Op.maxDepth, this]
theorem l_buildSlice0 {sc : Bool} {size bytes : Nat} {zero : Value} (ht : P.underlying t = some (.slice e)) (he : tRow P e = some (sc, size, bytes, zero)) :
    Loud P (.buildSlice t 0 #[]) ty n env Γ L (fun v Γ' L' => ∃ b, v = .slice (some ⟨b, 0, none⟩) 0 0 ∧ Γ' = Γ ∧ L' = L) :=
  Loud.ofRun fun X d pos aft g a w H h1 h2 h3 => by
    refine ⟨_, _, H, Γ, _, ?_, ⟨w.heap.size, rfl, rfl, rfl⟩, Hp.le_refl H, h2, (h3.push (.cells #[] e (0, 0))).drop (List.sublist_cons_self ..)⟩
    simp [execOp, Instr.buildSlice, underlying, ht, tRow_size he, Instr.fill, newRow, newObj, Sem.run, Array.range_zero']
end

/-! ### A call that reads a piece of the caller's own -/
theorem Hp.without_le {H H' : Hp} {g : Nat} (h : H.le H') (hg : H g = none) : H.le (fun b => if b = g then none else H' b) := fun b o e => by
  by_cases hb : b = g
  · subst hb; rw [hg] at e; cases e
  · simp [hb, h b o e]
section borrow
variable {X : Cx} {n : Nat} {P : Program} {ops : Array Oper} {Q : Exit → Act → World → Prop} {rest : List Oper} {env : Env} {Γ : List SProp} {L : Loc}
variable {d : Nat} {ty : TypeId} {pos : String} {aft : Array Edge} {f : FuncId} {args : List Operand} {vs : List Value} {ats : Array TypeId} {pre : List SProp} {M L0 : Loc} {R : Value → List SProp → Loc → Prop}
/-- The call reads a slice of the caller's own, which is the caller's own again behind it; the facts that the call tells are not kept. -/
theorem l_borrow {T : TypeId} {k c i : Nat} {rows : List (List Value)} {a : Option Addr} {Mo : Seg} (hf : Enters P f) (ha : evs env args = some vs) (co : Con P f vs pre M R) (ho : Own T k rows a c Mo) (hi : L[i]? = some Mo)
    (hp : ∀ H, Holds (sl a c k rows :: Γ) H → Holds pre H) (hL : (M ++ L0).Perm (L.eraseIdx i)) :
    Loud P (.call ⟨.value (.func f), args.toArray, ats⟩) ty n env Γ L (fun v Γ' L' => ∃ Γr Mr, R v Γr Mr ∧ Γ' = Γ ∧ L' = Mo :: (Mr ++ L0)) :=
  fun X d pos aft g ac w H h1 h2 h3 K Q hk => by
    have hent : (execOp ac.eval ⟨d, .call ⟨.value (.func f), args.toArray, ats⟩, ty, pos, aft, g⟩).run P w = .ok (.enter f vs.toArray) w := by
      have := h1.evs ha
      have e : (args.toArray.map ac.eval) = vs.toArray := by simp [this]
      simp only [execOp, resolve, Sem.run_bind, e]
      show Result.andThen (Sem.run P (Deferred.ofValue (.func (.func f) #[] #[]) vs.toArray) w) _ = _
      simp [Deferred.ofValue, invoke]
      exact hf _ w
    obtain ⟨hkr, hM⟩ := ho
    rcases hM with ⟨rfl, rfl, rfl, rfl⟩ | ⟨g', cur, rfl, rfl, h5, h50, hs, ht⟩
    · unfold Oper.wp
      rw [hent]
      have hz : (sl none 0 k []).holds H := sl_nil _ _ _ (Nat.zero_le _)
      have h4 : St X w H (M ++ L0) := by
        have h6 := (show St X w H ([] :: L.eraseIdx i) from h3.front hi)
        have h7 : St X w H (L.eraseIdx i) := h6.drop (List.sublist_cons_self ..)
        exact h7.perm hL
      refine (co X w H L0 (hp H ⟨hz, h2⟩) h4).mono ?_
      rintro e w' ⟨v, Γ', M', H', rfl, k1, k2, k3, k4⟩
      exact hk v _ _ w' H' ⟨Γ', M', k1, rfl, rfl⟩ k2 (h2.mono k2) k4
    · have hg : H g' = none := (h3.front hi).apart (g', .cells cur T (0, 0)) (by simp)
      have hfr := Own.frozen ⟨hkr, .inr ⟨g', cur, rfl, rfl, h5, h50, hs, ht⟩⟩ hi h3
      have hfz := h3.freeze hi
      have hsl : (sl (some ⟨g', 0, none⟩) c k rows).holds (H.with g' (.cells cur T (0, 0))) := by
        refine sl_def.2 ⟨h5, h50, hkr, .inr ⟨_, rfl, rfl, cur, T, (0, 0), Hp.with_self H g' _, fun p j v hv => ?_⟩⟩
        cases hr : rows[p]? with
        | none => rw [hr] at hv; cases hv
        | some r =>
          rw [hr] at hv
          have := flat_get hkr hr hv
          rw [← ht, List.getElem?_take] at this
          split at this
          · simpa using this
          · cases this
      unfold Oper.wp
      rw [hent]
      refine (co X w _ L0 (hp _ ⟨hsl, h2.mono hfz.2⟩) (hfz.1.perm hL)).mono ?_
      rintro e w' ⟨v, Γ', M', H', rfl, k1, k2, k3, k4⟩
      have hle : H.le (fun b => if b = g' then none else H' b) := Hp.without_le (Hp.le_trans hfz.2 k2) hg
      refine hk v _ _ w' _ ⟨Γ', M', k1, rfl, rfl⟩ hle (h2.mono hle) ?_
      have hH' : H' g' = some (.cells cur T (0, 0)) := k2 _ _ (Hp.with_self H g' _)
      refine ⟨k4.os, k4.tape, k4.output, fun b o e => ?_, fun p hp' => ?_, fun p hp' => ?_, ?_⟩
      · split at e
        · cases e
        · exact k4.sub b o e
      · simp only [List.flatten_cons, List.singleton_append, List.mem_cons] at hp'
        rcases hp' with rfl | hp'
        · exact k4.sub _ _ hH'
        · exact k4.loc p hp'
      · simp only [List.flatten_cons, List.singleton_append, List.mem_cons] at hp'
        rcases hp' with rfl | hp'
        · simp
        · split
          · rfl
          · exact k4.apart p hp'
      · simp only [List.flatten_cons, List.singleton_append, List.map_cons, List.nodup_cons]
        refine ⟨fun hm => ?_, k4.nodup⟩
        obtain ⟨p, hp', hpe⟩ := List.mem_map.1 hm
        have := k4.apart p hp'
        rw [hpe, hH'] at this
        cases this
theorem At.callB {T : TypeId} {k c i : Nat} {rows : List (List Value)} {a : Option Addr} {Mo : Seg} (hf : Enters P f) (ha : evs env args = some vs) (co : Con P f vs pre M R) (ho : Own T k rows a c Mo) (hi : L[i]? = some Mo)
    (hp : ∀ H, Holds (sl a c k rows :: Γ) H → Holds pre H) (hL : (M ++ L0).Perm (L.eraseIdx i)) (hd : Nat.blt d n = true)
    (h : ∀ v Γr Mr, R v Γr Mr → At X n (wpList P ops Q rest) ((d, v) :: env) Γ (Mo :: (Mr ++ L0))) :
    At X n (wpList P ops Q (⟨some d, .call ⟨.value (.func f), args.toArray, ats⟩, ty, pos, aft, none⟩ :: rest)) env Γ L :=
  At.loud (l_borrow hf ha co ho hi hp hL) hd fun v _ _ ⟨Γr, Mr, hr, e1, e2⟩ => by subst e1; subst e2; exact h v Γr Mr hr

variable {l tail : List Oper} {r : Ord} {i : Nat} {Lr : Loc} {op : Op}
/-! ### The same in a region whose order is open; from here on all own memory may be relied upon -/
theorem AtO.loudA (ho : l[i]? = some ⟨some d, op, ty, pos, aft, none⟩) (hq : Loud P op ty n env Γ L R) (hd : Nat.blt d n = true)
    (hk : ∀ v Γ' L', R v Γ' L' → (∀ H, Holds Γ' H → Holds Γ H) ∧ Lr.Sublist L')
    (h : ∀ v Γ' L', R v Γ' L' → AtO X n P l Q tail r L' ((d, v) :: env) Γ' L') : AtO X n P l Q tail (.o i r) Lr env Γ L := fun a w H h1 h2 h3 => by
  show wpOp P l.toArray Q i _ a w
  unfold wpOp
  have ho' : l.toArray[i]? = some ⟨some d, op, ty, pos, aft, none⟩ := by simpa using ho
  simp only [ho']
  have hw0 : Region.wanted (⟨some d, op, ty, pos, aft, none⟩ : Oper) (yielded l.toArray a.tmps) = true := rfl
  rw [if_pos hw0]
  refine .inl (hq X _ _ _ _ a w H h1 h2 h3 _ _ fun v Γ' L' w' H' hr' _ h4 h5 => ?_)
  obtain ⟨k1, k2⟩ := hk v Γ' L' hr'
  exact ⟨Rely X Γ' L', ⟨H', h4, h5⟩, fun u ⟨H1, q1, q2⟩ => ⟨H1, k1 H1 q1, q2.drop k2⟩, h v Γ' L' hr' _ w' H' (h1.put hd) h4 h5⟩
theorem AtO.loudNA (ho : l[i]? = some ⟨none, op, ty, pos, aft, none⟩) (hq : Loud P op ty n env Γ L R)
    (hk : ∀ v Γ' L', R v Γ' L' → (∀ H, Holds Γ' H → Holds Γ H) ∧ Lr.Sublist L')
    (h : ∀ v Γ' L', R v Γ' L' → AtO X n P l Q tail r L' env Γ' L') : AtO X n P l Q tail (.o i r) Lr env Γ L := fun a w H h1 h2 h3 => by
  show wpOp P l.toArray Q i _ a w
  unfold wpOp
  have ho' : l.toArray[i]? = some ⟨none, op, ty, pos, aft, none⟩ := by simpa using ho
  simp only [ho']
  have hw0 : Region.wanted (⟨none, op, ty, pos, aft, none⟩ : Oper) (yielded l.toArray a.tmps) = true := rfl
  rw [if_pos hw0]
  refine .inl (hq X _ _ _ _ a w H h1 h2 h3 _ _ fun v Γ' L' w' H' hr' _ h4 h5 => ?_)
  obtain ⟨k1, k2⟩ := hk v Γ' L' hr'
  exact ⟨Rely X Γ' L', ⟨H', h4, h5⟩, fun u ⟨H1, q1, q2⟩ => ⟨H1, k1 H1 q1, q2.drop k2⟩, h v Γ' L' hr' _ w' H' h1 h4 h5⟩
theorem AtO.loudGA {j : Nat} {b c : Bool} (ho : l[i]? = some ⟨some d, op, ty, pos, aft, some (j, c)⟩) (hg : gd l env j = some b) (hb : b = c) (hq : Loud P op ty n env Γ L R) (hd : Nat.blt d n = true)
    (hk : ∀ v Γ' L', R v Γ' L' → (∀ H, Holds Γ' H → Holds Γ H) ∧ Lr.Sublist L')
    (h : ∀ v Γ' L', R v Γ' L' → AtO X n P l Q tail r L' ((d, v) :: env) Γ' L') : AtO X n P l Q tail (.o i r) Lr env Γ L := fun a w H h1 h2 h3 => by
  show wpOp P l.toArray Q i _ a w
  unfold wpOp
  have ho' : l.toArray[i]? = some ⟨some d, op, ty, pos, aft, some (j, c)⟩ := by simpa using ho
  simp only [ho']
  rw [if_pos (by subst hb; simp [Region.wanted, gd_spec hg h1])]
  refine .inl (hq X _ _ _ _ a w H h1 h2 h3 _ _ fun v Γ' L' w' H' hr' _ h4 h5 => ?_)
  obtain ⟨k1, k2⟩ := hk v Γ' L' hr'
  exact ⟨Rely X Γ' L', ⟨H', h4, h5⟩, fun u ⟨H1, q1, q2⟩ => ⟨H1, k1 H1 q1, q2.drop k2⟩, h v Γ' L' hr' _ w' H' (h1.put hd) h4 h5⟩
theorem AtO.shutXA {j : Nat} {b c : Bool} (ho : l[i]? = some ⟨some d, op, ty, pos, aft, some (j, c)⟩) (hg : gd l env j = some b) (hb : b = !c) (hd : Nat.blt d n = true) (hr : Lr.Sublist L)
    (h : AtO X n P l Q tail r L ((d, undef) :: env) Γ L) : AtO X n P l Q tail (.o i r) Lr env Γ L := fun a w H h1 h2 h3 => by
  show wpOp P l.toArray Q i _ a w
  unfold wpOp
  have ho' : l.toArray[i]? = some ⟨some d, op, ty, pos, aft, some (j, c)⟩ := by simpa using ho
  simp only [ho']
  rw [if_neg (by subst hb; simp only [Region.wanted, gd_spec hg h1]; cases c <;> simp)]
  exact ⟨Rely X Γ L, ⟨H, h2, h3⟩, fun u ⟨H1, q1, q2⟩ => ⟨H1, q1, q2.drop hr⟩, h _ w H (h1.put hd) h2 h3⟩
theorem AtO.shutXU {j : Nat} {c : Bool} (ho : l[i]? = some ⟨some d, op, ty, pos, aft, some (j, c)⟩) (hg : gdU l env j = true) (hd : Nat.blt d n = true) (hr : Lr.Sublist L)
    (h : AtO X n P l Q tail r L ((d, undef) :: env) Γ L) : AtO X n P l Q tail (.o i r) Lr env Γ L := fun a w H h1 h2 h3 => by
  show wpOp P l.toArray Q i _ a w
  unfold wpOp
  have ho' : l.toArray[i]? = some ⟨some d, op, ty, pos, aft, some (j, c)⟩ := by simpa using ho
  simp only [ho']
  rw [if_neg (by simp only [Region.wanted, gdU_spec hg h1]; cases c <;> simp)]
  exact ⟨Rely X Γ L, ⟨H, h2, h3⟩, fun u ⟨H1, q1, q2⟩ => ⟨H1, q1, q2.drop hr⟩, h _ w H (h1.put hd) h2 h3⟩
theorem AtO.callA (ho : l[i]? = some ⟨some d, .call ⟨.value (.func f), args.toArray, ats⟩, ty, pos, aft, none⟩) (hf : Enters P f) (ha : evs env args = some vs) (c : Con P f vs pre M R) (hp : ∀ H, Holds Γ H → Holds pre H) (hL : (M ++ L0).Perm L) (hd : Nat.blt d n = true)
    (hs : Lr.Sublist L0) (h : ∀ v Γr Mr, R v Γr Mr → AtO X n P l Q tail r (Mr ++ L0) ((d, v) :: env) (Γr ++ Γ) (Mr ++ L0)) :
    AtO X n P l Q tail (.o i r) Lr env Γ L :=
  AtO.loudA ho (l_call hf ha c hp hL) hd (fun v _ _ ⟨Γr, Mr, hr, e1, e2⟩ => by subst e1; subst e2; exact ⟨fun _ hh => hh.right, hs.trans (List.sublist_append_right Mr L0)⟩)
    fun v _ _ ⟨Γr, Mr, hr, e1, e2⟩ => by subst e1; subst e2; exact h v Γr Mr hr
theorem AtO.callGA {j : Nat} {b c' : Bool} (ho : l[i]? = some ⟨some d, .call ⟨.value (.func f), args.toArray, ats⟩, ty, pos, aft, some (j, c')⟩) (hg : gd l env j = some b) (hb : b = c') (hf : Enters P f) (ha : evs env args = some vs) (c : Con P f vs pre M R) (hp : ∀ H, Holds Γ H → Holds pre H) (hL : (M ++ L0).Perm L) (hd : Nat.blt d n = true)
    (hs : Lr.Sublist L0) (h : ∀ v Γr Mr, R v Γr Mr → AtO X n P l Q tail r (Mr ++ L0) ((d, v) :: env) (Γr ++ Γ) (Mr ++ L0)) :
    AtO X n P l Q tail (.o i r) Lr env Γ L :=
  AtO.loudGA ho hg hb (l_call hf ha c hp hL) hd (fun v _ _ ⟨Γr, Mr, hr, e1, e2⟩ => by subst e1; subst e2; exact ⟨fun _ hh => hh.right, hs.trans (List.sublist_append_right Mr L0)⟩)
    fun v _ _ ⟨Γr, Mr, hr, e1, e2⟩ => by subst e1; subst e2; exact h v Γr Mr hr
theorem AtO.callVA {x : Operand} {first captured : Array Value} {all : List Value} (ho : l[i]? = some ⟨some d, .call ⟨.value x, args.toArray, ats⟩, ty, pos, aft, none⟩) (hf : Enters P f) (hx : ev env x = some (.func (.func f) first captured)) (ha : evs env args = some vs) (hall : first ++ vs.toArray ++ captured = all.toArray)
    (c : Con P f all pre M R) (hp : ∀ H, Holds Γ H → Holds pre H) (hL : (M ++ L0).Perm L) (hd : Nat.blt d n = true)
    (hs : Lr.Sublist L0) (h : ∀ v Γr Mr, R v Γr Mr → AtO X n P l Q tail r (Mr ++ L0) ((d, v) :: env) (Γr ++ Γ) (Mr ++ L0)) :
    AtO X n P l Q tail (.o i r) Lr env Γ L :=
  AtO.loudA ho (l_callV hf hx ha hall c hp hL) hd (fun v _ _ ⟨Γr, Mr, hr, e1, e2⟩ => by subst e1; subst e2; exact ⟨fun _ hh => hh.right, hs.trans (List.sublist_append_right Mr L0)⟩)
    fun v _ _ ⟨Γr, Mr, hr, e1, e2⟩ => by subst e1; subst e2; exact h v Γr Mr hr
theorem AtO.front (i : Nat) {s : Seg} {o : Ord} (hi : L[i]? = some s) (h : AtO X n P l Q tail o Lr env Γ (s :: L.eraseIdx i)) : AtO X n P l Q tail o Lr env Γ L := At.perm _ (perm_at hi).symm h
end borrow
end E
end Go.Proofs.Ytmkodknmknfdkaa
