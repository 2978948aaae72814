/- A map's entry laid in. -/
import Derived.Test.YtmkodknmknfdkaaE13
set_option linter.unusedVariables false
set_option linter.unusedSimpArgs false
namespace Go.Proofs.Ytmkodknmknfdkaa
namespace E
open Go Go.MapKept
section
variable {P : Program} {n : Nat} {env : Env} {Γ : List SProp} {L : Loc} {ty t k e : TypeId} {m x y : Operand} {f : Int → Option Int} {b i : Nat} {M : Seg} {a c : Int}
theorem l_mapInsert (ht : P.underlying t = some (.map k e)) (hk : P.underlying k = some (.int .i64)) (hm : ev env m = some (.map (some b))) (hx : ev env x = some (.int .i64 a)) (hy : ev env y = some (.int .i64 c))
    (ho : OwnMap f b M) (hL : L[i]? = some M) : Loud P (.insert t m x y) ty n env Γ L (fun _ Γ' L' => ∃ M', OwnMap (mupd f a c) b M' ∧ Γ' = Γ ∧ L' = L.set i M') :=
  Loud.ofSkip fun X d pos aft g ac w H h1 h2 h3 => by
    obtain ⟨es, clock, tab, rfl, htab, hf⟩ := ho
    have hfr := h3.front hL
    have hb : w.heap[b]? = some (.map es clock) := hfr.loc (b, _) (List.mem_cons_self ..)
    have hc := run_checkKey (P := P) (w := w) (k := .int .i64 a) hk (show IsKey (.int .i64) (.int .i64 a) from rfl) false 9999
    have hgets : ∀ x, tget x (tupd a c tab) = mupd f a c x := fun x => by rw [tget_upd, hf]; rfl
    have hset : ∀ o' : Obj, ({ w with heap := w.heap.setIfInBounds b o' } : World).heap[b]? = some o' ∧ ∀ r, r ≠ b → ({ w with heap := w.heap.setIfInBounds b o' } : World).heap[r]? = w.heap[r]? := fun o' => heap_set hb
    rcases findNow_tab a c es.toList tab 0 htab with ⟨h4, h5, _⟩ | ⟨j, v, h4, h5, _, h6, h7⟩
    · have hfk := run_findKey (P := P) (w := w) hk h4
      refine ⟨_, H, Γ, _, ?_, ⟨[(b, .map (es.push { key := .int .i64 a, val := .int .i64 c, born := clock }) (clock + 1))], ⟨_, _, tupd a c tab, rfl, by rw [h5]; simp [htab, entOf, tabV], hgets⟩, rfl, rfl⟩, Hp.le_refl H, h2,
        St.back _ hL (hfr.set (w' := { w with heap := w.heap.setIfInBounds b (.map (es.push { key := .int .i64 a, val := .int .i64 c, born := clock }) (clock + 1)) }) rfl rfl rfl (hset _).1 (hset _).2)⟩
      simp [execOp, h1.ev hm, h1.ev hx, h1.ev hy, Instr.mapUpdate, underlying, ht, Go.MapKept.run_getObj_map hb, hc, hfk, Go.MapKept.run_setObj_map _ hb]
    · have hfk := run_findKey (P := P) (w := w) hk h4
      rw [Nat.zero_add] at hfk
      obtain ⟨e0, he0, hkey⟩ : ∃ e0, es.toList[j]? = some e0 ∧ e0.key = .int .i64 a := by
        cases hj : es.toList[j]? with
        | none => rw [hj] at h7; cases h7
        | some e0 => rw [hj] at h7; exact ⟨e0, rfl, Option.some.inj h7⟩
      have hj2 : es[j]? = some e0 := by simpa using he0
      have hkt := run_keyThatStays (P := P) (w := w) (k := .int .i64 a) (show IsKey (.int .i64) (.int .i64 a) from rfl)
      refine ⟨_, H, Γ, _, ?_, ⟨[(b, .map (es.modify j fun e => { e with key := .int .i64 a, val := .int .i64 c }) clock)], ⟨_, _, tupd a c tab, rfl, ?_, hgets⟩, rfl, rfl⟩, Hp.le_refl H, h2,
        St.back _ hL (hfr.set (w' := { w with heap := w.heap.setIfInBounds b (.map (es.modify j fun e => { e with key := .int .i64 a, val := .int .i64 c }) clock) }) rfl rfl rfl (hset _).1 (hset _).2)⟩
      · simp [execOp, h1.ev hm, h1.ev hx, h1.ev hy, Instr.mapUpdate, underlying, ht, Go.MapKept.run_getObj_map hb, hc, hfk, hj2, hkey, hkt, Go.MapKept.run_setObj_map _ hb]
      · rw [h5, List.map_set, ← htab]
        apply List.ext_getElem?
        intro q
        rw [List.getElem?_set, List.getElem?_map, List.getElem?_map, Array.toList_modify, List.getElem?_modify]
        by_cases hq : j = q
        · subst hq
          rw [he0]
          have hjs : j < es.size := (Array.getElem?_eq_some_iff.1 hj2).1
          simp [entOf, tabV, hjs]
        · simp [hq]
end
end E
end Go.Proofs.Ytmkodknmknfdkaa
