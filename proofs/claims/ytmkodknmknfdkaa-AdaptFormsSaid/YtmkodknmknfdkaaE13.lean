/- Maps of whole numbers; zeros laid behind nothing; the head of an own slice. -/
import Derived.Test.YtmkodknmknfdkaaE12
import Derived.MapKept
import Derived.Lib.AppendZeros
set_option linter.unusedVariables false
set_option linter.unusedSimpArgs false
namespace Go.Proofs.Ytmkodknmknfdkaa
namespace E
open Go Go.MapKept

/-! ### Tables -/
def tupd (a c : Int) : List (Int × Int) → List (Int × Int)
  | [] => [(a, c)]
  | p :: l => if p.1 = a then (a, c) :: l else p :: tupd a c l
def tget (x : Int) : List (Int × Int) → Option Int
  | [] => none
  | p :: l => if p.1 = x then some p.2 else tget x l
theorem tget_upd (a c x : Int) (l : List (Int × Int)) : tget x (tupd a c l) = if x = a then some c else tget x l := by
  induction l with
  | nil =>
    simp only [tupd, tget]
    by_cases h : x = a
    · subst h; simp
    · rw [if_neg (fun e => h e.symm), if_neg h]
  | cons p l ih =>
    simp only [tupd]
    by_cases hp : p.1 = a
    · rw [if_pos hp]
      simp only [tget]
      by_cases h : x = a
      · subst h; simp
      · rw [if_neg (fun e => h e.symm), if_neg h, if_neg (fun e => h (by rw [← hp, e]))]
    · rw [if_neg hp]
      simp only [tget, ih]
      by_cases h : x = a
      · subst h; rw [if_neg hp, if_pos rfl]; simp
      · rw [if_neg h]; simp [h]
def entOf (e : MapEntry) : Value × Value := (e.key, e.val)
def tabV (p : Int × Int) : Value × Value := (.int .i64 p.1, .int .i64 p.2)
theorem findNow_tab (a c : Int) : ∀ (es : List MapEntry) (tab : List (Int × Int)) (i : Nat), es.map entOf = tab.map tabV →
    (Instr.findNow (.int .i64) (.int .i64 a) es i = some none ∧ tupd a c tab = tab ++ [(a, c)] ∧ tget a tab = none) ∨
    ∃ j v, Instr.findNow (.int .i64) (.int .i64 a) es i = some (some (i + j, .int .i64 v)) ∧ tupd a c tab = tab.set j (a, c) ∧ tget a tab = some v ∧ j < tab.length ∧ (es[j]?).map (·.key) = some (.int .i64 a)
  | [], [], i, _ => .inl ⟨rfl, rfl, rfl⟩
  | [], _ :: _, _, h => by simp at h
  | _ :: _, [], _, h => by simp at h
  | e :: es, p :: tab, i, h => by
    simp only [List.map_cons, List.cons.injEq, entOf, tabV, Prod.mk.injEq] at h
    obtain ⟨⟨hk, hv⟩, ht⟩ := h
    by_cases hp : p.1 = a
    · refine .inr ⟨0, p.2, ?_, by simp [tupd, hp], by simp [tget, hp], by simp, by simp [hk, hp]⟩
      simp only [Instr.findNow, hk, Instr.sameNow, hp, beq_self_eq_true, if_true, hv, Nat.add_zero]
    · have hs : Instr.sameNow (.int .i64) (.int .i64 a) e.key = some false := by
        rw [hk]
        simp only [Instr.sameNow, if_true]
        congr 1
        simpa using fun e => hp e.symm
      rcases findNow_tab a c es tab (i + 1) ht with ⟨h1, h2, h3⟩ | ⟨j, v, h1, h2, h3, h4, h5⟩
      · exact .inl ⟨by simp only [Instr.findNow, hs, h1], by simp [tupd, hp, h2], by simp [tget, hp, h3]⟩
      · refine .inr ⟨j + 1, v, by simp only [Instr.findNow, hs, h1]; rw [show i + 1 + j = i + (j + 1) by omega], by simp [tupd, hp, h2], by simp [tget, hp, h3], by simpa using h4, by simpa using h5⟩
/-- A map of the call's own, by what it answers. -/
def OwnMap (f : Int → Option Int) (b : Nat) (M : Seg) : Prop := ∃ es clock tab, M = [(b, .map es clock)] ∧ es.toList.map entOf = tab.map tabV ∧ ∀ x, tget x tab = f x
def mupd (f : Int → Option Int) (a c : Int) : Int → Option Int := fun x => if x = a then some c else f x

section
variable {P : Program} {n : Nat} {env : Env} {Γ : List SProp} {L : Loc} {ty t k e : TypeId} {m x y : Operand} {f : Int → Option Int} {b i : Nat} {M : Seg} {a c : Int}
theorem l_makeMap : Loud P (.makeMap t none) ty n env Γ L (fun v Γ' L' => ∃ b M, v = .map (some b) ∧ OwnMap (fun _ => none) b M ∧ Γ' = Γ ∧ L' = M :: L) :=
  Loud.ofRun fun X d pos aft g ac w H h1 h2 h3 => by
    refine ⟨_, _, H, Γ, _, ?_, ⟨w.heap.size, _, rfl, ⟨#[], 0, [], rfl, rfl, fun _ => rfl⟩, rfl, rfl⟩, Hp.le_refl H, h2, h3.push (.map #[] 0)⟩
    simp [execOp, Instr.makeMap, newObj, Sem.run]
theorem q_lookup (ht : P.underlying t = some (.map k e)) (hk : P.underlying k = some (.int .i64)) {sc : Bool} {size bytes : Nat} (he : tRow P e = some (sc, size, bytes, .int .i64 0)) (hm : ev env m = some (.map (some b))) (hx : ev env x = some (.int .i64 a))
    (ho : OwnMap f b M) (hL : L[i]? = some M) : Quiet P (.lookup t m x false) ty n env Γ L (.int .i64 ((f a).getD 0)) :=
  fun X _ _ _ _ ac w H h1 h2 h3 => by
    obtain ⟨es, clock, tab, rfl, htab, hf⟩ := ho
    have hb : w.heap[b]? = some (.map es clock) := h3.mem (List.mem_of_getElem? hL) (List.mem_singleton.2 rfl)
    have hc := run_checkKey (P := P) (w := w) (k := .int .i64 a) hk (show IsKey (.int .i64) (.int .i64 a) from rfl) es.isEmpty 9999
    rcases findNow_tab a 0 es.toList tab 0 htab with ⟨h4, _, h5⟩ | ⟨j, v, h4, _, h5, _, _⟩
    · have hfk := run_findKey (P := P) (w := w) hk h4
      rw [hf] at h5
      simp [execOp, h1.ev hm, h1.ev hx, Instr.lookup, underlying, ht, Go.MapKept.run_getObj_map hb, hc, hfk, tRow_zero he, h5]
    · have hfk := run_findKey (P := P) (w := w) hk h4
      rw [hf] at h5
      simp [execOp, h1.ev hm, h1.ev hx, Instr.lookup, underlying, ht, Go.MapKept.run_getObj_map hb, hc, hfk, h5]
theorem l_mapUpdate (ht : P.underlying t = some (.map k e)) (hk : P.underlying k = some (.int .i64)) (hm : ev env m = some (.map (some b))) (hx : ev env x = some (.int .i64 a)) (hy : ev env y = some (.int .i64 c))
    (ho : OwnMap f b M) (hL : L[i]? = some M) : Loud P (.mapUpdate t m x y) ty n env Γ L (fun _ Γ' L' => ∃ M', OwnMap (mupd f a c) b M' ∧ Γ' = Γ ∧ L' = L.set i M') :=
  Loud.ofSkip fun X d pos aft g ac w H h1 h2 h3 => by
    obtain ⟨es, clock, tab, rfl, htab, hf⟩ := ho
    have hfr := h3.front hL
    have hb : w.heap[b]? = some (.map es clock) := hfr.loc (b, _) (List.mem_cons_self ..)
    have hc := run_checkKey (P := P) (w := w) (k := .int .i64 a) hk (show IsKey (.int .i64) (.int .i64 a) from rfl) false 9999
    have hgets : ∀ x, tget x (tupd a c tab) = mupd f a c x := fun x => by rw [tget_upd, hf]; rfl
    have hset : ∀ o' : Obj, ({ w with heap := w.heap.setIfInBounds b o' } : World).heap[b]? = some o' ∧ ∀ r, r ≠ b → ({ w with heap := w.heap.setIfInBounds b o' } : World).heap[r]? = w.heap[r]? := fun o' => heap_set hb
    rcases findNow_tab a c es.toList tab 0 htab with ⟨h4, h5, _⟩ | ⟨j, v, h4, h5, _, h6, h7⟩
    · have hfk := run_findKey (P := P) (w := w) hk h4
      refine ⟨_, H, Γ, _, ?_, ⟨[(b, .map (es.push { key := .int .i64 a, val := .int .i64 c, born := clock }) (clock + 1))], ⟨_, _, tupd a c tab, rfl, by rw [h5]; simp [htab, entOf, tabV], hgets⟩, rfl, rfl⟩, Hp.le_refl H, h2,
        St.back _ hL (hfr.set (w' := { w with heap := w.heap.setIfInBounds b (.map (es.push { key := .int .i64 a, val := .int .i64 c, born := clock }) (clock + 1)) }) rfl rfl rfl (hset _).1 (hset _).2)⟩
      simp [execOp, h1.ev hm, h1.ev hx, h1.ev hy, Instr.mapUpdate, underlying, ht, Go.MapKept.run_getObj_map hb, hc, hfk, Go.MapKept.run_setObj_map _ hb]
    · have hfk := run_findKey (P := P) (w := w) hk h4
      rw [Nat.zero_add] at hfk
      obtain ⟨e0, he0, hkey⟩ : ∃ e0, es.toList[j]? = some e0 ∧ e0.key = .int .i64 a := by
        cases hj : es.toList[j]? with
        | none => rw [hj] at h7; cases h7
        | some e0 => rw [hj] at h7; exact ⟨e0, rfl, Option.some.inj h7⟩
      have hj2 : es[j]? = some e0 := by simpa using he0
      have hkt := run_keyThatStays (P := P) (w := w) (k := .int .i64 a) (show IsKey (.int .i64) (.int .i64 a) from rfl)
      refine ⟨_, H, Γ, _, ?_, ⟨[(b, .map (es.modify j fun e => { e with key := .int .i64 a, val := .int .i64 c }) clock)], ⟨_, _, tupd a c tab, rfl, ?_, hgets⟩, rfl, rfl⟩, Hp.le_refl H, h2,
        St.back _ hL (hfr.set (w' := { w with heap := w.heap.setIfInBounds b (.map (es.modify j fun e => { e with key := .int .i64 a, val := .int .i64 c }) clock) }) rfl rfl rfl (hset _).1 (hset _).2)⟩
      · simp [execOp, h1.ev hm, h1.ev hx, h1.ev hy, Instr.mapUpdate, underlying, ht, Go.MapKept.run_getObj_map hb, hc, hfk, hj2, hkey, hkt, Go.MapKept.run_setObj_map _ hb]
      · rw [h5, List.map_set, ← htab]
        apply List.ext_getElem?
        intro q
        rw [List.getElem?_set, List.getElem?_map, List.getElem?_map, Array.toList_modify, List.getElem?_modify]
        by_cases hq : j = q
        · subst hq
          rw [he0]
          have hjs : j < es.size := (Array.getElem?_eq_some_iff.1 hj2).1
          simp [entOf, tabV, hjs]
        · simp [hq]
theorem q_cap {a : Option Addr} {len cap : Nat} (ht : P.underlying t = some (.slice e)) (hx : ev env x = some (.slice a len cap)) : Quiet P (.call ⟨.builtin .cap, #[x], #[t]⟩) ty n env Γ L (.int .i64 cap) :=
  fun _ _ _ _ _ ac w _ h1 _ _ => by simp [execOp, resolve, invoke, builtin, Builtin.cap_, h1.ev hx, underlying, ht, goInt]
theorem sub0 {b c k : Nat} : subA (some ⟨b, 0, none⟩) c k 0 = some ⟨b, 0, none⟩ := by
  unfold subA
  split
  · rfl
  · simp [Addr.add]
/-- Zeros laid behind nothing. -/
theorem l_appendZeros {tn : TypeId} {sc : Bool} {size bytes m : Nat} {zero : Value} {z : Int} {ats : Array TypeId} (hats : ats = #[t, tn]) (ht : P.underlying t = some (.slice e)) (htn : P.underlying tn = some (.int .i64)) (he : tRow P e = some (sc, size, bytes, zero))
    (hx : ev env x = some (.slice none 0 0)) (hy : ev env y = some (.int .i64 z)) (hz : z = (m : Int)) (h0 : 0 < m) (hzs : Nat.beq zero.cells.size size = true) (hpos : Nat.blt 0 size = true) (hb : m * bytes ≤ 140737488355328) (hm : m ≤ maxLen) :
    Loud P (.call ⟨.builtin .append, #[x, y], ats⟩) ty n env Γ L (fun v Γ' L' => ∃ b c M, v = .slice (some ⟨b, 0, none⟩) m c ∧ Own e size [] (some ⟨b, 0, none⟩) c M ∧ m ≤ c ∧ Γ' = Γ ∧ L' = M :: L) :=
  Loud.ofRun fun X d pos aft g ac w H k1 k2 k3 => by
    subst hats
    subst hz
    obtain ⟨td, inf, e1, e2, _, e3, e4, e5⟩ := tRow_parts he
    have hz' := Nat.eq_of_beq_eq_true hzs
    have hpos' : 0 < size := by simpa [Nat.blt_eq] using hpos
    subst e3
    subst e4
    have hr := Lib.run_append_nil_zeros (P := P) w t tn ty e inf zero .i64 .i64 ht htn e2 e5 m h0 hpos' (by simp only [maxLen] at hm; omega) (by omega)
    refine ⟨_, _, H, Γ, _, ?_, ⟨w.heap.size, grownCap w m 0 e, [(w.heap.size, .cells (Builtin.zeroCells zero.cells m ++ Builtin.zeroCells zero.cells (grownCap w m 0 e - m)) e (0, 0))], rfl,
      ⟨by simp, .inr ⟨_, _, rfl, rfl, by simp, grownCap_le_maxLen w m 0 e hm, ?_, by simp⟩⟩, grownCap_ge w m 0 e, rfl, rfl⟩, Hp.le_refl H, k2, (k3.drawn (w.drawn + 1)).push _⟩
    · simp [execOp, resolve, invoke, builtin, k1.ev hx, k1.ev hy, hr]
      rfl
    · have hge := grownCap_ge w m 0 e
      simp only [Array.size_append, size_zeroCells, hz', ← Nat.add_mul]
      congr 1
      omega
end
end E
end Go.Proofs.Ytmkodknmknfdkaa
