/- Plain laws: the reference's plan of a tree. -/
import Derived.Test.YtmkodknmknfdkaaB0
set_option linter.unusedVariables false
set_option linter.unusedSimpArgs false
namespace Go.Proofs.Ytmkodknmknfdkaa
open E

def leafFields (n : Nod) : Bool := decide (n.key = 0) && (decide (n.left = 0) && (decide (n.right = 0) && (rises n.l && (decide (-1000000 ≤ n.stat) && decide (n.stat ≤ 1000000)))))
theorem leafOk_eq (n : Nod) (k : Kb) : leafOk n k = (leafFields n && n.l.all (fun p => k.has p.k)) := by simp [leafOk, leafFields, Bool.and_assoc]
/-- Bounds, as slices. -/
def Kb.lo (k : Kb) : List Int := if k.isLeast then [k.least] else []
def Kb.hi (k : Kb) : List Int := if k.isMost then [k.most] else []
def planBox (t : Tr) (b : Nat) (a : Option Addr) (n : Nat) (c : Nat) (a2 : Option Addr) (c2 : Nat) (bad : Bool) : E.Seg :=
  [(b, .cells #[.int .i64 t.root, t.ns.val, .slice a n c, .slice a2 t.ns.l.length c2, .bool bad] 109 (0, 0))]
def NodeEnd (t : Tr) (f : Nat) (met : List Nat) (at_ : Int) (k : Kb) (b : Nat) (o : List Nd) (a2 : Option Addr) (c2 : Nat) (v : Value) (Γ : List SProp) (M : E.Loc) : Prop :=
  ∃ (q : List Nd) (a' : Option Addr) (c' : Nat) (M1 M2 : E.Seg) (bad : Bool) (v' : Int), v = .int .i64 v' ∧ Γ = [psP (o ++ q)] ∧ M = [planBox t b a' (o ++ q).length c' a2 c2 bad, M1, M2] ∧ E.Own 33 6 ((o ++ q).map rowN) a' c' M1 ∧
    (o ++ q).length ≤ o.length + (bits t.ns.l.length met).count false ∧
    (∀ s, shape t.p.ns f met at_ k = some s → bad = false ∧ v' = (o.length : Int) ∧ q.map Nd.p = s.lay t.p.ns o.length ∧ E.Own 4 1 ((bits t.ns.l.length (s.places ++ met)).map rowB) a2 c2 M2 ∧
      (o ++ q).length + (bits t.ns.l.length (s.places ++ met)).count false ≤ o.length + (bits t.ns.l.length met).count false) ∧
    (shape t.p.ns f met at_ k = none → bad = true)
def Node77 (t : Tr) (f : Nat) : Prop := ∀ (met : List Nat) (at_ : Int) (k : Kb) (lo hi : Sl Int) (b : Nat) (o : List Nd) (a : Option Addr) (c : Nat) (Mo : E.Seg) (a2 : Option Addr) (c2 : Nat) (Ms : E.Seg),
  (bits t.ns.l.length met).count false < f → E.Own 33 6 (o.map rowN) a c Mo → E.Own 4 1 ((bits t.ns.l.length met).map rowB) a2 c2 Ms → o.length + (bits t.ns.l.length met).count false ≤ 1000000 → lo.l = k.lo → hi.l = k.hi →
  Con Try.prog 77 [.pointer (some ⟨b, 0, none⟩), .int .i64 at_, lo.val, hi.val] [ndsP t.ns, psP t.ns.l, intsP lo, intsP hi, psP o] [planBox t b a o.length c a2 c2 false, Mo, Ms] (NodeEnd t f met at_ k b o a2 c2)
theorem NodeEnd.no {t : Tr} {f : Nat} {met : List Nat} {at_ : Int} {k : Kb} {b : Nat} {o : List Nd} {a a2 : Option Addr} {c c2 : Nat} {Mo Ms : E.Seg} (h : shape t.p.ns f met at_ k = none) (hO : E.Own 33 6 (o.map rowN) a c Mo) :
    NodeEnd t f met at_ k b o a2 c2 (.int .i64 0) [psP o] [planBox t b a o.length c a2 c2 true, Mo, Ms] :=
  ⟨[], a, c, Mo, Ms, true, 0, rfl, by simp, by simp, by simpa using hO, by simp, fun s hs => (by rw [h] at hs; cases hs), fun _ => rfl⟩
theorem dec_le (a b : Int) : decide (a ≤ b) = !decide (b < a) := by
  by_cases h : a ≤ b
  · rw [decide_eq_true h, decide_eq_false (by omega)]; rfl
  · rw [decide_eq_false h, decide_eq_true (by omega)]; rfl
theorem dec_lt (a b : Int) : decide (a < b) = !decide (b ≤ a) := by
  by_cases h : a < b
  · rw [decide_eq_true h, decide_eq_false (by omega)]; rfl
  · rw [decide_eq_false h, decide_eq_true (by omega)]; rfl
theorem lo_bad {k : Kb} {x : Int} : (k.has x) = (!((k.isLeast && decide (x < k.least)) || (k.isMost && decide (k.most ≤ x)))) := by
  unfold Kb.has
  rw [dec_le k.least x, dec_lt x k.most]
  cases k.isLeast <;> cases k.isMost <;> simp
/-- Is a leaf spoilt, as far as one has looked? -/
def badAt (n : Nod) (k : Kb) (j : Nat) : Bool := !(leafFields n && (n.l.take j).all (fun p => k.has p.k))
theorem badAt_zero (n : Nod) (k : Kb) : badAt n k 0 = !leafFields n := by simp [badAt]
theorem badAt_step {n : Nod} {k : Kb} {j : Nat} {y : Pr} (hy : n.l[j]? = some y) : badAt n k (j + 1) = (badAt n k j || !(k.has y.k)) := by
  unfold badAt
  rw [List.take_succ_eq_append_getElem (lt_of_get hy), List.all_append, (List.getElem?_eq_some_iff.1 hy).2]
  simp [Bool.not_and, Bool.or_assoc]
theorem badAt_end {n : Nod} {k : Kb} {j : Nat} (h : n.l.length ≤ j) : badAt n k j = !leafOk n k := by
  rw [leafOk_eq, badAt, List.take_of_length_le h]
theorem lo_len {k : Kb} {l : List Int} (h : l = k.lo) : k.isLeast = decide (0 < (l.length : Int)) := by
  subst h; unfold Kb.lo; cases k.isLeast <;> rfl
theorem hi_len {k : Kb} {l : List Int} (h : l = k.hi) : k.isMost = decide (0 < (l.length : Int)) := by
  subst h; unfold Kb.hi; cases k.isMost <;> rfl
theorem lo_get {k : Kb} {l : List Int} (h : l = k.lo) (hl : 0 < (l.length : Int)) : l[0]? = some k.least := by
  have := lo_len h
  rw [decide_eq_true hl] at this
  subst h
  unfold Kb.lo
  rw [this]
  rfl
theorem hi_get {k : Kb} {l : List Int} (h : l = k.hi) (hl : 0 < (l.length : Int)) : l[0]? = some k.most := by
  have := hi_len h
  rw [decide_eq_true hl] at this
  subst h
  unfold Kb.hi
  rw [this]
  rfl
theorem NodeEnd.leaf {t : Tr} {f i : Nat} {met : List Nat} {k : Kb} {b : Nat} {o : List Nd} {n : Nd} {x : Nod} {a4 a2 : Option Addr} {c4 c2 : Nat} {M4 M2 : E.Seg} {bad : Bool} (hsh : shape t.p.ns f met (i : Int) k = if leafOk x k then some (.leaf i) else none) (hbad : bad = !leafOk x k)
    (hO : E.Own 33 6 ((o ++ [n]).map rowN) a4 c4 M4) (hn : n.p = x) (hg : t.p.ns.getD i default = x) (hS : E.Own 4 1 ((bits t.ns.l.length (i :: met)).map rowB) a2 c2 M2) (hcs : (bits t.ns.l.length (i :: met)).count false + 1 = (bits t.ns.l.length met).count false) :
    NodeEnd t f met (i : Int) k b o a2 c2 (.int .i64 (o.length : Int)) [psP (o ++ [n])] [planBox t b a4 (o.length + 1) c4 a2 c2 bad, M4, M2] := by
  refine ⟨[n], a4, c4, M4, M2, bad, o.length, rfl, rfl, by simp, hO, by rw [List.length_append]; simp only [List.length_singleton]; omega, fun s hs => ?_, fun hs => ?_⟩
  · rw [hsh] at hs
    cases hl : leafOk x k
    · rw [hl] at hs; cases hs
    · rw [hl] at hs
      cases hs
      exact ⟨by rw [hbad, hl]; rfl, rfl, by show [n.p] = [_]; rw [hn, hg], hS, by rw [List.length_append]; simp only [List.length_singleton]; show _ + (bits _ (i :: met)).count false ≤ _; omega⟩
  · rw [hsh] at hs
    cases hl : leafOk x k
    · rw [hbad, hl]; rfl
    · rw [hl] at hs; cases hs
theorem rb1 {n : Nod} {k : Kb} (h : n.l.length ≠ 0) : routeOk n k = false := by
  unfold routeOk
  cases hl : n.l with
  | nil => simp [hl] at h
  | cons a l => simp
theorem rb2 {n : Nod} {k : Kb} (h : n.stat ≠ 0) : routeOk n k = false := by simp [routeOk, h]
theorem rb3 {n : Nod} {k : Kb} (hL : k.isLeast = true) (h : n.key ≤ k.least) : routeOk n k = false := by
  unfold routeOk Kb.has
  rcases Int.lt_or_eq_of_le h with h' | h'
  · rw [hL, decide_eq_false (p := k.least ≤ n.key) (by omega)]; simp
  · rw [hL, decide_eq_true (p := n.key = k.least) h']; simp
theorem rb4 {n : Nod} {k : Kb} (hL : k.isMost = true) (h : k.most ≤ n.key) : routeOk n k = false := by
  unfold routeOk Kb.has
  rw [hL, decide_eq_false (p := n.key < k.most) (by omega)]; simp
theorem rgood {n : Nod} {k : Kb} (h1 : n.l.length = 0) (h2 : n.stat = 0) (h3 : k.isLeast = true → k.least < n.key) (h4 : k.isMost = true → n.key < k.most) : routeOk n k = true := by
  unfold routeOk Kb.has
  rw [List.eq_nil_of_length_eq_zero h1, decide_eq_true h2]
  cases hL : k.isLeast <;> cases hM : k.isMost <;> simp <;> (try have := h3 hL) <;> (try have := h4 hM) <;> omega
theorem route_pure {n : Nod} {k : Kb} (h : routeOk n k = true) : n.l = [] ∧ n.stat = 0 := by
  simp only [routeOk, Bool.and_eq_true, decide_eq_true_eq, List.isEmpty_iff] at h
  exact ⟨h.1, h.2.1⟩
/-- A route, its left side spoilt. -/
theorem NodeEnd.left {t : Tr} {f : Nat} {met : List Nat} {at_ : Int} {k : Kb} {b : Nat} {o q : List Nd} {a a2 : Option Addr} {c c2 : Nat} {Mo Ms : E.Seg} (h : shape t.p.ns f met at_ k = none) (hO : E.Own 33 6 ((o ++ q).map rowN) a c Mo) {N : Nat} (hN : N = (o ++ q).length) {v' : Int}
    (hb : (o ++ q).length ≤ o.length + (bits t.ns.l.length met).count false) : NodeEnd t f met at_ k b o a2 c2 (.int .i64 v') [psP (o ++ q)] [planBox t b a N c a2 c2 true, Mo, Ms] := by
  subst hN
  exact ⟨q, a, c, Mo, Ms, true, v', rfl, rfl, rfl, hO, hb, fun s hs => (by rw [h] at hs; cases hs), fun _ => rfl⟩
theorem psP_mid {H : Hp} {o q : List Nd} {n m : Nd} (h : (psP (o ++ n :: q)).holds H) (hm : (prsP m.ps).holds H) : (psP (o ++ m :: q)).holds H := fun y hy => by
  rcases List.mem_append.1 hy with h' | h'
  · exact h y (List.mem_append_left _ h')
  rcases List.mem_cons.1 h' with h' | h'
  · rw [h']; exact hm
  · exact h y (List.mem_append_right _ (List.mem_cons_of_mem _ h'))
/-- A route, its left side all right. -/
theorem NodeEnd.node {t : Tr} {f i : Nat} {met : List Nat} {k k2 : Kb} {b : Nat} {o q1 q2 : List Nd} {n : Nd} {x : Nod} {l : Sh} {at2 : Int} {a a2 : Option Addr} {c c2 : Nat} {M1 M2 : E.Seg} {bad : Bool} {N : Nat} {v2 : Int} {n0 : Nd}
    (hsh : shape t.p.ns (f + 1) met (i : Int) k = (shape t.p.ns f (l.places ++ i :: met) at2 k2).map (.node i l)) (hg : t.p.ns.getD i default = x) (hr : x.route = true) (hp : x.l = [] ∧ x.stat = 0)
    (hq1 : q1.map Nd.p = l.lay t.p.ns (o ++ [n0]).length) (hO : E.Own 33 6 ((o ++ n :: (q1 ++ q2)).map rowN) a c M1) (hN : N = (((o ++ [n0]) ++ q1) ++ q2).length)
    (hcs : (bits t.ns.l.length (i :: met)).count false + 1 = (bits t.ns.l.length met).count false)
    (hl1 : ((o ++ [n0]) ++ q1).length + (bits t.ns.l.length (l.places ++ i :: met)).count false ≤ (o ++ [n0]).length + (bits t.ns.l.length (i :: met)).count false)
    (hb : (((o ++ [n0]) ++ q1) ++ q2).length ≤ ((o ++ [n0]) ++ q1).length + (bits t.ns.l.length (l.places ++ i :: met)).count false)
    (hn : n = ⟨true, x.key, ((o ++ [n0]).length : Nat), v2, ⟨none, 0, []⟩, 0⟩)
    (hs : ∀ s, shape t.p.ns f (l.places ++ i :: met) at2 k2 = some s → bad = false ∧ v2 = (((o ++ [n0]) ++ q1).length : Int) ∧ q2.map Nd.p = s.lay t.p.ns ((o ++ [n0]) ++ q1).length ∧ E.Own 4 1 ((bits t.ns.l.length (s.places ++ (l.places ++ i :: met))).map rowB) a2 c2 M2 ∧
      (((o ++ [n0]) ++ q1) ++ q2).length + (bits t.ns.l.length (s.places ++ (l.places ++ i :: met))).count false ≤ ((o ++ [n0]) ++ q1).length + (bits t.ns.l.length (l.places ++ i :: met)).count false)
    (hno : shape t.p.ns f (l.places ++ i :: met) at2 k2 = none → bad = true) :
    NodeEnd t (f + 1) met (i : Int) k b o a2 c2 (.int .i64 (o.length : Int)) [psP (o ++ n :: (q1 ++ q2))] [planBox t b a N c a2 c2 bad, M1, M2] := by
  have hlen : (o ++ n :: (q1 ++ q2)).length = (((o ++ [n0]) ++ q1) ++ q2).length := by simp
  refine ⟨n :: (q1 ++ q2), a, c, M1, M2, bad, o.length, rfl, rfl, by rw [hN, hlen], hO, ?_, fun s hs' => ?_, fun hs' => ?_⟩
  · rw [hlen]; simp only [List.length_append, List.length_singleton] at *; omega
  · rw [hsh] at hs'
    cases hr' : shape t.p.ns f (l.places ++ i :: met) at2 k2 with
    | none => rw [hr'] at hs'; cases hs'
    | some r =>
      rw [hr'] at hs'
      cases hs'
      obtain ⟨e1, e2, e3, e4, e5⟩ := hs r hr'
      have eb : bits t.ns.l.length ((Sh.node i l r).places ++ met) = bits t.ns.l.length (r.places ++ (l.places ++ i :: met)) := bits_mem fun j => by
        simp only [Sh.places, List.contains_eq_mem, List.mem_append, List.mem_cons, List.cons_append, List.append_assoc]
        congr 1
        simp only [eq_iff_iff]
        constructor <;> (intro h; rcases h with h | h | h | h <;> simp [h])
      refine ⟨e1, rfl, ?_, by rw [eb]; exact e4, ?_⟩
      · have hq1l : q1.length = l.size := by have := congrArg List.length hq1; rwa [List.length_map, Sh.lay_length] at this
        simp only [Sh.lay, hg, List.map_cons, List.map_append, hq1, e3, List.length_append, List.length_singleton, hq1l]
        congr 1
        rw [hn, e2]
        obtain ⟨x1, x2, x3, x4, x5, x6⟩ := x
        simp only [Nd.p, List.length_append, List.length_singleton, hq1l] at *
        simp [hr, hp.1, hp.2]
      · rw [eb, hlen]; simp only [List.length_append, List.length_singleton] at *; omega
  · rw [hsh] at hs'
    cases hr' : shape t.p.ns f (l.places ++ i :: met) at2 k2 with
    | none => exact hno hr'
    | some r => rw [hr'] at hs'; cases hs'
end Go.Proofs.Ytmkodknmknfdkaa
