/- Plain laws: the reference's small functions. -/
import Derived.Test.YtmkodknmknfdkaaB0
set_option linter.unusedVariables false
set_option linter.unusedSimpArgs false
namespace Go.Proofs.Ytmkodknmknfdkaa
open E

def CopyEnd (t : Tr) (v : Value) (Γ : List SProp) (M : E.Loc) : Prop :=
  ∃ (u : Tr) (M' : E.Seg), v = u.val ∧ Γ = [psP u.ns.l] ∧ M = [M'] ∧ E.Own 33 6 (u.ns.l.map rowN) u.ns.a u.ns.c M' ∧ u.p = t.p
theorem copy_step {t : Tr} {k : Nat} {y : Nd} {o : List Nd} {s0 : Sl Pr} (ho : o.map Nd.p = t.p.ns.take k) (hs : s0.l = y.ps.l) (hy : t.p.ns[k]? = some y.p) :
    (o ++ [({ y with ps := s0 } : Nd)]).map Nd.p = t.p.ns.take (k + 1) := by
  have hk := lt_of_get hy
  rw [List.take_succ_eq_append_getElem hk, List.map_append, ho, (List.getElem?_eq_some_iff.1 hy).2]
  simp [Nd.p, hs]
/-- A pair more, or another value: of the first pairs. -/
def withGo (p : Pr) : List Pr → Bool → List Pr
  | [], done => if done then [] else [p]
  | x :: l, done => (if !done && decide (p.k ≤ x.k) then [p] else []) ++ ((if x.k = p.k then [] else [x]) ++ withGo p l (done || decide (p.k ≤ x.k)))
def withT (l : List Pr) (p : Pr) : List Pr := withGo p l false
theorem with_step {l : List Pr} {k : Nat} {x p : Pr} {d d' : Bool} {W o q : List Pr} (hx : l[k]? = some x) (h : W = o ++ withGo p (l.drop k) d) (hd : d' = (d || decide (p.k ≤ x.k)))
    (hq : q = (if !d && decide (p.k ≤ x.k) then [p] else []) ++ (if x.k = p.k then [] else [x])) : W = (o ++ q) ++ withGo p (l.drop (k + 1)) d' := by
  have hk := lt_of_get hx
  rw [List.drop_eq_getElem_cons hk, (List.getElem?_eq_some_iff.1 hx).2] at h
  rw [h, hq, hd]
  simp only [withGo, List.append_assoc]
theorem with_end {l : List Pr} {k : Nat} {p : Pr} {d : Bool} {W o : List Pr} (hk : l.length ≤ k) (h : W = o ++ withGo p (l.drop k) d) : W = o ++ (if d then [] else [p]) := by
  rw [h, List.drop_eq_nil_of_le hk]; rfl
end Go.Proofs.Ytmkodknmknfdkaa
