/- Plain laws: Set. -/
import Derived.Test.YtmkodknmknfdkaaB0
set_option linter.unusedVariables false
set_option linter.unusedSimpArgs false
namespace Go.Proofs.Ytmkodknmknfdkaa
open E

section
variable {t : PT} {a : Int} {i : Nat} {l : List Pr} {stat : Int} {n : Nod}
theorem set_no1 (h : (mayT t).isSome = false) : setT t a l stat = none := by simp [setT, none_of h]
theorem set_no2 (h : a < 0) : setT t a l stat = none := by simp [setT, h]
theorem set_no3 (h : t.ns.length ≤ i) : setT t (i : Int) l stat = none := by
  have : t.ns[i]? = none := List.getElem?_eq_none h
  simp [setT, this]
theorem set_no4 (hn : t.ns[i]? = some n) (h : n.route = true) : setT t (i : Int) l stat = none := by
  simp [setT, hn, h]
theorem set_no5 (hn : t.ns[i]? = some n) (hr : n.route = false) (h : (mayT ⟨t.root, t.ns.set i { n with l := l, stat := stat }⟩).isSome = false) : setT t (i : Int) l stat = none := by
  unfold setT
  split
  · rfl
  split
  · rfl
  simp only [Int.toNat_natCast, hn]
  rw [if_neg (by rw [hr]; decide), none_of h]
  rfl
theorem set_ok {s : Sh} (hs : mayT t = some s) (hn : t.ns[i]? = some n) (hr : n.route = false) (h : (mayT ⟨t.root, t.ns.set i { n with l := l, stat := stat }⟩).isSome = true) :
    setT t (i : Int) l stat = some ⟨t.root, t.ns.set i { n with l := l, stat := stat }⟩ := by
  have h0 : ¬ ((i : Int) < 0) := by omega
  unfold setT
  rw [if_neg (by simp [hs]), if_neg h0]
  simp only [Int.toNat_natCast, hn]
  obtain ⟨s', hs'⟩ := Option.isSome_iff_exists.1 h
  rw [if_neg (by rw [hr]; decide), if_neg (by rw [hs']; simp)]
end
theorem set_step_at {t : Tr} {i : Nat} {x : Nd} {l : Sl Pr} {stat : Int} {o : List Nd} {s0 : Sl Pr} (ho : o.map Nd.p = (t.p.ns.set i { x.p with l := l.l, stat := stat }).take i) (hs : s0.l = l.l) (hx : t.p.ns[i]? = some x.p) :
    (o ++ [({ x with ps := s0, stat := stat } : Nd)]).map Nd.p = (t.p.ns.set i { x.p with l := l.l, stat := stat }).take (i + 1) := by
  have hi := lt_of_get hx
  rw [List.take_succ_eq_append_getElem (by simpa using hi), List.map_append, ho]
  simp [Nd.p, hs]
theorem set_step_ne {t : Tr} {i k : Nat} {x : Nod} {y : Nd} {o : List Nd} {s0 : Sl Pr} (ho : o.map Nd.p = (t.p.ns.set i x).take k) (hs : s0.l = y.ps.l) (hy : t.p.ns[k]? = some y.p) (hne : k ≠ i) :
    (o ++ [({ y with ps := s0 } : Nd)]).map Nd.p = (t.p.ns.set i x).take (k + 1) := by
  have hk := lt_of_get hy
  rw [List.take_succ_eq_append_getElem (by simpa using hk), List.map_append, ho]
  rw [List.getElem_set_ne (Ne.symm hne), (List.getElem?_eq_some_iff.1 hy).2]
  simp [Nd.p, hs]
end Go.Proofs.Ytmkodknmknfdkaa
