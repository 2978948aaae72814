/- Plain laws: what the laws of trees need beyond. -/
import Derived.Test.YtmkodknmknfdkaaP9
namespace Go.Proofs.Ytmkodknmknfdkaa
open E Go

theorem wrapU (n : Int) : IntKind.u64.wrap n = n % 18446744073709551616 := by simp [IntKind.wrap, IntKind.bits, IntKind.signed]
/-- One of so many places. -/
theorem pick {a : Int} {n : Nat} (h0 : 0 < n) (h1 : n ≤ 4611686018427387904) : ∃ i : Nat, i < n ∧ IntKind.i64.wrap (Int.tmod (IntKind.u64.wrap a) (IntKind.u64.wrap (n : Int))) = (i : Int) ∧ IntKind.u64.wrap (n : Int) ≠ 0 := by
  have e1 : IntKind.u64.wrap (n : Int) = (n : Int) := by rw [wrapU]; omega
  obtain ⟨A, hA⟩ := Int.eq_ofNat_of_zero_le (show 0 ≤ IntKind.u64.wrap a by rw [wrapU]; omega)
  have h2 : A % n < n := Nat.mod_lt _ h0
  refine ⟨A % n, h2, ?_, by rw [e1]; omega⟩
  rw [e1, hA]
  have e2 : Int.tmod (A : Int) (n : Int) = ((A % n : Nat) : Int) := rfl
  rw [e2]
  exact wrapI (by omega) (by omega)
theorem light_yes {b : Bool} (h : ¬ (0 : Int) < (if b then 0 else 1)) : b = true := by
  cases b
  · exact absurd (by decide) h
  · rfl
theorem may_pos {t : Tr} {s : Sh} (h : mayT t.p = some s) : 0 < t.ns.l.length := by
  have h1 := (good_of h).size
  have h2 : t.p.ns.length = t.ns.l.length := by simp [Tr.p]
  have h3 : 0 < s.size := by cases s <;> simp only [Sh.size] <;> omega
  omega
theorem app_val (r : Int) (a : Option Addr) (c : Nat) (l : List Nd) (m : Nd) : Tr.val ⟨r, ⟨a, c, l ++ [m]⟩⟩ = .agg #[.int .i64 r, .slice a (l.length + 1) c] := by simp [Tr.val, Sl.val]
def zeroN : Nd := ⟨false, 0, 0, 0, ⟨none, 0, []⟩, 0⟩
theorem p_app {u : Tr} {t : PT} {a : Option Addr} {c : Nat} {m : Nd} (h : u.p = t) : (⟨u.root, ⟨a, c, u.ns.l ++ [m]⟩⟩ : Tr).p = ⟨t.root, t.ns ++ [m.p]⟩ := by
  subst h
  simp [Tr.p]
theorem p_set {u : Tr} {t : PT} {a : Option Addr} {c : Nat} {i : Nat} {m : Nd} (h : u.p = t) : (⟨u.root, ⟨a, c, u.ns.l.set i m⟩⟩ : Tr).p = ⟨t.root, t.ns.set i m.p⟩ := by
  subst h
  simp [Tr.p, List.map_set]
theorem p_get {u : Tr} {t : PT} {i : Nat} {n : Nod} (h : u.p = t) (hn : t.ns[i]? = some n) : ∃ y, u.ns.l[i]? = some y ∧ y.p = n := by
  subst h
  have hn' : (u.ns.l.map Nd.p)[i]? = some n := hn
  rw [List.getElem?_map] at hn'
  cases hy : u.ns.l[i]? with
  | none => rw [hy] at hn'; cases hn'
  | some y => rw [hy] at hn'; exact ⟨y, rfl, Option.some.inj hn'⟩
theorem p_len {u : Tr} {t : PT} (h : u.p = t) : u.ns.l.length = t.ns.length := by subst h; simp [Tr.p]
theorem small_of_p {u t : Tr} (h : u.p = t.p) (hs : smallP t.ns.l) : smallP u.ns.l := small_p (congrArg PT.ns h) hs
theorem plain_none {t : PT} (h : (mayT t).isSome = false) : plainD t = ⟨0, []⟩ := by simp [plainD, plainT, none_of h]
theorem plain_none_len {u : Tr} {t : PT} (h : (mayT t).isSome = false) (hu : u.p = plainD t) : u.ns.l.length = 0 := by
  rw [plain_none h] at hu
  exact p_len hu
end Go.Proofs.Ytmkodknmknfdkaa
