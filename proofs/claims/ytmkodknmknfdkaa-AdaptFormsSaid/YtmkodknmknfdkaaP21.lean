/- Plain laws: the reference's way to join. -/
import Derived.Test.YtmkodknmknfdkaaP20
set_option linter.unusedVariables false
set_option linter.unusedSimpArgs false
namespace Go.Proofs.Ytmkodknmknfdkaa
open E

theorem nb_neg {o : Option Nat} (h : nbI o < 0) : o.isSome = false := by
  cases o with
  | none => rfl
  | some m => simp [nbI] at h; omega
theorem nb_pos {o : Option Nat} (h : ¬ nbI o < 0) : o.isSome = true := by
  cases o with
  | none => simp [nbI] at h
  | some m => rfl
theorem OwnAt.nil (m : Nat) : OwnAt m [] [] := .inl ⟨Nat.zero_le _, rfl⟩
theorem OwnAt.empty {m : Nat} {o : List Nd} {mp : E.Seg} (h : OwnAt m o mp) (hm : o.length = m) : mp = [] := by
  rcases h with ⟨_, h⟩ | ⟨y, hy, _⟩
  · exact h
  · have := lt_of_get hy; omega
theorem OwnAt.get {m : Nat} {o : List Nd} {mp : E.Seg} (h : OwnAt m o mp) (hm : m < o.length) : ∃ y, o[m]? = some y ∧ E.Own 50 2 (y.ps.l.map rowP) y.ps.a y.ps.c mp := by
  rcases h with ⟨h, _⟩ | h
  · omega
  · exact h
theorem up_is {t : PT} {s : Sh} {i q m : Nat} {side : Bool} {x : Nod} {vu : Value} (hs : mayT t = some s) (hx : t.ns[i]? = some x) (hr : x.route = false) (hnb : s.nb i = some (q, side, m))
    (hup : (vu = .tuple #[.int .i64 (-1), .bool false] ∧ ∀ (j : Nat) (n : Nod), t.ns[j]? = some n → n.route = true → n.left ≠ (i : Int) ∧ n.right ≠ (i : Int)) ∨
      ∃ (k : Nat) (n : Nod), vu = .tuple #[.int .i64 (k : Int), .bool (decide (n.right = (i : Int)))] ∧ t.ns[k]? = some n ∧ n.route = true ∧ (n.left = (i : Int) ∨ n.right = (i : Int))) :
    ∃ n : Nod, vu = .tuple #[.int .i64 (q : Int), .bool side] ∧ t.ns[q]? = some n ∧ n.route = true := by
  rcases hup with ⟨_, hno⟩ | ⟨k, n, rfl, hk, hkr, he⟩
  · rw [alone hs hx hr hno] at hnb; cases hnb
  · obtain ⟨l, r, _, _, hnb2⟩ := up_nb hs hx hr hk hkr he
    rw [hnb] at hnb2
    have h3 := Option.some.inj hnb2
    obtain ⟨f1, f2⟩ := Prod.mk.inj h3
    obtain ⟨f3, f4⟩ := Prod.mk.inj f2
    subst f1
    exact ⟨n, by rw [f3], hk, hkr⟩
theorem nb_leafz {t : PT} {s : Sh} {i q m : Nat} {side : Bool} (hs : mayT t = some s) (hnb : s.nb i = some (q, side, m)) : ∃ nm, t.ns[m]? = some nm ∧ nm.route = false ∧ nm.key = 0 ∧ nm.left = 0 ∧ nm.right = 0 := by
  obtain ⟨nm, hm, hmr, hk⟩ := fits_leaf (may_fits hs) (good_of hs).nodup (nb_leafs hnb)
  simp [leafOk] at hk
  exact ⟨nm, hm, hmr, hk.1, hk.2.1, hk.2.2.1⟩
theorem join_in {t : PT} {s : Sh} {i q m : Nat} {side : Bool} {n nm cn : Nod} {o r : Int} (hs : mayT t = some s) (hnb : s.nb i = some (q, side, m)) (hq : t.ns[q]? = some n) (hqr : n.route = true) (hm : t.ns[m]? = some nm) (hmr : nm.route = false) (hcr : cn.route = false) (ho : kidN n (!side) = o) (hrt : r = t.root) :
    HangsS (t.ns.set m cn) (q : Int) o (s.cut i) r := by
  have hne : m ≠ q := fun e => by subst e; rw [hq] at hm; cases hm; rw [hqr] at hmr; cases hmr
  subst ho
  subst hrt
  exact cut_hangsS (hangs_leafset (good_of hs).hangs hm hmr hcr) (good_of hs).nodup hnb (by rw [List.getElem?_set_ne hne]; exact hq)
theorem cut_few {t : PT} {s : Sh} (i : Nat) (hs : mayT t = some s) : (s.cut i).size ≤ 1000000 := by
  have h1 := cut_size i s
  have h2 := (good_of hs).size
  have h3 := (good_of hs).few
  omega
theorem p_set1 {u : Tr} {t : PT} {a : Option Addr} {c : Nat} {i : Nat} {m : Nd} (h : u.p = t) : (⟨u.root, ⟨a, c, u.ns.l.set i m⟩⟩ : Tr).p = ⟨t.root, t.ns.set i m.p⟩ := by
  subst h
  simp [Tr.p, List.map_set]
theorem set_twice {l : List Nd} {m : Nat} {y1 y2 : Nd} : (l.set m y2).map rowN = ((l.set m y1).map rowN).set m (rowN y2) := by
  rw [← row_set, List.set_set]
def small2 (l : List Nd) : Prop := ∀ n ∈ l, n.ps.l.length ≤ 2000000
theorem small2_set {l : List Nd} {m : Nat} {y : Nd} (h : smallP l) (hy : y.ps.l.length ≤ 2000000) : small2 (l.set m y) := fun n hn => by
  rcases List.mem_or_eq_of_mem_set hn with h' | h'
  · have := h n h'; omega
  · subst h'; exact hy
end Go.Proofs.Ytmkodknmknfdkaa
