/- Plain laws: what the walks of adapt need. -/
import Derived.Test.YtmkodknmknfdkaaP11
set_option linter.unusedVariables false
set_option linter.unusedSimpArgs false
namespace Go.Proofs.Ytmkodknmknfdkaa
open E

/-- Turned round from both ends, so far. -/
def RevAt {α : Type} (l l' : List α) (i : Nat) : Prop := l'.length = l.length ∧ ∀ j, j < l.length → l'[j]? = if j < i ∨ l.length ≤ j + i then l[l.length - 1 - j]? else l[j]?
theorem RevAt.start {α : Type} (l : List α) : RevAt l l 0 := ⟨rfl, fun j hj => by rw [if_neg (by omega)]⟩
theorem RevAt.mid {α : Type} {l l' : List α} {i j : Nat} (h : RevAt l l' i) (h1 : i ≤ j) (h2 : j + i < l.length) : l'[j]? = l[j]? := by
  rw [h.2 j (by omega), if_neg (by omega)]
theorem RevAt.step {α : Type} {l l' : List α} {i k : Nat} {x y : α} (h : RevAt l l' i) (hk : k + i + 1 = l.length) (hik : i < k) (hx : l'[i]? = some x) (hy : l'[k]? = some y) : RevAt l ((l'.set i y).set k x) (i + 1) := by
  have hx' : l[i]? = some x := by rw [← hx, h.mid (Nat.le_refl _) (by omega)]
  have hy' : l[k]? = some y := by rw [← hy, h.mid (by omega) (by omega)]
  refine ⟨by simp [h.1], fun j hj => ?_⟩
  by_cases hjk : j = k
  · subst hjk
    rw [List.getElem?_set_self (by simp [h.1]; omega), if_pos (by omega), show l.length - 1 - j = i by omega, hx']
  · rw [List.getElem?_set_ne (Ne.symm hjk)]
    by_cases hji : j = i
    · subst hji
      rw [List.getElem?_set_self (by rw [h.1]; omega), if_pos (by omega), show l.length - 1 - j = k by omega, hy']
    · rw [List.getElem?_set_ne (Ne.symm hji), h.2 j hj]
      by_cases hc : j < i ∨ l.length ≤ j + i
      · rw [if_pos hc, if_pos (by omega)]
      · rw [if_neg hc, if_neg (by omega)]
theorem RevAt.done {α : Type} {l l' : List α} {i : Nat} (h : RevAt l l' i) (hi : l.length ≤ i + i + 1) : l' = l.reverse := by
  apply List.ext_getElem?
  intro j
  by_cases hj : j < l.length
  · rw [h.2 j hj, List.getElem?_reverse hj]
    by_cases hc : j < i ∨ l.length ≤ j + i
    · rw [if_pos hc]
    · rw [if_neg hc, show l.length - 1 - j = j by omega]
  · rw [List.getElem?_eq_none (by rw [h.1]; omega), List.getElem?_eq_none (by simp; omega)]
def PathEndA (t : Tr) (i : Nat) (v : Value) (Γ : List SProp) (M : E.Loc) : Prop :=
  ∃ (us : Sl Int) (rs : Sl Bool) (u : List Nat) (b : List Bool), v = PathS.val ⟨(i : Int), us, rs⟩ ∧ Γ = [intsP us, boolsP rs] ∧ M = [] ∧ us.l = toI u ∧ rs.l = b ∧ WayTo t.p.ns t.p.root u b (i : Int)
theorem toI_snoc (u : List Nat) (q : Nat) : toI (u ++ [q]) = toI u ++ [(q : Int)] := by simp [toI]
theorem toI_rev (u : List Nat) : (toI u).reverse = toI u.reverse := by simp [toI]
theorem path_val (i : Int) (a a2 : Option Addr) (c c2 : Nat) (us : List Nat) (rs : List Bool) : PathS.val ⟨i, ⟨a, c, toI us.reverse⟩, ⟨a2, c2, rs.reverse⟩⟩ = .agg #[.int .i64 i, .slice a us.length c, .slice a2 rs.length c2] := by simp [PathS.val, Sl.val, toI]
/-- How long a way may be. -/
theorem way_len {ns : List Nod} {root : Int} {s : Sh} {a : Int} {u : List Nat} {b : List Bool} {c : Nat} (h : Hangs ns s a) (hw : WayTo ns root u b a) (hc : u.length + s.size ≤ c) (hl : b.length = u.length) : ∀ p ∈ s.places, ∃ u' b', WayTo ns root u' b' (p : Int) ∧ u'.length + 1 ≤ c ∧ b'.length = u'.length := by
  induction s generalizing a u b with
  | leaf i =>
    obtain ⟨rfl, _⟩ := h
    intro p hp
    simp [Sh.places] at hp
    subst hp
    exact ⟨u, b, hw, by simpa [Sh.size] using hc, hl⟩
  | node i l r h1 h2 =>
    obtain ⟨rfl, n, hn, hr, hg, hg'⟩ := h
    simp only [Sh.size] at hc
    intro p hp
    simp only [Sh.places, List.mem_cons, List.mem_append] at hp
    rcases hp with rfl | hp | hp
    · exact ⟨u, b, hw, by omega, hl⟩
    · exact h1 hg (WayTo.step (side := false) hw hn hr) (by simp; omega) (by simp [hl]) p hp
    · exact h2 hg' (WayTo.step (side := true) hw hn hr) (by simp; omega) (by simp [hl]) p hp
theorem way_of {t : PT} {s : Sh} {i : Nat} (hs : mayT t = some s) (hi : i < t.ns.length) : ∃ u b, WayTo t.ns t.root u b (i : Int) ∧ u.length ≤ 2000 ∧ b.length = u.length := by
  have hg := good_of hs
  have h1 := hg.size
  have h2 := hg.few
  obtain ⟨u, b, h3, h4, h5⟩ := way_len (c := 2000) hg.hangs WayTo.nil (by simp; omega) rfl i (hg.all i hi)
  exact ⟨u, b, h3, by omega, h5⟩
/-- What a way's end tells of a leaf. -/
theorem way_nb {t : PT} {s : Sh} {i : Nat} {x : Nod} {u : List Nat} {b : List Bool} (hs : mayT t = some s) (hx : t.ns[i]? = some x) (hr : x.route = false) (hw : WayTo t.ns t.root u b (i : Int)) :
    (u = [] ∧ b = [] ∧ s.nb i = none) ∨ ∃ (u' : List Nat) (b' : List Bool) (q : Nat) (n : Nod) (side : Bool) (l r : Sh), u = u' ++ [q] ∧ b = b' ++ [side] ∧ t.ns[q]? = some n ∧ n.route = true ∧ kidN n side = (i : Int) ∧ Hangs t.ns l n.left ∧ Hangs t.ns r n.right ∧ s.nb i = some (q, side, if side then l.last else r.first) := by
  have hg := good_of hs
  by_cases he : (i : Int) = t.root
  · rw [he] at hw
    obtain ⟨e1, e2⟩ := way_root hg hw
    have e3 : s = .leaf i := hangs_leaf (by rw [he]; exact hg.hangs) hx hr
    exact .inl ⟨e1, e2, by rw [e3]; rfl⟩
  · generalize hp : (i : Int) = y at hw
    cases hw with
    | nil => exact absurd hp he
    | @step u' b' q n side hw' hn hnr =>
      obtain ⟨l, r, h1, h2, h3⟩ := nb_spec hg.hangs hg.nodup (hg.all q (lt_of_get hn)) hn hnr hp.symm hx hr
      rw [← hp]
      exact .inr ⟨u', b', q, n, side, l, r, rfl, rfl, hn, hnr, hp.symm, h1, h2, h3⟩
theorem end_next {t : PT} {i : Nat} {side : Bool} {l r : Sh} {rg : Bool} (h : nextT t (i : Int) = some (if side then l.last else r.first)) (hrg : rg = side) :
    Value.tuple #[.int .i64 ((if rg then (if side then l else r).last else (if side then l else r).first : Nat) : Int), .bool true] = .tuple #[.int .i64 ((nextT t (i : Int)).getD 0 : Nat), .bool (nextT t (i : Int)).isSome] := by
  subst hrg
  rw [h]
  cases rg <;> rfl
theorem last_snoc (b : List Bool) (x : Bool) : (b ++ [x]).getLast?.getD false = x := by simp
end Go.Proofs.Ytmkodknmknfdkaa
