/- Plain laws of trees: ways, parents, neighbours. -/
import Derived.Test.YtmkodknmknfdkaaP10
import Derived.Test.YtmkodknmknfdkaaE13
set_option linter.unusedVariables false
set_option linter.unusedSimpArgs false
namespace Go.Proofs.Ytmkodknmknfdkaa
open E

def kidN (n : Nod) (side : Bool) : Int := if side then n.right else n.left
/-- Ways from the root. -/
inductive WayTo (ns : List Nod) (root : Int) : List Nat → List Bool → Int → Prop
  | nil : WayTo ns root [] [] root
  | step {u : List Nat} {b : List Bool} {q : Nat} {n : Nod} {side : Bool} : WayTo ns root u b (q : Int) → ns[q]? = some n → n.route = true → WayTo ns root (u ++ [q]) (b ++ [side]) (kidN n side)
theorem at_mem (s : Sh) : s.at_ ∈ s.places := by cases s <;> simp [Sh.at_, Sh.places]
theorem Hangs.at0 {ns : List Nod} {s : Sh} {a : Int} (h : Hangs ns s a) : a = (s.at_ : Int) := by
  cases s with
  | leaf i => exact h.1
  | node i l r => exact h.1
theorem Hangs.get {ns : List Nod} {s : Sh} {a : Int} (h : Hangs ns s a) : ∀ i ∈ s.places, ∃ n, ns[i]? = some n := by
  induction s generalizing a with
  | leaf j =>
    obtain ⟨_, n, hn, _⟩ := h
    intro i hi
    simp [Sh.places] at hi
    subst hi
    exact ⟨n, hn⟩
  | node j l r h1 h2 =>
    obtain ⟨_, n, hn, _, hl, hr⟩ := h
    intro i hi
    simp only [Sh.places, List.mem_cons, List.mem_append] at hi
    rcases hi with rfl | hi | hi
    · exact ⟨n, hn⟩
    · exact h1 hl i hi
    · exact h2 hr i hi
theorem ways {ns : List Nod} {root : Int} {s : Sh} {a : Int} {u : List Nat} {b : List Bool} (h : Hangs ns s a) (hw : WayTo ns root u b a) : ∀ p ∈ s.places, ∃ u' b', WayTo ns root u' b' (p : Int) := by
  induction s generalizing a u b with
  | leaf i =>
    obtain ⟨rfl, _⟩ := h
    intro p hp
    simp [Sh.places] at hp
    subst hp
    exact ⟨u, b, hw⟩
  | node i l r h1 h2 =>
    obtain ⟨rfl, n, hn, hr, hl, hr'⟩ := h
    intro p hp
    simp only [Sh.places, List.mem_cons, List.mem_append] at hp
    rcases hp with rfl | hp | hp
    · exact ⟨u, b, hw⟩
    · exact h1 hl (WayTo.step (side := false) hw hn hr) p hp
    · exact h2 hr' (WayTo.step (side := true) hw hn hr) p hp
/-- A node's children hang below it. -/
theorem kid_in {ns : List Nod} {s : Sh} {a : Int} (h : Hangs ns s a) (hn : s.places.Nodup) {q : Nat} {n : Nod} (hq : q ∈ s.places) (hns : ns[q]? = some n) (hr : n.route = true) (side : Bool) :
    ∃ p ∈ s.places, kidN n side = (p : Int) ∧ p ≠ s.at_ := by
  induction s generalizing a with
  | leaf i =>
    obtain ⟨rfl, m, hm, hmr⟩ := h
    simp [Sh.places] at hq
    subst hq
    rw [hns] at hm
    cases hm
    rw [hr] at hmr
    cases hmr
  | node i l r h1 h2 =>
    obtain ⟨rfl, m, hm, hmr, hl, hrr⟩ := h
    obtain ⟨c1, c2, d1, d2, d3⟩ := nodup_node hn
    simp only [Sh.places, List.mem_cons, List.mem_append] at hq
    rcases hq with rfl | hq | hq
    · rw [hns] at hm
      cases hm
      cases side
      · exact ⟨l.at_, by simp [Sh.places, at_mem], hl.at0, fun e => c1 (by show Sh.at_ (.node q l r) ∈ _; rw [← e]; exact at_mem l)⟩
      · exact ⟨r.at_, by simp [Sh.places, at_mem], hrr.at0, fun e => c2 (by show Sh.at_ (.node q l r) ∈ _; rw [← e]; exact at_mem r)⟩
    · obtain ⟨p, hp, e, _⟩ := h1 hl d1 hq
      exact ⟨p, by simp [Sh.places, hp], e, fun e' => c1 (by show Sh.at_ (.node i l r) ∈ _; rw [← e']; exact hp)⟩
    · obtain ⟨p, hp, e, _⟩ := h2 hrr d2 hq
      exact ⟨p, by simp [Sh.places, hp], e, fun e' => c2 (by show Sh.at_ (.node i l r) ∈ _; rw [← e']; exact hp)⟩
/-- Each place has one parent. -/
theorem one_parent {ns : List Nod} {s : Sh} {a : Int} (h : Hangs ns s a) (hn : s.places.Nodup) {q q' : Nat} {n n' : Nod} {side side' : Bool} (hq : q ∈ s.places) (hns : ns[q]? = some n) (hr : n.route = true) (hq' : q' ∈ s.places) (hns' : ns[q']? = some n') (hr' : n'.route = true)
    (he : kidN n side = kidN n' side') : q = q' ∧ side = side' := by
  induction s generalizing a with
  | leaf i =>
    obtain ⟨rfl, m, hm, hmr⟩ := h
    simp [Sh.places] at hq
    subst hq
    rw [hns] at hm
    cases hm
    rw [hr] at hmr
    cases hmr
  | node i l r h1 h2 =>
    obtain ⟨rfl, m, hm, hmr, hl, hrr⟩ := h
    obtain ⟨c1, c2, d1, d2, d3⟩ := nodup_node hn
    -- a child of the route itself is no child of what hangs below
    have top : ∀ {sd sd' : Bool} {x : Nat} {k : Nod}, x ∈ l.places ∨ x ∈ r.places → ns[x]? = some k → k.route = true → kidN m sd = kidN k sd' → False := by
      intro sd sd' x k hx hk hkr e
      rcases hx with hx | hx
      · obtain ⟨p, hp, e1, e2⟩ := kid_in hl d1 hx hk hkr sd'
        cases sd
        · have e3 : m.left = (l.at_ : Int) := hl.at0
          have e4 : kidN m false = m.left := rfl
          rw [e4, e3, e1] at e
          exact e2 (by omega)
        · have e3 : m.right = (r.at_ : Int) := hrr.at0
          have e4 : kidN m true = m.right := rfl
          rw [e4, e3, e1] at e
          exact d3 p hp (by have : p = r.at_ := by omega
                            rw [this]; exact at_mem r)
      · obtain ⟨p, hp, e1, e2⟩ := kid_in hrr d2 hx hk hkr sd'
        cases sd
        · have e3 : m.left = (l.at_ : Int) := hl.at0
          have e4 : kidN m false = m.left := rfl
          rw [e4, e3, e1] at e
          exact d3 l.at_ (at_mem l) (by have : l.at_ = p := by omega
                                        rw [this]; exact hp)
        · have e3 : m.right = (r.at_ : Int) := hrr.at0
          have e4 : kidN m true = m.right := rfl
          rw [e4, e3, e1] at e
          exact e2 (by omega)
    have hdis : ∀ {sd sd' : Bool} {x y : Nat} {k k' : Nod}, x ∈ l.places → y ∈ r.places → ns[x]? = some k → k.route = true → ns[y]? = some k' → k'.route = true → kidN k sd = kidN k' sd' → False := by
      intro sd sd' x y k k' hx hy hk hkr hk' hkr' e
      obtain ⟨p, hp, e1, _⟩ := kid_in hl d1 hx hk hkr sd
      obtain ⟨p', hp', e1', _⟩ := kid_in hrr d2 hy hk' hkr' sd'
      rw [e1, e1'] at e
      exact d3 p hp (by have : p = p' := by omega
                        rw [this]; exact hp')
    simp only [Sh.places, List.mem_cons, List.mem_append] at hq hq'
    rcases hq with rfl | hq
    · rcases hq' with rfl | hq'
      · rw [hns] at hns'
        cases hns'
        rw [hns] at hm
        cases hm
        refine ⟨rfl, ?_⟩
        have e3 : n.left = (l.at_ : Int) := hl.at0
        have e4 : n.right = (r.at_ : Int) := hrr.at0
        have e5 : l.at_ ≠ r.at_ := fun e => d3 l.at_ (at_mem l) (by rw [e]; exact at_mem r)
        cases side <;> cases side'
        · rfl
        · exact absurd (show n.left = n.right from he) (by omega)
        · exact absurd (show n.right = n.left from he) (by omega)
        · rfl
      · rw [hns] at hm
        cases hm
        exact (top hq' hns' hr' he).elim
    · rcases hq' with rfl | hq'
      · rw [hns'] at hm
        cases hm
        exact (top hq hns hr he.symm).elim
      · rcases hq with hq | hq <;> rcases hq' with hq' | hq'
        · exact h1 hl d1 hq hq'
        · exact (hdis hq hq' hns hr hns' hr' he).elim
        · exact (hdis hq' hq hns' hr' hns hr he.symm).elim
        · exact h2 hrr d2 hq hq'
/-- Who is above: as far as one has looked. -/
def parUpto (ns : List Nod) (k : Nat) : Int → Option Int := fun x =>
  match k with
  | 0 => none
  | k + 1 => match ns[k]? with
    | none => parUpto ns k x
    | some n => if n.route then (if x = n.right then some (k : Int) else if x = n.left then some (k : Int) else parUpto ns k x) else parUpto ns k x
theorem par_route {ns : List Nod} {k : Nat} {n : Nod} (hn : ns[k]? = some n) (hr : n.route = true) : mupd (mupd (parUpto ns k) n.left k) n.right k = parUpto ns (k + 1) := by
  funext x
  simp only [mupd, parUpto, hn, hr, if_true]
theorem par_leaf {ns : List Nod} {k : Nat} {n : Nod} (hn : ns[k]? = some n) (hr : n.route = false) : parUpto ns k = parUpto ns (k + 1) := by
  funext x
  simp [parUpto, hn, hr]
theorem par_some {ns : List Nod} {x : Int} : ∀ {k : Nat} {q : Int}, parUpto ns k x = some q → ∃ (i : Nat) (n : Nod) (side : Bool), q = (i : Int) ∧ i < k ∧ ns[i]? = some n ∧ n.route = true ∧ kidN n side = x
  | 0, q, h => by simp [parUpto] at h
  | k + 1, q, h => by
    have more : parUpto ns k x = some q → ∃ (i : Nat) (n : Nod) (side : Bool), q = (i : Int) ∧ i < k + 1 ∧ ns[i]? = some n ∧ n.route = true ∧ kidN n side = x := fun h' => by
      obtain ⟨i, n, side, h1, h2, h3⟩ := par_some h'
      exact ⟨i, n, side, h1, by omega, h3⟩
    simp only [parUpto] at h
    split at h
    · exact more h
    · rename_i n hn
      split at h
      · rename_i hr
        split at h
        · rename_i e; cases h; exact ⟨k, n, true, rfl, by omega, hn, hr, e.symm⟩
        · split at h
          · rename_i e; cases h; exact ⟨k, n, false, rfl, by omega, hn, hr, e.symm⟩
          · exact more h
      · exact more h
theorem par_found {ns : List Nod} {x : Int} {i : Nat} {n : Nod} {side : Bool} (hn : ns[i]? = some n) (hr : n.route = true) (he : kidN n side = x) : ∀ {k : Nat}, i < k → ∃ q, parUpto ns k x = some q
  | 0, h => by omega
  | k + 1, h => by
    simp only [parUpto]
    by_cases hik : i = k
    · subst hik
      rw [hn]
      simp only [hr, if_true]
      cases side
      · by_cases e : x = n.right
        · exact ⟨_, by rw [if_pos e]⟩
        · exact ⟨_, by rw [if_neg e, if_pos (show x = n.left from he.symm)]⟩
      · exact ⟨_, by rw [if_pos (show x = n.right from he.symm)]⟩
    · obtain ⟨q, hq⟩ := par_found hn hr he (k := k) (by omega)
      split
      · exact ⟨q, hq⟩
      · split
        · split
          · exact ⟨_, rfl⟩
          · split
            · exact ⟨_, rfl⟩
            · exact ⟨q, hq⟩
        · exact ⟨q, hq⟩
/-- One step up a way. -/
theorem way_up {t : PT} {s : Sh} {p : Nat} {u : List Nat} {b : List Bool} (h : Good t s) (hw : WayTo t.ns t.root u b (p : Int)) (hne : (p : Int) ≠ t.root) :
    ∃ (u' : List Nat) (b' : List Bool) (q : Nat) (n : Nod), u = u' ++ [q] ∧ WayTo t.ns t.root u' b' (q : Int) ∧ t.ns[q]? = some n ∧ n.route = true ∧ b = b' ++ [decide (n.right = (p : Int))] ∧ parUpto t.ns t.ns.length p = some (q : Int) := by
  generalize hp : (p : Int) = x at hw
  cases hw with
  | nil => exact absurd hp hne
  | @step u' b' q n side hw' hn hr =>
    have hq : q ∈ s.places := h.all q (lt_of_get hn)
    obtain ⟨q2, hq2⟩ := par_found (x := (p : Int)) hn hr hp.symm (k := t.ns.length) (lt_of_get hn)
    obtain ⟨i, m, sd, rfl, hi, hm, hmr, he⟩ := par_some hq2
    have e1 := one_parent h.hangs h.nodup hq hn hr (h.all i hi) hm hmr (side := side) (side' := sd) (by rw [he, hp])
    obtain ⟨rfl, rfl⟩ := e1
    rw [← hp]
    refine ⟨u', b', q, n, rfl, hw', hn, hr, ?_, hq2⟩
    congr 1
    congr 1
    -- on which side
    obtain ⟨pl, _, e2, _⟩ := kid_in h.hangs h.nodup hq hn hr false
    obtain ⟨pr, _, e3, _⟩ := kid_in h.hangs h.nodup hq hn hr true
    have hne' : kidN n false ≠ kidN n true := fun e => by
      have := (one_parent h.hangs h.nodup hq hn hr hq hn hr e).2
      cases this
    cases side
    · have : ¬ (n.right = (p : Int)) := fun e => hne' (by rw [← hp]; exact e.symm)
      rw [decide_eq_false this]
    · rw [decide_eq_true (show n.right = (p : Int) from hp.symm)]
theorem way_root {t : PT} {s : Sh} {u : List Nat} {b : List Bool} (h : Good t s) (hw : WayTo t.ns t.root u b t.root) : u = [] ∧ b = [] := by
  generalize hx : t.root = x at hw
  have hx' : x = t.root := hx.symm
  cases hw with
  | nil => exact ⟨rfl, rfl⟩
  | @step u' b' q n side hw' hn hr =>
    obtain ⟨p, _, e, e2⟩ := kid_in h.hangs h.nodup (h.all q (lt_of_get hn)) hn hr side
    have := h.hangs.at0
    exact absurd (show p = s.at_ by omega) e2

/-! ### Neighbours -/
def Sh.first : Sh → Nat
  | .leaf i => i
  | .node _ l _ => l.first
def Sh.last : Sh → Nat
  | .leaf i => i
  | .node _ _ r => r.last
/-- Of a leaf: its route, on which side of it it hangs, its neighbour. -/
def Sh.nb (i : Nat) : Sh → Option (Nat × Bool × Nat)
  | .leaf _ => none
  | .node j l r => if l = .leaf i then some (j, false, r.first) else if r = .leaf i then some (j, true, l.last) else match l.nb i with
    | some x => some x
    | none => r.nb i
theorem nb_mem {s : Sh} {i j : Nat} {sd : Bool} {n : Nat} (h : s.nb i = some (j, sd, n)) : i ∈ s.leaves := by
  induction s with
  | leaf k => cases h
  | node k l r h1 h2 =>
    simp only [Sh.nb] at h
    simp only [Sh.leaves, List.mem_append]
    split at h
    · rename_i e; subst e; exact .inl (by simp [Sh.leaves])
    · split at h
      · rename_i e; subst e; exact .inr (by simp [Sh.leaves])
      · split at h
        · rename_i x hx; cases h; exact .inl (h1 hx)
        · exact .inr (h2 h)
/-- What hangs at a leaf's place is the leaf. -/
theorem hangs_leaf {ns : List Nod} {s : Sh} {i : Nat} {n : Nod} (h : Hangs ns s (i : Int)) (hn : ns[i]? = some n) (hr : n.route = false) : s = .leaf i := by
  cases s with
  | leaf j => obtain ⟨e, _⟩ := h; congr 1; omega
  | node j l r =>
    obtain ⟨e, m, hm, hmr, _⟩ := h
    obtain rfl : i = j := by omega
    rw [hn] at hm
    cases hm
    rw [hr] at hmr
    cases hmr
theorem nb_spec {ns : List Nod} {s : Sh} {a : Int} (h : Hangs ns s a) (hn : s.places.Nodup) {q i : Nat} {n x : Nod} {side : Bool} (hq : q ∈ s.places) (hns : ns[q]? = some n) (hr : n.route = true) (he : kidN n side = (i : Int)) (hx : ns[i]? = some x) (hxr : x.route = false) :
    ∃ l r, Hangs ns l n.left ∧ Hangs ns r n.right ∧ s.nb i = some (q, side, if side then l.last else r.first) := by
  induction s generalizing a with
  | leaf j =>
    obtain ⟨rfl, m, hm, hmr⟩ := h
    simp [Sh.places] at hq
    subst hq
    rw [hns] at hm
    cases hm
    rw [hr] at hmr
    cases hmr
  | node j l r h1 h2 =>
    have hall : Hangs ns (.node j l r) a := h
    obtain ⟨rfl, m, hm, hmr, hl, hrr⟩ := h
    obtain ⟨c1, c2, d1, d2, d3⟩ := nodup_node hn
    have hj : j ∈ (Sh.node j l r).places := by simp [Sh.places]
    have noL : q ≠ j → l ≠ .leaf i := fun hne e => by
      subst e
      have e1 : kidN m false = (i : Int) := hl.1
      exact hne (one_parent hall hn hq hns hr hj hm hmr (he.trans e1.symm)).1
    have noR : q ≠ j → r ≠ .leaf i := fun hne e => by
      subst e
      have e1 : kidN m true = (i : Int) := hrr.1
      exact hne (one_parent hall hn hq hns hr hj hm hmr (he.trans e1.symm)).1
    have hq0 := hq
    simp only [Sh.places, List.mem_cons, List.mem_append] at hq
    rcases hq with rfl | hq | hq
    · rw [hns] at hm
      cases hm
      refine ⟨l, r, hl, hrr, ?_⟩
      cases side
      · have e : l = .leaf i := hangs_leaf (by have : n.left = (i : Int) := he; rw [← this]; exact hl) hx hxr
        simp [Sh.nb, e]
      · have e : r = .leaf i := hangs_leaf (by have : n.right = (i : Int) := he; rw [← this]; exact hrr) hx hxr
        have e' : l ≠ .leaf i := fun e2 => d3 i (by rw [e2]; simp [Sh.places]) (by rw [e]; simp [Sh.places])
        simp only [Sh.nb, if_neg e', if_pos e, if_true]
    · have hne : q ≠ j := fun e => c1 (e ▸ hq)
      obtain ⟨l', r', g1, g2, g3⟩ := h1 hl d1 hq
      refine ⟨l', r', g1, g2, ?_⟩
      simp only [Sh.nb, if_neg (noL hne), if_neg (noR hne), g3]
    · have hne : q ≠ j := fun e => c2 (e ▸ hq)
      obtain ⟨l', r', g1, g2, g3⟩ := h2 hrr d2 hq
      refine ⟨l', r', g1, g2, ?_⟩
      have hno : l.nb i = none := by
        cases hl' : l.nb i with
        | none => rfl
        | some y =>
          obtain ⟨y1, y2, y3⟩ := y
          have m1 := leaves_places i (nb_mem hl')
          have m2 := leaves_places i (nb_mem g3)
          exact absurd m2 (d3 i m1)
      simp only [Sh.nb, if_neg (noL hne), if_neg (noR hne), hno, g3]
def nextT (t : PT) (a : Int) : Option Nat := if leafT t a then (match mayT t with
  | none => none
  | some s => (s.nb a.toNat).map (·.2.2)) else none
theorem next_no {t : PT} {a : Int} (h : leafT t a = false) : nextT t a = none := by simp [nextT, h]
theorem next_eq {t : PT} {s : Sh} {i : Nat} (hs : mayT t = some s) (h : leafT t (i : Int) = true) : nextT t (i : Int) = (s.nb i).map (·.2.2) := by simp [nextT, h, hs]
theorem nb_leaf {j i : Nat} : (Sh.leaf j).nb i = none := rfl
/-- A leaf's neighbour stands beside it. -/
theorem first_leaves (s : Sh) : ∃ l, s.leaves = s.first :: l := by
  induction s with
  | leaf i => exact ⟨[], rfl⟩
  | node i l r h1 h2 =>
    obtain ⟨x, hx⟩ := h1
    exact ⟨x ++ r.leaves, by simp [Sh.leaves, Sh.first, hx]⟩
theorem last_leaves (s : Sh) : ∃ l, s.leaves = l ++ [s.last] := by
  induction s with
  | leaf i => exact ⟨[], rfl⟩
  | node i l r h1 h2 =>
    obtain ⟨x, hx⟩ := h2
    exact ⟨l.leaves ++ x, by simp [Sh.leaves, Sh.last, hx]⟩
theorem nb_beside {s : Sh} {i j n : Nat} {sd : Bool} (h : s.nb i = some (j, sd, n)) : ∃ A B, s.leaves = A ++ (if sd then [n, i] else [i, n]) ++ B := by
  induction s with
  | leaf k => cases h
  | node k l r h1 h2 =>
    simp only [Sh.nb] at h
    simp only [Sh.leaves]
    split at h
    · rename_i e
      cases h
      subst e
      obtain ⟨x, hx⟩ := first_leaves r
      exact ⟨[], x, by rw [hx]; simp [Sh.leaves]⟩
    · split at h
      · rename_i e
        cases h
        subst e
        obtain ⟨x, hx⟩ := last_leaves l
        exact ⟨x, [], by rw [hx]; simp [Sh.leaves]⟩
      · split at h
        · rename_i y hy
          cases h
          obtain ⟨A, B, e⟩ := h1 hy
          exact ⟨A, B ++ r.leaves, by rw [e]; simp⟩
        · obtain ⟨A, B, e⟩ := h2 h
          exact ⟨l.leaves ++ A, B, by rw [e]; simp⟩
/-- Who is not alone has a neighbour. -/
theorem nb_some {s : Sh} {i : Nat} (h : i ∈ s.leaves) (hne : 1 < s.leaves.length) : ∃ x, s.nb i = some x := by
  induction s with
  | leaf k => simp [Sh.leaves] at hne
  | node k l r h1 h2 =>
    simp only [Sh.nb]
    split
    · exact ⟨_, rfl⟩
    · rename_i e1
      split
      · exact ⟨_, rfl⟩
      · rename_i e2
        simp only [Sh.leaves, List.mem_append] at h
        split
        · exact ⟨_, rfl⟩
        · rename_i e3
          rcases h with h | h
          · have : 1 < l.leaves.length := by
              cases l with
              | leaf m => simp [Sh.leaves] at h; subst h; exact absurd rfl e1
              | node m l1 l2 =>
                have a1 := leaves_pos l1
                have a2 := leaves_pos l2
                simp only [Sh.leaves, List.length_append]; omega
            obtain ⟨x, hx⟩ := h1 h this
            rw [hx] at e3
            cases e3
          · have : 1 < r.leaves.length := by
              cases r with
              | leaf m => simp [Sh.leaves] at h; subst h; exact absurd rfl e2
              | node m l1 l2 =>
                have a1 := leaves_pos l1
                have a2 := leaves_pos l2
                simp only [Sh.leaves, List.length_append]; omega
            exact h2 h this
end Go.Proofs.Ytmkodknmknfdkaa
