/- Plain laws: joins, as they are walked. -/
import Derived.Test.YtmkodknmknfdkaaP13
set_option linter.unusedVariables false
set_option linter.unusedSimpArgs false
namespace Go.Proofs.Ytmkodknmknfdkaa
open E

theorem next_yes {t : PT} {a : Int} (h : (nextT t a).isSome = true) : ∃ (s : Sh) (i : Nat) (n : Nod) (q : Nat) (side : Bool) (m : Nat), mayT t = some s ∧ a = (i : Int) ∧ leafT t (i : Int) = true ∧ t.ns[i]? = some n ∧ n.route = false ∧ s.nb i = some (q, side, m) ∧ nextT t (i : Int) = some m := by
  cases hl : leafT t a
  · rw [next_no hl] at h; cases h
  · obtain ⟨s, i, n, hs, rfl, hn, hr⟩ := leaf_yes hl
    have e := next_eq hs hl
    cases hnb : s.nb i with
    | none => rw [e, hnb] at h; cases h
    | some x =>
      obtain ⟨q, side, m⟩ := x
      exact ⟨s, i, n, q, side, m, hs, rfl, hl, hn, hr, hnb, by rw [e, hnb]; rfl⟩
/-- The way's end and the neighbour, together. -/
theorem way_join {t : PT} {s : Sh} {i q m : Nat} {side : Bool} {x : Nod} {u : List Nat} {b : List Bool} (hs : mayT t = some s) (hx : t.ns[i]? = some x) (hr : x.route = false) (hnb : s.nb i = some (q, side, m)) (hw : WayTo t.ns t.root u b (i : Int)) :
    ∃ (u' : List Nat) (b' : List Bool) (n nm : Nod) (oo : Nat), u = u' ++ [q] ∧ b = b' ++ [side] ∧ t.ns[q]? = some n ∧ n.route = true ∧ kidN n side = (i : Int) ∧ t.ns[m]? = some nm ∧ nm.route = false ∧ m ≠ q ∧ kidN n (!side) = (oo : Int) ∧ oo < t.ns.length ∧ i ≠ m := by
  have hg := good_of hs
  rcases way_nb hs hx hr hw with ⟨_, _, e3⟩ | ⟨u', b', q2, n, side2, l, r, e1, e2, hn, hnr, he, hl, hrr, hnb2⟩
  · rw [hnb] at e3; cases e3
  · rw [hnb] at hnb2
    have h3 := Option.some.inj hnb2
    obtain ⟨f1, f2⟩ := Prod.mk.inj h3
    obtain ⟨f3, f4⟩ := Prod.mk.inj f2
    subst f1
    subst f3
    obtain ⟨nm, hm, hmr, _⟩ := fits_leaf (may_fits hs) hg.nodup (nb_leafs hnb)
    obtain ⟨oo, hoo, e4, _⟩ := kid_in hg.hangs hg.nodup (hg.all q (lt_of_get hn)) hn hnr (!side)
    refine ⟨u', b', n, nm, oo, e1, e2, hn, hnr, he, hm, hmr, fun e => ?_, e4, hg.lt oo hoo, fun e => ?_⟩
    · subst e; rw [hn] at hm; cases hm; rw [hnr] at hmr; cases hmr
    · subst e
      obtain ⟨A, B, e5⟩ := nb_beside hnb
      have hnd : s.leaves.Nodup := by
        have : ∀ {s : Sh}, s.places.Nodup → s.leaves.Nodup := by
          intro s
          induction s with
          | leaf j => intro _; simp [Sh.leaves]
          | node j l r g1 g2 =>
            intro h
            obtain ⟨c1, c2, d1, d2, d3⟩ := nodup_node h
            simp only [Sh.leaves, List.nodup_append]
            exact ⟨g1 d1, g2 d2, fun a ha b hb e => d3 a (leaves_places a ha) (by rw [e]; exact leaves_places b hb)⟩
        exact this hg.nodup
      rw [e5] at hnd
      have e6 : (if side then [i, i] else [i, i]) = [i, i] := by cases side <;> rfl
      rw [e6] at hnd
      simp [List.nodup_append] at hnd
theorem join_hang {t : PT} {s : Sh} {i q m oo : Nat} {side : Bool} {n nm z cn : Nod} (hs : mayT t = some s) (hnb : s.nb i = some (q, side, m)) (hq : t.ns[q]? = some n) (hm : t.ns[m]? = some nm) (hmr : nm.route = false) (hne : m ≠ q) (hcr : cn.route = false) (hoo : kidN n (!side) = (oo : Int)) (hz : (t.ns.set m cn)[oo]? = some z) :
    Hangs ((t.ns.set m cn).set q z) (s.cutR i) t.root ∧ ∀ c, (s.cutR i).lay ((t.ns.set m cn).set q z) c = (s.cut i).lay (t.ns.set m cn) c :=
  cutR_hangs (hangs_leafset (good_of hs).hangs hm hmr hcr) (good_of hs).nodup hnb (by rw [List.getElem?_set_ne hne]; exact hq) (by rw [hoo]; exact hz)
theorem p_set2 {u : Tr} {t : PT} {a : Option Addr} {c : Nat} {i j : Nat} {m k : Nd} (h : u.p = t) : (⟨u.root, ⟨a, c, (u.ns.l.set i m).set j k⟩⟩ : Tr).p = ⟨t.root, (t.ns.set i m.p).set j k.p⟩ := by
  subst h
  simp [Tr.p, List.map_set]
theorem set_get {u : Tr} {t : PT} {i j : Nat} {m k : Nd} (h : u.p = t) (hk : (u.ns.l.set i m)[j]? = some k) : (t.ns.set i m.p)[j]? = some k.p := by
  subst h
  show ((u.ns.l.map Nd.p).set i m.p)[j]? = _
  rw [← List.map_set]
  exact map_get hk
theorem joinN_eq {ns : List Nod} {i m : Nat} {side : Bool} {x nm : Nod} (hx : ns[i]? = some x) (hm : ns[m]? = some nm) : joinN ns i m side = ⟨false, 0, 0, 0, if side then nm.l ++ x.l else x.l ++ nm.l, 0⟩ := by
  simp only [joinN, getD_of hx, getD_of hm]
theorem join_size {t : PT} {s : Sh} (i : Nat) (hs : mayT t = some s) : (s.cutR i).size ≤ 1000000 := by
  have h1 := cutR_size i s
  have h2 := (good_of hs).size
  have h3 := (good_of hs).few
  omega
/-- The tree that adapt's awake knows. -/
def aw15 : PT := oneT [⟨1, 0⟩, ⟨2, 0⟩, ⟨3, 0⟩]
def aw15s : PT := optD (splitT aw15 0)
def aw15j : PT := optD (joinT aw15s 2)
theorem aw15_1 : (splitT aw15 0).isSome = true := by decide +kernel
theorem aw15_2 : aw15s.ns.length = 3 ∧ (aw15s.ns[0]?).map (·.key) = some 2 ∧ (aw15s.ns[1]?).map (·.l.length) = some 1 := by decide +kernel
theorem aw15_3 : nextT aw15s 1 = some 2 := by decide +kernel
theorem aw15_4 : (joinT aw15s 2).isSome = true := by decide +kernel
theorem aw15_5 : sameT aw15j aw15 = true := by decide +kernel
theorem small_dec {u : Tr} {t : PT} (h : u.p = t) (hd : t.ns.all (fun n => decide (n.l.length ≤ 1000000)) = true) : smallP u.ns.l := fun n hn => by
  subst h
  exact of_decide_eq_true (List.all_eq_true.1 hd n.p (List.mem_map.2 ⟨n, hn, rfl⟩))
theorem aw15_6 : aw15s.ns.all (fun n => decide (n.l.length ≤ 1000000)) = true := by decide +kernel
theorem aw15_7 : aw15j.ns.all (fun n => decide (n.l.length ≤ 1000000)) = true := by decide +kernel
theorem aw15_8 : aw15.ns.all (fun n => decide (n.l.length ≤ 1000000)) = true := by decide +kernel
theorem map_some {α β : Type} {o : Option α} {f : α → β} {c : β} (h : o.map f = some c) : ∃ n, o = some n ∧ f n = c := by
  cases o with
  | none => cases h
  | some n => exact ⟨n, rfl, Option.some.inj h⟩
theorem aw15_v {v : Tr} (h : v.p = aw15s) : v.ns.l.length = 3 ∧ (∃ x, v.ns.l[0]? = some x ∧ x.key = 2) ∧ ∃ x, v.ns.l[1]? = some x ∧ x.ps.l.length = 1 := by
  obtain ⟨h1, h2, h3⟩ := aw15_2
  obtain ⟨n0, e0, k0⟩ := map_some h2
  obtain ⟨n1, e1, k1⟩ := map_some h3
  obtain ⟨x0, y0, z0⟩ := p_get h e0
  obtain ⟨x1, y1, z1⟩ := p_get h e1
  exact ⟨(p_len h).trans h1, ⟨x0, y0, by rw [← k0, ← z0]; rfl⟩, ⟨x1, y1, by rw [← k1, ← z1]; rfl⟩⟩
theorem leaf_of_leaves {t : PT} {i : Nat} (h : i ∈ leavesT t) : leafT t (i : Int) = true := by
  unfold leavesT at h
  cases hs : mayT t with
  | none => rw [hs] at h; simp at h
  | some s =>
    rw [hs] at h
    obtain ⟨n, hn, hr, _⟩ := fits_leaf (may_fits hs) (good_of hs).nodup h
    rw [leaf_at (by rw [hs]; rfl) hn, hr]
    rfl
theorem next_iff {t : PT} {s : Sh} {i : Nat} (hs : mayT t = some s) (hi : i ∈ leavesT t) : (nextT t (i : Int)).isSome = decide (1 < (leavesT t).length) := by
  rw [next_eq hs (leaf_of_leaves hi)]
  rw [leavesT_eq hs] at hi ⊢
  by_cases h : 1 < s.leaves.length
  · obtain ⟨x, hx⟩ := nb_some hi h
    rw [hx, decide_eq_true h]
    rfl
  · rw [decide_eq_false h]
    cases s with
    | leaf j => rfl
    | node j l r =>
      have h1 := leaves_pos l
      have h2 := leaves_pos r
      simp only [Sh.leaves, List.length_append] at h
      omega
theorem dec1 (n : Nat) : decide (1 < n) = decide ((1 : Int) < (n : Int)) := decide_eq_decide.2 (by omega)
theorem leaves_nodup {s : Sh} (h : s.places.Nodup) : s.leaves.Nodup := by
  induction s with
  | leaf j => simp [Sh.leaves]
  | node j l r g1 g2 =>
    obtain ⟨c1, c2, d1, d2, d3⟩ := nodup_node h
    simp only [Sh.leaves, List.nodup_append]
    exact ⟨g1 d1, g2 d2, fun a ha b hb e => d3 a (leaves_places a ha) (by rw [e]; exact leaves_places b hb)⟩
theorem nodup_get {l : List Nat} (h : l.Nodup) {i j x : Nat} (hi : l[i]? = some x) (hj : l[j]? = some x) : i = j := by
  obtain ⟨a1, a2⟩ := List.getElem?_eq_some_iff.1 hi
  obtain ⟨b1, b2⟩ := List.getElem?_eq_some_iff.1 hj
  have hp := List.pairwise_iff_getElem.1 h
  rcases Nat.lt_trichotomy i j with h1 | h1 | h1
  · exact absurd (a2.trans b2.symm) (hp i j a1 b1 h1)
  · exact h1
  · exact absurd (b2.trans a2.symm) (hp j i b1 a1 h1)
/-- The neighbour stands beside it. -/
theorem next_beside {t : PT} {s : Sh} {i k : Nat} (hs : mayT t = some s) (hk : (leavesT t)[k]? = some i) (h : (nextT t (i : Int)).isSome = true) :
    (0 < k ∧ (leavesT t)[k - 1]? = some ((nextT t (i : Int)).getD 0)) ∨ (leavesT t)[k + 1]? = some ((nextT t (i : Int)).getD 0) := by
  have hi := List.mem_of_getElem? hk
  have e := next_eq hs (leaf_of_leaves hi)
  cases hnb : s.nb i with
  | none => rw [e, hnb] at h; cases h
  | some x =>
    obtain ⟨q, side, m⟩ := x
    rw [e, hnb]
    obtain ⟨A, B, e2⟩ := nb_beside hnb
    have hnd := leaves_nodup (good_of hs).nodup
    rw [leavesT_eq hs] at hk ⊢
    cases side
    · right
      have e3 : s.leaves = A ++ (i :: m :: B) := by rw [e2]; simp
      have h1 : s.leaves[A.length]? = some i := by rw [e3]; simp
      have hkA := nodup_get hnd hk h1
      subst hkA
      rw [e3]
      simp [List.getElem?_append_right]
    · left
      have e3 : s.leaves = A ++ (m :: i :: B) := by rw [e2]; simp
      have h1 : s.leaves[A.length + 1]? = some i := by rw [e3]; simp [List.getElem?_append_right]
      have hkA := nodup_get hnd hk h1
      subst hkA
      refine ⟨by omega, ?_⟩
      rw [e3]
      simp
end Go.Proofs.Ytmkodknmknfdkaa
