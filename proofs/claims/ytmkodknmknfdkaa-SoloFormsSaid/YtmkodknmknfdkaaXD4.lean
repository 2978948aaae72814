/- Texts of this seat, joined: part 4. -/
import Derived.WalkKit
import Derived.OrdersHeld
import Derived.Lib.MinMax
import Derived.Laws.AppendOwn
import Derived.ProofKit
import Derived.OpenShut
import Derived.ChangeOld
import Derived.Carry
import Derived.Deep.Slices
import Derived.Laws.MakeOwn
import Derived.Lib.SliceRun
import Derived.Test.YtmkodknmknfdkaaRows
import Derived.MapKept
import Derived.Lib.AppendZeros
import Derived.SizedLaws
import Derived.Test.YtmkodknmknfdkaaXD3
set_option linter.unusedVariables false
set_option linter.unusedSimpArgs false
namespace Go.Proofs.Ytmkodknmknfdkaa
open E
theorem flat_congr {f g : Nat → List Pr} : ∀ {l : List Nat}, (∀ p ∈ l, f p = g p) → l.flatMap f = l.flatMap g
 | [], _ => rfl
 | x :: l, h => by
  rw [List.flatMap_cons, List.flatMap_cons, h x (by simp), flat_congr fun p hp => h p (by simp [hp])]
def Sh.split (i N : Nat) : Sh → Sh
 | .leaf j => if j = i then .node i (.leaf N) (.leaf (N + 1)) else .leaf j
 | .node j l r => .node j (l.split i N) (r.split i N)
theorem split_out {s : Sh} {i N : Nat} (h : i ∉ s.places) : s.split i N = s := by
 induction s with
 | leaf j => simp only [Sh.split]; rw [if_neg (fun e => h (by rw [e]; simp [Sh.places]))]
 | node j l r h1 h2 =>
  simp only [Sh.places, List.mem_cons, List.mem_append, not_or] at h
  simp only [Sh.split, h1 h.2.1, h2 h.2.2]
def spN (n : Nod) (N : Nat) : Nod := ⟨true, (n.l.getD (n.l.length / 2) default).k, (N : Int), (N : Int) + 1, [], 0⟩
def spA (n : Nod) : Nod := ⟨false, 0, 0, 0, n.l.take (n.l.length / 2), 0⟩
def spB (n : Nod) : Nod := ⟨false, 0, 0, 0, n.l.drop (n.l.length / 2), 0⟩
def spNs (ns : List Nod) (i : Nat) (n : Nod) : List Nod := ns.set i (spN n ns.length) ++ [spA n, spB n]
theorem splitRaw_eq (t : PT) (i : Nat) (n : Nod) : splitRaw t i n = ⟨t.root, spNs t.ns i n⟩ := rfl
theorem sp_old {ns : List Nod} {i p : Nat} {n : Nod} (hp : p < ns.length) (hne : p ≠ i) : (spNs ns i n)[p]? = ns[p]? := by
 rw [spNs, List.getElem?_append_left (by simpa using hp), List.getElem?_set_ne (Ne.symm hne)]
theorem sp_at {ns : List Nod} {i : Nat} {n : Nod} (hi : i < ns.length) : (spNs ns i n)[i]? = some (spN n ns.length) := by
 rw [spNs, List.getElem?_append_left (by simpa using hi), List.getElem?_set_self hi]
theorem sp_a {ns : List Nod} {i : Nat} {n : Nod} : (spNs ns i n)[ns.length]? = some (spA n) := by
 rw [spNs, List.getElem?_append_right (by simp)]
 simp
theorem sp_b {ns : List Nod} {i : Nat} {n : Nod} : (spNs ns i n)[ns.length + 1]? = some (spB n) := by
 rw [spNs, List.getElem?_append_right (by simp)]
 simp
theorem sp_leaf {n : Nod} {k : Kb} (h : leafOk n k = true) (h2 : 2 ≤ n.l.length) (N : Nat) : routeOk (spN n N) k = true ∧ leafOk (spA n) (k.lefts (spN n N).key) = true ∧ leafOk (spB n) (k.rights (spN n N).key) = true := by
 rw [leafOk_parts] at h
 obtain ⟨_, _, _, hr, _, _, hp⟩ := h
 have hpw := rises_pw.1 hr
 obtain ⟨z, hz⟩ := get_of_lt (l := n.l) (i := n.l.length / 2) (by omega)
 have hzk : (spN n N).key = z.k := by simp only [spN]; rw [List.getD_eq_getElem?_getD, hz]; rfl
 have hzm := List.mem_of_getElem? hz
 have hzh := hp z hzm
 have lt1 : ∀ p ∈ n.l.take (n.l.length / 2), p.k < z.k := fun p hpm => by
  obtain ⟨j, hj⟩ := List.mem_iff_getElem?.1 hpm
  rw [List.getElem?_take] at hj
  split at hj
  ·exact rises_lt hr j (n.l.length / 2) p z (by assumption) hj hz
  ·cases hj
 have le2 : ∀ p ∈ n.l.drop (n.l.length / 2), z.k ≤ p.k := fun p hpm => by
  obtain ⟨j, hj⟩ := List.mem_iff_getElem?.1 hpm
  rw [List.getElem?_drop] at hj
  rcases Nat.eq_zero_or_pos j with rfl | hj0
  ·rw [Nat.add_zero, hz] at hj; cases hj; omega
  ·have := rises_lt hr (n.l.length / 2) (n.l.length / 2 + j) z p (by omega) hz hj
   omega
 refine ⟨routeOk_mk rfl rfl (by rw [hzk]; exact hzh) ?_, ?_, ?_⟩
 ·rintro ⟨a, b⟩
  rw [hzk] at b
  obtain ⟨y, hy⟩ := get_of_lt (l := n.l) (i := 0) (by omega)
  have h1 := rises_lt hr 0 (n.l.length / 2) y z (by omega) hy hz
  have h3 := (has_iff.1 (hp y (List.mem_of_getElem? hy))).1 a
  omega
 ·rw [leafOk_parts]
  refine ⟨rfl, rfl, rfl, rises_pw.2 (hpw.sublist (List.take_sublist _ _)), by show (-1000000 : Int) ≤ 0; decide, by show (0 : Int) ≤ 1000000; decide, fun p hpm => ?_⟩
  rw [hzk]
  exact (has_lefts hzh).2 ⟨hp p (List.mem_of_mem_take hpm), lt1 p hpm⟩
 ·rw [leafOk_parts]
  refine ⟨rfl, rfl, rfl, rises_pw.2 (hpw.sublist (List.drop_sublist _ _)), by show (-1000000 : Int) ≤ 0; decide, by show (0 : Int) ≤ 1000000; decide, fun p hpm => ?_⟩
  rw [hzk]
  exact (has_rights hzh).2 ⟨hp p (List.mem_of_mem_drop hpm), le2 p hpm⟩
theorem split_fits {ns : List Nod} {s : Sh} {a : Int} {k : Kb} {i : Nat} {n : Nod} (h : Fits ns s a k) (hnd : s.places.Nodup) (hi : i ∈ s.leaves) (hn : ns[i]? = some n) (h2 : 2 ≤ n.l.length) :
  Fits (spNs ns i n) (s.split i ns.length) a k ∧ (s.split i ns.length).leaves.length = s.leaves.length + 1 ∧ (s.split i ns.length).size = s.size + 2 ∧
   ((s.split i ns.length).leaves.flatMap fun j => ((spNs ns i n).getD j default).l) = (s.leaves.flatMap fun j => (ns.getD j default).l) ∧
   (∀ p, p ∈ (s.split i ns.length).places ↔ p ∈ s.places ∨ p = ns.length ∨ p = ns.length + 1) ∧ (s.split i ns.length).places.Nodup ∧ ns.length ∈ (s.split i ns.length).leaves := by
 induction s generalizing a k with
 | leaf j =>
  obtain ⟨rfl, x, hx, hxr, hxk⟩ := h
  simp [Sh.leaves] at hi
  subst hi
  rw [hn] at hx
  cases hx
  have hil := lt_of_get hn
  obtain ⟨g1, g2, g3⟩ := sp_leaf hxk h2 ns.length
  simp only [Sh.split, if_true]
  refine ⟨⟨rfl, _, sp_at hil, rfl, g1, ⟨rfl, _, sp_a, rfl, g2⟩, ⟨by show ((ns.length : Int) + 1) = ((ns.length + 1 : Nat) : Int); omega, _, sp_b, rfl, g3⟩⟩, rfl, rfl, ?_, ?_, ?_, by simp [Sh.leaves]⟩
  ·simp only [Sh.leaves, List.flatMap_append, List.flatMap_cons, List.flatMap_nil, List.append_nil, getD_of sp_a, getD_of sp_b, getD_of hn, spA, spB]
   exact List.take_append_drop _ _
  ·intro p; simp [Sh.places]
  ·simp [Sh.places]; omega
 | node j l r h1 h2' =>
  have hall : Fits ns (.node j l r) a k := h
  obtain ⟨rfl, x, hx, hxr, hxk, hl, hrr⟩ := h
  obtain ⟨c1, c2, d1, d2, d3⟩ := nodup_node hnd
  have hjl := lt_of_get hx
  rcases List.mem_append.1 hi with hi' | hi'
  ·obtain ⟨g1, g2, g3, g4, g5, g6, g7⟩ := h1 hl d1 hi'
   have him := leaves_places i hi'
   have hij : i ≠ j := fun e => c1 (e ▸ him)
   have hir : i ∉ r.places := d3 i him
   have ho : r.split i ns.length = r := split_out hir
   have hor : ∀ p ∈ r.places, (spNs ns i n)[p]? = ns[p]? := fun p hp => sp_old (hrr.lt p hp) (fun e => hir (e ▸ hp))
   simp only [Sh.split, ho]
   refine ⟨⟨rfl, x, by rw [sp_old hjl (Ne.symm hij)]; exact hx, hxr, hxk, g1, fits_congr hrr hor⟩, by simp only [Sh.leaves, List.length_append]; omega, by simp only [Sh.size]; omega, ?_, ?_, ?_, by simp [Sh.leaves, g7]⟩
   ·simp only [Sh.leaves, List.flatMap_append, g4]
    congr 1
    refine flat_congr fun p hp => ?_
    rw [List.getD_eq_getElem?_getD, List.getD_eq_getElem?_getD, hor p (leaves_places p hp)]
   ·intro p
    simp only [Sh.places, List.mem_cons, List.mem_append, g5]
    constructor
    ·rintro (h | (h | h | h) | h) <;> simp [h]
    ·rintro ((h | h | h) | h | h) <;> simp [h]
   ·simp only [Sh.places, List.nodup_cons, List.mem_append, List.nodup_append, g5]
    refine ⟨?_, g6, d2, ?_⟩
    ·rintro ((h | h | h) | h)
     ·exact c1 h
     ·omega
     ·omega
     ·exact c2 h
    ·intro p hp p' hp' e
     subst e
     have := hrr.lt p hp'
     rcases hp with h | h | h
     ·exact d3 p h hp'
     ·omega
     ·omega
  ·obtain ⟨g1, g2, g3, g4, g5, g6, g7⟩ := h2' hrr d2 hi'
   have him := leaves_places i hi'
   have hij : i ≠ j := fun e => c2 (e ▸ him)
   have hil : i ∉ l.places := fun h3 => d3 i h3 him
   have ho : l.split i ns.length = l := split_out hil
   have hol : ∀ p ∈ l.places, (spNs ns i n)[p]? = ns[p]? := fun p hp => sp_old (hl.lt p hp) (fun e => hil (e ▸ hp))
   simp only [Sh.split, ho]
   refine ⟨⟨rfl, x, by rw [sp_old hjl (Ne.symm hij)]; exact hx, hxr, hxk, fits_congr hl hol, g1⟩, by simp only [Sh.leaves, List.length_append]; omega, by simp only [Sh.size]; omega, ?_, ?_, ?_, by simp [Sh.leaves, g7]⟩
   ·simp only [Sh.leaves, List.flatMap_append, g4]
    congr 1
    refine flat_congr fun p hp => ?_
    rw [List.getD_eq_getElem?_getD, List.getD_eq_getElem?_getD, hol p (leaves_places p hp)]
   ·intro p
    simp only [Sh.places, List.mem_cons, List.mem_append, g5]
    constructor
    ·rintro (h | h | h | h | h) <;> simp [h]
    ·rintro ((h | h | h) | h | h) <;> simp [h]
   ·simp only [Sh.places, List.nodup_cons, List.mem_append, List.nodup_append, g5]
    refine ⟨?_, d1, g6, ?_⟩
    ·rintro (h | h | h | h)
     ·exact c1 h
     ·exact c2 h
     ·omega
     ·omega
    ·intro p hp p' hp' e
     subst e
     have := hl.lt p hp
     rcases hp' with h | h | h
     ·exact d3 p hp h
     ·omega
     ·omega
/-- What 'split' tells. -/
theorem split_yes {t u : PT} {a : Int} (h : splitT t a = some u) : ∃ (s : Sh) (i : Nat) (n : Nod), mayT t = some s ∧ a = (i : Int) ∧ i ∈ leavesT t ∧ t.ns[i]? = some n ∧ n.route = false ∧ 2 ≤ n.l.length ∧ mayT (splitRaw t i n) = some (s.split i t.ns.length) ∧ u = plainD (splitRaw t i n) := by
 cases hl : leafT t a
 ·rw [split_no hl] at h; cases h
 ·obtain ⟨s, i, n, hs, rfl, hn, hr⟩ := leaf_yes hl
  have h1 : ¬ n.l.length < 2 := fun e => by rw [split_few hn e] at h; cases h
  have h2 : ¬ 2000 < t.ns.length + 2 := fun e => by rw [split_big e] at h; cases h
  rw [split_raw hl hn h1 h2] at h
  have hi : i ∈ s.leaves := by
   have hip := (good_of hs).all i (lt_of_get hn)
   have : ∀ {s : Sh} {a : Int} {k : Kb}, Fits t.ns s a k → i ∈ s.places → i ∈ s.leaves := by
    intro s
    induction s with
    | leaf j => intro a k _ hi; simpa [Sh.places, Sh.leaves] using hi
    | node j l r g1 g2 =>
     intro a k hf hi
     obtain ⟨_, x, hx, hxr, _, hfl, hfr⟩ := hf
     simp only [Sh.places, List.mem_cons, List.mem_append] at hi
     simp only [Sh.leaves, List.mem_append]
     rcases hi with rfl | hi | hi
     ·rw [hn] at hx; cases hx; rw [hr] at hxr; cases hxr
     ·exact .inl (g1 hfl hi)
     ·exact .inr (g2 hfr hi)
   exact this (may_fits hs) hip
  obtain ⟨g1, g2, g3, g4, g5, g6, _⟩ := split_fits (may_fits hs) (good_of hs).nodup hi hn (by omega)
  have hm : mayT (splitRaw t i n) = some (s.split i t.ns.length) := by
   rw [splitRaw_eq]
   refine may_of_fits (by simp [spNs]; omega) g1 g6 fun p hp => ?_
   rw [g5]
   simp [spNs] at hp
   rcases Nat.lt_or_ge p t.ns.length with h3 | h3
   ·exact .inl ((good_of hs).all p h3)
   ·omega
  refine ⟨s, i, n, hs, rfl, by rw [leavesT_eq hs]; exact hi, hn, hr, by omega, hm, ?_⟩
  unfold plainT at h
  rw [hm] at h
  rw [(plain_may hm).1]
  exact (Option.some.inj h).symm
theorem split_keeps {t u : PT} {a : Int} (h : splitT t a = some u) : (mayT u).isSome = true ∧ (leavesT u).length = (leavesT t).length + 1 ∧ allT u = allT t ∧ plainD u = u := by
 obtain ⟨s, i, n, hs, rfl, hi, hn, hr, h2, hm, rfl⟩ := split_yes h
 obtain ⟨p1, p2, p3⟩ := plain_may hm
 rw [leavesT_eq hs] at hi
 obtain ⟨g1, g2, g3, g4, _⟩ := split_fits (may_fits hs) (good_of hs).nodup hi hn h2
 refine ⟨by rw [p2]; rfl, ?_, ?_, p3⟩
 ·rw [leavesT_eq p2, straight_leaves, leavesT_eq hs]; exact g2
 ·rw [all_plain, p3, ← all_plain]
  unfold allT
  rw [leavesT_eq hm, leavesT_eq hs]
  exact g4
/-- A tree of few pairs has few in each leaf. -/
theorem small_all {u : Tr} {b : Nat} (hm : (mayT u.p).isSome = true) (h : (allT u.p).length ≤ b) (hb : b ≤ 1000000) : smallP u.ns.l := fun n hn => by
 obtain ⟨s, hs⟩ := Option.isSome_iff_exists.1 hm
 have h1 := all_pairs hs
 obtain ⟨j, hj⟩ := List.mem_iff_getElem?.1 hn
 have hjp : u.p.ns[j]? = some n.p := map_get hj
 have h2 := pairs_step hjp
 have h3 := pairs_mono u.p.ns (j + 1)
 have h4 : n.p.l.length = n.ps.l.length := rfl
 omega
end Go.Proofs.Ytmkodknmknfdkaa
set_option linter.unusedVariables false
set_option linter.unusedSimpArgs false
namespace Go.Proofs.Ytmkodknmknfdkaa
open E Go
theorem split_opt {t u : PT} {a : Int} (hu : u = optD (splitT t a)) (h : (splitT t a).isSome = true) : (mayT u).isSome = true ∧ (leavesT u).length = (leavesT t).length + 1 ∧ allT u = allT t ∧ plainD u = u := by
 obtain ⟨w, hw⟩ := Option.isSome_iff_exists.1 h
 have e : u = w := by rw [hu, hw]; rfl
 subst e
 exact split_keeps hw
theorem join_opt {t u : PT} {a : Int} (hu : u = optD (joinT t a)) (h : (joinT t a).isSome = true) : (mayT u).isSome = true ∧ (leavesT u).length + 1 = (leavesT t).length ∧ allT u = allT t ∧ plainD u = u := by
 obtain ⟨w, hw⟩ := Option.isSome_iff_exists.1 h
 have e : u = w := by rw [hu, hw]; rfl
 subst e
 exact join_keeps hw
end Go.Proofs.Ytmkodknmknfdkaa
set_option linter.unusedVariables false
set_option linter.unusedSimpArgs false
namespace Go.Proofs.Ytmkodknmknfdkaa
open E
theorem lay_lay_any {ns : List Nod} {s : Sh} {k : Kb} (h : Fit2 ns s k) : ∀ (b : Nat) (pre post : List Nod) (c : Nat), pre.length = b → (s.straight b).lay (pre ++ s.lay ns b ++ post) c = s.lay ns c := by
 induction s generalizing k with
 | leaf i =>
  rintro b pre post c rfl
  simp [Sh.straight, Sh.lay]
 | node i l r h1 h2 =>
  obtain ⟨n, hn, hr, hk, hl, hr'⟩ := h
  rintro b pre post c rfl
  have e1 := h1 hl (pre.length + 1) (pre ++ [{ n with left := ((pre.length + 1 : Nat) : Int), right := ((pre.length + 1 + l.size : Nat) : Int) }]) (r.lay ns (pre.length + 1 + l.size) ++ post) (c + 1) (by simp)
  have e2 := h2 hr' (pre.length + 1 + l.size) (pre ++ { n with left := ((pre.length + 1 : Nat) : Int), right := ((pre.length + 1 + l.size : Nat) : Int) } :: l.lay ns (pre.length + 1)) post (c + 1 + l.size) (by simp [Sh.lay_length]; omega)
  simp only [List.append_assoc, List.cons_append, List.nil_append] at e1 e2
  simp only [Sh.lay, getD_of hn, Sh.straight, straight_size, List.append_assoc, List.cons_append]
  rw [e1, e2]
  simp [List.getD_eq_getElem?_getD]
theorem cut_out {s : Sh} {f : Nat} (h : f ∉ s.places) : s.cut f = s := by
 induction s with
 | leaf k => rfl
 | node k l r g1 g2 =>
  simp only [Sh.places, List.mem_cons, List.mem_append, not_or] at h
  have n1 : l ≠ .leaf f := fun e => h.2.1 (by rw [e]; simp [Sh.places])
  have n2 : r ≠ .leaf f := fun e => h.2.2 (by rw [e]; simp [Sh.places])
  simp only [Sh.cut, if_neg n1, if_neg n2, g1 h.2.1, g2 h.2.2]
theorem split_node {s : Sh} {i N b : Nat} (h : i ∈ s.leaves) (f : Nat) : (s.split i N).straight b ≠ .leaf f := by
 cases s with
 | leaf j => simp [Sh.leaves] at h; subst h; simp [Sh.split, Sh.straight]
 | node j l r => simp [Sh.split, Sh.straight]
theorem back_core {ns : List Nod} {s : Sh} {a : Int} {k : Kb} {i : Nat} {n cn : Nod} (h : Fits ns s a k) (hnd : s.places.Nodup) (hi : i ∈ s.leaves) (hn : ns[i]? = some n) (h2 : 2 ≤ n.l.length) :
  ∀ (b : Nat) (pre post : List Nod), pre.length = b → ∃ f q, b ≤ f ∧ f + 1 < b + (s.split i ns.length).size ∧ f ∈ ((s.split i ns.length).straight b).leaves ∧ ((s.split i ns.length).straight b).nb f = some (q, false, f + 1) ∧
   (pre ++ (s.split i ns.length).lay (spNs ns i n) b ++ post)[f]? = some (spA n) ∧ (pre ++ (s.split i ns.length).lay (spNs ns i n) b ++ post)[f + 1]? = some (spB n) ∧
   ∀ c, (((s.split i ns.length).straight b).cut f).lay ((pre ++ (s.split i ns.length).lay (spNs ns i n) b ++ post).set (f + 1) cn) c = s.lay (ns.set i cn) c := by
 induction s generalizing a k with
 | leaf j =>
  obtain ⟨rfl, x, hx, hxr, hxk⟩ := h
  simp [Sh.leaves] at hi
  subst hi
  rintro b pre post rfl
  have hil := lt_of_get hn
  have e0 : (Sh.leaf i).split i ns.length = .node i (.leaf ns.length) (.leaf (ns.length + 1)) := by simp [Sh.split]
  rw [e0]
  simp only [Sh.lay, Sh.straight, getD_of (sp_at hil), getD_of sp_a, getD_of sp_b, Sh.size]
  refine ⟨pre.length + 1, pre.length, by omega, by omega, by simp [Sh.leaves], by simp [Sh.nb, Sh.first], ?_, ?_, fun c => ?_⟩
  ·simp
  ·simp
   rw [List.getElem?_append_right (by omega), show pre.length + 1 + 1 - pre.length = 2 by omega]
   rfl
  ·simp only [Sh.cut, if_true, Sh.lay]
   rw [List.getD_eq_getElem?_getD, List.getD_eq_getElem?_getD, List.getElem?_set_self (by simp; omega), List.getElem?_set_self hil]
 | node j l r h1 h2' =>
  obtain ⟨rfl, x, hx, hxr, hxk, hl, hrr⟩ := h
  obtain ⟨c1, c2, d1, d2, d3⟩ := nodup_node hnd
  have hjl := lt_of_get hx
  rintro b pre post rfl
  rcases List.mem_append.1 hi with hi' | hi'
  ·have him := leaves_places i hi'
   have hij : i ≠ j := fun e => c1 (e ▸ him)
   have hir : i ∉ r.places := d3 i him
   have ho : r.split i ns.length = r := split_out hir
   have hor : ∀ p ∈ r.places, (spNs ns i n)[p]? = ns[p]? := fun p hp => sp_old (hrr.lt p hp) (fun e => hir (e ▸ hp))
   have hor2 : ∀ p ∈ r.places, (ns.set i cn)[p]? = ns[p]? := fun p hp => List.getElem?_set_ne (fun e => hir (by rw [e]; exact hp))
   have hsj : (spNs ns i n)[j]? = some x := by rw [sp_old hjl (Ne.symm hij)]; exact hx
   have hcj : (ns.set i cn)[j]? = some x := by rw [List.getElem?_set_ne hij]; exact hx
   simp only [Sh.split, ho, Sh.lay, Sh.straight, getD_of hsj]
   generalize hxx : ({ x with left := ((pre.length + 1 : Nat) : Int), right := ((pre.length + 1 + (l.split i ns.length).size : Nat) : Int) } : Nod) = xx
   obtain ⟨f, q, g1, g2, g3, g4, g5, g6, g7⟩ := h1 hl d1 hi' (pre.length + 1) (pre ++ [xx]) (r.lay (spNs ns i n) (pre.length + 1 + (l.split i ns.length).size) ++ post) (by simp)
   have eX : pre ++ (xx :: ((l.split i ns.length).lay (spNs ns i n) (pre.length + 1) ++ r.lay (spNs ns i n) (pre.length + 1 + (l.split i ns.length).size))) ++ post = (pre ++ [xx]) ++ (l.split i ns.length).lay (spNs ns i n) (pre.length + 1) ++ (r.lay (spNs ns i n) (pre.length + 1 + (l.split i ns.length).size) ++ post) := by simp [List.append_assoc]
   rw [eX]
   have hfr : f ∉ (r.straight (pre.length + 1 + (l.split i ns.length).size)).places := by rw [straight_places, List.mem_range'_1]; omega
   have nl := split_node (N := ns.length) (b := pre.length + 1) hi' f
   have nr : r.straight (pre.length + 1 + (l.split i ns.length).size) ≠ .leaf f := fun e => hfr (by rw [e]; simp [Sh.places])
   refine ⟨f, q, by omega, by simp only [Sh.size]; omega, by simp [Sh.leaves, g3], by simp only [Sh.nb, if_neg nl, if_neg nr, g4], g5, g6, fun c => ?_⟩
   simp only [Sh.cut, if_neg nl, if_neg nr, cut_out hfr, Sh.lay]
   have hsz : (((l.split i ns.length).straight (pre.length + 1)).cut f).size = l.size := by rw [← Sh.lay_length _ _ 0, g7 0, Sh.lay_length]
   have eb : (((pre ++ [xx]) ++ (l.split i ns.length).lay (spNs ns i n) (pre.length + 1) ++ (r.lay (spNs ns i n) (pre.length + 1 + (l.split i ns.length).size) ++ post)).set (f + 1) cn)[pre.length]? = some xx := by
    rw [List.getElem?_set_ne (by omega)]
    simp [List.append_assoc]
   have er : (r.straight (pre.length + 1 + (l.split i ns.length).size)).lay (((pre ++ [xx]) ++ (l.split i ns.length).lay (spNs ns i n) (pre.length + 1) ++ (r.lay (spNs ns i n) (pre.length + 1 + (l.split i ns.length).size) ++ post)).set (f + 1) cn) (c + 1 + l.size) = r.lay (ns.set i cn) (c + 1 + l.size) := by
    have e1 : (r.straight (pre.length + 1 + (l.split i ns.length).size)).lay (((pre ++ [xx]) ++ (l.split i ns.length).lay (spNs ns i n) (pre.length + 1) ++ (r.lay (spNs ns i n) (pre.length + 1 + (l.split i ns.length).size) ++ post)).set (f + 1) cn) (c + 1 + l.size) =
      (r.straight (pre.length + 1 + (l.split i ns.length).size)).lay ((pre ++ [xx]) ++ (l.split i ns.length).lay (spNs ns i n) (pre.length + 1) ++ (r.lay (spNs ns i n) (pre.length + 1 + (l.split i ns.length).size) ++ post)) (c + 1 + l.size) :=
     lay_congr (fun p hp => List.getElem?_set_ne (by rw [straight_places, List.mem_range'_1] at hp; omega)) _
    rw [e1]
    have e2 := lay_lay_any (fit2_congr (fit2_of hrr) hor) (pre.length + 1 + (l.split i ns.length).size) ((pre ++ [xx]) ++ (l.split i ns.length).lay (spNs ns i n) (pre.length + 1)) post (c + 1 + l.size) (by simp [Sh.lay_length]; omega)
    rw [List.append_assoc] at e2
    rw [e2, lay_congr hor, lay_congr hor2]
   rw [getD_of eb, getD_of hcj, hsz, g7, er, ← hxx]
  ·have him := leaves_places i hi'
   have hij : i ≠ j := fun e => c2 (e ▸ him)
   have hil : i ∉ l.places := fun h3 => d3 i h3 him
   have ho : l.split i ns.length = l := split_out hil
   have hol : ∀ p ∈ l.places, (spNs ns i n)[p]? = ns[p]? := fun p hp => sp_old (hl.lt p hp) (fun e => hil (e ▸ hp))
   have hol2 : ∀ p ∈ l.places, (ns.set i cn)[p]? = ns[p]? := fun p hp => List.getElem?_set_ne (fun e => hil (by rw [e]; exact hp))
   have hsj : (spNs ns i n)[j]? = some x := by rw [sp_old hjl (Ne.symm hij)]; exact hx
   have hcj : (ns.set i cn)[j]? = some x := by rw [List.getElem?_set_ne hij]; exact hx
   simp only [Sh.split, ho, Sh.lay, Sh.straight, getD_of hsj]
   generalize hxx : ({ x with left := ((pre.length + 1 : Nat) : Int), right := ((pre.length + 1 + l.size : Nat) : Int) } : Nod) = xx
   obtain ⟨f, q, g1, g2, g3, g4, g5, g6, g7⟩ := h2' hrr d2 hi' (pre.length + 1 + l.size) (pre ++ (xx :: l.lay (spNs ns i n) (pre.length + 1))) post (by simp [Sh.lay_length]; omega)
   have eX : pre ++ (xx :: (l.lay (spNs ns i n) (pre.length + 1) ++ (r.split i ns.length).lay (spNs ns i n) (pre.length + 1 + l.size))) ++ post = (pre ++ (xx :: l.lay (spNs ns i n) (pre.length + 1))) ++ (r.split i ns.length).lay (spNs ns i n) (pre.length + 1 + l.size) ++ post := by simp [List.append_assoc]
   rw [eX]
   have hfl : f ∉ (l.straight (pre.length + 1)).places := by rw [straight_places, List.mem_range'_1]; omega
   have nl : l.straight (pre.length + 1) ≠ .leaf f := fun e => hfl (by rw [e]; simp [Sh.places])
   have nr := split_node (N := ns.length) (b := pre.length + 1 + l.size) hi' f
   have hnl : (l.straight (pre.length + 1)).nb f = none := by
    cases hq : (l.straight (pre.length + 1)).nb f with
    | none => rfl
    | some y => obtain ⟨y1, y2, y3⟩ := y; exact absurd (leaves_places f (nb_mem hq)) hfl
   refine ⟨f, q, by omega, by simp only [Sh.size]; omega, by simp [Sh.leaves, g3], by simp only [Sh.nb, if_neg nl, if_neg nr, hnl, g4], g5, g6, fun c => ?_⟩
   simp only [Sh.cut, if_neg nl, if_neg nr, cut_out hfl, Sh.lay]
   have eb : (((pre ++ (xx :: l.lay (spNs ns i n) (pre.length + 1))) ++ (r.split i ns.length).lay (spNs ns i n) (pre.length + 1 + l.size) ++ post).set (f + 1) cn)[pre.length]? = some xx := by
    rw [List.getElem?_set_ne (by omega)]
    simp [List.append_assoc]
   have el : (l.straight (pre.length + 1)).lay (((pre ++ (xx :: l.lay (spNs ns i n) (pre.length + 1))) ++ (r.split i ns.length).lay (spNs ns i n) (pre.length + 1 + l.size) ++ post).set (f + 1) cn) (c + 1) = l.lay (ns.set i cn) (c + 1) := by
    have e1 : (l.straight (pre.length + 1)).lay (((pre ++ (xx :: l.lay (spNs ns i n) (pre.length + 1))) ++ (r.split i ns.length).lay (spNs ns i n) (pre.length + 1 + l.size) ++ post).set (f + 1) cn) (c + 1) =
      (l.straight (pre.length + 1)).lay ((pre ++ (xx :: l.lay (spNs ns i n) (pre.length + 1))) ++ (r.split i ns.length).lay (spNs ns i n) (pre.length + 1 + l.size) ++ post) (c + 1) :=
     lay_congr (fun p hp => List.getElem?_set_ne (by rw [straight_places, List.mem_range'_1] at hp; omega)) _
    rw [e1]
    have e2 := lay_lay_any (fit2_congr (fit2_of hl) hol) (pre.length + 1) (pre ++ [xx]) ((r.split i ns.length).lay (spNs ns i n) (pre.length + 1 + l.size) ++ post) (c + 1) (by simp)
    have e3 : (pre ++ [xx]) ++ l.lay (spNs ns i n) (pre.length + 1) ++ ((r.split i ns.length).lay (spNs ns i n) (pre.length + 1 + l.size) ++ post) = (pre ++ (xx :: l.lay (spNs ns i n) (pre.length + 1))) ++ (r.split i ns.length).lay (spNs ns i n) (pre.length + 1 + l.size) ++ post := by simp [List.append_assoc]
    rw [e3] at e2
    rw [e2, lay_congr hol, lay_congr hol2]
   rw [getD_of eb, getD_of hcj, straight_size, g7, el, ← hxx]
/-- Split, and joined again. -/
theorem back {t u : PT} {i : Nat} {n : Nod} {y : Pr} (hu : splitT t (i : Int) = some u) (hn : t.ns[i]? = some n) (hy : n.l[0]? = some y) :
  (joinT u ((findD u y.k).leaf : Int)).isSome = true ∧ (setT t (i : Int) n.l 0).isSome = true ∧ sameT (optD (joinT u ((findD u y.k).leaf : Int))) (setD t (i : Int) n.l 0) = true := by
 obtain ⟨s, i', n', hs, e, hi, hn', hr, h2, hm, hup⟩ := split_yes hu
 obtain rfl : i = i' := by omega
 rw [hn] at hn'
 cases hn'
 have hi0 := hi
 rw [leavesT_eq hs] at hi
 obtain ⟨p1, p2, p3⟩ := plain_may hm
 obtain ⟨m, hmn, _, hok⟩ := fits_leaf (may_fits hs) (good_of hs).nodup hi
 rw [hn] at hmn
 cases hmn
 obtain ⟨o1, o2, o3, o4, o5, o6, o7⟩ := leafOk_parts.1 hok
 generalize hcn : (⟨false, 0, 0, 0, n.l, 0⟩ : Nod) = cn
 obtain ⟨f, q, g1, g2, g3, g4, g5, g6, g7⟩ := back_core (cn := cn) (may_fits hs) (good_of hs).nodup hi hn h2 0 [] [] rfl
 simp only [List.nil_append, List.append_nil] at g5 g6 g7
 have hus : u = ⟨0, (s.split i t.ns.length).lay (spNs t.ns i n) 0⟩ := by rw [hup, p1]; rfl
 have hum : mayT u = some ((s.split i t.ns.length).straight 0) := by rw [hup]; exact p2
 have hun : u.ns = (s.split i t.ns.length).lay (spNs t.ns i n) 0 := by rw [hus]
 have hfl : f ∈ leavesT u := by rw [leavesT_eq hum]; exact g3
 have huf : u.ns[f]? = some (spA n) := by rw [hun]; exact g5
 have hym : y ∈ (spA n).l := by
  simp only [spA]
  refine List.mem_iff_getElem?.2 ⟨0, ?_⟩
  rw [List.getElem?_take, if_pos (by omega)]
  exact hy
 have hff := only_find hum hfl huf hym
 rw [hff]
 have hj : joinT u (f : Int) = some ⟨0, s.lay (t.ns.set i cn) 0⟩ := by
  rw [join_eq hum (leaf_of_leaves hfl) g4]
  have e1 : joinN u.ns f (f + 1) false = cn := by
   rw [joinN_eq huf (by rw [hun]; exact g6), ← hcn]
   simp [spA, spB]
  rw [e1, hun, g7 0]
 have hcn2 : cn = { n with l := n.l, stat := 0 } := by
  rw [← hcn]
  obtain ⟨n1, n2, n3, n4, n5, n6⟩ := n
  simp only at o1 o2 o3 hr ⊢
  simp [o1, o2, o3, hr]
 have hok2 : leafOk { n with l := n.l, stat := 0 } (s.bd t.ns Kb.all i) = true := by
  rw [leafOk_parts]
  exact ⟨o1, o2, o3, o4, by show (-1000000 : Int) ≤ 0; decide, by show (0 : Int) ≤ 1000000; decide, o7⟩
 have hset : setT t (i : Int) n.l 0 = some ⟨t.root, t.ns.set i cn⟩ := by
  rw [setT_leaf hs hi0 hn, hok2, ← hcn2]
  rfl
 have hms : mayT ⟨t.root, t.ns.set i cn⟩ = some s := by
  rw [may_set hs hi0 (by rw [← hcn])]
  rw [hcn2, hok2]
  rfl
 obtain ⟨k1, _, _, k4⟩ := join_keeps hj
 refine ⟨by rw [hj]; rfl, by rw [hset]; rfl, ?_⟩
 have e2 : optD (joinT u (f : Int)) = ⟨0, s.lay (t.ns.set i cn) 0⟩ := by rw [hj]; rfl
 have e3 : setD t (i : Int) n.l 0 = ⟨t.root, t.ns.set i cn⟩ := by rw [setD, hset]; rfl
 rw [e2, e3]
 refine same_true k1 (by rw [hms]; rfl) ?_
 rw [k4]
 exact (plain_may hms).1
end Go.Proofs.Ytmkodknmknfdkaa
set_option linter.unusedVariables false
set_option linter.unusedSimpArgs false
namespace Go.Proofs.Ytmkodknmknfdkaa
namespace E
open Go Go.MapKept
section
variable {P : Program} {n : Nat} {env : Env} {Γ : List SProp} {L : Loc} {ty t k e : TypeId} {m x y : Operand} {f : Int → Option Int} {b i : Nat} {M : Seg} {a c : Int}
end
end E
end Go.Proofs.Ytmkodknmknfdkaa
set_option linter.unusedVariables false
set_option linter.unusedSimpArgs false
namespace Go.Proofs.Ytmkodknmknfdkaa
open E
def hold (n lo hi : Int) : Int := min (max n lo) hi
theorem hold_other (n lo hi : Int) (h : lo ≤ hi) : max lo (min n hi) = hold n lo hi := by unfold hold; omega
structure Pol where
 high : Int
 low : Int
 cont : Int
 uncont : Int
 multi : Int
 deriving DecidableEq
def Pol.val (p : Pol) : Value := .agg #[.int .i64 p.high, .int .i64 p.low, .int .i64 p.cont, .int .i64 p.uncont, .int .i64 p.multi]
def Pol.clamp (p : Pol) : Pol := ⟨hold p.high 1 100000, hold p.low (-100000) 0, hold p.cont (-100000) 100000, hold p.uncont (-100000) 100000, hold p.multi (-100000) 100000⟩
def Pol.off : Pol := ⟨100000, -100000, 0, 0, 0⟩
def Pol.eager : Pol := ⟨1, -1, 2, -1, 3⟩
theorem Pol.clamp_bd (p : Pol) : 1 ≤ p.clamp.high ∧ p.clamp.high ≤ 100000 ∧ -100000 ≤ p.clamp.low ∧ p.clamp.low ≤ 0 ∧ -100000 ≤ p.clamp.cont ∧ p.clamp.cont ≤ 100000 ∧
  -100000 ≤ p.clamp.uncont ∧ p.clamp.uncont ≤ 100000 ∧ -100000 ≤ p.clamp.multi ∧ p.clamp.multi ≤ 100000 := by
 simp only [Pol.clamp, hold]; omega
def heldS (n : Int) : Int := hold n (-1000000) 1000000
theorem heldS_bd (n : Int) : -1000000 ≤ heldS n ∧ heldS n ≤ 1000000 := by unfold heldS hold; omega
def pushed (p : Pol) (s w : Int) : Int := if w = 1 then heldS s + p.clamp.cont else if w = 2 then heldS s - p.clamp.uncont else if w = 3 then heldS s - p.clamp.multi else heldS s
def nextS (p : Pol) (s w : Int) : Int := heldS (pushed p s w)
def decideS (p : Pol) (s : Int) : Int := if p.clamp.high < heldS s then 1 else if heldS s < p.clamp.low then 2 else 0
/-- A leaf, bent as its stat says. -/
def bendT (t : PT) (p : Pol) (a : Int) : PT × Int := if leafT t a then (match t.ns[a.toNat]? with
 | none => (⟨0, []⟩, 0)
 | some n => if decideS p n.stat = 1 ∧ (splitT t a).isSome = true then (optD (splitT t a), 1) else if decideS p n.stat = 2 ∧ (joinT t a).isSome = true then (optD (joinT t a), 2) else (plainD t, 0)) else (⟨0, []⟩, 0)
theorem bend_no {t : PT} {p : Pol} {a : Int} (h : leafT t a = false) : bendT t p a = (⟨0, []⟩, 0) := by simp [bendT, h]
theorem bend_eq {t : PT} {p : Pol} {i : Nat} {n : Nod} (h : leafT t (i : Int) = true) (hn : t.ns[i]? = some n) :
  bendT t p (i : Int) = if decideS p n.stat = 1 ∧ (splitT t (i : Int)).isSome = true then (optD (splitT t (i : Int)), 1) else if decideS p n.stat = 2 ∧ (joinT t (i : Int)).isSome = true then (optD (joinT t (i : Int)), 2) else (plainD t, 0) := by
 unfold bendT
 rw [if_pos h]
 simp only [Int.toNat_natCast, hn]
def BendEnd (x : PT × Int) (v : Value) (Γ : List SProp) (M : E.Loc) : Prop := ∃ u : Tr, v = .tuple #[u.val, .int .i64 x.2] ∧ Γ = [ndsP u.ns, psP u.ns.l] ∧ M = [] ∧ u.p = x.1
/-- A leaf's stat anew. -/
theorem set_stat {t : PT} {s : Sh} {i : Nat} {n : Nod} {st : Int} (hs : mayT t = some s) (hi : i ∈ leavesT t) (hn : t.ns[i]? = some n) (h1 : -1000000 ≤ st) (h2 : st ≤ 1000000) :
  setT t (i : Int) n.l st = some ⟨t.root, t.ns.set i { n with l := n.l, stat := st }⟩ ∧ mayT ⟨t.root, t.ns.set i { n with l := n.l, stat := st }⟩ = some s ∧ leavesT ⟨t.root, t.ns.set i { n with l := n.l, stat := st }⟩ = leavesT t ∧ allT ⟨t.root, t.ns.set i { n with l := n.l, stat := st }⟩ = allT t := by
 have hi0 := hi
 rw [leavesT_eq hs] at hi
 obtain ⟨m, hmn, hr, hok⟩ := fits_leaf (may_fits hs) (good_of hs).nodup hi
 rw [hn] at hmn
 cases hmn
 obtain ⟨o1, o2, o3, o4, o5, o6, o7⟩ := leafOk_parts.1 hok
 have hok2 : leafOk { n with l := n.l, stat := st } (s.bd t.ns Kb.all i) = true := leafOk_parts.2 ⟨o1, o2, o3, o4, h1, h2, o7⟩
 have hm : mayT ⟨t.root, t.ns.set i { n with l := n.l, stat := st }⟩ = some s := by
  rw [may_set (n' := { n with l := n.l, stat := st }) hs hi0 hr, hok2]; rfl
 have hlv : leavesT ⟨t.root, t.ns.set i { n with l := n.l, stat := st }⟩ = leavesT t := by rw [leavesT_eq hm, leavesT_eq hs]
 refine ⟨by rw [setT_leaf hs hi0 hn, hok2]; rfl, hm, hlv, ?_⟩
 unfold allT
 rw [hlv]
 refine flat_congr fun p hp => ?_
 by_cases hpi : i = p
 ·subst hpi
  have e : (t.ns.set i { n with l := n.l, stat := st })[i]? = some { n with l := n.l, stat := st } := List.getElem?_set_self (lt_of_get hn)
  rw [getD_of e, getD_of hn]
 ·rw [List.getD_eq_getElem?_getD, List.getD_eq_getElem?_getD, List.getElem?_set_ne hpi]
theorem plain_keeps {t : PT} (h : (mayT t).isSome = true) : (mayT (plainD t)).isSome = true ∧ (leavesT (plainD t)).length = (leavesT t).length ∧ allT (plainD t) = allT t ∧ plainD (plainD t) = plainD t := by
 obtain ⟨s, hs⟩ := Option.isSome_iff_exists.1 h
 obtain ⟨p1, p2, p3⟩ := plain_may hs
 exact ⟨by rw [p2]; rfl, by rw [leavesT_eq p2, straight_leaves, leavesT_eq hs], by rw [all_plain, p3, ← all_plain], p3⟩
/-- By how many leaves there are more. -/
def byT (d : Int) : Int := if d = 1 then 1 else if d = 2 then -1 else 0
theorem bend_keeps {t : PT} {s : Sh} {p : Pol} {i : Nat} {n : Nod} (hs : mayT t = some s) (hi : i ∈ leavesT t) (hn : t.ns[i]? = some n) :
  (mayT (bendT t p (i : Int)).1).isSome = true ∧ (((leavesT (bendT t p (i : Int)).1).length : Nat) : Int) = (leavesT t).length + byT (bendT t p (i : Int)).2 ∧ allT (bendT t p (i : Int)).1 = allT t := by
 rw [bend_eq (leaf_of_leaves hi) hn]
 split
 ·rename_i h
  obtain ⟨k1, k2, k3, _⟩ := split_opt rfl h.2
  exact ⟨k1, by rw [k2]; simp [byT], k3⟩
 ·split
  ·rename_i h
   obtain ⟨k1, k2, k3, _⟩ := join_opt rfl h.2
   exact ⟨k1, by simp [byT]; omega, k3⟩
  ·obtain ⟨k1, k2, k3, _⟩ := plain_keeps (t := t) (by rw [hs]; rfl)
   exact ⟨k1, by rw [k2]; simp [byT], k3⟩
end Go.Proofs.Ytmkodknmknfdkaa
set_option linter.unusedVariables false
set_option linter.unusedSimpArgs false
namespace Go.Proofs.Ytmkodknmknfdkaa
open E
set_option maxRecDepth 4000
theorem t64 : tRow Try.prog 64 = some (false, 5, 40, .agg #[.int .i64 0, .int .i64 0, .int .i64 0, .int .i64 0, .int .i64 0]) := by kernel_rfl
theorem s64 : sRow Try.prog 64 = some [(0, 1, true), (1, 1, true), (2, 1, true), (3, 1, true), (4, 1, true)] := by kernel_rfl
theorem en89 : Enters Try.prog 89 := Enters.mk' Try.func89 rfl rfl
theorem en90 : Enters Try.prog 90 := Enters.mk' Try.func90 rfl rfl
theorem en91 : Enters Try.prog 91 := Enters.mk' Try.func91 rfl rfl
theorem en111 : Enters Try.prog 111 := Enters.mk' Try.func111 rfl rfl
theorem en112 : Enters Try.prog 112 := Enters.mk' Try.func112 rfl rfl
theorem en117 : Enters Try.prog 117 := Enters.mk' Try.func117 rfl rfl
theorem held117 (n lo hi : Int) : Con Try.prog 117 [.int .i64 n, .int .i64 lo, .int .i64 hi] [] [] (fun v Γ M => v = .int .i64 (hold n lo hi) ∧ Γ = [] ∧ M = []) := by
 refine Con.body 12 Try.func117 rfl Try.ntmps117 rfl fun X H₀ L₀ => ?_
 refine aE (aR ?_)
 refine aS 1 rfl rfl ?_
 refine aN (aT (aE (aR ?_)))
 refine aS 2 rfl rfl ?_
 refine aQ (q_max rfl rfl) rfl ?_
 refine aS 1 rfl rfl ?_
 refine aQ (q_min rfl rfl) rfl ?_
 refine aS 1 rfl rfl ?_
 refine aN (aT (At.ret ?_))
 exact At.results (Γr := []) (M := []) rfl (RVals.cons (RVal.tmp rfl) RVals.nil) (.head _) (fun _ _ => trivial) r_ ⟨rfl, rfl, rfl⟩
theorem hold91 (n lo hi : Int) (h : lo ≤ hi) : Con Try.prog 91 [.int .i64 n, .int .i64 lo, .int .i64 hi] [] [] (fun v Γ M => v = .int .i64 (hold n lo hi) ∧ Γ = [] ∧ M = []) := by
 refine Con.body 12 Try.func91 rfl Try.ntmps91 rfl fun X H₀ L₀ => ?_
 refine aE (aR ?_)
 refine aS 1 rfl rfl ?_
 refine aN (aT (aE (aR ?_)))
 refine aS 3 rfl rfl ?_
 refine aQ (q_min rfl rfl) rfl ?_
 refine aQ (q_max rfl rfl) rfl ?_
 refine aS 1 rfl rfl ?_
 refine aN (aT (At.ret ?_))
 exact At.results (Γr := []) (M := []) rfl (RVals.cons (RVal.tmp rfl) RVals.nil) (.head _) (fun _ _ => trivial) r_ ⟨by simp only [resVal, hold_other n lo hi h], rfl, rfl⟩
theorem held112 (n : Int) : Con Try.prog 112 [.int .i64 n] [] [] (fun v Γ M => v = .int .i64 (heldS n) ∧ Γ = [] ∧ M = []) := by
 refine Con.body 6 Try.func112 rfl Try.ntmps112 rfl fun X H₀ L₀ => ?_
 refine aE (aR ?_)
 refine aS 1 rfl rfl ?_
 refine aN (aT (aE (aR ?_)))
 refine aS 1 rfl rfl ?_
 refine aQ (q_max rfl rfl) rfl ?_
 refine aQ (q_min rfl rfl) rfl ?_
 refine aS 1 rfl rfl ?_
 refine aN (aT (At.ret ?_))
 exact At.results (Γr := []) (M := []) rfl (RVals.cons (RVal.tmp rfl) RVals.nil) (.head _) (fun _ _ => trivial) r_ ⟨rfl, rfl, rfl⟩
theorem clamp111 (p : Pol) : Con Try.prog 111 [p.val] [] [] (fun v Γ M => v = p.clamp.val ∧ Γ = [] ∧ M = []) := by
 refine Con.body 19 Try.func111 rfl Try.ntmps111 rfl fun X H₀ L₀ => ?_
 refine aE (aR ?_)
 refine At.loud (l_box rfl) rfl ?_
 rintro _ _ _ ⟨b1, rfl, rfl, rfl⟩
 refine At.freeze 0 (φ := blk b1 _) rfl (fun _ h => blk_def.2 ⟨_, _, h⟩) ?_
 refine At.loud (l_alloc t64) rfl ?_
 rintro _ _ _ ⟨b2, rfl, rfl, rfl⟩
 refine aN (aT (aE ?_))
 refine At.draw 14 (.q 0 (.q 1 (.q 3 (.q 4 (.q 6 (.q 7 (.q 9 (.q 10 (.q 12 (.q 13 (.o 2 (.o 5 (.o 8 (.o 11 (.e))))))))))))))) _ (List.Sublist.refl _) mixed (by kernel_rfl) rfl ?_
 refine oQ rfl (q_fieldAddr s64 rfl rfl rfl) rfl (cT cP) ?_
 refine oQ rfl (q_load t3 rfl (Rd.blk (.head _) rfl)) rfl (cT cP) ?_
 refine oQ rfl (q_fieldAddr s64 rfl rfl rfl) rfl (cT cP) ?_
 refine oQ rfl (q_load t3 rfl (Rd.blk (.head _) rfl)) rfl (cT cP) ?_
 refine oQ rfl (q_fieldAddr s64 rfl rfl rfl) rfl (cT cP) ?_
 refine oQ rfl (q_load t3 rfl (Rd.blk (.head _) rfl)) rfl (cT cP) ?_
 refine oQ rfl (q_fieldAddr s64 rfl rfl rfl) rfl (cT cP) ?_
 refine oQ rfl (q_load t3 rfl (Rd.blk (.head _) rfl)) rfl (cT cP) ?_
 refine oQ rfl (q_fieldAddr s64 rfl rfl rfl) rfl (cT cP) ?_
 refine oQ rfl (q_load t3 rfl (Rd.blk (.head _) rfl)) rfl (cT cP) ?_
 refine AtO.callA rfl en117 rfl (held117 _ _ _) (fun _ _ => trivial) (List.Perm.refl _) rfl r_ ?_
 rintro _ _ _ ⟨rfl, rfl, rfl⟩
 refine AtO.callA rfl en117 rfl (held117 _ _ _) (fun _ _ => trivial) (List.Perm.refl _) rfl r_ ?_
 rintro _ _ _ ⟨rfl, rfl, rfl⟩
 refine AtO.callA rfl en117 rfl (held117 _ _ _) (fun _ _ => trivial) (List.Perm.refl _) rfl r_ ?_
 rintro _ _ _ ⟨rfl, rfl, rfl⟩
 refine AtO.callA rfl en117 rfl (held117 _ _ _) (fun _ _ => trivial) (List.Perm.refl _) rfl r_ ?_
 rintro _ _ _ ⟨rfl, rfl, rfl⟩
 refine AtO.done ?_
 refine At.call en117 rfl (held117 _ _ _) (fun _ _ => trivial) (List.Perm.refl _) rfl ?_
 rintro _ _ _ ⟨rfl, rfl, rfl⟩
 refine aQ (q_build t64 s64 rfl rfl) rfl ?_
 refine At.loudN (l_store t64 rfl rfl (i := 0) rfl rfl rfl rfl) ?_
 rintro _ _ _ ⟨rfl, rfl⟩
 refine aN (aT (At.ret ?_))
 exact At.results (Γr := []) (M := []) rfl (RVals.cons (RVal.cellS rfl t64 (RdS.loc (i := 0) rfl (m := 5) rfl) rfl) RVals.nil) (ix 1 rfl) (fun _ _ => trivial) (d_ r_) ⟨rfl, rfl, rfl⟩
theorem clamp90 (p : Pol) : Con Try.prog 90 [p.val] [] [] (fun v Γ M => v = p.clamp.val ∧ Γ = [] ∧ M = []) := by
 refine Con.body 19 Try.func90 rfl Try.ntmps90 rfl fun X H₀ L₀ => ?_
 refine aE (aR ?_)
 refine At.loud (l_box rfl) rfl ?_
 rintro _ _ _ ⟨b1, rfl, rfl, rfl⟩
 refine At.freeze 0 (φ := blk b1 _) rfl (fun _ h => blk_def.2 ⟨_, _, h⟩) ?_
 refine At.loud (l_alloc t64) rfl ?_
 rintro _ _ _ ⟨b2, rfl, rfl, rfl⟩
 refine aN (aT (aE ?_))
 refine At.draw 14 (.q 0 (.q 1 (.q 3 (.q 4 (.q 6 (.q 7 (.q 9 (.q 10 (.q 12 (.q 13 (.o 2 (.o 5 (.o 8 (.o 11 (.e))))))))))))))) _ (List.Sublist.refl _) mixed (by kernel_rfl) rfl ?_
 refine oQ rfl (q_fieldAddr s64 rfl rfl rfl) rfl (cT cP) ?_
 refine oQ rfl (q_load t3 rfl (Rd.blk (.head _) rfl)) rfl (cT cP) ?_
 refine oQ rfl (q_fieldAddr s64 rfl rfl rfl) rfl (cT cP) ?_
 refine oQ rfl (q_load t3 rfl (Rd.blk (.head _) rfl)) rfl (cT cP) ?_
 refine oQ rfl (q_fieldAddr s64 rfl rfl rfl) rfl (cT cP) ?_
 refine oQ rfl (q_load t3 rfl (Rd.blk (.head _) rfl)) rfl (cT cP) ?_
 refine oQ rfl (q_fieldAddr s64 rfl rfl rfl) rfl (cT cP) ?_
 refine oQ rfl (q_load t3 rfl (Rd.blk (.head _) rfl)) rfl (cT cP) ?_
 refine oQ rfl (q_fieldAddr s64 rfl rfl rfl) rfl (cT cP) ?_
 refine oQ rfl (q_load t3 rfl (Rd.blk (.head _) rfl)) rfl (cT cP) ?_
 refine AtO.callA rfl en91 rfl (hold91 _ _ _ (by omega)) (fun _ _ => trivial) (List.Perm.refl _) rfl r_ ?_
 rintro _ _ _ ⟨rfl, rfl, rfl⟩
 refine AtO.callA rfl en91 rfl (hold91 _ _ _ (by omega)) (fun _ _ => trivial) (List.Perm.refl _) rfl r_ ?_
 rintro _ _ _ ⟨rfl, rfl, rfl⟩
 refine AtO.callA rfl en91 rfl (hold91 _ _ _ (by omega)) (fun _ _ => trivial) (List.Perm.refl _) rfl r_ ?_
 rintro _ _ _ ⟨rfl, rfl, rfl⟩
 refine AtO.callA rfl en91 rfl (hold91 _ _ _ (by omega)) (fun _ _ => trivial) (List.Perm.refl _) rfl r_ ?_
 rintro _ _ _ ⟨rfl, rfl, rfl⟩
 refine AtO.done ?_
 refine At.call en91 rfl (hold91 _ _ _ (by omega)) (fun _ _ => trivial) (List.Perm.refl _) rfl ?_
 rintro _ _ _ ⟨rfl, rfl, rfl⟩
 refine aQ (q_build t64 s64 rfl rfl) rfl ?_
 refine At.loudN (l_store t64 rfl rfl (i := 0) rfl rfl rfl rfl) ?_
 rintro _ _ _ ⟨rfl, rfl⟩
 refine aN (aT (At.ret ?_))
 exact At.results (Γr := []) (M := []) rfl (RVals.cons (RVal.cellS rfl t64 (RdS.loc (i := 0) rfl (m := 5) rfl) rfl) RVals.nil) (ix 1 rfl) (fun _ _ => trivial) (d_ r_) ⟨rfl, rfl, rfl⟩
theorem decide89 (p : Pol) (s : Int) : Con Try.prog 89 [p.val, .int .i64 s] [] [] (fun v Γ M => v = .int .i64 (decideS p s) ∧ Γ = [] ∧ M = []) := by
 refine Con.body 19 Try.func89 rfl Try.ntmps89 rfl fun X H₀ L₀ => ?_
 refine aE (aR ?_)
 refine At.loud (l_box rfl) rfl ?_
 rintro _ _ _ ⟨b1, rfl, rfl, rfl⟩
 refine aS 1 rfl rfl ?_
 refine aN (aT (aE (aR ?_)))
 refine aQ (q_loadS t64 rfl (RdS.loc (i := 0) rfl (m := 5) rfl) rfl) rfl ?_
 refine At.call en111 rfl (clamp111 p) (fun _ _ => trivial) (List.Perm.refl _) rfl ?_
 rintro _ _ _ ⟨rfl, rfl, rfl⟩
 refine aS 1 rfl rfl ?_
 refine At.call en112 rfl (held112 _) (fun _ _ => trivial) (List.Perm.refl _) rfl ?_
 rintro _ _ _ ⟨rfl, rfl, rfl⟩
 refine At.loudN (l_store t64 rfl rfl (i := 0) rfl rfl rfl rfl) ?_
 rintro _ _ _ ⟨rfl, rfl⟩
 refine aS 1 rfl rfl ?_
 refine aN (aT (aE (At.block (aE (aR ?_)))))
 refine aS 1 rfl rfl ?_
 refine aF s64 t3 rfl rfl rfl (Rd.loc (i := 0) rfl rfl) rfl rfl ?_
 refine aS 2 rfl rfl ?_
 refine aN (aT ?_)
 refine At.if rfl (fun h1 => ?_) (fun h1 => ?_)
 ·
  refine aE (aR ?_)
  refine aS 1 rfl rfl ?_
  refine aN (aT (At.ret (At.inRet (At.thenRet ?_))))
  exact At.results (Γr := []) (M := []) rfl (RVals.cons (RVal.tmp rfl) RVals.nil) (.head _) (fun _ _ => trivial) (d_ r_) ⟨by simp only [resVal, decideS, if_pos (show p.clamp.high < heldS s from h1)] <;> rfl, rfl, rfl⟩
 ·
  refine aE (aR ?_)
  refine aS 1 rfl rfl ?_
  refine aF s64 t3 rfl rfl rfl (Rd.loc (i := 0) rfl rfl) rfl rfl ?_
  refine aS 2 rfl rfl ?_
  refine aN (aT ?_)
  refine At.if rfl (fun h2 => ?_) (fun h2 => ?_)
  ·
   refine aE (aR ?_)
   refine aS 1 rfl rfl ?_
   refine aN (aT (At.ret (At.inRet (At.thenRet ?_))))
   exact At.results (Γr := []) (M := []) rfl (RVals.cons (RVal.tmp rfl) RVals.nil) (.head _) (fun _ _ => trivial) (d_ r_) ⟨by simp only [resVal, decideS, if_neg (show ¬ p.clamp.high < heldS s from h1), if_pos (show heldS s < p.clamp.low from h2)] <;> rfl, rfl, rfl⟩
  ·
   refine At.skip (At.inNormal (aT (aE (aR ?_))))
   refine aS 1 rfl rfl ?_
   refine aN (aT (At.ret ?_))
   exact At.results (Γr := []) (M := []) rfl (RVals.cons (RVal.tmp rfl) RVals.nil) (.head _) (fun _ _ => trivial) (d_ r_) ⟨by simp only [resVal, decideS, if_neg (show ¬ p.clamp.high < heldS s from h1), if_neg (show ¬ heldS s < p.clamp.low from h2)] <;> rfl, rfl, rfl⟩
theorem decide54 (p : Pol) (s : Int) : Con Try.prog 54 [p.val, .int .i64 s] [] [] (fun v Γ M => v = .int .i64 (decideS p s) ∧ Γ = [] ∧ M = []) := by
 refine Con.body 19 Try.func54 rfl Try.ntmps54 rfl fun X H₀ L₀ => ?_
 refine aE (aR ?_)
 refine At.loud (l_box rfl) rfl ?_
 rintro _ _ _ ⟨b1, rfl, rfl, rfl⟩
 refine aS 1 rfl rfl ?_
 refine aN (aT (aE (aR ?_)))
 refine aQ (q_loadS t64 rfl (RdS.loc (i := 0) rfl (m := 5) rfl) rfl) rfl ?_
 refine At.call en90 rfl (clamp90 p) (fun _ _ => trivial) (List.Perm.refl _) rfl ?_
 rintro _ _ _ ⟨rfl, rfl, rfl⟩
 refine At.loudN (l_store t64 rfl rfl (i := 0) rfl rfl rfl rfl) ?_
 rintro _ _ _ ⟨rfl, rfl⟩
 refine aN (aT (aE (aE (aR ?_))))
 refine aS 1 rfl rfl ?_
 refine At.call en91 rfl (hold91 _ _ _ (by omega)) (fun _ _ => trivial) (List.Perm.refl _) rfl ?_
 rintro _ _ _ ⟨rfl, rfl, rfl⟩
 refine aS 1 rfl rfl ?_
 refine aN (aT (At.block (aE (aR ?_))))
 refine aS 1 rfl rfl ?_
 refine aF s64 t3 rfl rfl rfl (Rd.loc (i := 0) rfl rfl) rfl rfl ?_
 refine aS 2 rfl rfl ?_
 refine aN (aT ?_)
 refine At.if rfl (fun h1 => ?_) (fun h1 => ?_)
 ·
  refine aE (aR ?_)
  refine aS 1 rfl rfl ?_
  refine aN (aT (At.ret (At.inRet (At.thenRet ?_))))
  exact At.results (Γr := []) (M := []) rfl (RVals.cons (RVal.tmp rfl) RVals.nil) (.head _) (fun _ _ => trivial) (d_ r_) ⟨by simp only [resVal, decideS, if_pos (show p.clamp.high < heldS s from h1)] <;> rfl, rfl, rfl⟩
 ·
  refine aE (aR ?_)
  refine aS 1 rfl rfl ?_
  refine aF s64 t3 rfl rfl rfl (Rd.loc (i := 0) rfl rfl) rfl rfl ?_
  refine aS 2 rfl rfl ?_
  refine aN (aT ?_)
  refine At.if rfl (fun h2 => ?_) (fun h2 => ?_)
  ·
   refine aE (aR ?_)
   refine aS 1 rfl rfl ?_
   refine aN (aT (At.ret (At.inRet (At.thenRet ?_))))
   exact At.results (Γr := []) (M := []) rfl (RVals.cons (RVal.tmp rfl) RVals.nil) (.head _) (fun _ _ => trivial) (d_ r_) ⟨by simp only [resVal, decideS, if_neg (show ¬ p.clamp.high < heldS s from h1), if_pos (show heldS s < p.clamp.low from h2)] <;> rfl, rfl, rfl⟩
  ·
   refine At.skip (At.inNormal (aT (aE (aR ?_))))
   refine aS 1 rfl rfl ?_
   refine aN (aT (At.ret ?_))
   exact At.results (Γr := []) (M := []) rfl (RVals.cons (RVal.tmp rfl) RVals.nil) (.head _) (fun _ _ => trivial) (d_ r_) ⟨by simp only [resVal, decideS, if_neg (show ¬ p.clamp.high < heldS s from h1), if_neg (show ¬ heldS s < p.clamp.low from h2)] <;> rfl, rfl, rfl⟩
theorem bend51 (t : Tr) (hsm : smallP t.ns.l) (p : Pol) (at_ : Int) : Con Try.prog 51 [t.val, p.val, .int .i64 at_] [ndsP t.ns, psP t.ns.l] [] (BendEnd (bendT t.p p at_)) := by
 refine Con.body 50 Try.func51 rfl Try.ntmps51 rfl fun X H₀ L₀ => ?_
 refine aE (aR ?_)
 refine At.loud (l_box rfl) rfl ?_
 rintro _ _ _ ⟨b1, rfl, rfl, rfl⟩
 refine At.freeze 0 (φ := blk b1 _) rfl (fun _ h => blk_def.2 ⟨_, _, h⟩) ?_
 refine At.loud (l_box rfl) rfl ?_
 rintro _ _ _ ⟨b2, rfl, rfl, rfl⟩
 refine At.freeze 0 (φ := blk b2 _) rfl (fun _ h => blk_def.2 ⟨_, _, h⟩) ?_
 refine At.loud (l_alloc t24) rfl ?_
 rintro _ _ _ ⟨b3, rfl, rfl, rfl⟩
 refine aS 1 rfl rfl ?_
 refine aN (aT (aE (aE (aR ?_))))
 refine aQ (q_loadS t24 rfl (RdS.blk (ix 1 rfl) (m := 2) rfl) rfl) rfl ?_
 refine aS 1 rfl rfl ?_
 refine At.call en80 rfl (leaf80 _ _) (fun _ h => ⟨h.2.2.2.1, h.2.2.2.2.1, trivial⟩) (List.Perm.refl _) rfl ?_
 rintro _ _ _ ⟨rfl, rfl, rfl⟩
 refine aS 1 rfl rfl ?_
 refine aN (aT ?_)
 refine At.cond rfl (fun hlf => ?_) (fun hlf => ?_)
 ·
  refine At.know (ndsP ⟨none, 0, []⟩) (fun _ h => sl_nil _ _ _ (Nat.zero_le _)) ?_
  refine At.know (psP []) (fun _ h => psP_nil) ?_
  refine aE (aR ?_)
  refine aQ (q_build t24 s24 rfl rfl) rfl ?_
  refine At.loudN (l_store t24 rfl rfl (i := 0) rfl rfl rfl rfl) ?_
  rintro _ _ _ ⟨rfl, rfl⟩
  refine aS 1 rfl rfl ?_
  refine aN (aT (At.ret (At.thenRet ?_)))
  exact At.results (Γr := [_, _]) (M := []) rfl (RVals.cons (RVal.cellS rfl t24 (RdS.loc (i := 0) rfl (m := 2) rfl) rfl) (RVals.cons (RVal.tmp rfl) RVals.nil)) (ix 4 rfl) (fun _ h => ⟨h.2.1, h.1, trivial⟩) (d_ r_) ⟨⟨0, ⟨none, 0, []⟩⟩, by rw [bend_no (not_t hlf)]; rfl, rfl, rfl, by rw [bend_no (not_t hlf)]; rfl⟩
 ·
  obtain ⟨s, i, n, hs, rfl, hn, hnr⟩ := leaf_yes (not_f hlf)
  have hil := lt_of_get hn
  obtain ⟨x, hx, hxn⟩ := p_get (u := t) rfl hn
  have hbe := bend_eq (p := p) (not_f hlf) hn
  have hxs : x.stat = n.stat := by rw [← hxn]; rfl
  refine At.know (prsP x.ps) (fun _ h => psP_get h.2.2.2.2.1 hx) ?_
  refine At.skip (aT (aE ?_))
  refine At.draw 7 (.q 0 (.q 1 (.q 2 (.q 3 (.q 4 (.q 5 (.q 6 (.e)))))))) _ (List.Sublist.refl _) mixed (by kernel_rfl) rfl ?_
  refine oQ rfl (q_loadS t64 rfl (RdS.blk (ix 1 rfl) (m := 5) rfl) rfl) rfl (cT cP) ?_
  refine oQ rfl (q_fieldAddr s24 rfl rfl rfl) rfl (cT cP) ?_
  refine oQ rfl (q_load t22 rfl (Rd.blk (ix 2 rfl) rfl)) rfl (cT cP) ?_
  refine oQ rfl (q_move rfl) rfl (cT cP) ?_
  refine oQ rfl (q_index Try.underlying22 t33 rfl (ix 4 rfl) (by simp) rfl rfl (lt_of_get hx)) rfl (cT cP) ?_
  refine oQ rfl (q_fieldAddr s33 rfl rfl rfl) rfl (cT cP) ?_
  refine oQ rfl (q_load t3 rfl (Rd.sl (ix 4 rfl) (map_get hx) rfl)) rfl (cT cP) ?_
  refine AtO.done ?_
  refine At.call en89 rfl (decide89 p x.stat) (fun _ _ => trivial) (List.Perm.refl _) rfl ?_
  rintro _ _ _ ⟨rfl, rfl, rfl⟩
  refine aS 1 rfl rfl ?_
  refine aN (aT (aE (aR ?_)))
  rw [← hxs] at hbe
  refine At.loud (l_alloc t24) rfl ?_
  rintro _ _ _ ⟨b4, rfl, rfl, rfl⟩
  refine aN (aT (aE (aR ?_)))
  refine aS 1 rfl rfl ?_
  refine aN (aT (aE (aE (aR ?_))))
  refine aS 1 rfl rfl ?_
  refine aN (aT (At.block (aE (aR ?_))))
  refine aS 2 rfl rfl ?_
  refine aN (aT ?_)
  refine At.if rfl (fun h1 => ?_) (fun h1 => ?_)
  ·
   refine aR ?_
   refine aQ (q_loadS t24 rfl (RdS.blk (ix 2 rfl) (m := 2) rfl) rfl) rfl ?_
   refine aS 1 rfl rfl ?_
   refine At.call en47 rfl (split47 _ (by assumption) _) (fun _ h => ⟨h.2.2.2.2.1, h.2.2.2.2.2.1, trivial⟩) (List.Perm.refl _) rfl ?_
   rintro _ _ _ ⟨u, rfl, rfl, rfl, hpu⟩
   refine aS 1 rfl rfl ?_
   refine aQ (q_extract rfl rfl) rfl ?_
   refine aQ (q_extract rfl rfl) rfl ?_
   refine At.loudN (l_store t24 rfl rfl (i := 0) rfl rfl rfl rfl) ?_
   rintro _ _ _ ⟨rfl, rfl⟩
   refine aS 1 rfl rfl ?_
   refine aN (At.inNormal (aT (aE (aE (aR ?_)))))
   refine aS 2 rfl rfl ?_
   refine aN (aT ?_)
   refine At.cond rfl (fun hok => ?_) (fun hok => ?_)
   ·
    refine aE (aR ?_)
    refine aQ (q_loadS t24 rfl (RdS.blk (ix 4 rfl) (m := 2) rfl) rfl) rfl ?_
    refine At.call en25 rfl (plain25 _ (by assumption)) (fun _ h => ⟨h.2.2.2.2.2.2.1, h.2.2.2.2.2.2.2.1, trivial⟩) (List.Perm.refl _) rfl ?_
    rintro _ _ _ ⟨w, Mw, rfl, rfl, rfl, hw, hpw⟩
    refine aS 1 rfl rfl ?_
    refine aQ (q_extract rfl rfl) rfl ?_
    refine aQ (q_extract rfl rfl) rfl ?_
    refine At.loudN (l_store t24 rfl rfl (i := 1) rfl rfl rfl rfl) ?_
    rintro _ _ _ ⟨rfl, rfl⟩
    refine aN (aT (aR ?_))
    refine aS 1 rfl rfl ?_
    refine aN (aT (aE (aR ?_)))
    refine At.freezeOwn 0 hw rfl ?_
    refine aQ (q_loadS t24 rfl (RdS.loc (i := 0) rfl (m := 2) rfl) rfl) rfl ?_
    refine aS 1 rfl rfl ?_
    refine At.loudN (l_store t24 rfl rfl (i := 1) rfl rfl rfl rfl) ?_
    rintro _ _ _ ⟨rfl, rfl⟩
    refine aS 1 rfl rfl ?_
    refine aN (aT (At.ret ?_))
    exact At.results (Γr := [_, _]) (M := []) rfl (RVals.cons (RVal.cellS rfl t24 (RdS.loc (i := 1) rfl (m := 2) rfl) rfl) (RVals.cons (RVal.tmp rfl) RVals.nil)) (ix 7 rfl) (fun _ h => ⟨h.1, h.2.1, trivial⟩) (d_ (d_ r_)) ⟨w, by rw [hbe, if_neg (fun h => by rw [not_t hok] at h; exact absurd h.2 (by simp)), if_neg (fun h => by omega)]; rfl, rfl, rfl, by rw [hbe, if_neg (fun h => by rw [not_t hok] at h; exact absurd h.2 (by simp)), if_neg (fun h => by omega)]; exact hpw⟩
   ·
    refine At.skip (aT (aE (aR ?_)))
    refine aQ (q_loadS t24 rfl (RdS.loc (i := 0) rfl (m := 2) rfl) rfl) rfl ?_
    refine aS 1 rfl rfl ?_
    refine At.loudN (l_store t24 rfl rfl (i := 1) rfl rfl rfl rfl) ?_
    rintro _ _ _ ⟨rfl, rfl⟩
    refine aS 1 rfl rfl ?_
    refine aN (aT (At.ret ?_))
    exact At.results (Γr := [_, _]) (M := []) rfl (RVals.cons (RVal.cellS rfl t24 (RdS.loc (i := 1) rfl (m := 2) rfl) rfl) (RVals.cons (RVal.tmp rfl) RVals.nil)) (ix 5 rfl) (fun _ h => ⟨h.1, h.2.1, trivial⟩) (d_ (d_ r_)) ⟨u, by rw [hbe, if_pos ⟨h1, not_f hok⟩]; first | rfl | (rw [h1]; rfl) | (rw [h2]; rfl), rfl, rfl, by rw [hbe, if_pos ⟨h1, not_f hok⟩]; exact hpu⟩
  ·
   refine aE (aR ?_)
   refine aS 2 rfl rfl ?_
   refine aN (aT ?_)
   refine At.if rfl (fun h2 => ?_) (fun h2 => ?_)
   ·
    refine aR ?_
    refine aQ (q_loadS t24 rfl (RdS.blk (ix 2 rfl) (m := 2) rfl) rfl) rfl ?_
    refine aS 1 rfl rfl ?_
    refine At.call en48 rfl (join48 _ (by assumption) _) (fun _ h => ⟨h.2.2.2.2.1, h.2.2.2.2.2.1, trivial⟩) (List.Perm.refl _) rfl ?_
    rintro _ _ _ ⟨u, rfl, rfl, rfl, hpu⟩
    refine aS 1 rfl rfl ?_
    refine aQ (q_extract rfl rfl) rfl ?_
    refine aQ (q_extract rfl rfl) rfl ?_
    refine At.loudN (l_store t24 rfl rfl (i := 0) rfl rfl rfl rfl) ?_
    rintro _ _ _ ⟨rfl, rfl⟩
    refine aS 1 rfl rfl ?_
    refine aN (At.inNormal (aT (aE (aE (aR ?_)))))
    refine aS 2 rfl rfl ?_
    refine aN (aT ?_)
    refine At.cond rfl (fun hok => ?_) (fun hok => ?_)
    ·
     refine aE (aR ?_)
     refine aQ (q_loadS t24 rfl (RdS.blk (ix 4 rfl) (m := 2) rfl) rfl) rfl ?_
     refine At.call en25 rfl (plain25 _ (by assumption)) (fun _ h => ⟨h.2.2.2.2.2.2.1, h.2.2.2.2.2.2.2.1, trivial⟩) (List.Perm.refl _) rfl ?_
     rintro _ _ _ ⟨w, Mw, rfl, rfl, rfl, hw, hpw⟩
     refine aS 1 rfl rfl ?_
     refine aQ (q_extract rfl rfl) rfl ?_
     refine aQ (q_extract rfl rfl) rfl ?_
     refine At.loudN (l_store t24 rfl rfl (i := 1) rfl rfl rfl rfl) ?_
     rintro _ _ _ ⟨rfl, rfl⟩
     refine aN (aT (aR ?_))
     refine aS 1 rfl rfl ?_
     refine aN (aT (aE (aR ?_)))
     refine At.freezeOwn 0 hw rfl ?_
     refine aQ (q_loadS t24 rfl (RdS.loc (i := 0) rfl (m := 2) rfl) rfl) rfl ?_
     refine aS 1 rfl rfl ?_
     refine At.loudN (l_store t24 rfl rfl (i := 1) rfl rfl rfl rfl) ?_
     rintro _ _ _ ⟨rfl, rfl⟩
     refine aS 1 rfl rfl ?_
     refine aN (aT (At.ret ?_))
     exact At.results (Γr := [_, _]) (M := []) rfl (RVals.cons (RVal.cellS rfl t24 (RdS.loc (i := 1) rfl (m := 2) rfl) rfl) (RVals.cons (RVal.tmp rfl) RVals.nil)) (ix 7 rfl) (fun _ h => ⟨h.1, h.2.1, trivial⟩) (d_ (d_ r_)) ⟨w, by rw [hbe, if_neg (fun h => h1 h.1), if_neg (fun h => by rw [not_t hok] at h; exact absurd h.2 (by simp))]; rfl, rfl, rfl, by rw [hbe, if_neg (fun h => h1 h.1), if_neg (fun h => by rw [not_t hok] at h; exact absurd h.2 (by simp))]; exact hpw⟩
    ·
     refine At.skip (aT (aE (aR ?_)))
     refine aQ (q_loadS t24 rfl (RdS.loc (i := 0) rfl (m := 2) rfl) rfl) rfl ?_
     refine aS 1 rfl rfl ?_
     refine At.loudN (l_store t24 rfl rfl (i := 1) rfl rfl rfl rfl) ?_
     rintro _ _ _ ⟨rfl, rfl⟩
     refine aS 1 rfl rfl ?_
     refine aN (aT (At.ret ?_))
     exact At.results (Γr := [_, _]) (M := []) rfl (RVals.cons (RVal.cellS rfl t24 (RdS.loc (i := 1) rfl (m := 2) rfl) rfl) (RVals.cons (RVal.tmp rfl) RVals.nil)) (ix 5 rfl) (fun _ h => ⟨h.1, h.2.1, trivial⟩) (d_ (d_ r_)) ⟨u, by rw [hbe, if_neg (fun h => h1 h.1), if_pos ⟨h2, not_f hok⟩]; first | rfl | (rw [h1]; rfl) | (rw [h2]; rfl), rfl, rfl, by rw [hbe, if_neg (fun h => h1 h.1), if_pos ⟨h2, not_f hok⟩]; exact hpu⟩
   ·
    refine At.skip (At.inNormal (aT (aE (aE (aR ?_)))))
    refine aS 2 rfl rfl ?_
    refine aN (aT ?_)
    refine At.condT rfl ?_
    refine aE (aR ?_)
    refine aQ (q_loadS t24 rfl (RdS.blk (ix 2 rfl) (m := 2) rfl) rfl) rfl ?_
    refine At.call en25 rfl (plain25 _ (by assumption)) (fun _ h => ⟨h.2.2.2.2.1, h.2.2.2.2.2.1, trivial⟩) (List.Perm.refl _) rfl ?_
    rintro _ _ _ ⟨w, Mw, rfl, rfl, rfl, hw, hpw⟩
    refine aS 1 rfl rfl ?_
    refine aQ (q_extract rfl rfl) rfl ?_
    refine aQ (q_extract rfl rfl) rfl ?_
    refine At.loudN (l_store t24 rfl rfl (i := 1) rfl rfl rfl rfl) ?_
    rintro _ _ _ ⟨rfl, rfl⟩
    refine aN (aT (aR ?_))
    refine aS 1 rfl rfl ?_
    refine aN (aT (aE (aR ?_)))
    refine At.freezeOwn 0 hw rfl ?_
    refine aQ (q_loadS t24 rfl (RdS.loc (i := 0) rfl (m := 2) rfl) rfl) rfl ?_
    refine aS 1 rfl rfl ?_
    refine At.loudN (l_store t24 rfl rfl (i := 1) rfl rfl rfl rfl) ?_
    rintro _ _ _ ⟨rfl, rfl⟩
    refine aS 1 rfl rfl ?_
    refine aN (aT (At.ret ?_))
    exact At.results (Γr := [_, _]) (M := []) rfl (RVals.cons (RVal.cellS rfl t24 (RdS.loc (i := 1) rfl (m := 2) rfl) rfl) (RVals.cons (RVal.tmp rfl) RVals.nil)) (ix 5 rfl) (fun _ h => ⟨h.1, h.2.1, trivial⟩) (d_ (d_ r_)) ⟨w, by rw [hbe, if_neg (fun h => h1 h.1), if_neg (fun h => h2 h.1)]; rfl, rfl, rfl, by rw [hbe, if_neg (fun h => h1 h.1), if_neg (fun h => h2 h.1)]; exact hpw⟩
end Go.Proofs.Ytmkodknmknfdkaa
set_option linter.unusedVariables false
set_option linter.unusedSimpArgs false
namespace Go.Proofs.Ytmkodknmknfdkaa
open E
theorem split_p2 {u : Tr} {t : PT} {i : Nat} {n : Nod} {y : Nd} {s1 s2 : Sl Pr} {a : Option Addr} {c : Nat} (h : u.p = t) (hy : y.ps.l = n.l) (hl : u.ns.l.length = t.ns.length) (hi : i < t.ns.length) (h1 : s1.l = y.ps.l.take (y.ps.l.length / 2)) (h2 : s2.l = y.ps.l.drop (y.ps.l.length / 2)) :
  (⟨u.root, ⟨a, c, (u.ns.l ++ [(⟨false, 0, 0, 0, s1, 0⟩ : Nd), (⟨false, 0, 0, 0, s2, 0⟩ : Nd)]).set i (⟨true, (y.ps.l.getD (y.ps.l.length / 2) default).k, (u.ns.l.length : Int), (u.ns.l.length : Int) + 1, ⟨none, 0, []⟩, 0⟩ : Nd)⟩⟩ : Tr).p = splitRaw t i n := by
 rw [List.set_append_left _ _ (by rw [hl]; exact hi)]
 subst h
 rw [hl, hy]
 simp [Tr.p, Nd.p, splitRaw, List.map_set, h1, h2, hy]
theorem split_small2 {l : List Nd} {i : Nat} {y : Nd} {s1 s2 : Sl Pr} {m : Nat} {k N1 N2 : Int} (h : smallP l) (hy : y.ps.l.length ≤ 1000000) (h1 : s1.l = y.ps.l.take m) (h2 : s2.l = y.ps.l.drop m) :
  smallP ((l ++ [(⟨false, 0, 0, 0, s1, 0⟩ : Nd), (⟨false, 0, 0, 0, s2, 0⟩ : Nd)]).set i (⟨true, k, N1, N2, ⟨none, 0, []⟩, 0⟩ : Nd)) := by
 refine small_set (fun n hn => ?_) (by simp)
 rcases List.mem_append.1 hn with hn | hn
 ·exact h n hn
 ·rcases List.mem_cons.1 hn with rfl | hn
  ·show s1.l.length ≤ _; rw [h1]; simp; omega
  ·rw [List.mem_singleton.1 hn]; show s2.l.length ≤ _; rw [h2]; simp; omega
theorem setapp_val (r : Int) (a : Option Addr) (c : Nat) (l : List Nd) (i : Nat) (m x y : Nd) : Tr.val ⟨r, ⟨a, c, (l ++ [x, y]).set i m⟩⟩ = .agg #[.int .i64 r, .slice a (l.length + 2) c] := by simp [Tr.val, Sl.val]
def UpEnd (t : PT) (a : Int) (v : Value) (Γ : List SProp) (M : E.Loc) : Prop :=
 Γ = [] ∧ M = [] ∧ ((v = .tuple #[.int .i64 (-1), .bool false] ∧ ∀ (j : Nat) (n : Nod), t.ns[j]? = some n → n.route = true → n.left ≠ a ∧ n.right ≠ a) ∨
  ∃ (k : Nat) (n : Nod), v = .tuple #[.int .i64 (k : Int), .bool (decide (n.right = a))] ∧ t.ns[k]? = some n ∧ n.route = true ∧ (n.left = a ∨ n.right = a))
theorem up_step {ns : List Nod} {k : Nat} {x : Nod} {a : Int} (h : ∀ (j : Nat) (n : Nod), j < k → ns[j]? = some n → n.route = true → n.left ≠ a ∧ n.right ≠ a) (hx : ns[k]? = some x) (hr : x.route = true → x.left ≠ a ∧ x.right ≠ a) :
  ∀ (j : Nat) (n : Nod), j < k + 1 → ns[j]? = some n → n.route = true → n.left ≠ a ∧ n.right ≠ a := fun j n hj hn hnr => by
 by_cases e : j = k
 ·subst e; rw [hx] at hn; cases hn; exact hr hnr
 ·exact h j n (by omega) hn hnr
theorem up_all {t : Tr} {j k : Nat} {n : Nod} (h : t.p.ns[j]? = some n) (hk : t.ns.l.length ≤ k) : j < k := by
 have h1 := lt_of_get h
 have h2 : t.p.ns.length = t.ns.l.length := by simp [Tr.p]
 omega
theorem near_size {t : PT} {s l : Sh} {b : Int} (hs : mayT t = some s) (hl : Hangs t.ns l b) : l.size ≤ 1000000 := by
 -- what hangs in the tree is no larger than the tree
 have key : ∀ {s' : Sh} {b : Int}, Hangs t.ns s' b → ∀ {s0 : Sh} {a0 : Int}, Hangs t.ns s0 a0 → a0 = b → s' = s0 := by
  intro s'
  induction s' with
  | leaf i =>
   rintro b ⟨rfl, n, hn, hr⟩ s0 a0 h0 e
   rw [e] at h0
   exact (hangs_leaf h0 hn hr).symm
  | node i l r h1 h2 =>
   rintro b ⟨rfl, n, hn, hr, hl, hrr⟩ s0 a0 h0 e
   rw [e] at h0
   cases s0 with
   | leaf j =>
    obtain ⟨e3, m, hm, hmr⟩ := h0
    have : i = j := by omega
    subst this
    rw [hn] at hm; cases hm; rw [hr] at hmr; cases hmr
   | node j l' r' =>
    obtain ⟨e3, m, hm, hmr, hl', hr'⟩ := h0
    have : i = j := by omega
    subst this
    rw [hn] at hm; cases hm
    rw [h1 hl hl' rfl, h2 hrr hr' rfl]
 have hg := good_of hs
 have sub : ∀ {s0 : Sh} {a0 : Int}, Hangs t.ns s0 a0 → ∀ p ∈ s0.places, ∃ s1 : Sh, Hangs t.ns s1 (p : Int) ∧ s1.size ≤ s0.size := by
  intro s0
  induction s0 with
  | leaf i =>
   intro a0 h0 p hp
   have h0' := h0
   obtain ⟨e, _⟩ := h0
   simp [Sh.places] at hp
   subst hp
   exact ⟨_, by rw [← e]; exact h0', Nat.le_refl _⟩
  | node i l r h1 h2 =>
   intro a0 h0 p hp
   have h0' := h0
   obtain ⟨e, n, hn, hr, hl, hrr⟩ := h0
   simp only [Sh.places, List.mem_cons, List.mem_append] at hp
   rcases hp with rfl | hp | hp
   ·exact ⟨_, by rw [← e]; exact h0', Nat.le_refl _⟩
   ·obtain ⟨s1, g1, g2⟩ := h1 hl p hp; exact ⟨s1, g1, by simp only [Sh.size]; omega⟩
   ·obtain ⟨s1, g1, g2⟩ := h2 hrr p hp; exact ⟨s1, g1, by simp only [Sh.size]; omega⟩
 obtain ⟨n, hn⟩ := hl.get l.at_ (at_mem l)
 obtain ⟨s1, g1, g2⟩ := sub hg.hangs l.at_ (hg.all l.at_ (lt_of_get hn))
 have e := key hl g1 hl.at0.symm
 have h1 := hg.size
 have h2 := hg.few
 rw [e]
 omega
def nbI (o : Option Nat) : Int := match o with
 | none => -1
 | some m => (m : Int)
/-- A leaf without a parent stands alone. -/
theorem alone {t : PT} {s : Sh} {i : Nat} {x : Nod} (hs : mayT t = some s) (hx : t.ns[i]? = some x) (hr : x.route = false) (h : ∀ (j : Nat) (n : Nod), t.ns[j]? = some n → n.route = true → n.left ≠ (i : Int) ∧ n.right ≠ (i : Int)) : s.nb i = none := by
 obtain ⟨u, b, hw, _⟩ := way_of hs (lt_of_get hx)
 rcases way_nb hs hx hr hw with ⟨_, _, e⟩ | ⟨_, _, q, n, side, _, _, _, _, hn, hnr, he, _⟩
 ·exact e
 ·have := h q n hn hnr
  cases side
  ·exact absurd he this.1
  ·exact absurd he this.2
theorem up_nb {t : PT} {s : Sh} {i q : Nat} {x n : Nod} (hs : mayT t = some s) (hx : t.ns[i]? = some x) (hr : x.route = false) (hq : t.ns[q]? = some n) (hqr : n.route = true) (he : n.left = (i : Int) ∨ n.right = (i : Int)) :
  ∃ l r, Hangs t.ns l n.left ∧ Hangs t.ns r n.right ∧ s.nb i = some (q, decide (n.right = (i : Int)), if decide (n.right = (i : Int)) then l.last else r.first) := by
 have hg := good_of hs
 refine nb_spec hg.hangs hg.nodup (hg.all q (lt_of_get hq)) hq hqr ?_ hx hr
 by_cases h : n.right = (i : Int)
 ·rw [decide_eq_true h]; exact h
 ·rw [decide_eq_false h]
  rcases he with he | he
  ·exact he
  ·exact absurd he h
theorem last_get2 (s : Sh) : (toI s.leaves)[(toI s.leaves).length - 1]? = some (s.last : Int) := by
 obtain ⟨l, h⟩ := last_leaves s
 rw [h, toI_length]
 have : (toI (l ++ [s.last]))[l.length]? = some (s.last : Int) := toI_get (by simp)
 simpa using this
theorem first_get2 (s : Sh) : (toI s.leaves)[0]? = some (s.first : Int) := by
 obtain ⟨l, h⟩ := first_leaves s
 rw [h]
 rfl
def HangsS (ns : List Nod) (g o : Int) : Sh → Int → Prop
 | .leaf i, a => (if a = g then o else a) = (i : Int) ∧ ∃ n, ns[i]? = some n ∧ n.route = false
 | .node i l r, a => (if a = g then o else a) = (i : Int) ∧ ∃ n, ns[i]? = some n ∧ n.route = true ∧ HangsS ns g o l n.left ∧ HangsS ns g o r n.right
theorem HangsS.at {t : Tr} {g o : Int} {s : Sh} {a : Int} (h : HangsS t.p.ns g o s a) : ∃ (i : Nat) (x : Nd), (if a = g then o else a) = (i : Int) ∧ t.ns.l[i]? = some x ∧ t.p.ns.getD i default = x.p ∧
  ((x.route = false ∧ s = .leaf i) ∨ (x.route = true ∧ ∃ l r, s = .node i l r ∧ HangsS t.p.ns g o l x.left ∧ HangsS t.p.ns g o r x.right)) := by
 cases s with
 | leaf i =>
  obtain ⟨h0, n, hn, hr⟩ := h
  obtain ⟨x, hx, hxn⟩ := p_get (u := t) rfl hn
  subst hxn
  exact ⟨i, x, h0, hx, getD_of hn, .inl ⟨hr, rfl⟩⟩
 | node i l r =>
  obtain ⟨h0, n, hn, hr, hl, hr'⟩ := h
  obtain ⟨x, hx, hxn⟩ := p_get (u := t) rfl hn
  subst hxn
  exact ⟨i, x, h0, hx, getD_of hn, .inr ⟨hr, l, r, rfl, hl, hr'⟩⟩
theorem hangsS_of {ns : List Nod} {s : Sh} {a : Int} {g : Nat} {o : Int} (h : Hangs ns s a) (hg : g ∉ s.places) : HangsS ns (g : Int) o s a := by
  have ha := h.at0
  have hne : a ≠ (g : Int) := fun e => hg (by have : g = s.at_ := by omega
                                              rw [this]; exact at_mem s)
  induction s generalizing a with
  | leaf i =>
    obtain ⟨e, n, hn, hr⟩ := h
    exact ⟨by rw [if_neg hne]; exact e, n, hn, hr⟩
  | node i l r h1 h2 =>
    obtain ⟨e, n, hn, hr, hl, hr'⟩ := h
    simp only [Sh.places, List.mem_cons, List.mem_append, not_or] at hg
    refine ⟨by rw [if_neg hne]; exact e, n, hn, hr, h1 hl hg.2.1 hl.at0 (fun e => hg.2.1 ?_), h2 hr' hg.2.2 hr'.at0 (fun e => hg.2.2 ?_)⟩
    · have := hl.at0; have h3 : g = l.at_ := by omega
      rw [h3]; exact at_mem l
    · have := hr'.at0; have h3 : g = r.at_ := by omega
      rw [h3]; exact at_mem r
/-- Without a leaf and its route. -/
theorem cut_hangsS {ns : List Nod} {s : Sh} {a : Int} {i q m : Nat} {side : Bool} {n : Nod} (h : Hangs ns s a) (hnd : s.places.Nodup) (hnb : s.nb i = some (q, side, m)) (hq : ns[q]? = some n) : HangsS ns (q : Int) (kidN n (!side)) (s.cut i) a := by
  induction s generalizing a with
  | leaf j => cases hnb
  | node j l r h1 h2 =>
    obtain ⟨rfl, x, hx, hxr, hl, hrr⟩ := h
    obtain ⟨c1, c2, d1, d2, d3⟩ := nodup_node hnd
    have redirect : ∀ {s' : Sh} {b : Int}, HangsS ns (q : Int) b s' b → b ≠ (q : Int) → HangsS ns (q : Int) b s' (q : Int) := by
      intro s' b hs' hb
      cases s' with
      | leaf k => obtain ⟨e, rest⟩ := hs'; rw [if_neg hb] at e; exact ⟨by rw [if_pos rfl]; exact e, rest⟩
      | node k a1 a2 => obtain ⟨e, rest⟩ := hs'; rw [if_neg hb] at e; exact ⟨by rw [if_pos rfl]; exact e, rest⟩
    simp only [Sh.nb] at hnb
    simp only [Sh.cut]
    split at hnb
    · rename_i e
      cases hnb
      obtain rfl : n = x := by rw [hq] at hx; exact Option.some.inj hx
      rw [if_pos e]
      have e3 : kidN n (!false) = n.right := rfl
      rw [e3]
      exact redirect (hangsS_of hrr c2) (fun e => c2 (by have := hrr.at0; have h3 : q = r.at_ := by omega
                                                         rw [h3]; exact at_mem r))
    · rename_i e
      split at hnb
      · rename_i e'
        cases hnb
        obtain rfl : n = x := by rw [hq] at hx; exact Option.some.inj hx
        rw [if_neg e, if_pos e']
        have e3 : kidN n (!true) = n.left := rfl
        rw [e3]
        exact redirect (hangsS_of hl c1) (fun e => c1 (by have := hl.at0; have h3 : q = l.at_ := by omega
                                                          rw [h3]; exact at_mem l))
      · rename_i e'
        rw [if_neg e, if_neg e']
        have qin : ∀ {s' : Sh}, s'.nb i = some (q, side, m) → q ∈ s'.places := by
          intro s'
          induction s' with
          | leaf k => intro h; cases h
          | node k l' r' g1 g2 =>
            intro h
            simp only [Sh.nb] at h
            simp only [Sh.places, List.mem_cons, List.mem_append]
            split at h
            · cases h; exact .inl rfl
            · split at h
              · cases h; exact .inl rfl
              · split at h
                · rename_i y hy; cases h; exact .inr (.inl (g1 hy))
                · exact .inr (.inr (g2 h))
        split at hnb
        · rename_i y hy
          cases hnb
          have hqj : (j : Int) ≠ (q : Int) := fun e3 => c1 (by have : j = q := by omega
                                                               rw [this]; exact qin hy)
          have hir : i ∉ r.places := d3 i (leaves_places i (nb_mem hy))
          rw [cut_out hir]
          exact ⟨by rw [if_neg hqj], x, hx, hxr, h1 hl d1 hy, hangsS_of hrr (d3 q (qin hy))⟩
        · rename_i hno
          have hqj : (j : Int) ≠ (q : Int) := fun e3 => c2 (by have : j = q := by omega
                                                               rw [this]; exact qin hnb)
          have hil : i ∉ l.places := fun h3 => d3 i h3 (leaves_places i (nb_mem hnb))
          rw [cut_out hil]
          exact ⟨by rw [if_neg hqj], x, hx, hxr, hangsS_of hl (fun h3 => d3 q h3 (qin hnb)), h2 hrr d2 hnb⟩
theorem cut_size (i : Nat) (s : Sh) : (s.cut i).size ≤ s.size := by
 induction s with
 | leaf j => exact Nat.le_refl _
 | node j l r h1 h2 =>
  simp only [Sh.cut]
  split
  ·simp only [Sh.size]; omega
  ·split
   ·simp only [Sh.size]; omega
   ·simp only [Sh.size]; omega
def InEnd (t : Tr) (s : Sh) (q : List Nd) (v : Value) (Γ : List SProp) (M : E.Loc) : Prop :=
 ∃ (o' : List Nd) (a' : Option Addr) (c' : Nat) (M' : E.Seg), v = .tuple #[.slice a' (q ++ o').length c', .int .i64 (q.length : Int)] ∧ Γ = [psP o'] ∧ M = [M'] ∧ E.Own 33 6 ((q ++ o').map rowN) a' c' M' ∧ o'.map Nd.p = s.lay t.p.ns q.length
def CopyIn (t : Tr) (g o : Int) (s : Sh) : Prop := ∀ (at_ : Int), HangsS t.p.ns g o s at_ → ∀ (q : List Nd) (a : Option Addr) (c : Nat) (Mo : E.Seg), E.Own 33 6 (q.map rowN) a c Mo → q.length + s.size ≤ 1000000 →
 Con Try.prog 88 [t.val, .int .i64 at_, .int .i64 g, .int .i64 o, .slice a q.length c] [ndsP t.ns, psP t.ns.l] [Mo] (InEnd t s q)
theorem in_node {t : Tr} {i : Nat} {x n : Nd} {l r : Sh} {q o1 o2 : List Nd} {a : Option Addr} {c : Nat} {M : E.Seg} {N : Nat} {n0 : Nd} (hO : E.Own 33 6 ((q ++ n :: (o1 ++ o2)).map rowN) a c M) (hg : t.p.ns.getD i default = x.p)
  (he1 : o1.map Nd.p = l.lay t.p.ns (q ++ [n0]).length) (he2 : o2.map Nd.p = r.lay t.p.ns ((q ++ [n0]) ++ o1).length) (hN : N = (((q ++ [n0]) ++ o1) ++ o2).length)
  (hn : n.p = { x.p with left := ((q.length + 1 : Nat) : Int), right := ((q.length + 1 + o1.length : Nat) : Int) }) : InEnd t (.node i l r) q (.tuple #[.slice a N c, .int .i64 (q.length : Int)]) [psP (n :: (o1 ++ o2))] [M] := by
 subst hN
 have hl1 : o1.length = l.size := by have := congrArg List.length he1; rwa [List.length_map, Sh.lay_length] at this
 refine ⟨n :: (o1 ++ o2), a, c, M, by simp, rfl, rfl, hO, ?_⟩
 simp only [Sh.lay, hg, List.map_cons, List.map_append]
 rw [he1, he2, hn]
 simp only [List.length_append, List.length_singleton, hl1]
def psX (m : Nat) (l : List Nd) : SProp := ⟨fun H => ∀ (j : Nat) (n : Nd), l[j]? = some n → j ≠ m → (prsP n.ps).holds H, fun _ _ h k j n hn hj => (prsP n.ps).mono _ _ h (k j n hn hj)⟩
def OwnAt (m : Nat) (o : List Nd) (mp : E.Seg) : Prop := (o.length ≤ m ∧ mp = []) ∨ ∃ y, o[m]? = some y ∧ E.Own 50 2 (y.ps.l.map rowP) y.ps.a y.ps.c mp
theorem psX_nil {H : Hp} (m : Nat) : (psX m []).holds H := fun j n h => by simp at h
theorem psX_snoc {H : Hp} {m : Nat} {l : List Nd} {n : Nd} (h : (psX m l).holds H) (hn : l.length ≠ m → (prsP n.ps).holds H) : (psX m (l ++ [n])).holds H := fun j k hk hj => by
 by_cases e : j < l.length
 ·rw [List.getElem?_append_left e] at hk; exact h j k hk hj
 ·rw [List.getElem?_append_right (by omega)] at hk
  have : j - l.length = 0 := by
   have := lt_of_get hk
   simp at this
   omega
  rw [this] at hk
  simp at hk
  subst hk
  exact hn (by omega)
theorem OwnAt.here {m : Nat} {o : List Nd} {n : Nd} {mp M : E.Seg} (h : OwnAt m o mp) (hm : o.length = m) (hO : E.Own 50 2 (n.ps.l.map rowP) n.ps.a n.ps.c M) : OwnAt m (o ++ [n]) M := .inr ⟨n, by rw [← hm]; simp, hO⟩
theorem OwnAt.there {m : Nat} {o : List Nd} {n : Nd} {mp : E.Seg} (h : OwnAt m o mp) (hm : o.length ≠ m) : OwnAt m (o ++ [n]) mp := by
 rcases h with ⟨h1, h2⟩ | ⟨y, hy, hO⟩
 ·exact .inl ⟨by simp; omega, h2⟩
 ·exact .inr ⟨y, by rw [List.getElem?_append_left (lt_of_get hy)]; exact hy, hO⟩
def CopyXEnd (t : Tr) (m : Nat) (v : Value) (Γ : List SProp) (M : E.Loc) : Prop :=
 ∃ (u : Tr) (M' mp : E.Seg), v = u.val ∧ Γ = [psX m u.ns.l] ∧ M = [M', mp] ∧ E.Own 33 6 (u.ns.l.map rowN) u.ns.a u.ns.c M' ∧ OwnAt m u.ns.l mp ∧ u.p = t.p
theorem psP_ofX {H : Hp} {m : Nat} {l : List Nd} {n : Nd} (h : (psX m l).holds H) (hn : (prsP n.ps).holds H) : (psP (l.set m n)).holds H := fun k hk => by
 obtain ⟨j, hj⟩ := List.mem_iff_getElem?.1 hk
 by_cases e : m = j
 ·subst e
  rw [List.getElem?_set] at hj
  split at hj
  ·split at hj
   ·cases hj; exact hn
   ·cases hj
  ·exact absurd rfl (by assumption)
 ·rw [List.getElem?_set_ne e] at hj
  exact h j k hj (Ne.symm e)
end Go.Proofs.Ytmkodknmknfdkaa
set_option linter.unusedVariables false
set_option linter.unusedSimpArgs false
namespace Go.Proofs.Ytmkodknmknfdkaa
open E
set_option maxRecDepth 4000
theorem en51 : Enters Try.prog 51 := Enters.mk' Try.func51 rfl rfl
theorem en54 : Enters Try.prog 54 := Enters.mk' Try.func54 rfl rfl
theorem en87 : Enters Try.prog 87 := Enters.mk' Try.func87 rfl rfl
set_option maxHeartbeats 1000000 in
theorem split49 (t : Tr) (hsm : smallP t.ns.l) (at_ : Int) : Con Try.prog 49 [t.val, .int .i64 at_] [ndsP t.ns, psP t.ns.l] [] (SplitEnd (splitT t.p at_)) := by
 refine Con.body 78 Try.func49 rfl Try.ntmps49 rfl fun X H₀ L₀ => ?_
 have hN : t.p.ns.length = t.ns.l.length := by simp [Tr.p]
 refine At.lenOf (hs := (ix 1 rfl)) fun hlen => ?_
 rw [List.length_map] at hlen
 refine aE (aR ?_)
 refine At.loud (l_box rfl) rfl ?_
 rintro _ _ _ ⟨b1, rfl, rfl, rfl⟩
 refine At.freeze 0 (φ := blk b1 _) rfl (fun _ h => blk_def.2 ⟨_, _, h⟩) ?_
 refine At.loud (l_alloc t24) rfl ?_
 rintro _ _ _ ⟨b2, rfl, rfl, rfl⟩
 refine aS 1 rfl rfl ?_
 refine aN (aT (aE (aE (aR ?_))))
 refine aQ (q_loadS t24 rfl (RdS.blk (.head _) (m := 2) rfl) rfl) rfl ?_
 refine aS 1 rfl rfl ?_
 refine At.call en78 rfl (leaf78 _ (by assumption) _) (fun _ h => ⟨h.2.2.1, h.2.2.2.1, trivial⟩) (List.Perm.refl _) rfl ?_
 rintro _ _ _ ⟨rfl, rfl, rfl⟩
 refine aS 2 rfl rfl ?_
 refine At.split (d := 14) rfl (fun hlf => ?_) (fun hlf => ?_)
 ·
  refine aS 16 rfl rfl ?_
  refine aN (aT ?_)
  refine At.condT rfl ?_
  refine aE (aR ?_)
  refine At.know (ndsP ⟨none, 0, []⟩) (fun _ h => sl_nil _ _ _ (Nat.zero_le _)) ?_
  refine At.know (psP []) (fun _ h => psP_nil) ?_
  refine aQ (q_build t24 s24 rfl rfl) rfl ?_
  refine At.loudN (l_store t24 rfl rfl (i := 0) rfl rfl rfl rfl) ?_
  rintro _ _ _ ⟨rfl, rfl⟩
  refine aS 1 rfl rfl ?_
  refine aN (aT (At.ret (At.thenRet ?_)))
  exact At.results (Γr := [_, _]) (M := []) rfl (RVals.cons (RVal.cellS rfl t24 (RdS.loc (i := 0) rfl (m := 2) rfl) rfl) (RVals.cons (RVal.tmp rfl) RVals.nil)) (ix 3 rfl) (fun _ h => ⟨h.2.1, h.1, trivial⟩) (d_ r_) ⟨⟨0, ⟨none, 0, []⟩⟩, by rw [split_no (not_t hlf)]; rfl, rfl, rfl, by rw [split_no (not_t hlf)]; rfl⟩
 ·
  obtain ⟨s, i, n, hs, rfl, hn, hnr⟩ := leaf_yes (not_f hlf)
  have hil := lt_of_get hn
  obtain ⟨x, hx, hxn⟩ := p_get (u := t) rfl hn
  have hxl : x.ps.l = n.l := by rw [← hxn]; rfl
  have hxs := hsm x (List.mem_of_getElem? hx)
  have hfew := (good_of hs).few
  refine At.know (prsP x.ps) (fun _ h => psP_get h.2.2.2.1 hx) ?_
  refine At.open rfl rfl ?_
  refine aQ (q_fieldAddr s24 rfl rfl rfl) rfl ?_
  refine At.open rfl rfl ?_
  refine aQ (q_load t22 rfl (Rd.blk (ix 1 rfl) rfl)) rfl ?_
  refine aS 1 rfl rfl ?_
  refine At.open rfl rfl ?_
  refine aQ (q_index Try.underlying22 t33 rfl (ix 3 rfl) (by simp) rfl rfl (lt_of_get hx)) rfl ?_
  refine At.open rfl rfl ?_
  refine aQ (q_fieldAddr s33 rfl rfl rfl) rfl ?_
  refine At.open rfl rfl ?_
  refine aQ (q_load t31 rfl (Rd.sl (ix 3 rfl) (map_get hx) rfl)) rfl ?_
  refine At.open rfl rfl ?_
  refine aQ (q_len Try.underlying31 rfl) rfl ?_
  refine aS 3 rfl rfl ?_
  refine At.splitP (d := 24) rfl (fun hfew2 => ?_) (fun hfew2 => ?_)
  ·
   refine aS 6 rfl rfl ?_
   refine aN (aT ?_)
   refine At.condT rfl ?_
   refine aE (aR ?_)
   refine At.know (ndsP ⟨none, 0, []⟩) (fun _ h => sl_nil _ _ _ (Nat.zero_le _)) ?_
   refine At.know (psP []) (fun _ h => psP_nil) ?_
   refine aQ (q_build t24 s24 rfl rfl) rfl ?_
   refine At.loudN (l_store t24 rfl rfl (i := 0) rfl rfl rfl rfl) ?_
   rintro _ _ _ ⟨rfl, rfl⟩
   refine aS 1 rfl rfl ?_
   refine aN (aT (At.ret (At.thenRet ?_)))
   exact At.results (Γr := [_, _]) (M := []) rfl (RVals.cons (RVal.cellS rfl t24 (RdS.loc (i := 0) rfl (m := 2) rfl) rfl) (RVals.cons (RVal.tmp rfl) RVals.nil)) (ix 4 rfl) (fun _ h => ⟨h.2.1, h.1, trivial⟩) (d_ r_) ⟨⟨0, ⟨none, 0, []⟩⟩, by rw [split_few hn (by rw [← hxl]; omega)]; rfl, rfl, rfl, by rw [split_few hn (by rw [← hxl]; omega)]; rfl⟩
  ·
   refine At.open rfl rfl ?_
   refine aQ (q_fieldAddr s24 rfl rfl rfl) rfl ?_
   refine At.open rfl rfl ?_
   refine aQ (q_load t22 rfl (Rd.blk (ix 1 rfl) rfl)) rfl ?_
   refine At.open rfl rfl ?_
   refine aQ (q_len Try.underlying22 rfl) rfl ?_
   refine At.open rfl rfl ?_
   refine aQ (q_add rfl rfl (by omega) (by omega)) rfl ?_
   refine aS 2 rfl rfl ?_
   refine aN (aT ?_)
   refine At.if rfl (fun hbig => ?_) (fun hbig => ?_)
   ·
    refine aE (aR ?_)
    refine At.know (ndsP ⟨none, 0, []⟩) (fun _ h => sl_nil _ _ _ (Nat.zero_le _)) ?_
    refine At.know (psP []) (fun _ h => psP_nil) ?_
    refine aQ (q_build t24 s24 rfl rfl) rfl ?_
    refine At.loudN (l_store t24 rfl rfl (i := 0) rfl rfl rfl rfl) ?_
    rintro _ _ _ ⟨rfl, rfl⟩
    refine aS 1 rfl rfl ?_
    refine aN (aT (At.ret (At.thenRet ?_)))
    exact At.results (Γr := [_, _]) (M := []) rfl (RVals.cons (RVal.cellS rfl t24 (RdS.loc (i := 0) rfl (m := 2) rfl) rfl) (RVals.cons (RVal.tmp rfl) RVals.nil)) (ix 4 rfl) (fun _ h => ⟨h.2.1, h.1, trivial⟩) (d_ r_) ⟨⟨0, ⟨none, 0, []⟩⟩, by rw [split_big (by omega)]; rfl, rfl, rfl, by rw [split_big (by omega)]; rfl⟩
   ·
    refine At.skip (aT (aE (aR ?_)))
    refine aQ (q_loadS t24 rfl (RdS.blk (ix 1 rfl) (m := 2) rfl) rfl) rfl ?_
    refine At.call en24 rfl (copy24 _ (by assumption) (by omega)) (fun _ h => ⟨h.2.2.2.1, h.2.2.2.2.1, trivial⟩) (List.Perm.refl _) rfl ?_
    rintro _ _ _ ⟨u, Mu, rfl, rfl, rfl, hu, hpu⟩
    refine At.loud (l_alloc t24) rfl ?_
    rintro _ _ _ ⟨b3, rfl, rfl, rfl⟩
    refine At.loudN (l_store t24 rfl rfl (i := 0) rfl rfl rfl rfl) ?_
    rintro _ _ _ ⟨rfl, rfl⟩
    refine aN (aT (aE (aR ?_)))
    have hul := p_len hpu
    obtain ⟨y, hy, hyn⟩ := p_get hpu hn
    have hyl : y.ps.l = n.l := by rw [← hyn]; rfl
    have hys : y.ps.l.length ≤ 1000000 := by rw [hyl, ← hxl]; exact hxs
    have hy2 : 2 ≤ y.ps.l.length := by rw [hyl, ← hxl]; omega
    have hlol : ((⟨subA y.ps.a y.ps.c 2 0, y.ps.c, y.ps.l.take (y.ps.l.length / 2)⟩ : Sl Pr)).l.length ≤ 1000000 := by simp; omega
    have hhil : ((⟨subA y.ps.a y.ps.c 2 (y.ps.l.length / 2), y.ps.c - y.ps.l.length / 2, y.ps.l.drop (y.ps.l.length / 2)⟩ : Sl Pr)).l.length ≤ 1000000 := by simp; omega
    refine At.know (prsP y.ps) (fun _ h => psP_get h.1 hy) ?_
    refine aF s24 t22 rfl rfl rfl (Rd.loc (i := 0) rfl rfl) rfl rfl ?_
    refine aS 1 rfl rfl ?_
    refine aQ (q_indexOwn Try.underlying22 t33 rfl hu (by simp) rfl rfl (lt_of_get hy)) rfl ?_
    refine aF s33 t31 rfl rfl rfl (Rd.own hu (i := 1) rfl (map_get hy) rfl) rfl rfl ?_
    refine aS 1 rfl rfl ?_
    refine aN (aT (aE (aR ?_)))
    refine aS 1 rfl rfl ?_
    refine aQ (q_len Try.underlying31 rfl) rfl ?_
    refine aQ (q_quo rfl rfl (by omega)) rfl ?_
    refine At.say 42 (.int .i64 ((y.ps.l.length / 2 : Nat) : Int)) rfl (congrArg (Value.int .i64) (half_wrap _ hys)) ?_
    refine aS 1 rfl rfl ?_
    refine aN (aT (aE (aR ?_)))
    refine aF s24 t22 rfl rfl rfl (Rd.loc (i := 0) rfl rfl) rfl rfl ?_
    refine aQ (q_len Try.underlying22 rfl) rfl ?_
    refine aS 1 rfl rfl ?_
    refine aN (aT (aE ?_))
    obtain ⟨z, hz⟩ := get_of_lt (l := y.ps.l) (i := y.ps.l.length / 2) (by omega)
    have hzk : (y.ps.l.getD (y.ps.l.length / 2) default).k = z.k := by rw [List.getD_eq_getElem?_getD, hz]; rfl
    refine At.capOf (hs := (.head _)) fun hcap => ?_
    rw [List.length_map] at hcap
    refine At.know (prsP (⟨subA y.ps.a y.ps.c 2 0, y.ps.c, y.ps.l.take (y.ps.l.length / 2)⟩ : Sl Pr)) (fun _ h => prs_take h.1 (by omega)) ?_
    refine At.know (prsP (⟨subA y.ps.a y.ps.c 2 (y.ps.l.length / 2), y.ps.c - y.ps.l.length / 2, y.ps.l.drop (y.ps.l.length / 2)⟩ : Sl Pr)) (fun _ h => prs_drop h.2.1 (by omega)) ?_
    refine At.draw 13 (.q 0 (.q 1 (.q 2 (.q 3 (.q 4 (.q 7 (.q 8 (.q 9 (.o 5 (.q 6 (.o 10 (.q 11 (.o 12 (.e)))))))))))))) (_ :: _ :: L₀) (k_ (d_ (k_ r_))) mixed (by kernel_rfl) rfl ?_
    refine oQ rfl (q_fieldAddr s24 rfl rfl rfl) rfl (cT cP) ?_
    refine oQ rfl (q_load t22 rfl (Rd.loc (i := 0) rfl rfl)) rfl (cT cP) ?_
    refine oQ rfl (q_move rfl) rfl (cT cP) ?_
    refine oQ rfl (q_move rfl) rfl (cT cP) ?_
    refine oQ rfl (q_sliceHi Try.underlying31 t50 rfl rfl rfl (by omega)) rfl (cT cP) ?_
    refine oQ rfl (q_move rfl) rfl (cT cP) ?_
    refine oQ rfl (q_move rfl) rfl (cT cP) ?_
    refine oQ rfl (q_sliceLo Try.underlying31 t50 rfl rfl rfl (by omega)) rfl (cT cP) ?_
    refine AtO.say 50 (Sl.val (⟨subA y.ps.a y.ps.c 2 0, y.ps.c, y.ps.l.take (y.ps.l.length / 2)⟩ : Sl Pr)) rfl ((take_val (by omega)).symm) ?_
    refine AtO.loud rfl (l_appendNew rfl Try.underlying31 t50 rfl rfl (ix 1 rfl) (by simp) rfl (by simp; omega) (by unfold maxLen; omega) rfl) rfl (by rintro _ _ _ ⟨_, _, rfl, rfl, rfl⟩; exact ⟨fun _ h => h.2, (k_ (d_ (k_ r_)))⟩) ?_
    rintro _ _ _ ⟨a3, c3, rfl, rfl, rfl⟩
    refine oQ rfl (q_build t33 s33 rfl rfl) rfl (cT cP) ?_
    refine AtO.say 55 (Sl.val (⟨subA y.ps.a y.ps.c 2 (y.ps.l.length / 2), y.ps.c - y.ps.l.length / 2, y.ps.l.drop (y.ps.l.length / 2)⟩ : Sl Pr)) rfl (drop_val.symm) ?_
    refine AtO.loudA rfl (l_appendNew rfl Try.underlying31 t50 rfl rfl (ix 1 rfl) (by simp) rfl (by simp; omega) (by unfold maxLen; omega) rfl) rfl (by rintro _ _ _ ⟨_, _, rfl, rfl, rfl⟩; exact ⟨fun _ h => h.2, (k_ (d_ (k_ r_)))⟩) ?_
    rintro _ _ _ ⟨a4, c4, rfl, rfl, rfl⟩
    refine oQ rfl (q_build t33 s33 rfl rfl) rfl (cT cP) ?_
    refine AtO.loudA rfl (l_buildSlice Try.underlying22 t33 rfl rfl rfl rfl rfl) rfl (by rintro _ _ _ ⟨_, rfl, rfl, rfl⟩; exact ⟨fun _ h => h, d_ r_⟩) ?_
    rintro _ _ _ ⟨b4, rfl, rfl, rfl⟩
    refine AtO.done ?_
    refine At.loud (l_append rfl Try.underlying22 t33 rfl rfl hu (by simp) (i := 2) rfl rfl (news := [rowN (⟨false, 0, 0, 0, ⟨a3, c3, y.ps.l.take (y.ps.l.length / 2)⟩, 0⟩ : Nd), rowN (⟨false, 0, 0, 0, ⟨a4, c4, y.ps.l.drop (y.ps.l.length / 2)⟩, 0⟩ : Nd)]) (by simp [rowN]) (RdS.loc (i := 0) rfl (m := 12) rfl) rfl rfl rfl (by omega) (by unfold maxLen; omega)) rfl ?_
    rintro _ _ _ ⟨a2, c2, M2, rfl, ow2, rfl, rfl⟩
    refine aQ (q_fieldAddr s24 rfl rfl rfl) rfl ?_
    refine At.loudN (l_store t22 rfl rfl (i := 1) rfl rfl rfl rfl) ?_
    rintro _ _ _ ⟨rfl, rfl⟩
    refine aN (aT (aE ?_))
    have hO2 : Own 33 6 ((u.ns.l ++ [(⟨false, 0, 0, 0, ⟨a3, c3, y.ps.l.take (y.ps.l.length / 2)⟩, 0⟩ : Nd), (⟨false, 0, 0, 0, ⟨a4, c4, y.ps.l.drop (y.ps.l.length / 2)⟩, 0⟩ : Nd)]).map rowN) a2 c2 M2 := by simpa using ow2
    have hya : (u.ns.l ++ [(⟨false, 0, 0, 0, ⟨a3, c3, y.ps.l.take (y.ps.l.length / 2)⟩, 0⟩ : Nd), (⟨false, 0, 0, 0, ⟨a4, c4, y.ps.l.drop (y.ps.l.length / 2)⟩, 0⟩ : Nd)])[i]? = some y := by rw [List.getElem?_append_left (lt_of_get hy)]; exact hy
    have hyal : i < u.ns.l.length + 2 := by omega
    refine At.draw 12 (.q 0 (.q 1 (.q 2 (.q 3 (.q 4 (.q 5 (.q 6 (.q 7 (.q 8 (.q 9 (.q 10 (.q 11 (.e))))))))))))) _ (List.Sublist.refl _) mixed (by kernel_rfl) rfl ?_
    refine oQ rfl (q_fieldAddr s24 rfl rfl rfl) rfl (cT cP) ?_
    refine oQ rfl (q_load t22 rfl (Rd.loc (i := 1) rfl rfl)) rfl (cT cP) ?_
    refine oQ rfl (q_move rfl) rfl (cT cP) ?_
    refine oQ rfl (q_move rfl) rfl (cT cP) ?_
    refine oQ rfl (q_move rfl) rfl (cT cP) ?_
    refine oQ rfl (q_index Try.underlying31 t50 rfl (ix 4 rfl) (by simp) rfl rfl (lt_of_get hz)) rfl (cT cP) ?_
    refine oQ rfl (q_fieldAddr s50 rfl rfl rfl) rfl (cT cP) ?_
    refine oQ rfl (q_load t3 rfl (Rd.sl (ix 4 rfl) (map_get hz) rfl)) rfl (cT cP) ?_
    refine oQ rfl (q_move rfl) rfl (cT cP) ?_
    refine oQ rfl (q_move rfl) rfl (cT cP) ?_
    refine oQ rfl (q_add rfl rfl (by omega) (by omega)) rfl (cT cP) ?_
    refine oQ rfl (q_build t33 s33 rfl rfl) rfl (cT cP) ?_
    refine AtO.done ?_
    refine aQ (q_indexOwn Try.underlying22 t33 rfl hO2 (by simp) rfl rfl hyal) rfl ?_
    refine At.loudN (l_storeOwn0 t33 rfl rfl hO2 (i := 2) rfl (map_get hya) rfl rfl rfl) ?_
    rintro _ _ _ ⟨Mow1, ow1, rfl, rfl⟩
    refine aN (aT (aE (aR ?_)))
    have hO3 : Own 33 6 (((u.ns.l ++ [(⟨false, 0, 0, 0, ⟨a3, c3, y.ps.l.take (y.ps.l.length / 2)⟩, 0⟩ : Nd), (⟨false, 0, 0, 0, ⟨a4, c4, y.ps.l.drop (y.ps.l.length / 2)⟩, 0⟩ : Nd)]).set i (⟨true, (y.ps.l.getD (y.ps.l.length / 2) default).k, (u.ns.l.length : Int), (u.ns.l.length : Int) + 1, ⟨none, 0, []⟩, 0⟩ : Nd)).map rowN) a2 c2 Mow1 := by rw [row_set, hzk]; exact ow1
    refine At.know (prsP ⟨none, 0, []⟩) (fun _ h => sl_nil _ _ _ (Nat.zero_le _)) ?_
    refine At.know (psP ((u.ns.l ++ [(⟨false, 0, 0, 0, ⟨a3, c3, y.ps.l.take (y.ps.l.length / 2)⟩, 0⟩ : Nd), (⟨false, 0, 0, 0, ⟨a4, c4, y.ps.l.drop (y.ps.l.length / 2)⟩, 0⟩ : Nd)]).set i (⟨true, (y.ps.l.getD (y.ps.l.length / 2) default).k, (u.ns.l.length : Int), (u.ns.l.length : Int) + 1, ⟨none, 0, []⟩, 0⟩ : Nd))) (fun _ h => psP_set (n := (⟨true, (y.ps.l.getD (y.ps.l.length / 2) default).k, (u.ns.l.length : Int), (u.ns.l.length : Int) + 1, ⟨none, 0, []⟩, 0⟩ : Nd)) (psP_app h.2.2.2.2.2.2.1 (psP_cons (n := (⟨false, 0, 0, 0, ⟨a3, c3, y.ps.l.take (y.ps.l.length / 2)⟩, 0⟩ : Nd)) h.2.2.1 (psP_cons (n := (⟨false, 0, 0, 0, ⟨a4, c4, y.ps.l.drop (y.ps.l.length / 2)⟩, 0⟩ : Nd)) h.2.1 psP_nil))) h.1) ?_
    have hsn : smallP ((u.ns.l ++ [(⟨false, 0, 0, 0, ⟨a3, c3, y.ps.l.take (y.ps.l.length / 2)⟩, 0⟩ : Nd), (⟨false, 0, 0, 0, ⟨a4, c4, y.ps.l.drop (y.ps.l.length / 2)⟩, 0⟩ : Nd)]).set i (⟨true, (y.ps.l.getD (y.ps.l.length / 2) default).k, (u.ns.l.length : Int), (u.ns.l.length : Int) + 1, ⟨none, 0, []⟩, 0⟩ : Nd)) := split_small2 (small_of_p hpu hsm) hys rfl rfl
    have hpn : (⟨u.root, ⟨a2, c2, ((u.ns.l ++ [(⟨false, 0, 0, 0, ⟨a3, c3, y.ps.l.take (y.ps.l.length / 2)⟩, 0⟩ : Nd), (⟨false, 0, 0, 0, ⟨a4, c4, y.ps.l.drop (y.ps.l.length / 2)⟩, 0⟩ : Nd)]).set i (⟨true, (y.ps.l.getD (y.ps.l.length / 2) default).k, (u.ns.l.length : Int), (u.ns.l.length : Int) + 1, ⟨none, 0, []⟩, 0⟩ : Nd))⟩⟩ : Tr).p = splitRaw t.p i n := split_p2 hpu hyl hul hil rfl rfl
    refine At.freezeOwn 2 hO3 rfl ?_
    refine aQ (q_loadS t24 rfl (RdS.loc (i := 1) rfl (m := 2) rfl) rfl) rfl ?_
    refine At.say 74 (Tr.val ⟨u.root, ⟨a2, c2, ((u.ns.l ++ [(⟨false, 0, 0, 0, ⟨a3, c3, y.ps.l.take (y.ps.l.length / 2)⟩, 0⟩ : Nd), (⟨false, 0, 0, 0, ⟨a4, c4, y.ps.l.drop (y.ps.l.length / 2)⟩, 0⟩ : Nd)]).set i (⟨true, (y.ps.l.getD (y.ps.l.length / 2) default).k, (u.ns.l.length : Int), (u.ns.l.length : Int) + 1, ⟨none, 0, []⟩, 0⟩ : Nd))⟩⟩) rfl (by rw [setapp_val]; rfl) ?_
    refine At.call en38 rfl (plain38 ⟨u.root, ⟨a2, c2, ((u.ns.l ++ [(⟨false, 0, 0, 0, ⟨a3, c3, y.ps.l.take (y.ps.l.length / 2)⟩, 0⟩ : Nd), (⟨false, 0, 0, 0, ⟨a4, c4, y.ps.l.drop (y.ps.l.length / 2)⟩, 0⟩ : Nd)]).set i (⟨true, (y.ps.l.getD (y.ps.l.length / 2) default).k, (u.ns.l.length : Int), (u.ns.l.length : Int) + 1, ⟨none, 0, []⟩, 0⟩ : Nd))⟩⟩ (by assumption)) (fun _ h => ⟨h.1, h.2.1, trivial⟩) (List.Perm.refl _) rfl ?_
    rintro _ _ _ ⟨w, Mw, rfl, rfl, rfl, hw, hpw⟩
    refine aQ (q_extract rfl rfl) rfl ?_
    refine aQ (q_extract rfl rfl) rfl ?_
    refine At.loudN (l_store t24 rfl rfl (i := 3) rfl rfl rfl rfl) ?_
    rintro _ _ _ ⟨rfl, rfl⟩
    rw [hpn] at hpw
    have hsr := split_raw (not_f hlf) hn (by rw [← hxl]; omega) (by omega)
    refine At.freezeOwn 0 hw rfl ?_
    refine aS 1 rfl rfl ?_
    refine aN (aT (At.ret ?_))
    exact At.results (Γr := [_, _]) (M := []) rfl (RVals.cons (RVal.cellS rfl t24 (RdS.loc (i := 2) rfl (m := 2) rfl) rfl) (RVals.cons (RVal.tmp rfl) RVals.nil)) (ix 13 rfl) (fun _ h => ⟨h.1, h.2.1, trivial⟩) (d_ (d_ (d_ r_))) ⟨w, by rw [hsr, plainT_some, ← hpn]; rfl, rfl, rfl, by rw [hsr]; exact hpw⟩
theorem up87 (t : Tr) (at_ : Int) : Con Try.prog 87 [t.val, .int .i64 at_] [ndsP t.ns, psP t.ns.l] [] (UpEnd t.p at_) := by
 refine Con.body 36 Try.func87 rfl Try.ntmps87 rfl fun X H₀ L₀ => ?_
 refine At.lenOf (hs := (ix 1 rfl)) fun hlen => ?_
 rw [List.length_map] at hlen
 refine aE (aR ?_)
 refine At.loud (l_box rfl) rfl ?_
 rintro _ _ _ ⟨b1, rfl, rfl, rfl⟩
 refine At.freeze 0 (φ := blk b1 _) rfl (fun _ h => blk_def.2 ⟨_, _, h⟩) ?_
 refine aS 2 rfl rfl ?_
 refine aN (aT (aE (aE (aR ?_))))
 refine aF s24 t22 rfl rfl rfl (Rd.blk (.head _) rfl) rfl rfl ?_
 refine aQ (q_len Try.underlying22 rfl) rfl ?_
 refine aS 1 rfl rfl ?_
 refine aN (aT (At.block ?_))
 refine At.loopK (ι := Nat) [4, 5, 6, 7, 11, 12, 13, 14, 15, 16, 17, 18, 19, 20, 21, 22, 23, 24, 25, 26, 27, 28, 29, 30, 31, 32, 33, 34, 35] (fun k => [(11, .int .i64 (k : Int))]) (fun k => []) (fun k => []) _ (fun k => k ≤ t.ns.l.length ∧ ∀ (j : Nat) (n : Nod), j < k → t.p.ns[j]? = some n → n.route = true → n.left ≠ at_ ∧ n.right ≠ at_) (fun k => t.ns.l.length - k) 0 ⟨Nat.zero_le _, fun j n h => absurd h (Nat.not_lt_zero _)⟩ ⟨rfl, trivial⟩ (fun _ _ => trivial) r_ ?_
 intro k hI
 refine aE (aR ?_)
 refine aS 1 rfl rfl ?_
 refine aN (aT (aE ?_))
 refine At.if rfl (fun hk => ?_) (fun hk => ?_)
 ·
  obtain ⟨hk0, hno⟩ := hI
  obtain ⟨x, hx⟩ := get_of_lt (l := t.ns.l) (i := k) (by omega)
  have hk1 := lt_of_get hx
  have hxp : t.p.ns[k]? = some x.p := map_get hx
  refine At.know (prsP x.ps) (fun _ h => psP_get h.2.2.2.1 hx) ?_
  refine At.skip (aT (aE (At.block (aE (aR ?_)))))
  refine aS 1 rfl rfl ?_
  refine aQ (q_index Try.underlying22 t33 rfl (ix 3 rfl) (by simp) rfl rfl (lt_of_get hx)) rfl ?_
  refine aQ (q_loadS t33 rfl (RdS.sl0 (ix 3 rfl) (map_get hx)) rfl) rfl ?_
  refine At.loud (l_alloc t33) rfl ?_
  rintro _ _ _ ⟨b2, rfl, rfl, rfl⟩
  refine aS 1 rfl rfl ?_
  refine At.loudN (l_store t33 rfl rfl (i := 0) rfl rfl rfl rfl) ?_
  rintro _ _ _ ⟨rfl, rfl⟩
  refine aN (aT (aE (aR ?_)))
  refine aF s33 t4 rfl rfl rfl (Rd.loc (i := 0) rfl rfl) rfl rfl ?_
  refine aS 1 rfl rfl ?_
  refine At.split (d := 18) rfl (fun hr => ?_) (fun hr => ?_)
  ·
   refine At.open rfl rfl ?_
   refine aQ (q_fieldAddr s33 rfl rfl rfl) rfl ?_
   refine At.open rfl rfl ?_
   refine aQ (q_load t3 rfl (Rd.loc (i := 0) rfl rfl)) rfl ?_
   refine aS 3 rfl rfl ?_
   refine At.splitP (d := 23) rfl (fun hl => ?_) (fun hl => ?_)
   ·
    refine aS 6 rfl rfl ?_
    refine aN (aT ?_)
    refine At.condT rfl ?_
    refine aE ?_
    refine At.draw 6 (.q 0 (.q 1 (.q 2 (.q 3 (.q 4 (.q 5 (.e))))))) _ (List.Sublist.refl _) mixed (by kernel_rfl) rfl ?_
    refine oQ rfl (q_move rfl) rfl (cT (cI (cT (cT (cI (cT cP)))))) ?_
    refine oQ rfl (q_fieldAddr s33 rfl rfl rfl) rfl (cT (cI (cT (cT (cI (cT cP)))))) ?_
    refine oQ rfl (q_load t3 rfl (Rd.loc (i := 0) rfl rfl)) rfl (cT (cI (cT (cT (cI (cT cP)))))) ?_
    refine oQ rfl (q_move rfl) rfl (cT (cI (cT (cT (cI (cT cP)))))) ?_
    refine oQ rfl (q_eql rfl rfl) rfl (cT (cI (cT (cT (cI (cT cP)))))) ?_
    refine oQ rfl (q_assign rfl) rfl (cT (cI (cT (cT (cI (cT cP)))))) ?_
    refine AtO.done ?_
    refine aS 1 rfl rfl ?_
    refine aN (aT (At.ret (At.inRet (At.thenRet (At.thenRet (At.inRet (At.thenRet ?_)))))))
    exact At.results (Γr := []) (M := []) rfl (RVals.cons (RVal.tmp rfl) (RVals.cons (RVal.tmp rfl) RVals.nil)) (ix 2 rfl) (fun _ _ => trivial) (d_ r_) ⟨rfl, rfl, .inr ⟨k, x.p, rfl, hxp, hr, .inl hl⟩⟩
   ·
    refine At.open rfl rfl ?_
    refine aQ (q_fieldAddr s33 rfl rfl rfl) rfl ?_
    refine At.open rfl rfl ?_
    refine aQ (q_load t3 rfl (Rd.loc (i := 0) rfl rfl)) rfl ?_
    refine aS 4 rfl rfl ?_
    refine aN (aT ?_)
    refine At.if rfl (fun hrr => ?_) (fun hrr => ?_)
    ·
     refine aE ?_
     refine At.draw 6 (.q 0 (.q 1 (.q 2 (.q 3 (.q 4 (.q 5 (.e))))))) _ (List.Sublist.refl _) mixed (by kernel_rfl) rfl ?_
     refine oQ rfl (q_move rfl) rfl (cT (cI (cT (cT (cI (cT cP)))))) ?_
     refine oQ rfl (q_fieldAddr s33 rfl rfl rfl) rfl (cT (cI (cT (cT (cI (cT cP)))))) ?_
     refine oQ rfl (q_load t3 rfl (Rd.loc (i := 0) rfl rfl)) rfl (cT (cI (cT (cT (cI (cT cP)))))) ?_
     refine oQ rfl (q_move rfl) rfl (cT (cI (cT (cT (cI (cT cP)))))) ?_
     refine oQ rfl (q_eql rfl rfl) rfl (cT (cI (cT (cT (cI (cT cP)))))) ?_
     refine oQ rfl (q_assign rfl) rfl (cT (cI (cT (cT (cI (cT cP)))))) ?_
     refine AtO.done ?_
     refine aS 1 rfl rfl ?_
     refine aN (aT (At.ret (At.inRet (At.thenRet (At.thenRet (At.inRet (At.thenRet ?_)))))))
     exact At.results (Γr := []) (M := []) rfl (RVals.cons (RVal.tmp rfl) (RVals.cons (RVal.tmp rfl) RVals.nil)) (ix 2 rfl) (fun _ _ => trivial) (d_ r_) ⟨rfl, rfl, .inr ⟨k, x.p, rfl, hxp, hr, .inr hrr⟩⟩
    ·
     refine At.skip (At.inNormal (aT (aR ?_)))
     refine aQ (q_add rfl rfl (by omega) (by omega)) rfl ?_
     refine aS 1 rfl rfl ?_
     refine aN (aT ?_)
     exact At.againK (k + 1) ⟨hk1, up_step hno hxp fun _ => ⟨hl, hrr⟩⟩ (by (try dsimp only); omega) (Tells.end 25 ⟨rfl, trivial⟩ rfl rfl) (fun _ h => h.2) (d_ r_)
  ·
   refine aS 11 rfl rfl ?_
   refine aN (aT ?_)
   refine At.condF rfl ?_
   refine At.skip (At.inNormal (aT (aR ?_)))
   refine aQ (q_add rfl rfl (by omega) (by omega)) rfl ?_
   refine aS 1 rfl rfl ?_
   refine aN (aT ?_)
   exact At.againK (k + 1) ⟨hk1, up_step hno hxp fun h => by rw [show x.p.route = false from hr] at h; cases h⟩ (by (try dsimp only); omega) (Tells.end 24 ⟨rfl, trivial⟩ rfl rfl) (fun _ h => h.2) (d_ r_)
 ·
  obtain ⟨hk0, hno⟩ := hI
  refine At.exit (At.thenExit (At.thenExit (At.inHere rfl (aT (aE (aR ?_))))))
  refine aS 2 rfl rfl ?_
  refine aN (aT (At.ret ?_))
  exact At.results (Γr := []) (M := []) rfl (RVals.cons (RVal.tmp rfl) (RVals.cons (RVal.tmp rfl) RVals.nil)) (ix 1 rfl) (fun _ _ => trivial) r_ ⟨rfl, rfl, .inl ⟨rfl, fun j n hn => hno j n (up_all hn (by omega)) hn⟩⟩
theorem near53 (t : Tr) (hsm : smallP t.ns.l) (at_ : Int) : Con Try.prog 53 [t.val, .int .i64 at_] [ndsP t.ns, psP t.ns.l] [] (fun v Γ M => v = .int .i64 (nbI (nextT t.p at_)) ∧ Γ = [] ∧ M = []) := by
 refine Con.body 45 Try.func53 rfl Try.ntmps53 rfl fun X H₀ L₀ => ?_
 refine aE (aR ?_)
 refine At.loud (l_box rfl) rfl ?_
 rintro _ _ _ ⟨b1, rfl, rfl, rfl⟩
 refine At.freeze 0 (φ := blk b1 _) rfl (fun _ h => blk_def.2 ⟨_, _, h⟩) ?_
 refine aS 1 rfl rfl ?_
 refine aN (aT (aE (aE (aR ?_))))
 refine aQ (q_loadS t24 rfl (RdS.blk (.head _) (m := 2) rfl) rfl) rfl ?_
 refine aS 1 rfl rfl ?_
 refine At.call en78 rfl (leaf78 _ (by assumption) _) (fun _ h => ⟨h.2.2.1, h.2.2.2.1, trivial⟩) (List.Perm.refl _) rfl ?_
 rintro _ _ _ ⟨rfl, rfl, rfl⟩
 refine aS 1 rfl rfl ?_
 refine aN (aT ?_)
 refine At.cond rfl (fun hlf => ?_) (fun hlf => ?_)
 ·
  refine aE (aR ?_)
  refine aS 1 rfl rfl ?_
  refine aN (aT (At.ret (At.thenRet ?_)))
  exact At.results (Γr := []) (M := []) rfl (RVals.cons (RVal.tmp rfl) RVals.nil) (ix 1 rfl) (fun _ _ => trivial) r_ ⟨by rw [next_no (not_t hlf)]; rfl, rfl, rfl⟩
 ·
  obtain ⟨s, i, n, hs, rfl, hn, hnr⟩ := leaf_yes (not_f hlf)
  have hil := lt_of_get hn
  have hnx := next_eq hs (not_f hlf)
  refine At.skip (aT (aE (aR ?_)))
  refine aQ (q_loadS t24 rfl (RdS.blk (.head _) (m := 2) rfl) rfl) rfl ?_
  refine aS 1 rfl rfl ?_
  refine At.call en87 rfl (up87 t (i : Int)) (fun _ h => ⟨h.2.2.1, h.2.2.2.1, trivial⟩) (List.Perm.refl _) rfl ?_
  rintro vu _ _ ⟨rfl, rfl, hup⟩
  rcases hup with ⟨rfl, hno⟩ | ⟨q, nq, rfl, hq, hqr, hqe⟩
  ·
   refine aS 1 rfl rfl ?_
   refine aQ (q_extract rfl rfl) rfl ?_
   refine aQ (q_extract rfl rfl) rfl ?_
   refine aS 2 rfl rfl ?_
   refine aN (aT (aE (aE (aR ?_))))
   refine aS 2 rfl rfl ?_
   refine aN (aT ?_)
   refine At.say 19 (.bool true) rfl (congrArg Value.bool (by decide)) ?_
   refine At.condT rfl ?_
   refine aE (aR ?_)
   refine aS 1 rfl rfl ?_
   refine aN (aT (At.ret (At.thenRet ?_)))
   exact At.results (Γr := []) (M := []) rfl (RVals.cons (RVal.tmp rfl) RVals.nil) (ix 1 rfl) (fun _ _ => trivial) r_ ⟨by rw [hnx, alone hs hn hnr hno]; rfl, rfl, rfl⟩
  ·
   obtain ⟨l, r, hl, hr, hnb⟩ := up_nb hs hn hnr hq hqr hqe
   obtain ⟨y, hy, hyp⟩ := p_get (u := t) rfl hq
   have hyl : Hangs t.p.ns l y.left := by rw [show y.left = nq.left by rw [← hyp]; rfl]; exact hl
   have hyr : Hangs t.p.ns r y.right := by rw [show y.right = nq.right by rw [← hyp]; rfl]; exact hr
   rw [hnb] at hnx
   refine aS 1 rfl rfl ?_
   refine aQ (q_extract rfl rfl) rfl ?_
   refine aQ (q_extract rfl rfl) rfl ?_
   refine aS 2 rfl rfl ?_
   refine aN (aT (aE (aE (aR ?_))))
   refine aS 2 rfl rfl ?_
   refine aN (aT ?_)
   refine At.say 19 (.bool false) rfl (congrArg Value.bool (decide_eq_false (by omega))) ?_
   refine At.condF rfl ?_
   refine At.skip (aT (aE (aE (aR ?_))))
   refine aS 1 rfl rfl ?_
   refine aN (aT ?_)
   refine At.cond rfl (fun hrg => ?_) (fun hrg => ?_)
   ·
    refine At.nilSeg ?_
    refine At.know (prsP y.ps) (fun _ h => psP_get h.2.2.2.1 hy) ?_
    refine aE ?_
    refine At.draw 7 (.q 0 (.q 1 (.q 2 (.q 3 (.q 4 (.q 5 (.q 6 (.e)))))))) (L₀) (d_ r_) mixed (by kernel_rfl) rfl ?_
    refine oQ rfl (q_loadS t24 rfl (RdS.blk (ix 1 rfl) (m := 2) rfl) rfl) rfl (cT (cT cP)) ?_
    refine oQ rfl (q_fieldAddr s24 rfl rfl rfl) rfl (cT (cT cP)) ?_
    refine oQ rfl (q_load t22 rfl (Rd.blk (ix 1 rfl) rfl)) rfl (cT (cT cP)) ?_
    refine oQ rfl (q_move rfl) rfl (cT (cT cP)) ?_
    refine oQ rfl (q_index Try.underlying22 t33 rfl (ix 3 rfl) (by simp) rfl rfl (lt_of_get hy)) rfl (cT (cT cP)) ?_
    refine oQ rfl (q_fieldAddr s33 rfl rfl rfl) rfl (cT (cT cP)) ?_
    refine oQ rfl (q_load t3 rfl (Rd.sl (ix 3 rfl) (map_get hy) rfl)) rfl (cT (cT cP)) ?_
    refine AtO.done ?_
    refine At.call en79 rfl (leaves79 t l y.left hyl [] none 0 [] (Own.nil _ _) (by simp; have h1 := near_size hs hl; omega)) (fun _ h => ⟨h.2.2.2.1, h.2.2.2.2.1, trivial⟩) (List.Perm.refl _) rfl ?_
    rintro _ _ _ ⟨a1, c1, M1, rfl, rfl, rfl, hO⟩
    refine aS 1 rfl rfl ?_
    refine aN (aT (aE (aR ?_)))
    have hO2 : Own 3 1 ((toI l.leaves).map rowI) a1 c1 M1 := by simpa using hO
    have hlp := leaves_pos l
    have hlz := near_size hs hl
    have hll := leaves_len l
    have hgl := last_get2 l
    have hlt := lt_of_get hgl
    rw [toI_length] at hlt
    refine aS 2 rfl rfl ?_
    refine aQ (q_len Try.underlying37 rfl) rfl ?_
    refine aQ (q_sub rfl rfl (by simp [toI]; omega) (by simp [toI]; omega)) rfl ?_
    refine aQ (q_indexOwn Try.underlying37 t3 rfl hO2 (by simp) rfl ((show _ = (((toI l.leaves).length - 1 : Nat) : Int) from by simp [toI]; omega)) (by simp [toI]; omega)) rfl ?_
    refine aQ (q_load t3 rfl (Rd.own0 hO2 (i := 0) rfl (map_get hgl) rfl)) rfl ?_
    refine aS 1 rfl rfl ?_
    refine aN (aT (At.ret (At.thenRet ?_)))
    exact At.results (Γr := []) (M := []) rfl (RVals.cons (RVal.tmp rfl) RVals.nil) (ix 2 rfl) (fun _ _ => trivial) (d_ r_) ⟨by rw [hnx, decide_eq_true (of_decide_eq_true hrg)]; rfl, rfl, rfl⟩
   ·
    refine At.nilSeg ?_
    refine At.know (prsP y.ps) (fun _ h => psP_get h.2.2.2.1 hy) ?_
    refine At.skip (aT (aE ?_))
    refine At.draw 7 (.q 0 (.q 1 (.q 2 (.q 3 (.q 4 (.q 5 (.q 6 (.e)))))))) (L₀) (d_ r_) mixed (by kernel_rfl) rfl ?_
    refine oQ rfl (q_loadS t24 rfl (RdS.blk (ix 1 rfl) (m := 2) rfl) rfl) rfl (cT cP) ?_
    refine oQ rfl (q_fieldAddr s24 rfl rfl rfl) rfl (cT cP) ?_
    refine oQ rfl (q_load t22 rfl (Rd.blk (ix 1 rfl) rfl)) rfl (cT cP) ?_
    refine oQ rfl (q_move rfl) rfl (cT cP) ?_
    refine oQ rfl (q_index Try.underlying22 t33 rfl (ix 3 rfl) (by simp) rfl rfl (lt_of_get hy)) rfl (cT cP) ?_
    refine oQ rfl (q_fieldAddr s33 rfl rfl rfl) rfl (cT cP) ?_
    refine oQ rfl (q_load t3 rfl (Rd.sl (ix 3 rfl) (map_get hy) rfl)) rfl (cT cP) ?_
    refine AtO.done ?_
    refine At.call en79 rfl (leaves79 t r y.right hyr [] none 0 [] (Own.nil _ _) (by simp; have h1 := near_size hs hr; omega)) (fun _ h => ⟨h.2.2.2.1, h.2.2.2.2.1, trivial⟩) (List.Perm.refl _) rfl ?_
    rintro _ _ _ ⟨a1, c1, M1, rfl, rfl, rfl, hO⟩
    have hO2 : Own 3 1 ((toI r.leaves).map rowI) a1 c1 M1 := by simpa using hO
    have hlp := leaves_pos r
    have hgl := first_get2 r
    refine aQ (q_indexOwn Try.underlying37 t3 rfl hO2 (by simp) rfl rfl (by simp [toI]; omega)) rfl ?_
    refine aQ (q_load t3 rfl (Rd.own0 hO2 (i := 0) rfl (map_get hgl) rfl)) rfl ?_
    refine aS 1 rfl rfl ?_
    refine aN (aT (At.ret ?_))
    exact At.results (Γr := []) (M := []) rfl (RVals.cons (RVal.tmp rfl) RVals.nil) (ix 2 rfl) (fun _ _ => trivial) (d_ r_) ⟨by rw [hnx, decide_eq_false (of_decide_eq_false hrg)]; rfl, rfl, rfl⟩
end Go.Proofs.Ytmkodknmknfdkaa
set_option linter.unusedVariables false
set_option linter.unusedSimpArgs false
namespace Go.Proofs.Ytmkodknmknfdkaa
open E
theorem nb_neg {o : Option Nat} (h : nbI o < 0) : o.isSome = false := by
 cases o with
 | none => rfl
 | some m => simp [nbI] at h; omega
theorem nb_pos {o : Option Nat} (h : ¬ nbI o < 0) : o.isSome = true := by
 cases o with
 | none => simp [nbI] at h
 | some m => rfl
theorem OwnAt.nil (m : Nat) : OwnAt m [] [] := .inl ⟨Nat.zero_le _, rfl⟩
theorem OwnAt.empty {m : Nat} {o : List Nd} {mp : E.Seg} (h : OwnAt m o mp) (hm : o.length = m) : mp = [] := by
 rcases h with ⟨_, h⟩ | ⟨y, hy, _⟩
 ·exact h
 ·have := lt_of_get hy; omega
theorem OwnAt.get {m : Nat} {o : List Nd} {mp : E.Seg} (h : OwnAt m o mp) (hm : m < o.length) : ∃ y, o[m]? = some y ∧ E.Own 50 2 (y.ps.l.map rowP) y.ps.a y.ps.c mp := by
 rcases h with ⟨h, _⟩ | h
 ·omega
 ·exact h
theorem up_is {t : PT} {s : Sh} {i q m : Nat} {side : Bool} {x : Nod} {vu : Value} (hs : mayT t = some s) (hx : t.ns[i]? = some x) (hr : x.route = false) (hnb : s.nb i = some (q, side, m))
  (hup : (vu = .tuple #[.int .i64 (-1), .bool false] ∧ ∀ (j : Nat) (n : Nod), t.ns[j]? = some n → n.route = true → n.left ≠ (i : Int) ∧ n.right ≠ (i : Int)) ∨
   ∃ (k : Nat) (n : Nod), vu = .tuple #[.int .i64 (k : Int), .bool (decide (n.right = (i : Int)))] ∧ t.ns[k]? = some n ∧ n.route = true ∧ (n.left = (i : Int) ∨ n.right = (i : Int))) :
  ∃ n : Nod, vu = .tuple #[.int .i64 (q : Int), .bool side] ∧ t.ns[q]? = some n ∧ n.route = true := by
 rcases hup with ⟨_, hno⟩ | ⟨k, n, rfl, hk, hkr, he⟩
 ·rw [alone hs hx hr hno] at hnb; cases hnb
 ·obtain ⟨l, r, _, _, hnb2⟩ := up_nb hs hx hr hk hkr he
  rw [hnb] at hnb2
  have h3 := Option.some.inj hnb2
  obtain ⟨f1, f2⟩ := Prod.mk.inj h3
  obtain ⟨f3, f4⟩ := Prod.mk.inj f2
  subst f1
  exact ⟨n, by rw [f3], hk, hkr⟩
theorem nb_leafz {t : PT} {s : Sh} {i q m : Nat} {side : Bool} (hs : mayT t = some s) (hnb : s.nb i = some (q, side, m)) : ∃ nm, t.ns[m]? = some nm ∧ nm.route = false ∧ nm.key = 0 ∧ nm.left = 0 ∧ nm.right = 0 := by
 obtain ⟨nm, hm, hmr, hk⟩ := fits_leaf (may_fits hs) (good_of hs).nodup (nb_leafs hnb)
 simp [leafOk] at hk
 exact ⟨nm, hm, hmr, hk.1, hk.2.1, hk.2.2.1⟩
theorem join_in {t : PT} {s : Sh} {i q m : Nat} {side : Bool} {n nm cn : Nod} {o r : Int} (hs : mayT t = some s) (hnb : s.nb i = some (q, side, m)) (hq : t.ns[q]? = some n) (hqr : n.route = true) (hm : t.ns[m]? = some nm) (hmr : nm.route = false) (hcr : cn.route = false) (ho : kidN n (!side) = o) (hrt : r = t.root) :
  HangsS (t.ns.set m cn) (q : Int) o (s.cut i) r := by
 have hne : m ≠ q := fun e => by subst e; rw [hq] at hm; cases hm; rw [hqr] at hmr; cases hmr
 subst ho
 subst hrt
 exact cut_hangsS (hangs_leafset (good_of hs).hangs hm hmr hcr) (good_of hs).nodup hnb (by rw [List.getElem?_set_ne hne]; exact hq)
theorem cut_few {t : PT} {s : Sh} (i : Nat) (hs : mayT t = some s) : (s.cut i).size ≤ 1000000 := by
 have h1 := cut_size i s
 have h2 := (good_of hs).size
 have h3 := (good_of hs).few
 omega
theorem p_set1 {u : Tr} {t : PT} {a : Option Addr} {c : Nat} {i : Nat} {m : Nd} (h : u.p = t) : (⟨u.root, ⟨a, c, u.ns.l.set i m⟩⟩ : Tr).p = ⟨t.root, t.ns.set i m.p⟩ := by
 subst h
 simp [Tr.p, List.map_set]
theorem set_twice {l : List Nd} {m : Nat} {y1 y2 : Nd} : (l.set m y2).map rowN = ((l.set m y1).map rowN).set m (rowN y2) := by
 rw [← row_set, List.set_set]
def small2 (l : List Nd) : Prop := ∀ n ∈ l, n.ps.l.length ≤ 2000000
theorem small2_set {l : List Nd} {m : Nat} {y : Nd} (h : smallP l) (hy : y.ps.l.length ≤ 2000000) : small2 (l.set m y) := fun n hn => by
 rcases List.mem_or_eq_of_mem_set hn with h' | h'
 ·have := h n h'; omega
 ·subst h'; exact hy
end Go.Proofs.Ytmkodknmknfdkaa
set_option linter.unusedVariables false
set_option linter.unusedSimpArgs false
namespace Go.Proofs.Ytmkodknmknfdkaa
open E
set_option maxRecDepth 4000
theorem en49 : Enters Try.prog 49 := Enters.mk' Try.func49 rfl rfl
theorem en50 : Enters Try.prog 50 := Enters.mk' Try.func50 rfl rfl
theorem en53 : Enters Try.prog 53 := Enters.mk' Try.func53 rfl rfl
theorem en88 : Enters Try.prog 88 := Enters.mk' Try.func88 rfl rfl
theorem copyIn88_step (t : Tr) (hsm : small2 t.ns.l) (g ot : Int) (s : Sh) (ih : ∀ i l r, s = .node i l r → CopyIn t g ot l ∧ CopyIn t g ot r) : CopyIn t g ot s := by
 intro at_ hH q a c Mo hO hb
 refine Con.body 69 Try.func88 rfl Try.ntmps88 rfl fun X H₀ L₀ => ?_
 obtain ⟨i, x, hi0, hx, hg, hc⟩ := hH.at
 have hxs := hsm x (List.mem_of_getElem? hx)
 refine aE (aR ?_)
 refine At.loud (l_box rfl) rfl ?_
 rintro _ _ _ ⟨b1, rfl, rfl, rfl⟩
 refine At.freeze 0 (φ := blk b1 _) rfl (fun _ h => blk_def.2 ⟨_, _, h⟩) ?_
 refine aS 1 rfl rfl ?_
 refine aS 1 rfl rfl ?_
 refine aN (aT ?_)
 refine At.cutD (ι := Unit) .z [1, 16, 17, 18, 19] (fun _ => [(1, .int .i64 (i : Int))]) (fun _ => []) (fun _ => []) (fun _ => True) ?_ ?_
 ·
  refine aE (aR ?_)
  refine aS 3 rfl rfl ?_
  refine aN (aT ?_)
  refine At.if rfl (fun hag => ?_) (fun hag => ?_)
  ·
   refine aR ?_
   refine aS 2 rfl rfl ?_
   refine aN ?_
   refine At.say 1 (.int .i64 (i : Int)) rfl (congrArg (Value.int .i64) (by rw [← hi0, if_pos hag])) ?_
   refine aT ?_
   exact At.meetK () trivial (Tells.meet 6 ⟨rfl, trivial⟩ rfl rfl) (fun _ h => h) r_
  ·
   refine At.skip ?_
   refine At.say 1 (.int .i64 (i : Int)) rfl (congrArg (Value.int .i64) (by rw [← hi0, if_neg hag])) ?_
   refine aT ?_
   exact At.meetK () trivial (Tells.meet 4 ⟨rfl, trivial⟩ rfl rfl) (fun _ h => h) r_
 intro u0 hMt
 obtain _ := u0
 refine At.know (prsP x.ps) (fun _ h => psP_get h.2.2.2.1 hx) ?_
 refine aE (aR ?_)
 refine aF s24 t22 rfl rfl rfl (Rd.blk (ix 1 rfl) rfl) rfl rfl ?_
 refine aS 1 rfl rfl ?_
 refine aQ (q_index Try.underlying22 t33 rfl (ix 3 rfl) (by simp) rfl rfl (lt_of_get hx)) rfl ?_
 refine aQ (q_loadS t33 rfl (RdS.sl0 (ix 3 rfl) (map_get hx)) rfl) rfl ?_
 refine At.loud (l_alloc t33) rfl ?_
 rintro _ _ _ ⟨b2, rfl, rfl, rfl⟩
 refine At.loudN (l_store t33 rfl rfl (i := 0) rfl rfl rfl rfl) ?_
 rintro _ _ _ ⟨rfl, rfl⟩
 refine aN (aT (aE (aR ?_)))
 refine aS 1 rfl rfl ?_
 refine aQ (q_len Try.underlying22 rfl) rfl ?_
 refine aS 1 rfl rfl ?_
 refine aN (aT (aE (aR ?_)))
 refine aF s33 t31 rfl rfl rfl (Rd.loc (i := 0) rfl rfl) rfl rfl ?_
 refine At.loud (l_appendNew rfl Try.underlying31 t50 rfl rfl (.head _) (by simp) rfl (by omega) (by unfold maxLen; omega) rfl) rfl ?_
 rintro _ _ _ ⟨a3, c3, rfl, rfl, rfl⟩
 refine aQ (q_fieldAddr s33 rfl rfl rfl) rfl ?_
 refine At.loudN (l_store t31 rfl rfl (i := 0) rfl rfl rfl rfl) ?_
 rintro _ _ _ ⟨rfl, rfl⟩
 refine aN (aT (aE (aR ?_)))
 refine aS 1 rfl rfl ?_
 refine aQ (q_loadS t33 rfl (RdS.loc (i := 0) rfl (m := 6) rfl) rfl) rfl ?_
 refine At.loud (l_buildSlice Try.underlying22 t33 rfl rfl rfl rfl rfl) rfl ?_
 rintro _ _ _ ⟨b3, rfl, rfl, rfl⟩
 refine At.loud (l_append rfl Try.underlying22 t33 rfl rfl hO (by simp) (i := 2) rfl rfl (news := [rowN (⟨x.route, x.key, x.left, x.right, ⟨a3, c3, x.ps.l⟩, x.stat⟩ : Nd)]) (by simp [rowN, Sl.val]) (RdS.loc (i := 0) rfl (m := 6) rfl) rfl rfl rfl (by omega) (by unfold maxLen; omega)) rfl ?_
 rintro _ _ _ ⟨a1, c1, M1, rfl, ow1, rfl, rfl⟩
 refine aS 1 rfl rfl ?_
 refine aN (aT (aE (aE (aR ?_))))
 have hO1 : Own 33 6 ((q ++ [(⟨x.route, x.key, x.left, x.right, ⟨a3, c3, x.ps.l⟩, x.stat⟩ : Nd)]).map rowN) a1 c1 M1 := by simpa using ow1
 refine aF s33 t4 rfl rfl rfl (Rd.loc (i := 1) rfl rfl) rfl rfl ?_
 refine aN (aT ?_)
 refine At.cond rfl (fun hroute => ?_) (fun hroute => ?_)
 ·
  rcases hc with ⟨hc, _⟩ | ⟨hc, l, r, rfl, hl, hr⟩
  ·exact absurd hroute (by simp [hc])
  obtain ⟨ih1, ih2⟩ := ih i l r rfl
  simp only [Sh.size] at hb
  refine aE (aR ?_)
  refine aS 2 rfl rfl ?_
  refine aN (aT (aE (aR ?_)))
  refine At.say 4 (.slice a1 (q ++ [(⟨x.route, x.key, x.left, x.right, ⟨a3, c3, x.ps.l⟩, x.stat⟩ : Nd)]).length c1) rfl (by simp) ?_
  refine aQ (q_loadS t24 rfl (RdS.blk (ix 2 rfl) (m := 2) rfl) rfl) rfl ?_
  refine aF s33 t3 rfl rfl rfl (Rd.loc (i := 1) rfl rfl) rfl rfl ?_
  refine aS 3 rfl rfl ?_
  refine At.front 2 rfl ?_
  refine At.call en88 rfl (ih1 x.left hl (q ++ [(⟨x.route, x.key, x.left, x.right, ⟨a3, c3, x.ps.l⟩, x.stat⟩ : Nd)]) a1 c1 _ hO1 (by simp; omega)) (fun _ h => ⟨h.2.2.2.2.1, h.2.2.2.2.2.1, trivial⟩) (List.Perm.refl _) rfl ?_
  rintro _ _ _ ⟨o1, a4, c4, M4, rfl, rfl, rfl, hO3, he1⟩
  refine aS 1 rfl rfl ?_
  refine aQ (q_extract rfl rfl) rfl ?_
  refine aQ (q_extract rfl rfl) rfl ?_
  refine aS 2 rfl rfl ?_
  refine aN (aT (aE (aR ?_)))
  have hl1 : o1.length = l.size := by have := congrArg List.length he1; rwa [List.length_map, Sh.lay_length] at this
  refine aQ (q_loadS t24 rfl (RdS.blk (ix 3 rfl) (m := 2) rfl) rfl) rfl ?_
  refine aF s33 t3 rfl rfl rfl (Rd.loc (i := 2) rfl rfl) rfl rfl ?_
  refine aS 3 rfl rfl ?_
  refine At.call en88 rfl (ih2 x.right hr ((q ++ [(⟨x.route, x.key, x.left, x.right, ⟨a3, c3, x.ps.l⟩, x.stat⟩ : Nd)]) ++ o1) a4 c4 _ hO3 (by simp; omega)) (fun _ h => ⟨h.2.2.2.2.2.1, h.2.2.2.2.2.2.1, trivial⟩) (List.Perm.refl _) rfl ?_
  rintro _ _ _ ⟨o2, a5, c5, M5, rfl, rfl, rfl, hO5, he2⟩
  refine aS 1 rfl rfl ?_
  refine aQ (q_extract rfl rfl) rfl ?_
  refine aQ (q_extract rfl rfl) rfl ?_
  refine aS 2 rfl rfl ?_
  refine aN (aT (aR ?_))
  have hO6 : Own 33 6 ((q ++ (⟨x.route, x.key, x.left, x.right, ⟨a3, c3, x.ps.l⟩, x.stat⟩ : Nd) :: (o1 ++ o2)).map rowN) a5 c5 M5 := by simpa using hO5
  refine aS 6 rfl rfl ?_
  refine aQ (q_indexOwn Try.underlying22 t33 rfl hO6 (by simp) rfl rfl (by simp)) rfl ?_
  refine aQ (q_fieldAddr s33 rfl rfl rfl) rfl ?_
  refine At.loudN (l_storeOwn t3 rfl rfl hO6 (i := 0) rfl (get_mid q (o1 ++ o2) _) rfl rfl rfl) ?_
  rintro _ _ _ ⟨Mow1, ow1, rfl, rfl⟩
  refine aQ (q_indexOwn Try.underlying22 t33 rfl hO6 (by simp) rfl rfl (by simp)) rfl ?_
  refine aQ (q_fieldAddr s33 rfl rfl rfl) rfl ?_
  refine At.loudN (l_storeOwn t3 rfl rfl (show Own 33 6 ((q ++ (⟨x.route, x.key, (((q ++ [(⟨x.route, x.key, x.left, x.right, ⟨a3, c3, x.ps.l⟩, x.stat⟩ : Nd)]).length : Nat) : Int), x.right, ⟨a3, c3, x.ps.l⟩, x.stat⟩ : Nd) :: (o1 ++ o2)).map rowN) a5 c5 _ by rw [← set_mid q (o1 ++ o2) (⟨x.route, x.key, x.left, x.right, ⟨a3, c3, x.ps.l⟩, x.stat⟩ : Nd)]; exact ow1) (i := 0) rfl (get_mid q (o1 ++ o2) (⟨x.route, x.key, (((q ++ [(⟨x.route, x.key, x.left, x.right, ⟨a3, c3, x.ps.l⟩, x.stat⟩ : Nd)]).length : Nat) : Int), x.right, ⟨a3, c3, x.ps.l⟩, x.stat⟩ : Nd)) rfl rfl rfl) ?_
  rintro _ _ _ ⟨Mow2, ow2, rfl, rfl⟩
  refine aN (aT (aE (aR ?_)))
  have hO8 : Own 33 6 ((q ++ (⟨x.route, x.key, (((q ++ [(⟨x.route, x.key, x.left, x.right, ⟨a3, c3, x.ps.l⟩, x.stat⟩ : Nd)]).length : Nat) : Int), ((((q ++ [(⟨x.route, x.key, x.left, x.right, ⟨a3, c3, x.ps.l⟩, x.stat⟩ : Nd)]) ++ o1).length : Nat) : Int), ⟨a3, c3, x.ps.l⟩, x.stat⟩ : Nd) :: (o1 ++ o2)).map rowN) a5 c5 Mow2 := by rw [← set_mid q (o1 ++ o2) (⟨x.route, x.key, (((q ++ [(⟨x.route, x.key, x.left, x.right, ⟨a3, c3, x.ps.l⟩, x.stat⟩ : Nd)]).length : Nat) : Int), x.right, ⟨a3, c3, x.ps.l⟩, x.stat⟩ : Nd)]; exact ow2
  refine At.know (psP ((⟨x.route, x.key, (((q ++ [(⟨x.route, x.key, x.left, x.right, ⟨a3, c3, x.ps.l⟩, x.stat⟩ : Nd)]).length : Nat) : Int), ((((q ++ [(⟨x.route, x.key, x.left, x.right, ⟨a3, c3, x.ps.l⟩, x.stat⟩ : Nd)]) ++ o1).length : Nat) : Int), ⟨a3, c3, x.ps.l⟩, x.stat⟩ : Nd) :: (o1 ++ o2))) (fun _ h => psP_cons (n := (⟨x.route, x.key, (((q ++ [(⟨x.route, x.key, x.left, x.right, ⟨a3, c3, x.ps.l⟩, x.stat⟩ : Nd)]).length : Nat) : Int), ((((q ++ [(⟨x.route, x.key, x.left, x.right, ⟨a3, c3, x.ps.l⟩, x.stat⟩ : Nd)]) ++ o1).length : Nat) : Int), ⟨a3, c3, x.ps.l⟩, x.stat⟩ : Nd)) h.2.2.1 (psP_app h.2.1 h.1)) ?_
  refine aS 4 rfl rfl ?_
  refine aN (aT (At.ret ?_))
  exact At.results (Γr := [_]) (M := [_]) rfl (RVals.cons (RVal.tmp rfl) (RVals.cons (RVal.tmp rfl) RVals.nil)) (ix 6 rfl) (fun _ h => ⟨h.1, trivial⟩) (k_ (d_ (d_ r_))) (in_node (n0 := (⟨x.route, x.key, x.left, x.right, ⟨a3, c3, x.ps.l⟩, x.stat⟩ : Nd)) hO8 hg he1 he2 rfl (by simp [Nd.p]; omega))
 ·
  obtain rfl : s = .leaf i := by
   rcases hc with ⟨_, h⟩ | ⟨h, _⟩
   ·exact h
   ·rw [show x.route = false from hroute] at h; cases h
  refine At.know (psP [(⟨x.route, x.key, x.left, x.right, ⟨a3, c3, x.ps.l⟩, x.stat⟩ : Nd)]) (fun _ h => psP_cons (n := (⟨x.route, x.key, x.left, x.right, ⟨a3, c3, x.ps.l⟩, x.stat⟩ : Nd)) h.1 psP_nil) ?_
  refine At.skip (aT (aE (aR ?_)))
  refine aS 4 rfl rfl ?_
  refine aN (aT (At.ret ?_))
  exact At.results (Γr := [_]) (M := [M1]) rfl (RVals.cons (RVal.tmp rfl) (RVals.cons (RVal.tmp rfl) RVals.nil)) (ix 4 rfl) (fun _ h => ⟨h.1, trivial⟩) (d_ (d_ (k_ r_))) ⟨[(⟨x.route, x.key, x.left, x.right, ⟨a3, c3, x.ps.l⟩, x.stat⟩ : Nd)], a1, c1, M1, by simp [resVal], rfl, rfl, hO1, by rw [Sh.lay, hg]; simp [Nd.p]⟩
theorem copyIn88 (t : Tr) (hsm : small2 t.ns.l) (g ot : Int) (s : Sh) : CopyIn t g ot s := by
 induction s with
 | leaf i => exact copyIn88_step t hsm g ot _ fun _ _ _ h => by cases h
 | node i l r h1 h2 => exact copyIn88_step t hsm g ot _ fun _ _ _ h => by cases h; exact ⟨h1, h2⟩
theorem copyx24 (t : Tr) (hsm : smallP t.ns.l) (hfew : t.ns.l.length ≤ 100000) (m : Nat) : Con Try.prog 24 [t.val] [ndsP t.ns, psP t.ns.l] [] (CopyXEnd t m) := by
 refine Con.body 28 Try.func24 rfl Try.ntmps24 rfl fun X H₀ L₀ => ?_
 refine At.nilSeg ?_
 refine At.nilSeg ?_
 refine At.know (psX m []) (fun _ h => psX_nil m) ?_
 refine aE (aR ?_)
 refine At.loud (l_box rfl) rfl ?_
 rintro _ _ _ ⟨b1, rfl, rfl, rfl⟩
 refine At.freeze 0 (φ := blk b1 _) rfl (fun _ h => blk_def.2 ⟨_, _, h⟩) ?_
 refine At.loud (l_alloc t24) rfl ?_
 rintro _ _ _ ⟨b2, rfl, rfl, rfl⟩
 refine aN (aT (aE (aR ?_)))
 refine aF s24 t3 rfl rfl rfl (Rd.blk (.head _) rfl) rfl rfl ?_
 refine aQ (q_build t24 s24 rfl rfl) rfl ?_
 refine At.loud (l_alloc t24) rfl ?_
 rintro _ _ _ ⟨b3, rfl, rfl, rfl⟩
 refine At.loudN (l_store t24 rfl rfl (i := 0) rfl rfl rfl rfl) ?_
 rintro _ _ _ ⟨rfl, rfl⟩
 refine aN (aT (aE (aE (aR ?_))))
 refine aF s24 t22 rfl rfl rfl (Rd.blk (.head _) rfl) rfl rfl ?_
 refine aQ (q_len Try.underlying22 rfl) rfl ?_
 refine aS 1 rfl rfl ?_
 refine aN (aT (At.block ?_))
 refine At.front 3 rfl ?_
 refine At.front 3 rfl ?_
 refine At.front 2 rfl ?_
 refine At.loopK (ι := Nat × List Nd × Option Addr × Nat × Seg × Seg) [5, 12, 13, 14, 15, 16, 17, 18, 19, 20, 21, 22, 23, 24, 25, 26] (fun ⟨k, o, a, c, M, mp⟩ => [(12, .int .i64 (k : Int))]) (fun ⟨k, o, a, c, M, mp⟩ => [psX m o]) (fun ⟨k, o, a, c, M, mp⟩ => [[(b3, .cells #[.int .i64 t.root, .slice a k c] 24 (0, 0))], M, mp]) _ (fun ⟨k, o, a, c, M, mp⟩ => k ≤ t.ns.l.length ∧ Own 33 6 (o.map rowN) a c M ∧ o.length = k ∧ o.map Nd.p = t.p.ns.take k ∧ OwnAt m o mp) (fun ⟨k, o, a, c, M, mp⟩ => t.ns.l.length - k) (0, [], none, 0, [], []) ⟨Nat.zero_le _, Own.nil _ _, rfl, by simp, OwnAt.nil m⟩ ⟨rfl, trivial⟩ (fun _ _ => ⟨psX_nil m, trivial⟩) (k_ (k_ (k_ r_))) ?_
 intro i0 hI0
 obtain ⟨k, o, a, c, M, mp⟩ := i0
 obtain ⟨hkl, hO, hok, hoe, hat⟩ := hI0
 refine aE (aR ?_)
 refine aS 1 rfl rfl ?_
 refine aN (aT (aE ?_))
 refine At.if rfl (fun hk => ?_) (fun hk => ?_)
 ·
  obtain ⟨y, hy⟩ := get_of_lt (l := t.ns.l) (i := k) (by omega)
  have hk1 := lt_of_get hy
  have hys := hsm y (List.mem_of_getElem? hy)
  refine At.know (prsP y.ps) (fun _ h => psP_get h.2.2.2.2.2.1 hy) ?_
  refine At.skip (aT (aE (At.block (aE (aR ?_)))))
  refine aQ (q_index Try.underlying22 t33 rfl (ix 5 rfl) (by simp) rfl rfl (lt_of_get hy)) rfl ?_
  refine aQ (q_loadS t33 rfl (RdS.sl0 (ix 5 rfl) (map_get hy)) rfl) rfl ?_
  refine At.loud (l_alloc t33) rfl ?_
  rintro _ _ _ ⟨b4, rfl, rfl, rfl⟩
  refine At.loudN (l_store t33 rfl rfl (i := 0) rfl rfl rfl rfl) ?_
  rintro _ _ _ ⟨rfl, rfl⟩
  refine aN (aT (aE (aR ?_)))
  refine aF s33 t31 rfl rfl rfl (Rd.loc (i := 0) rfl rfl) rfl rfl ?_
  by_cases hkm : k = m
  ·
   obtain rfl : mp = [] := hat.empty (by omega)
   refine At.loud (l_appendSl rfl Try.underlying31 t50 rfl rfl (Own.nil 50 2) (by simp) (i := 3) rfl (.head _) (by simp) (one_map (fun _ => rfl) _) rfl rfl (by omega) (by unfold maxLen; omega)) rfl ?_
   rintro _ _ _ ⟨a3, c3, M3, rfl, ow3, rfl, rfl⟩
   refine At.say 18 (.slice a3 y.ps.l.length c3) rfl (by simp) ?_
   refine aQ (q_fieldAddr s33 rfl rfl rfl) rfl ?_
   refine At.loudN (l_store t31 rfl rfl (i := 0) rfl rfl rfl rfl) ?_
   rintro _ _ _ ⟨rfl, rfl⟩
   refine aN (aT (aR ?_))
   refine aF s24 t22 rfl rfl rfl (Rd.loc (i := 1) rfl rfl) rfl rfl ?_
   refine aQ (q_loadS t33 rfl (RdS.loc (i := 0) rfl (m := 6) rfl) rfl) rfl ?_
   refine At.loud (l_buildSlice Try.underlying22 t33 rfl rfl rfl rfl rfl) rfl ?_
   rintro _ _ _ ⟨b5, rfl, rfl, rfl⟩
   refine At.loud (l_append rfl Try.underlying22 t33 rfl rfl hO (by simp; omega) (i := 3) rfl rfl (news := [rowN { y with ps := ⟨a3, c3, y.ps.l⟩ }]) (by simp [rowN, Sl.val]) (RdS.loc (i := 0) rfl (m := 6) rfl) rfl rfl rfl (by omega) (by unfold maxLen; omega)) rfl ?_
   rintro _ _ _ ⟨a2, c2, M2, rfl, ow, rfl, rfl⟩
   refine aQ (q_fieldAddr s24 rfl rfl rfl) rfl ?_
   refine At.loudN (l_store t22 rfl rfl (i := 2) rfl rfl rfl rfl) ?_
   rintro _ _ _ ⟨rfl, rfl⟩
   refine aN (At.inNormal (aT (aR ?_)))
   refine At.know (psX m (o ++ [{ y with ps := ⟨a3, c3, y.ps.l⟩ }])) (fun _ h => psX_snoc (n := { y with ps := ⟨a3, c3, y.ps.l⟩ }) h.2.1 (fun h9 => absurd (hok.trans hkm) h9)) ?_
   refine aQ (q_add rfl rfl (by omega) (by omega)) rfl ?_
   refine aS 1 rfl rfl ?_
   refine aN ?_
   refine At.front 4 rfl ?_
   refine At.front 4 rfl ?_
   refine At.front 4 rfl ?_
   refine aT ?_
   exact At.againK (k + 1, o ++ [{ y with ps := ⟨a3, c3, y.ps.l⟩ }], a2, c2, M2, M3) ⟨hk1, by simpa using ow, by simp; omega, copy_step (s0 := ⟨a3, c3, y.ps.l⟩) hoe rfl (map_get hy), OwnAt.here (n := { y with ps := ⟨a3, c3, y.ps.l⟩ }) hat (by omega) (by simpa using ow3)⟩ (by (try dsimp only); omega) (Tells.end 18 ⟨rfl, trivial⟩ rfl rfl) (fun _ h => ⟨h.1, h.2.2.2⟩) (k_ (k_ (k_ (d_ (d_ r_)))))
  ·
   refine At.loud (l_appendNew rfl Try.underlying31 t50 rfl rfl (.head _) (by simp) rfl (by omega) (by unfold maxLen; omega) rfl) rfl ?_
   rintro _ _ _ ⟨a3, c3, rfl, rfl, rfl⟩
   refine aQ (q_fieldAddr s33 rfl rfl rfl) rfl ?_
   refine At.loudN (l_store t31 rfl rfl (i := 0) rfl rfl rfl rfl) ?_
   rintro _ _ _ ⟨rfl, rfl⟩
   refine aN (aT (aR ?_))
   refine aF s24 t22 rfl rfl rfl (Rd.loc (i := 1) rfl rfl) rfl rfl ?_
   refine aQ (q_loadS t33 rfl (RdS.loc (i := 0) rfl (m := 6) rfl) rfl) rfl ?_
   refine At.loud (l_buildSlice Try.underlying22 t33 rfl rfl rfl rfl rfl) rfl ?_
   rintro _ _ _ ⟨b6, rfl, rfl, rfl⟩
   refine At.loud (l_append rfl Try.underlying22 t33 rfl rfl hO (by simp; omega) (i := 3) rfl rfl (news := [rowN { y with ps := ⟨a3, c3, y.ps.l⟩ }]) (by simp [rowN, Sl.val]) (RdS.loc (i := 0) rfl (m := 6) rfl) rfl rfl rfl (by omega) (by unfold maxLen; omega)) rfl ?_
   rintro _ _ _ ⟨a2, c2, M2, rfl, ow, rfl, rfl⟩
   refine aQ (q_fieldAddr s24 rfl rfl rfl) rfl ?_
   refine At.loudN (l_store t22 rfl rfl (i := 2) rfl rfl rfl rfl) ?_
   rintro _ _ _ ⟨rfl, rfl⟩
   refine aN (At.inNormal (aT (aR ?_)))
   refine At.know (psX m (o ++ [{ y with ps := ⟨a3, c3, y.ps.l⟩ }])) (fun _ h => psX_snoc (n := { y with ps := ⟨a3, c3, y.ps.l⟩ }) h.2.2.1 (fun h9 => h.1)) ?_
   refine aQ (q_add rfl rfl (by omega) (by omega)) rfl ?_
   refine aS 1 rfl rfl ?_
   refine aN ?_
   refine At.front 4 rfl ?_
   refine At.front 4 rfl ?_
   refine At.front 4 rfl ?_
   refine aT ?_
   exact At.againK (k + 1, o ++ [{ y with ps := ⟨a3, c3, y.ps.l⟩ }], a2, c2, M2, mp) ⟨hk1, by simpa using ow, by simp; omega, copy_step (s0 := ⟨a3, c3, y.ps.l⟩) hoe rfl (map_get hy), OwnAt.there hat (by omega)⟩ (by (try dsimp only); omega) (Tells.end 17 ⟨rfl, trivial⟩ rfl rfl) (fun _ h => ⟨h.1, h.2.2.2.2⟩) (k_ (k_ (k_ (d_ (d_ r_)))))
 ·
  have hoe2 : o.map Nd.p = t.p.ns := by rw [hoe, List.take_of_length_le (by simp [Tr.p]; omega)]
  subst hok
  refine At.exit (At.thenExit (At.thenExit (At.inHere rfl (aT (aE (aR ?_))))))
  refine aQ (q_loadS t24 rfl (RdS.loc (i := 0) rfl (m := 2) rfl) rfl) rfl ?_
  refine At.loudN (l_store t24 rfl rfl (i := 3) rfl rfl rfl rfl) ?_
  rintro _ _ _ ⟨rfl, rfl⟩
  refine aN (aT (At.ret ?_))
  exact At.results (Γr := [psX m o]) (M := [M, mp]) rfl (RVals.cons (RVal.cellS rfl t24 (RdS.loc (i := 3) rfl (m := 2) rfl) rfl) RVals.nil) (ix 3 rfl) (fun _ h => ⟨h.1, trivial⟩) (d_ (k_ (k_ (d_ r_)))) ⟨⟨t.root, ⟨a, c, o⟩⟩, M, mp, rfl, rfl, rfl, hO, hat, by simp only [Tr.p]; exact congrArg (PT.mk t.root) hoe2⟩
set_option maxHeartbeats 2000000 in
theorem join50 (t : Tr) (hsm : smallP t.ns.l) (at_ : Int) : Con Try.prog 50 [t.val, .int .i64 at_] [ndsP t.ns, psP t.ns.l] [] (SplitEnd (joinT t.p at_)) := by
 refine Con.body 94 Try.func50 rfl Try.ntmps50 rfl fun X H₀ L₀ => ?_
 have hN : t.p.ns.length = t.ns.l.length := by simp [Tr.p]
 refine At.lenOf (hs := (ix 1 rfl)) fun hlen => ?_
 rw [List.length_map] at hlen
 refine aE (aR ?_)
 refine At.loud (l_box rfl) rfl ?_
 rintro _ _ _ ⟨b1, rfl, rfl, rfl⟩
 refine At.freeze 0 (φ := blk b1 _) rfl (fun _ h => blk_def.2 ⟨_, _, h⟩) ?_
 refine At.loud (l_alloc t24) rfl ?_
 rintro _ _ _ ⟨b2, rfl, rfl, rfl⟩
 refine aS 1 rfl rfl ?_
 refine aN (aT (aE (aR ?_)))
 refine aQ (q_loadS t24 rfl (RdS.blk (.head _) (m := 2) rfl) rfl) rfl ?_
 refine aS 1 rfl rfl ?_
 refine At.call en53 rfl (near53 t hsm at_) (fun _ h => ⟨h.2.2.1, h.2.2.2.1, trivial⟩) (List.Perm.refl _) rfl ?_
 rintro _ _ _ ⟨rfl, rfl, rfl⟩
 refine aS 1 rfl rfl ?_
 refine aN (aT (aE (aE (aR ?_))))
 refine aS 2 rfl rfl ?_
 refine aN (aT ?_)
 refine At.if rfl (fun hneg => ?_) (fun hneg => ?_)
 ·
  refine aE (aR ?_)
  refine At.know (ndsP ⟨none, 0, []⟩) (fun _ h => sl_nil _ _ _ (Nat.zero_le _)) ?_
  refine At.know (psP []) (fun _ h => psP_nil) ?_
  refine aQ (q_build t24 s24 rfl rfl) rfl ?_
  refine At.loudN (l_store t24 rfl rfl (i := 0) rfl rfl rfl rfl) ?_
  rintro _ _ _ ⟨rfl, rfl⟩
  refine aS 1 rfl rfl ?_
  refine aN (aT (At.ret (At.thenRet ?_)))
  exact At.results (Γr := [_, _]) (M := []) rfl (RVals.cons (RVal.cellS rfl t24 (RdS.loc (i := 0) rfl (m := 2) rfl) rfl) (RVals.cons (RVal.tmp rfl) RVals.nil)) (ix 3 rfl) (fun _ h => ⟨h.2.1, h.1, trivial⟩) (d_ r_) ⟨⟨0, ⟨none, 0, []⟩⟩, by rw [join_no (nb_neg hneg)]; rfl, rfl, rfl, by rw [join_no (nb_neg hneg)]; rfl⟩
 ·
  obtain ⟨s, i, n, q, side, m, hs, rfl, hlf, hn, hnr, hnb, hnxt⟩ := next_yes (nb_pos hneg)
  obtain ⟨nm, hnm, hnmr, hmk, hml, hmr⟩ := nb_leafz hs hnb
  have hfew := (good_of hs).few
  refine At.say 6 (.int .i64 (m : Int)) rfl (congrArg (Value.int .i64) (by rw [hnxt]; rfl)) ?_
  refine At.skip (aT (aE (aR ?_)))
  refine aQ (q_loadS t24 rfl (RdS.blk (.head _) (m := 2) rfl) rfl) rfl ?_
  refine At.call en24 rfl (copyx24 t hsm (by omega) m) (fun _ h => ⟨h.2.2.1, h.2.2.2.1, trivial⟩) (List.Perm.refl _) rfl ?_
  rintro _ _ _ ⟨u, Mu, mp, rfl, rfl, rfl, hu, hat, hpu⟩
  refine At.loud (l_alloc t24) rfl ?_
  rintro _ _ _ ⟨b3, rfl, rfl, rfl⟩
  refine At.loudN (l_store t24 rfl rfl (i := 0) rfl rfl rfl rfl) ?_
  rintro _ _ _ ⟨rfl, rfl⟩
  refine aN (aT (aE (aR ?_)))
  have hul := p_len hpu
  have hml0 := lt_of_get hnm
  obtain ⟨ym, hym, hmp⟩ := hat.get (by omega)
  obtain ⟨x, hx, hxn⟩ := p_get (u := t) rfl hn
  obtain ⟨xm, hxm, hxmn⟩ := p_get (u := t) rfl hnm
  obtain ⟨ym2, hym2, hymn⟩ := p_get hpu hnm
  rw [hym] at hym2
  cases hym2
  have hymx : ym.ps.l = xm.ps.l := congrArg Nod.l (hymn.trans hxmn.symm)
  have hxs := hsm x (List.mem_of_getElem? hx)
  have hxms := hsm xm (List.mem_of_getElem? hxm)
  have hyms : ym.ps.l.length ≤ 1000000 := by rw [hymx]; exact hxms
  have hmr1 : ym.route = false := (congrArg Nod.route hymn).trans hnmr
  have hmk1 : ym.key = 0 := (congrArg Nod.key hymn).trans hmk
  have hml1 : ym.left = 0 := (congrArg Nod.left hymn).trans hml
  have hmr2 : ym.right = 0 := (congrArg Nod.right hymn).trans hmr
  refine aQ (q_loadS t24 rfl (RdS.blk (ix 1 rfl) (m := 2) rfl) rfl) rfl ?_
  refine aS 1 rfl rfl ?_
  refine At.call en87 rfl (up87 t (i : Int)) (fun _ h => ⟨h.2.2.2.1, h.2.2.2.2.1, trivial⟩) (List.Perm.refl _) rfl ?_
  rintro vu _ _ ⟨rfl, rfl, hup⟩
  refine aS 1 rfl rfl ?_
  obtain ⟨nq, rfl, hq, hqr⟩ := up_is hs hn hnr hnb hup
  obtain ⟨y, hy, hyp⟩ := p_get (u := t) rfl hq
  refine At.know (prsP y.ps) (fun _ h => psP_get h.2.2.2.2.1 hy) ?_
  refine At.know (prsP x.ps) (fun _ h => psP_get h.2.2.2.2.2.1 hx) ?_
  refine At.know (prsP xm.ps) (fun _ h => psP_get h.2.2.2.2.2.2.1 hxm) ?_
  refine aQ (q_extract rfl rfl) rfl ?_
  refine aQ (q_extract rfl rfl) rfl ?_
  refine aS 2 rfl rfl ?_
  refine aN (aT (aE (aR ?_)))
  refine aF s24 t22 rfl rfl rfl (Rd.blk (ix 4 rfl) rfl) rfl rfl ?_
  refine aS 1 rfl rfl ?_
  refine aQ (q_index Try.underlying22 t33 rfl (ix 6 rfl) (by simp) rfl rfl (lt_of_get hy)) rfl ?_
  refine aF s33 t3 rfl rfl rfl (Rd.sl (ix 6 rfl) (map_get hy) rfl) rfl rfl ?_
  refine aS 1 rfl rfl ?_
  refine aN (aT (aE (aE (aR ?_))))
  refine aS 1 rfl rfl ?_
  refine aN (aT ?_)
  refine At.cond rfl (fun hsd0 => ?_) (fun hsd0 => ?_)
  ·
   have hsd : side = true := hsd0
   refine aE (aR ?_)
   refine aF s24 t22 rfl rfl rfl (Rd.blk (ix 4 rfl) rfl) rfl rfl ?_
   refine aS 1 rfl rfl ?_
   refine aQ (q_index Try.underlying22 t33 rfl (ix 6 rfl) (by simp) rfl rfl (lt_of_get hy)) rfl ?_
   refine aF s33 t3 rfl rfl rfl (Rd.sl (ix 6 rfl) (map_get hy) rfl) rfl rfl ?_
   refine aS 1 rfl rfl ?_
   refine aN (aT ?_)
   refine At.draw 16 (.q 0 (.q 1 (.q 2 (.q 3 (.q 4 (.q 5 (.q 6 (.q 7 (.q 8 (.q 9 (.q 10 (.q 11 (.q 12 (.q 13 (.q 14 (.o 15 (.e))))))))))))))))) (_ :: _ :: _ :: L₀) (k_ (k_ (d_ (k_ r_)))) mixed (by kernel_rfl) rfl ?_
   refine oQ rfl (q_fieldAddr s24 rfl rfl rfl) rfl (cT cP) ?_
   refine oQ rfl (q_load t22 rfl (Rd.loc (i := 0) rfl rfl)) rfl (cT cP) ?_
   refine oQ rfl (q_move rfl) rfl (cT cP) ?_
   refine oQ rfl (q_fieldAddr s24 rfl rfl rfl) rfl (cT cP) ?_
   refine oQ rfl (q_load t22 rfl (Rd.loc (i := 0) rfl rfl)) rfl (cT cP) ?_
   refine oQ rfl (q_move rfl) rfl (cT cP) ?_
   refine oQ rfl (q_indexOwn Try.underlying22 t33 rfl hu (by simp) rfl rfl (lt_of_get hym)) rfl (cT cP) ?_
   refine oQ rfl (q_fieldAddr s33 rfl rfl rfl) rfl (cT cP) ?_
   refine oQ rfl (q_load t31 rfl (Rd.own hu (i := 1) rfl (map_get hym) rfl)) rfl (cT cP) ?_
   refine oQ rfl (q_fieldAddr s24 rfl rfl rfl) rfl (cT cP) ?_
   refine oQ rfl (q_load t22 rfl (Rd.blk (ix 4 rfl) rfl)) rfl (cT cP) ?_
   refine oQ rfl (q_move rfl) rfl (cT cP) ?_
   refine oQ rfl (q_index Try.underlying22 t33 rfl (ix 6 rfl) (by simp) rfl rfl (lt_of_get hx)) rfl (cT cP) ?_
   refine oQ rfl (q_fieldAddr s33 rfl rfl rfl) rfl (cT cP) ?_
   refine oQ rfl (q_load t31 rfl (Rd.sl (ix 6 rfl) (map_get hx) rfl)) rfl (cT cP) ?_
   refine AtO.loudA rfl (l_appendSl rfl Try.underlying31 t50 rfl rfl hmp (by simp) (i := 2) rfl (ix 1 rfl) (by simp) (one_map (fun _ => rfl) _) rfl rfl (by omega) (by unfold maxLen; omega)) rfl (by rintro _ _ _ ⟨_, _, _, rfl, _, rfl, rfl⟩; exact ⟨fun _ h => h, (k_ (k_ (d_ (k_ r_))))⟩) ?_
   rintro _ _ _ ⟨a5, c5, M5, rfl, ow5, rfl, rfl⟩
   refine AtO.done ?_
   refine At.say 55 (.slice a5 (ym.ps.l ++ x.ps.l).length c5) rfl (by simp) ?_
   refine aQ (q_indexOwn Try.underlying22 t33 rfl hu (by simp) rfl rfl (lt_of_get hym)) rfl ?_
   refine aQ (q_fieldAddr s33 rfl rfl rfl) rfl ?_
   refine At.loudN (l_storeOwn t31 rfl rfl hu (i := 1) rfl (map_get hym) rfl rfl rfl) ?_
   rintro _ _ _ ⟨Mow1, ow1, rfl, rfl⟩
   refine aN (aT (aE (aR ?_)))
   have hO2 : Own 33 6 ((u.ns.l.set m { ym with ps := ⟨a5, c5, ym.ps.l ++ x.ps.l⟩ }).map rowN) u.ns.a u.ns.c Mow1 := by rw [row_set]; exact ow1
   have hym2 : (u.ns.l.set m { ym with ps := ⟨a5, c5, ym.ps.l ++ x.ps.l⟩ })[m]? = some { ym with ps := ⟨a5, c5, ym.ps.l ++ x.ps.l⟩ } := List.getElem?_set_self (lt_of_get hym)
   have hyl := lt_of_get hym
   refine aF s24 t22 rfl rfl rfl (Rd.loc (i := 0) rfl rfl) rfl rfl ?_
   refine aS 1 rfl rfl ?_
   refine aQ (q_indexOwn Try.underlying22 t33 rfl hO2 (by simp) rfl rfl hyl) rfl ?_
   refine aQ (q_fieldAddr s33 rfl rfl rfl) rfl ?_
   refine At.loudN (l_storeOwn t3 rfl rfl hO2 (i := 1) rfl (map_get hym2) rfl rfl rfl) ?_
   rintro _ _ _ ⟨Mow2, ow2, rfl, rfl⟩
   refine aN (aT (aE (aR ?_)))
   have hO3 : Own 33 6 ((u.ns.l.set m (⟨ym.route, ym.key, ym.left, ym.right, ⟨a5, c5, ym.ps.l ++ x.ps.l⟩, 0⟩ : Nd)).map rowN) u.ns.a u.ns.c Mow2 := by rw [set_twice (y1 := { ym with ps := ⟨a5, c5, ym.ps.l ++ x.ps.l⟩ })]; exact ow2
   refine At.freezeOwn 2 (show Own 50 2 ((ym.ps.l ++ x.ps.l).map rowP) a5 c5 M5 by simpa using ow5) rfl ?_
   refine At.know (psP (u.ns.l.set m (⟨ym.route, ym.key, ym.left, ym.right, ⟨a5, c5, ym.ps.l ++ x.ps.l⟩, 0⟩ : Nd))) (fun _ h => psP_ofX (n := (⟨ym.route, ym.key, ym.left, ym.right, ⟨a5, c5, ym.ps.l ++ x.ps.l⟩, 0⟩ : Nd)) h.2.2.2.2.1 h.1) ?_
   have hcn : (⟨ym.route, ym.key, ym.left, ym.right, ⟨a5, c5, ym.ps.l ++ x.ps.l⟩, 0⟩ : Nd).p = joinN t.p.ns i m side := by
    rw [joinN_eq hn hnm, hsd]
    simp only [Nd.p]
    rw [hmr1, hmk1, hml1, hmr2]
    simp [← hxn, ← hymn, ← hxmn, Nd.p]
    all_goals exact hymx.symm
   have hp3 := p_set1 (a := u.ns.a) (c := u.ns.c) (i := m) (m := (⟨ym.route, ym.key, ym.left, ym.right, ⟨a5, c5, ym.ps.l ++ x.ps.l⟩, 0⟩ : Nd)) hpu
   have hHS : HangsS (⟨u.root, ⟨u.ns.a, u.ns.c, u.ns.l.set m (⟨ym.route, ym.key, ym.left, ym.right, ⟨a5, c5, ym.ps.l ++ x.ps.l⟩, 0⟩ : Nd)⟩⟩ : Tr).p.ns (q : Int) y.left (s.cut i) u.root := by
    rw [hp3]
    exact join_in hs hnb hq hqr hnm hnmr (by rw [hcn]; rfl) (by rw [hsd, ← hyp]; rfl) (congrArg PT.root hpu)
   have hsm2 : small2 (u.ns.l.set m (⟨ym.route, ym.key, ym.left, ym.right, ⟨a5, c5, ym.ps.l ++ x.ps.l⟩, 0⟩ : Nd)) := small2_set (small_of_p hpu hsm) (by simp; omega)
   refine At.freezeOwn 1 hO3 rfl ?_
   refine aQ (q_loadS t24 rfl (RdS.loc (i := 0) rfl (m := 2) rfl) rfl) rfl ?_
   refine At.say 83 (Tr.val (⟨u.root, ⟨u.ns.a, u.ns.c, u.ns.l.set m (⟨ym.route, ym.key, ym.left, ym.right, ⟨a5, c5, ym.ps.l ++ x.ps.l⟩, 0⟩ : Nd)⟩⟩ : Tr)) rfl (by rw [set_val]; rfl) ?_
   refine aF s24 t3 rfl rfl rfl (Rd.loc (i := 0) rfl rfl) rfl rfl ?_
   refine At.nilSeg ?_
   refine aS 2 rfl rfl ?_
   refine At.call en88 rfl (copyIn88 (⟨u.root, ⟨u.ns.a, u.ns.c, u.ns.l.set m (⟨ym.route, ym.key, ym.left, ym.right, ⟨a5, c5, ym.ps.l ++ x.ps.l⟩, 0⟩ : Nd)⟩⟩ : Tr) hsm2 (q : Int) y.left (s.cut i) u.root hHS [] none 0 [] (Own.nil _ _) (by simpa using cut_few i hs)) (fun _ h => ⟨h.1, h.2.1, trivial⟩) (List.Perm.refl _) rfl ?_
   rintro _ _ _ ⟨o1, a1, c1, M1, rfl, rfl, rfl, hO1, he1⟩
   refine aS 1 rfl rfl ?_
   refine aQ (q_extract rfl rfl) rfl ?_
   refine aQ (q_extract rfl rfl) rfl ?_
   refine aS 2 rfl rfl ?_
   refine aN (aT (aE (aR ?_)))
   have hje := join_eq hs hlf hnb
   have hpw : (⟨0, ⟨a1, c1, [] ++ o1⟩⟩ : Tr).p = ⟨0, (s.cut i).lay (t.p.ns.set m (joinN t.p.ns i m side)) 0⟩ := by
    rw [hp3, hcn] at he1
    exact congrArg (PT.mk 0) he1
   refine At.freezeOwn 0 hO1 rfl ?_
   refine aS 2 rfl rfl ?_
   refine aQ (q_build t24 s24 rfl rfl) rfl ?_
   refine At.loudN (l_store t24 rfl rfl (i := 1) rfl rfl rfl rfl) ?_
   rintro _ _ _ ⟨rfl, rfl⟩
   refine aS 1 rfl rfl ?_
   refine aN (aT (At.ret ?_))
   exact At.results (Γr := [_, _]) (M := []) rfl (RVals.cons (RVal.cellS rfl t24 (RdS.loc (i := 1) rfl (m := 2) rfl) rfl) (RVals.cons (RVal.tmp rfl) RVals.nil)) (ix 10 rfl) (fun _ h => ⟨h.1, h.2.1, trivial⟩) (d_ (d_ r_)) ⟨⟨0, ⟨a1, c1, [] ++ o1⟩⟩, by rw [hje]; rfl, rfl, rfl, by rw [hje]; exact hpw⟩
  ·
   have hsd : side = false := hsd0
   refine At.nilSeg ?_
   refine At.draw 17 (.q 0 (.q 1 (.q 2 (.q 3 (.q 4 (.q 5 (.q 6 (.q 7 (.q 8 (.q 10 (.q 11 (.q 12 (.q 13 (.q 14 (.q 15 (.o 9 (.o 16 (.e)))))))))))))))))) (_ :: _ :: _ :: L₀) (d_ (k_ (k_ (d_ (k_ r_))))) mixed (by kernel_rfl) rfl ?_
   refine oQ rfl (q_fieldAddr s24 rfl rfl rfl) rfl (cT cP) ?_
   refine oQ rfl (q_load t22 rfl (Rd.loc (i := 0) rfl rfl)) rfl (cT cP) ?_
   refine oQ rfl (q_move rfl) rfl (cT cP) ?_
   refine oQ rfl (q_fieldAddr s24 rfl rfl rfl) rfl (cT cP) ?_
   refine oQ rfl (q_load t22 rfl (Rd.blk (ix 4 rfl) rfl)) rfl (cT cP) ?_
   refine oQ rfl (q_move rfl) rfl (cT cP) ?_
   refine oQ rfl (q_index Try.underlying22 t33 rfl (ix 6 rfl) (by simp) rfl rfl (lt_of_get hx)) rfl (cT cP) ?_
   refine oQ rfl (q_fieldAddr s33 rfl rfl rfl) rfl (cT cP) ?_
   refine oQ rfl (q_load t31 rfl (Rd.sl (ix 6 rfl) (map_get hx) rfl)) rfl (cT cP) ?_
   refine oQ rfl (q_fieldAddr s24 rfl rfl rfl) rfl (cT cP) ?_
   refine oQ rfl (q_load t22 rfl (Rd.blk (ix 4 rfl) rfl)) rfl (cT cP) ?_
   refine oQ rfl (q_move rfl) rfl (cT cP) ?_
   refine oQ rfl (q_index Try.underlying22 t33 rfl (ix 6 rfl) (by simp) rfl rfl (lt_of_get hxm)) rfl (cT cP) ?_
   refine oQ rfl (q_fieldAddr s33 rfl rfl rfl) rfl (cT cP) ?_
   refine oQ rfl (q_load t31 rfl (Rd.sl (ix 6 rfl) (map_get hxm) rfl)) rfl (cT cP) ?_
   refine AtO.loud rfl (l_appendSl rfl Try.underlying31 t50 rfl rfl (Own.nil 50 2) (by simp) (i := 0) rfl (ix 1 rfl) (by simp) (one_map (fun _ => rfl) _) rfl rfl (by omega) (by unfold maxLen; omega)) rfl (by rintro _ _ _ ⟨_, _, _, rfl, _, rfl, rfl⟩; exact ⟨fun _ h => h, (d_ (k_ (k_ (d_ (k_ r_)))))⟩) ?_
   rintro _ _ _ ⟨a4, c4, M4, rfl, ow4, rfl, rfl⟩
   refine AtO.loudA rfl (l_appendSl rfl Try.underlying31 t50 rfl rfl ow4 (by simp) (i := 0) rfl (.head _) (by simp) (one_map (fun _ => rfl) _) rfl rfl (by omega) (by unfold maxLen; omega)) rfl (by rintro _ _ _ ⟨_, _, _, rfl, _, rfl, rfl⟩; exact ⟨fun _ h => h, (d_ (k_ (k_ (d_ (k_ r_)))))⟩) ?_
   rintro _ _ _ ⟨a5, c5, M5, rfl, ow5, rfl, rfl⟩
   refine AtO.done ?_
   refine At.say 74 (.slice a5 (x.ps.l ++ xm.ps.l).length c5) rfl (by simp) ?_
   refine aQ (q_indexOwn Try.underlying22 t33 rfl hu (by simp) rfl rfl (lt_of_get hym)) rfl ?_
   refine aQ (q_fieldAddr s33 rfl rfl rfl) rfl ?_
   refine At.loudN (l_storeOwn t31 rfl rfl hu (i := 2) rfl (map_get hym) rfl rfl rfl) ?_
   rintro _ _ _ ⟨Mow3, ow3, rfl, rfl⟩
   refine aN (aT (aE (aR ?_)))
   have hO2 : Own 33 6 ((u.ns.l.set m { ym with ps := ⟨a5, c5, x.ps.l ++ xm.ps.l⟩ }).map rowN) u.ns.a u.ns.c Mow3 := by rw [row_set]; exact ow3
   have hym2 : (u.ns.l.set m { ym with ps := ⟨a5, c5, x.ps.l ++ xm.ps.l⟩ })[m]? = some { ym with ps := ⟨a5, c5, x.ps.l ++ xm.ps.l⟩ } := List.getElem?_set_self (lt_of_get hym)
   have hyl := lt_of_get hym
   refine aF s24 t22 rfl rfl rfl (Rd.loc (i := 1) rfl rfl) rfl rfl ?_
   refine aS 1 rfl rfl ?_
   refine aQ (q_indexOwn Try.underlying22 t33 rfl hO2 (by simp) rfl rfl hyl) rfl ?_
   refine aQ (q_fieldAddr s33 rfl rfl rfl) rfl ?_
   refine At.loudN (l_storeOwn t3 rfl rfl hO2 (i := 2) rfl (map_get hym2) rfl rfl rfl) ?_
   rintro _ _ _ ⟨Mow4, ow4, rfl, rfl⟩
   refine aN (aT (aE (aR ?_)))
   have hO3 : Own 33 6 ((u.ns.l.set m (⟨ym.route, ym.key, ym.left, ym.right, ⟨a5, c5, x.ps.l ++ xm.ps.l⟩, 0⟩ : Nd)).map rowN) u.ns.a u.ns.c Mow4 := by rw [set_twice (y1 := { ym with ps := ⟨a5, c5, x.ps.l ++ xm.ps.l⟩ })]; exact ow4
   refine At.freezeOwn 0 (show Own 50 2 ((x.ps.l ++ xm.ps.l).map rowP) a5 c5 M5 by simpa using ow5) rfl ?_
   refine At.know (psP (u.ns.l.set m (⟨ym.route, ym.key, ym.left, ym.right, ⟨a5, c5, x.ps.l ++ xm.ps.l⟩, 0⟩ : Nd))) (fun _ h => psP_ofX (n := (⟨ym.route, ym.key, ym.left, ym.right, ⟨a5, c5, x.ps.l ++ xm.ps.l⟩, 0⟩ : Nd)) h.2.2.2.2.1 h.1) ?_
   have hcn : (⟨ym.route, ym.key, ym.left, ym.right, ⟨a5, c5, x.ps.l ++ xm.ps.l⟩, 0⟩ : Nd).p = joinN t.p.ns i m side := by
    rw [joinN_eq hn hnm, hsd]
    simp only [Nd.p]
    rw [hmr1, hmk1, hml1, hmr2]
    simp [← hxn, ← hymn, ← hxmn, Nd.p]
    all_goals exact hymx.symm
   have hp3 := p_set1 (a := u.ns.a) (c := u.ns.c) (i := m) (m := (⟨ym.route, ym.key, ym.left, ym.right, ⟨a5, c5, x.ps.l ++ xm.ps.l⟩, 0⟩ : Nd)) hpu
   have hHS : HangsS (⟨u.root, ⟨u.ns.a, u.ns.c, u.ns.l.set m (⟨ym.route, ym.key, ym.left, ym.right, ⟨a5, c5, x.ps.l ++ xm.ps.l⟩, 0⟩ : Nd)⟩⟩ : Tr).p.ns (q : Int) y.right (s.cut i) u.root := by
    rw [hp3]
    exact join_in hs hnb hq hqr hnm hnmr (by rw [hcn]; rfl) (by rw [hsd, ← hyp]; rfl) (congrArg PT.root hpu)
   have hsm2 : small2 (u.ns.l.set m (⟨ym.route, ym.key, ym.left, ym.right, ⟨a5, c5, x.ps.l ++ xm.ps.l⟩, 0⟩ : Nd)) := small2_set (small_of_p hpu hsm) (by simp; omega)
   refine At.freezeOwn 1 hO3 rfl ?_
   refine aQ (q_loadS t24 rfl (RdS.loc (i := 0) rfl (m := 2) rfl) rfl) rfl ?_
   refine At.say 83 (Tr.val (⟨u.root, ⟨u.ns.a, u.ns.c, u.ns.l.set m (⟨ym.route, ym.key, ym.left, ym.right, ⟨a5, c5, x.ps.l ++ xm.ps.l⟩, 0⟩ : Nd)⟩⟩ : Tr)) rfl (by rw [set_val]; rfl) ?_
   refine aF s24 t3 rfl rfl rfl (Rd.loc (i := 0) rfl rfl) rfl rfl ?_
   refine At.nilSeg ?_
   refine aS 2 rfl rfl ?_
   refine At.call en88 rfl (copyIn88 (⟨u.root, ⟨u.ns.a, u.ns.c, u.ns.l.set m (⟨ym.route, ym.key, ym.left, ym.right, ⟨a5, c5, x.ps.l ++ xm.ps.l⟩, 0⟩ : Nd)⟩⟩ : Tr) hsm2 (q : Int) y.right (s.cut i) u.root hHS [] none 0 [] (Own.nil _ _) (by simpa using cut_few i hs)) (fun _ h => ⟨h.1, h.2.1, trivial⟩) (List.Perm.refl _) rfl ?_
   rintro _ _ _ ⟨o1, a1, c1, M1, rfl, rfl, rfl, hO1, he1⟩
   refine aS 1 rfl rfl ?_
   refine aQ (q_extract rfl rfl) rfl ?_
   refine aQ (q_extract rfl rfl) rfl ?_
   refine aS 2 rfl rfl ?_
   refine aN (aT (aE (aR ?_)))
   have hje := join_eq hs hlf hnb
   have hpw : (⟨0, ⟨a1, c1, [] ++ o1⟩⟩ : Tr).p = ⟨0, (s.cut i).lay (t.p.ns.set m (joinN t.p.ns i m side)) 0⟩ := by
    rw [hp3, hcn] at he1
    exact congrArg (PT.mk 0) he1
   refine At.freezeOwn 0 hO1 rfl ?_
   refine aS 2 rfl rfl ?_
   refine aQ (q_build t24 s24 rfl rfl) rfl ?_
   refine At.loudN (l_store t24 rfl rfl (i := 2) rfl rfl rfl rfl) ?_
   rintro _ _ _ ⟨rfl, rfl⟩
   refine aS 1 rfl rfl ?_
   refine aN (aT (At.ret ?_))
   exact At.results (Γr := [_, _]) (M := []) rfl (RVals.cons (RVal.cellS rfl t24 (RdS.loc (i := 2) rfl (m := 2) rfl) rfl) (RVals.cons (RVal.tmp rfl) RVals.nil)) (ix 10 rfl) (fun _ h => ⟨h.1, h.2.1, trivial⟩) (d_ (d_ (d_ r_))) ⟨⟨0, ⟨a1, c1, [] ++ o1⟩⟩, by rw [hje]; rfl, rfl, rfl, by rw [hje]; exact hpw⟩
set_option maxHeartbeats 1000000 in
theorem bend52 (t : Tr) (hsm : smallP t.ns.l) (p : Pol) (at_ : Int) : Con Try.prog 52 [t.val, p.val, .int .i64 at_] [ndsP t.ns, psP t.ns.l] [] (BendEnd (bendT t.p p at_)) := by
 refine Con.body 60 Try.func52 rfl Try.ntmps52 rfl fun X H₀ L₀ => ?_
 refine aE (aR ?_)
 refine At.loud (l_box rfl) rfl ?_
 rintro _ _ _ ⟨b1, rfl, rfl, rfl⟩
 refine At.freeze 0 (φ := blk b1 _) rfl (fun _ h => blk_def.2 ⟨_, _, h⟩) ?_
 refine At.loud (l_box rfl) rfl ?_
 rintro _ _ _ ⟨b2, rfl, rfl, rfl⟩
 refine At.freeze 0 (φ := blk b2 _) rfl (fun _ h => blk_def.2 ⟨_, _, h⟩) ?_
 refine At.loud (l_alloc t24) rfl ?_
 rintro _ _ _ ⟨b3, rfl, rfl, rfl⟩
 refine aS 1 rfl rfl ?_
 refine aN (aT (aE (aE (aR ?_))))
 refine aQ (q_loadS t24 rfl (RdS.blk (ix 1 rfl) (m := 2) rfl) rfl) rfl ?_
 refine aS 1 rfl rfl ?_
 refine At.call en78 rfl (leaf78 _ (by assumption) _) (fun _ h => ⟨h.2.2.2.1, h.2.2.2.2.1, trivial⟩) (List.Perm.refl _) rfl ?_
 rintro _ _ _ ⟨rfl, rfl, rfl⟩
 refine aS 1 rfl rfl ?_
 refine aN (aT ?_)
 refine At.cond rfl (fun hlf => ?_) (fun hlf => ?_)
 ·
  refine At.know (ndsP ⟨none, 0, []⟩) (fun _ h => sl_nil _ _ _ (Nat.zero_le _)) ?_
  refine At.know (psP []) (fun _ h => psP_nil) ?_
  refine aE (aR ?_)
  refine aQ (q_build t24 s24 rfl rfl) rfl ?_
  refine At.loudN (l_store t24 rfl rfl (i := 0) rfl rfl rfl rfl) ?_
  rintro _ _ _ ⟨rfl, rfl⟩
  refine aS 1 rfl rfl ?_
  refine aN (aT (At.ret (At.thenRet ?_)))
  exact At.results (Γr := [_, _]) (M := []) rfl (RVals.cons (RVal.cellS rfl t24 (RdS.loc (i := 0) rfl (m := 2) rfl) rfl) (RVals.cons (RVal.tmp rfl) RVals.nil)) (ix 4 rfl) (fun _ h => ⟨h.2.1, h.1, trivial⟩) (d_ r_) ⟨⟨0, ⟨none, 0, []⟩⟩, by rw [bend_no (not_t hlf)]; rfl, rfl, rfl, by rw [bend_no (not_t hlf)]; rfl⟩
 ·
  obtain ⟨s, i, n, hs, rfl, hn, hnr⟩ := leaf_yes (not_f hlf)
  have hil := lt_of_get hn
  obtain ⟨x, hx, hxn⟩ := p_get (u := t) rfl hn
  have hbe := bend_eq (p := p) (not_f hlf) hn
  have hxs : x.stat = n.stat := by rw [← hxn]; rfl
  refine At.know (prsP x.ps) (fun _ h => psP_get h.2.2.2.2.1 hx) ?_
  refine At.skip (aT (aE ?_))
  refine At.draw 7 (.q 0 (.q 1 (.q 2 (.q 3 (.q 4 (.q 5 (.q 6 (.e)))))))) _ (List.Sublist.refl _) mixed (by kernel_rfl) rfl ?_
  refine oQ rfl (q_loadS t64 rfl (RdS.blk (ix 1 rfl) (m := 5) rfl) rfl) rfl (cT cP) ?_
  refine oQ rfl (q_fieldAddr s24 rfl rfl rfl) rfl (cT cP) ?_
  refine oQ rfl (q_load t22 rfl (Rd.blk (ix 2 rfl) rfl)) rfl (cT cP) ?_
  refine oQ rfl (q_move rfl) rfl (cT cP) ?_
  refine oQ rfl (q_index Try.underlying22 t33 rfl (ix 4 rfl) (by simp) rfl rfl (lt_of_get hx)) rfl (cT cP) ?_
  refine oQ rfl (q_fieldAddr s33 rfl rfl rfl) rfl (cT cP) ?_
  refine oQ rfl (q_load t3 rfl (Rd.sl (ix 4 rfl) (map_get hx) rfl)) rfl (cT cP) ?_
  refine AtO.done ?_
  refine At.call en54 rfl (decide54 p x.stat) (fun _ _ => trivial) (List.Perm.refl _) rfl ?_
  rintro _ _ _ ⟨rfl, rfl, rfl⟩
  refine aS 1 rfl rfl ?_
  refine aN (aT (aE (aE (aR ?_))))
  rw [← hxs] at hbe
  refine aQ (q_loadS t24 rfl (RdS.blk (ix 2 rfl) (m := 2) rfl) rfl) rfl ?_
  refine aS 1 rfl rfl ?_
  refine At.call en49 rfl (split49 _ (by assumption) _) (fun _ h => ⟨h.2.2.2.2.1, h.2.2.2.2.2.1, trivial⟩) (List.Perm.refl _) rfl ?_
  rintro _ _ _ ⟨u, rfl, rfl, rfl, hpu⟩
  refine aS 1 rfl rfl ?_
  refine aQ (q_extract rfl rfl) rfl ?_
  refine aQ (q_extract rfl rfl) rfl ?_
  refine At.loud (l_alloc t24) rfl ?_
  rintro _ _ _ ⟨b4, rfl, rfl, rfl⟩
  refine At.loudN (l_store t24 rfl rfl (i := 0) rfl rfl rfl rfl) ?_
  rintro _ _ _ ⟨rfl, rfl⟩
  refine aS 1 rfl rfl ?_
  refine aN (aT (aE (aR ?_)))
  refine aS 2 rfl rfl ?_
  refine At.split (d := 35) rfl (fun hok => ?_) (fun hok => ?_)
  ·
   refine aS 3 rfl rfl ?_
   refine aN (aT ?_)
   refine At.if rfl (fun h1 => ?_) (fun h1 => ?_)
   ·
    refine aE (aR ?_)
    refine aQ (q_loadS t24 rfl (RdS.loc (i := 0) rfl (m := 2) rfl) rfl) rfl ?_
    refine aS 1 rfl rfl ?_
    refine At.loudN (l_store t24 rfl rfl (i := 1) rfl rfl rfl rfl) ?_
    rintro _ _ _ ⟨rfl, rfl⟩
    refine aS 1 rfl rfl ?_
    refine aN (aT (At.ret (At.thenRet ?_)))
    exact At.results (Γr := [_, _]) (M := []) rfl (RVals.cons (RVal.cellS rfl t24 (RdS.loc (i := 1) rfl (m := 2) rfl) rfl) (RVals.cons (RVal.tmp rfl) RVals.nil)) (ix 5 rfl) (fun _ h => ⟨h.1, h.2.1, trivial⟩) (d_ (d_ r_)) ⟨u, by rw [hbe, if_pos ⟨h1, hok⟩]; first | rfl | (rw [h1]; rfl) | (rw [h2]; rfl), rfl, rfl, by rw [hbe, if_pos ⟨h1, hok⟩]; exact hpu⟩
   ·
    refine At.skip (aT (aE (aE (aR ?_))))
    refine aQ (q_loadS t24 rfl (RdS.blk (ix 4 rfl) (m := 2) rfl) rfl) rfl ?_
    refine aS 1 rfl rfl ?_
    refine At.call en50 rfl (join50 _ (by assumption) _) (fun _ h => ⟨h.2.2.2.2.2.2.1, h.2.2.2.2.2.2.2.1, trivial⟩) (List.Perm.refl _) rfl ?_
    rintro _ _ _ ⟨v, rfl, rfl, rfl, hpv⟩
    refine aS 1 rfl rfl ?_
    refine aQ (q_extract rfl rfl) rfl ?_
    refine aQ (q_extract rfl rfl) rfl ?_
    refine At.loud (l_alloc t24) rfl ?_
    rintro _ _ _ ⟨b5, rfl, rfl, rfl⟩
    refine At.loudN (l_store t24 rfl rfl (i := 0) rfl rfl rfl rfl) ?_
    rintro _ _ _ ⟨rfl, rfl⟩
    refine aS 1 rfl rfl ?_
    refine aN (aT (aE (aR ?_)))
    refine aS 2 rfl rfl ?_
    refine At.split (d := 48) rfl (fun hok2 => ?_) (fun hok2 => ?_)
    ·
     refine aS 3 rfl rfl ?_
     refine aN (aT ?_)
     refine At.if rfl (fun h2 => ?_) (fun h2 => ?_)
     ·
      refine aE (aR ?_)
      refine aQ (q_loadS t24 rfl (RdS.loc (i := 0) rfl (m := 2) rfl) rfl) rfl ?_
      refine aS 1 rfl rfl ?_
      refine At.loudN (l_store t24 rfl rfl (i := 2) rfl rfl rfl rfl) ?_
      rintro _ _ _ ⟨rfl, rfl⟩
      refine aS 1 rfl rfl ?_
      refine aN (aT (At.ret (At.thenRet ?_)))
      exact At.results (Γr := [_, _]) (M := []) rfl (RVals.cons (RVal.cellS rfl t24 (RdS.loc (i := 2) rfl (m := 2) rfl) rfl) (RVals.cons (RVal.tmp rfl) RVals.nil)) (ix 7 rfl) (fun _ h => ⟨h.1, h.2.1, trivial⟩) (d_ (d_ (d_ r_))) ⟨v, by rw [hbe, if_neg (fun h => h1 h.1), if_pos ⟨h2, hok2⟩]; first | rfl | (rw [h1]; rfl) | (rw [h2]; rfl), rfl, rfl, by rw [hbe, if_neg (fun h => h1 h.1), if_pos ⟨h2, hok2⟩]; exact hpv⟩
     ·
      refine At.skip (aT (aE (aR ?_)))
      refine aQ (q_loadS t24 rfl (RdS.blk (ix 6 rfl) (m := 2) rfl) rfl) rfl ?_
      refine At.call en38 rfl (plain38 _ (by assumption)) (fun _ h => ⟨h.2.2.2.2.2.2.2.2.1, h.2.2.2.2.2.2.2.2.2.1, trivial⟩) (List.Perm.refl _) rfl ?_
      rintro _ _ _ ⟨w, Mw, rfl, rfl, rfl, hw, hpw⟩
      refine aS 1 rfl rfl ?_
      refine aQ (q_extract rfl rfl) rfl ?_
      refine aQ (q_extract rfl rfl) rfl ?_
      refine At.loud (l_alloc t24) rfl ?_
      rintro _ _ _ ⟨b6, rfl, rfl, rfl⟩
      refine At.loudN (l_store t24 rfl rfl (i := 0) rfl rfl rfl rfl) ?_
      rintro _ _ _ ⟨rfl, rfl⟩
      refine aS 1 rfl rfl ?_
      refine aN (aT (aE (aR ?_)))
      refine At.freezeOwn 1 hw rfl ?_
      refine aQ (q_loadS t24 rfl (RdS.loc (i := 0) rfl (m := 2) rfl) rfl) rfl ?_
      refine At.loudN (l_store t24 rfl rfl (i := 3) rfl rfl rfl rfl) ?_
      rintro _ _ _ ⟨rfl, rfl⟩
      refine aS 1 rfl rfl ?_
      refine aN (aT (At.ret ?_))
      exact At.results (Γr := [_, _]) (M := []) rfl (RVals.cons (RVal.cellS rfl t24 (RdS.loc (i := 3) rfl (m := 2) rfl) rfl) (RVals.cons (RVal.tmp rfl) RVals.nil)) (ix 9 rfl) (fun _ h => ⟨h.1, h.2.1, trivial⟩) (d_ (d_ (d_ (d_ r_)))) ⟨w, by rw [hbe, if_neg (fun h => h1 h.1), if_neg (fun h => h2 h.1)]; rfl, rfl, rfl, by rw [hbe, if_neg (fun h => h1 h.1), if_neg (fun h => h2 h.1)]; exact hpw⟩
    ·
     refine aS 3 rfl rfl ?_
     refine aN (aT ?_)
     refine At.condF rfl ?_
     refine At.skip (aT (aE (aR ?_)))
     refine aQ (q_loadS t24 rfl (RdS.blk (ix 6 rfl) (m := 2) rfl) rfl) rfl ?_
     refine At.call en38 rfl (plain38 _ (by assumption)) (fun _ h => ⟨h.2.2.2.2.2.2.2.2.1, h.2.2.2.2.2.2.2.2.2.1, trivial⟩) (List.Perm.refl _) rfl ?_
     rintro _ _ _ ⟨w, Mw, rfl, rfl, rfl, hw, hpw⟩
     refine aS 1 rfl rfl ?_
     refine aQ (q_extract rfl rfl) rfl ?_
     refine aQ (q_extract rfl rfl) rfl ?_
     refine At.loud (l_alloc t24) rfl ?_
     rintro _ _ _ ⟨b7, rfl, rfl, rfl⟩
     refine At.loudN (l_store t24 rfl rfl (i := 0) rfl rfl rfl rfl) ?_
     rintro _ _ _ ⟨rfl, rfl⟩
     refine aS 1 rfl rfl ?_
     refine aN (aT (aE (aR ?_)))
     refine At.freezeOwn 1 hw rfl ?_
     refine aQ (q_loadS t24 rfl (RdS.loc (i := 0) rfl (m := 2) rfl) rfl) rfl ?_
     refine At.loudN (l_store t24 rfl rfl (i := 3) rfl rfl rfl rfl) ?_
     rintro _ _ _ ⟨rfl, rfl⟩
     refine aS 1 rfl rfl ?_
     refine aN (aT (At.ret ?_))
     exact At.results (Γr := [_, _]) (M := []) rfl (RVals.cons (RVal.cellS rfl t24 (RdS.loc (i := 3) rfl (m := 2) rfl) rfl) (RVals.cons (RVal.tmp rfl) RVals.nil)) (ix 9 rfl) (fun _ h => ⟨h.1, h.2.1, trivial⟩) (d_ (d_ (d_ (d_ r_)))) ⟨w, by rw [hbe, if_neg (fun h => h1 h.1), if_neg (fun h => by rw [hok2] at h; exact absurd h.2 (by simp))]; rfl, rfl, rfl, by rw [hbe, if_neg (fun h => h1 h.1), if_neg (fun h => by rw [hok2] at h; exact absurd h.2 (by simp))]; exact hpw⟩
  ·
   refine aS 3 rfl rfl ?_
   refine aN (aT ?_)
   refine At.condF rfl ?_
   refine At.skip (aT (aE (aE (aR ?_))))
   refine aQ (q_loadS t24 rfl (RdS.blk (ix 4 rfl) (m := 2) rfl) rfl) rfl ?_
   refine aS 1 rfl rfl ?_
   refine At.call en50 rfl (join50 _ (by assumption) _) (fun _ h => ⟨h.2.2.2.2.2.2.1, h.2.2.2.2.2.2.2.1, trivial⟩) (List.Perm.refl _) rfl ?_
   rintro _ _ _ ⟨v, rfl, rfl, rfl, hpv⟩
   refine aS 1 rfl rfl ?_
   refine aQ (q_extract rfl rfl) rfl ?_
   refine aQ (q_extract rfl rfl) rfl ?_
   refine At.loud (l_alloc t24) rfl ?_
   rintro _ _ _ ⟨b8, rfl, rfl, rfl⟩
   refine At.loudN (l_store t24 rfl rfl (i := 0) rfl rfl rfl rfl) ?_
   rintro _ _ _ ⟨rfl, rfl⟩
   refine aS 1 rfl rfl ?_
   refine aN (aT (aE (aR ?_)))
   refine aS 2 rfl rfl ?_
   refine At.split (d := 48) rfl (fun hok2 => ?_) (fun hok2 => ?_)
   ·
    refine aS 3 rfl rfl ?_
    refine aN (aT ?_)
    refine At.if rfl (fun h2 => ?_) (fun h2 => ?_)
    ·
     refine aE (aR ?_)
     refine aQ (q_loadS t24 rfl (RdS.loc (i := 0) rfl (m := 2) rfl) rfl) rfl ?_
     refine aS 1 rfl rfl ?_
     refine At.loudN (l_store t24 rfl rfl (i := 2) rfl rfl rfl rfl) ?_
     rintro _ _ _ ⟨rfl, rfl⟩
     refine aS 1 rfl rfl ?_
     refine aN (aT (At.ret (At.thenRet ?_)))
     exact At.results (Γr := [_, _]) (M := []) rfl (RVals.cons (RVal.cellS rfl t24 (RdS.loc (i := 2) rfl (m := 2) rfl) rfl) (RVals.cons (RVal.tmp rfl) RVals.nil)) (ix 7 rfl) (fun _ h => ⟨h.1, h.2.1, trivial⟩) (d_ (d_ (d_ r_))) ⟨v, by rw [hbe, if_neg (fun h => by rw [hok] at h; exact absurd h.2 (by simp)), if_pos ⟨h2, hok2⟩]; first | rfl | (rw [h1]; rfl) | (rw [h2]; rfl), rfl, rfl, by rw [hbe, if_neg (fun h => by rw [hok] at h; exact absurd h.2 (by simp)), if_pos ⟨h2, hok2⟩]; exact hpv⟩
    ·
     refine At.skip (aT (aE (aR ?_)))
     refine aQ (q_loadS t24 rfl (RdS.blk (ix 6 rfl) (m := 2) rfl) rfl) rfl ?_
     refine At.call en38 rfl (plain38 _ (by assumption)) (fun _ h => ⟨h.2.2.2.2.2.2.2.2.1, h.2.2.2.2.2.2.2.2.2.1, trivial⟩) (List.Perm.refl _) rfl ?_
     rintro _ _ _ ⟨w, Mw, rfl, rfl, rfl, hw, hpw⟩
     refine aS 1 rfl rfl ?_
     refine aQ (q_extract rfl rfl) rfl ?_
     refine aQ (q_extract rfl rfl) rfl ?_
     refine At.loud (l_alloc t24) rfl ?_
     rintro _ _ _ ⟨b9, rfl, rfl, rfl⟩
     refine At.loudN (l_store t24 rfl rfl (i := 0) rfl rfl rfl rfl) ?_
     rintro _ _ _ ⟨rfl, rfl⟩
     refine aS 1 rfl rfl ?_
     refine aN (aT (aE (aR ?_)))
     refine At.freezeOwn 1 hw rfl ?_
     refine aQ (q_loadS t24 rfl (RdS.loc (i := 0) rfl (m := 2) rfl) rfl) rfl ?_
     refine At.loudN (l_store t24 rfl rfl (i := 3) rfl rfl rfl rfl) ?_
     rintro _ _ _ ⟨rfl, rfl⟩
     refine aS 1 rfl rfl ?_
     refine aN (aT (At.ret ?_))
     exact At.results (Γr := [_, _]) (M := []) rfl (RVals.cons (RVal.cellS rfl t24 (RdS.loc (i := 3) rfl (m := 2) rfl) rfl) (RVals.cons (RVal.tmp rfl) RVals.nil)) (ix 9 rfl) (fun _ h => ⟨h.1, h.2.1, trivial⟩) (d_ (d_ (d_ (d_ r_)))) ⟨w, by rw [hbe, if_neg (fun h => by rw [hok] at h; exact absurd h.2 (by simp)), if_neg (fun h => h2 h.1)]; rfl, rfl, rfl, by rw [hbe, if_neg (fun h => by rw [hok] at h; exact absurd h.2 (by simp)), if_neg (fun h => h2 h.1)]; exact hpw⟩
   ·
    refine aS 3 rfl rfl ?_
    refine aN (aT ?_)
    refine At.condF rfl ?_
    refine At.skip (aT (aE (aR ?_)))
    refine aQ (q_loadS t24 rfl (RdS.blk (ix 6 rfl) (m := 2) rfl) rfl) rfl ?_
    refine At.call en38 rfl (plain38 _ (by assumption)) (fun _ h => ⟨h.2.2.2.2.2.2.2.2.1, h.2.2.2.2.2.2.2.2.2.1, trivial⟩) (List.Perm.refl _) rfl ?_
    rintro _ _ _ ⟨w, Mw, rfl, rfl, rfl, hw, hpw⟩
    refine aS 1 rfl rfl ?_
    refine aQ (q_extract rfl rfl) rfl ?_
    refine aQ (q_extract rfl rfl) rfl ?_
    refine At.loud (l_alloc t24) rfl ?_
    rintro _ _ _ ⟨b10, rfl, rfl, rfl⟩
    refine At.loudN (l_store t24 rfl rfl (i := 0) rfl rfl rfl rfl) ?_
    rintro _ _ _ ⟨rfl, rfl⟩
    refine aS 1 rfl rfl ?_
    refine aN (aT (aE (aR ?_)))
    refine At.freezeOwn 1 hw rfl ?_
    refine aQ (q_loadS t24 rfl (RdS.loc (i := 0) rfl (m := 2) rfl) rfl) rfl ?_
    refine At.loudN (l_store t24 rfl rfl (i := 3) rfl rfl rfl rfl) ?_
    rintro _ _ _ ⟨rfl, rfl⟩
    refine aS 1 rfl rfl ?_
    refine aN (aT (At.ret ?_))
    exact At.results (Γr := [_, _]) (M := []) rfl (RVals.cons (RVal.cellS rfl t24 (RdS.loc (i := 3) rfl (m := 2) rfl) rfl) (RVals.cons (RVal.tmp rfl) RVals.nil)) (ix 9 rfl) (fun _ h => ⟨h.1, h.2.1, trivial⟩) (d_ (d_ (d_ (d_ r_)))) ⟨w, by rw [hbe, if_neg (fun h => by rw [hok] at h; exact absurd h.2 (by simp)), if_neg (fun h => by rw [hok2] at h; exact absurd h.2 (by simp))]; rfl, rfl, rfl, by rw [hbe, if_neg (fun h => by rw [hok] at h; exact absurd h.2 (by simp)), if_neg (fun h => by rw [hok2] at h; exact absurd h.2 (by simp))]; exact hpw⟩
end Go.Proofs.Ytmkodknmknfdkaa
set_option linter.unusedVariables false
set_option linter.unusedSimpArgs false
namespace Go.Proofs.Ytmkodknmknfdkaa
namespace E
open Go
section
variable {P : Program} {n : Nat} {env : Env} {Γ : List SProp} {L : Loc} {ty t e : TypeId} {x y : Operand} {a : Option Addr} {c k i p : Nat} {rows : List (List Value)} {M : Seg}
theorem zeroCells_mem {z : Array Value} {m : Nat} {v : Value} (h : v ∈ (Builtin.zeroCells z m).toList) : v ∈ z.toList := by
  have h' : v ∈ Builtin.zeroCells z m := by simpa using h
  unfold Builtin.zeroCells at h'
  obtain ⟨j, hj, rfl⟩ := Array.mem_map.1 h'
  have hj' : j < m * z.size := by simpa using hj
  have hz : 0 < z.size := by
    rcases Nat.eq_zero_or_pos z.size with h0 | h0
    · rw [h0] at hj'; simp at hj'
    · exact h0
  have hl : j % z.size < z.size := Nat.mod_lt _ hz
  rw [getElem!_pos z (j % z.size) hl]
  simp
theorem take_flat {k : Nat} : ∀ {rows : List (List Value)} (p : Nat), (∀ r ∈ rows, r.length = k) → rows.flatten.take (p * k) = (rows.take p).flatten
  | [], p, _ => by simp
  | r :: rows, 0, _ => by simp
  | r :: rows, p + 1, h => by
    have h1 := h r (by simp)
    have h2 := take_flat (rows := rows) p fun r hr => h r (List.mem_cons_of_mem _ hr)
    simp only [List.flatten_cons, List.take_succ_cons]
    rw [← h2, Nat.add_mul, Nat.one_mul, List.take_append, h1, List.take_of_length_le (by omega)]
    congr 2
    omega
theorem Own.take {T : TypeId} (h : Own T k rows a c M) (p : Nat) : Own T k (rows.take p) a c M := by
  obtain ⟨hk, hM⟩ := h
  refine ⟨fun r hr => hk r (List.mem_of_mem_take hr), ?_⟩
  rcases hM with ⟨rfl, rfl, rfl, rfl⟩ | ⟨g, cur, rfl, rfl, h5, h6, h7, h8⟩
  · exact .inl ⟨rfl, rfl, by simp, rfl⟩
  · refine .inr ⟨g, cur, rfl, rfl, by rw [List.length_take]; omega, h6, h7, ?_⟩
    rw [List.length_take]
    have e : cur.toList.take (min p rows.length * k) = (cur.toList.take (rows.length * k)).take (min p rows.length * k) := by
      rw [List.take_take, Nat.min_eq_left (Nat.mul_le_mul_right _ (Nat.min_le_right ..))]
    rw [e, h8, take_flat _ hk]
    congr 1
    rcases Nat.le_total p rows.length with h | h
    · rw [Nat.min_eq_left h]
    · rw [Nat.min_eq_right h, List.take_of_length_le h, List.take_of_length_le (Nat.le_refl _)]
theorem l_clear {sc : Bool} {size bytes len : Nat} {zero : Value} {ats : Array TypeId} (hats : ats = #[t]) (ht : P.underlying t = some (.slice e)) (he : tRow P e = some (sc, size, bytes, zero))
    (hy : ev env y = some (.slice (subA a c size p) (len - p) (c - p))) (ho : Own e size rows a c M) (hlen : len = rows.length) (hp : p ≤ len) (hL : L[i]? = some M) (hzs : Nat.beq zero.cells.size size = true) (h1 : zero.cells.toList.all Value.oneCell' = true) :
    Loud P (.call ⟨.builtin .clear, #[y], ats⟩) ty n env Γ L (fun v Γ' L' => ∃ M', Own e size (rows.take p) a c M' ∧ Γ' = Γ ∧ L' = L.set i M') :=
  Loud.ofRun fun X d pos aft g ac w H k1 k2 k3 => by
    subst hats
    subst hlen
    have hz' := Nat.eq_of_beq_eq_true hzs
    obtain ⟨td, inf, e1, e2, e0, e3, e4, e5⟩ := tRow_parts he
    rcases Nat.eq_zero_or_pos (rows.length - p) with h0 | h0
    · refine ⟨.tuple #[], w, H, Γ, L, ?_, ⟨M, ho.take p, rfl, ?_⟩, Hp.le_refl H, k2, k3⟩
      · rw [h0] at hy
        have hy' := k1.ev hy
        cases hs : subA a c size p with
        | none => rw [hs] at hy'; simp [execOp, resolve, invoke, builtin, hy', Builtin.clear_, underlying, ht]
        | some s => rw [hs] at hy'; simp [execOp, resolve, invoke, builtin, hy', Builtin.clear_, underlying, ht]
      · obtain ⟨hi, rfl⟩ := List.getElem?_eq_some_iff.1 hL
        simp
    · obtain ⟨hk, hM⟩ := ho
      rcases hM with ⟨rfl, rfl, rfl, rfl⟩ | ⟨b, cur, rfl, rfl, h5, h6, h7, h8⟩
      · simp at h0
      · have hf := k3.front hL
        have hg : w.heap[b]? = some (.cells cur e (0, 0)) := hf.loc (b, _) (List.mem_cons_self ..)
        have hvl : (Builtin.zeroCells zero.cells (rows.length - p)).toList.length = (rows.length - p) * size := by simp [size_zeroCells, hz']
        have hle : rows.length * size ≤ cur.size := by rw [h7]; exact Nat.mul_le_mul_right _ h5
        have hsum : p * size + (rows.length - p) * size = rows.length * size := by rw [← Nat.add_mul]; congr 1; omega
        have hst := run_storeCells_at P b (p * size) e (Builtin.zeroCells zero.cells (rows.length - p)).toList 0 cur w hg (by rw [hvl]; omega) (fun v hv => List.all_eq_true.1 h1 v (zeroCells_mem hv))
        have hsub : subA (some ⟨b, 0, none⟩) c size p = some ⟨b, p * size, none⟩ := by
          unfold subA
          rw [if_neg (by omega)]
          simp only [Option.map_some]
          congr 1
          unfold Addr.add
          split <;> simp_all
        rw [hsub] at hy
        obtain ⟨q, hq⟩ : ∃ q, rows.length - p = q + 1 := ⟨rows.length - p - 1, by omega⟩
        refine ⟨.tuple #[], _, H, Γ, _, ?_, ⟨[(b, .cells (spl cur.toList (p * size) (Builtin.zeroCells zero.cells (rows.length - p)).toList).toArray e (0, 0))], ⟨fun r hr => hk r (List.mem_of_mem_take hr), .inr ⟨b, _, rfl, rfl, by rw [List.length_take]; omega, h6, ?_, ?_⟩⟩, rfl, rfl⟩, Hp.le_refl H, k2,
          St.back _ hL (hf.set (w' := w.setRow b (spl cur.toList (p * size) (Builtin.zeroCells zero.cells (rows.length - p)).toList).toArray) rfl rfl rfl (setRow_heap w b cur _ e (0, 0) hg) fun c hc => setRow_other w b c _ hc)⟩
        · have hy' := k1.ev hy
          simp only [Nat.add_zero] at hst
          rw [hq] at hst hy' ⊢
          simp [execOp, resolve, invoke, builtin, hy', Builtin.clear_, underlying, ht, tRow_zero he, hst, spl]
        · simp only [spl, List.size_toArray, List.length_append, List.length_take, List.length_drop, Array.length_toList]
          have hvs : (Builtin.zeroCells zero.cells (rows.length - p)).size = (rows.length - p) * size := by simp [size_zeroCells, hz']
          rw [hvs]
          omega
        · have hpl : (rows.take p).length = p := by rw [List.length_take]; omega
          rw [hpl]
          show ((spl cur.toList (p * size) _)).take (p * size) = _
          simp only [spl]
          rw [List.append_assoc, List.take_append_of_le_length (by simp; omega), List.take_take, Nat.min_self]
          have e9 : cur.toList.take (p * size) = (cur.toList.take (rows.length * size)).take (p * size) := by
            rw [List.take_take, Nat.min_eq_left (Nat.mul_le_mul_right _ (by omega))]
          rw [e9, h8, take_flat _ hk]
theorem q_eqPtr {t' : TypeId} {ad : Addr} (ht : P.underlying t = some (.pointer e)) (hx : ev env x = some (.pointer (some ad))) (hy : ev env y = some (.pointer none)) :
    Quiet P (.binOp .eql t x y t') ty n env Γ L (.bool false) :=
  fun _ _ _ _ _ ac w _ h1 _ _ => by
    have h8 : ∀ d : Nat, (Op.equalIn (d + 1) t (.pointer (some ad)) (.pointer none)).run P w = .ok false w := fun d => by
      simp [Op.equalIn, underlying, ht]
    have h9 := h8 9999
    simp [execOp, h1.ev hx, h1.ev hy, eqGuard, binOp, Op.equal, Op.maxDepth, h9]
theorem sl_spot {H : Hp} {r : List Value} (h : (sl a c k rows).holds H) (hr : rows[i]? = some r) : (adr a).spot = none := by
  obtain ⟨_, _, _, h3⟩ := sl_def.1 h
  rcases h3 with rfl | ⟨a', rfl, hsp, _⟩
  · simp at hr
  · exact hsp
theorem add_two {x : Addr} (h : x.spot = none) (p i j : Nat) : ((x.add p).add i).add j = (x.add p).add (i + j) := add_add (add_spot p h) _ _
theorem l_buildSlice0o {sc : Bool} {size bytes : Nat} {zero : Value} (ht : P.underlying t = some (.slice e)) (he : tRow P e = some (sc, size, bytes, zero)) :
    Loud P (.buildSlice t 0 #[]) ty n env Γ L (fun v Γ' L' => ∃ b M, v = .slice (some ⟨b, 0, none⟩) 0 0 ∧ Own e size [] (some ⟨b, 0, none⟩) 0 M ∧ Γ' = Γ ∧ L' = M :: L) :=
  Loud.ofRun fun X d pos aft g a w H h1 h2 h3 => by
    refine ⟨_, _, H, Γ, _, ?_, ⟨w.heap.size, _, rfl, ⟨by simp, .inr ⟨_, _, rfl, rfl, Nat.le_refl _, Nat.zero_le _, by simp, by simp⟩⟩, rfl, rfl⟩, Hp.le_refl H, h2, h3.push (.cells #[] e (0, 0))⟩
    simp [execOp, Instr.buildSlice, underlying, ht, tRow_size he, Instr.fill, newRow, newObj, Sem.run, Array.range_zero']
end
end E
end Go.Proofs.Ytmkodknmknfdkaa
set_option linter.unusedVariables false
set_option linter.unusedSimpArgs false
namespace Go.Proofs.Ytmkodknmknfdkaa
open E
structure OpS where
 kind : Int
 key : Int
 hi : Int
 v : Int
def OpS.val (o : OpS) : Value := .agg #[.int .i64 o.kind, .int .i64 o.key, .int .i64 o.hi, .int .i64 o.v]
def mayO (o : OpS) : Bool := decide (1 ≤ o.kind) && decide (o.kind ≤ 8)
def updO (o : OpS) : Bool := decide (o.kind = 1) || (decide (o.kind = 2) || decide (o.kind = 3))
structure An where
 err : Int
 ok : Bool
 p : Pr
 n : Int
 l : List Pr
 deriving DecidableEq
def An.val (a : An) (s : Sl Pr) : Value := .agg #[.int .i64 a.err, .bool a.ok, .int .i64 a.p.k, .int .i64 a.p.v, .int .i64 a.n, s.val]
def An.zero : An := ⟨0, false, ⟨0, 0⟩, 0, []⟩
def An.bad : An := ⟨1, false, ⟨0, 0⟩, 0, []⟩
def isK (k : Int) (p : Pr) : Bool := decide (p.k = k)
def inR (lo hi : Int) (p : Pr) : Bool := decide (lo ≤ p.k) && decide (p.k ≤ hi)
def betw (l : List Pr) (lo hi : Int) : List Pr := l.filter (inR lo hi)
def without (l : List Pr) (k : Int) : List Pr := l.filter fun p => !isK k p
def firstA : Option Pr → An
 | none => .zero
 | some p => ⟨0, true, p, 0, []⟩
def hit (l : List Pr) (k : Int) : An := firstA (l.find? (isK k))
def doT (l : List Pr) (o : OpS) : List Pr × An :=
  if rises l && mayO o then
    (if o.kind = 1 then (withT l ⟨o.key, o.v⟩, hit l o.key)
     else if o.kind = 2 then (if (hit l o.key).ok then l else withT l ⟨o.key, o.v⟩, hit l o.key)
     else if o.kind = 3 then (without l o.key, hit l o.key)
     else if o.kind = 5 then (l, ⟨0, false, ⟨0, 0⟩, ((betw l o.key o.hi).length : Int), betw l o.key o.hi⟩)
     else if o.kind = 6 then (l, ⟨0, false, ⟨0, 0⟩, ((betw l o.key o.hi).length : Int), []⟩)
     else if o.kind = 7 then (l, firstA l.head?)
     else if o.kind = 8 then (l, firstA l.getLast?)
     else (l, hit l o.key))
  else (l, .bad)
def DoEnd (l : List Pr) (o : OpS) (v : Value) (Γ : List SProp) (M : E.Loc) : Prop := ∃ s s2 : Sl Pr, v = .tuple #[s.val, (doT l o).2.val s2] ∧ Γ = [prsP s, prsP s2] ∧ M = [] ∧ s.l = (doT l o).1 ∧ s2.l = (doT l o).2.l
theorem do_no {l : List Pr} {o : OpS} (h : rises l = false ∨ mayO o = false) : doT l o = (l, .bad) := by
 unfold doT
 rw [if_neg (by rcases h with h | h <;> simp [h])]
theorem do_yes {l : List Pr} {o : OpS} (h1 : rises l = true) (h2 : mayO o = true) : doT l o = (if o.kind = 1 then (withT l ⟨o.key, o.v⟩, hit l o.key)
     else if o.kind = 2 then (if (hit l o.key).ok then l else withT l ⟨o.key, o.v⟩, hit l o.key)
     else if o.kind = 3 then (without l o.key, hit l o.key)
     else if o.kind = 5 then (l, ⟨0, false, ⟨0, 0⟩, ((betw l o.key o.hi).length : Int), betw l o.key o.hi⟩)
     else if o.kind = 6 then (l, ⟨0, false, ⟨0, 0⟩, ((betw l o.key o.hi).length : Int), []⟩)
     else if o.kind = 7 then (l, firstA l.head?)
     else if o.kind = 8 then (l, firstA l.getLast?)
     else (l, hit l o.key)) := by
  unfold doT
  rw [if_pos (by simp [h1, h2])]
theorem idx_get {α : Type} {p : α → Bool} {l : List α} (h : 0 ≤ idxI p l) : ∃ (j : Nat) (x : α), idxI p l = (j : Int) ∧ l[j]? = some x ∧ p x = true ∧ ∀ y ∈ l.take j, p y = false := by
 unfold idxI at h ⊢
 split at h
 ·rename_i ha
  rw [if_pos ha]
  obtain ⟨x, hx, hp⟩ := List.any_eq_true.1 ha
  have hl : l.findIdx p < l.length := List.findIdx_lt_length_of_exists ⟨x, hx, hp⟩
  refine ⟨l.findIdx p, l[l.findIdx p], rfl, by simp [hl], List.findIdx_getElem, fun y hy => ?_⟩
  obtain ⟨i, hi, e⟩ := List.mem_take_iff_getElem.1 hy
  subst e
  have := List.not_of_lt_findIdx (p := p) (xs := l) (i := i) (by omega)
  simpa using this
 ·omega
theorem idx_neg {α : Type} {p : α → Bool} {l : List α} (h : ¬ 0 ≤ idxI p l) : idxI p l = -1 ∧ ∀ y ∈ l, p y = false := by
 unfold idxI at h ⊢
 split at h
 ·omega
 ·rename_i ha
  rw [if_neg ha]
  exact ⟨rfl, by simpa using ha⟩
theorem idx_ge {α : Type} (p : α → Bool) (l : List α) : -1 ≤ idxI p l := by unfold idxI; split <;> omega
theorem find_at {α : Type} {p : α → Bool} {l : List α} {j : Nat} {x : α} (hx : l[j]? = some x) (hp : p x = true) (hno : ∀ y ∈ l.take j, p y = false) : l.find? p = some x := by
 induction l generalizing j with
 | nil => simp at hx
 | cons a l ih =>
  cases j with
  | zero => simp at hx; subst hx; simp [hp]
  | succ j =>
   have h1 : p a = false := hno a (by simp)
   rw [List.find?_cons, h1]
   exact ih (j := j) (by simpa using hx) fun y hy => hno y (by simp [hy])
theorem find_no {α : Type} {p : α → Bool} {l : List α} (hno : ∀ y ∈ l, p y = false) : l.find? p = none := List.find?_eq_none.2 fun y hy => by rw [hno y hy]; simp
theorem filt_step {α : Type} {p : α → Bool} {l o : List α} {k : Nat} {x : α} (hx : l[k]? = some x) (h : o = (l.take k).filter p) : (if p x then o ++ [x] else o) = (l.take (k + 1)).filter p := by
 rw [List.take_succ_eq_append_getElem (lt_of_get hx), List.filter_append, ← h, (List.getElem?_eq_some_iff.1 hx).2]
 cases hp : p x <;> simp [hp]
theorem filt_all {α : Type} {p : α → Bool} {l o : List α} {k : Nat} (hk : l.length ≤ k) (h : o = (l.take k).filter p) : o = l.filter p := by rw [h, List.take_of_length_le hk]
theorem with_skip {p : Pr} {a : Pr} {l : List Pr} (h : a.k < p.k) : withT (a :: l) p = a :: withT l p := by
 unfold withT
 simp only [withGo]
 rw [decide_eq_false (by omega), if_neg (show ¬ a.k = p.k by omega)]
 simp
theorem with_at {p : Pr} {l : List Pr} {k : Nat} (h : ∀ y ∈ l.take k, y.k < p.k) : withT l p = l.take k ++ withT (l.drop k) p := by
 induction l generalizing k with
 | nil => simp
 | cons a l ih =>
  cases k with
  | zero => simp
  | succ k =>
   rw [with_skip (h a (by simp)), ih (k := k) fun y hy => h y (by simp [hy])]
   simp
theorem with_rest {p : Pr} {l : List Pr} (hr : rises l = true) (h : ∀ y, l[0]? = some y → p.k ≤ y.k) : withT l p = p :: (match l[0]? with | none => l | some y => if y.k = p.k then l.drop 1 else l) := by
 cases l with
 | nil => rfl
 | cons a l =>
  have ha := h a rfl
  have hkeep : ∀ x ∈ l, x.k ≠ p.k := fun x hx => by
   have := (List.pairwise_cons.1 (rises_pw.1 hr)).1 x hx
   omega
  have hf : (l.filter fun x => decide (x.k ≠ p.k)) = l := List.filter_eq_self.2 fun x hx => decide_eq_true (hkeep x hx)
  show withGo p (a :: l) false = _
  simp only [withGo, Bool.not_false, Bool.true_and, decide_eq_true ha, if_true, Bool.false_or, withGo_done, hf]
  by_cases e : a.k = p.k <;> simp [e]
theorem rises_drop {l : List Pr} (h : rises l = true) (k : Nat) : rises (l.drop k) = true :=
 rises_iff.2 fun j a b ha hb => rises_iff.1 h (k + j) a b (by rw [List.getElem?_drop] at ha; exact ha) (by rw [List.getElem?_drop] at hb; exact hb)
theorem with_cat {p : Pr} {l r : List Pr} {k : Nat} (hr : rises l = true) (h : ∀ y ∈ l.take k, y.k < p.k) (hk : ∀ y, l[k]? = some y → p.k ≤ y.k) (he : r = (match l[k]? with | none => l.drop k | some y => if y.k = p.k then (l.drop k).drop 1 else l.drop k)) :
  l.take k ++ p :: r = withT l p := by
 have e0 : (l.drop k)[0]? = l[k]? := by rw [List.getElem?_drop]; rfl
 rw [with_at h, with_rest (rises_drop hr k) (fun y hy => hk y (by rw [← e0]; exact hy)), e0, he]
theorem cut_cat {l : List Pr} {j : Nat} {x : Pr} {key : Int} (hr : rises l = true) (hx : l[j]? = some x) (hp : isK key x = true) (hno : ∀ y ∈ l.take j, isK key y = false) : l.take j ++ l.drop (j + 1) = without l key := by
 have hj := lt_of_get hx
 have e : l = l.take j ++ x :: l.drop (j + 1) := by
  rw [← (List.getElem?_eq_some_iff.1 hx).2, List.getElem_cons_drop, List.take_append_drop]
 have hxk : x.k = key := of_decide_eq_true hp
 have hpw := rises_pw.1 hr
 rw [e, List.pairwise_append] at hpw
 have h2 := (List.pairwise_cons.1 hpw.2.1).1
 conv => rhs; rw [e]
 unfold without
 rw [List.filter_append, List.filter_cons, hp]
 simp only [Bool.not_true, Bool.false_eq_true, if_false]
 congr 1
 ·exact (List.filter_eq_self.2 fun y hy => by rw [hno y hy]; rfl).symm
 ·refine (List.filter_eq_self.2 fun y hy => ?_).symm
  have := h2 y hy
  rw [isK, decide_eq_false (by omega)]
  rfl
theorem cut_none {l : List Pr} {key : Int} (hno : ∀ y ∈ l, isK key y = false) : without l key = l := List.filter_eq_self.2 fun y hy => by rw [hno y hy]; rfl
theorem cat_mono {l : List (Sl Pr)} {k : Nat} (h : k ≤ l.length) : (catU l k).length ≤ (catU l l.length).length := by
 unfold catU
 rw [List.take_of_length_le (Nat.le_refl _)]
 conv => rhs; rw [← List.take_append_drop k l]
 rw [List.flatMap_append, List.length_append]
 omega
theorem head_get (l : List Pr) : l.head? = l[0]? := by cases l <;> rfl
theorem last_get9 (l : List Pr) : l.getLast? = l[l.length - 1]? := List.getLast?_eq_getElem? 
theorem without_len (l : List Pr) (k : Int) : (without l k).length ≤ l.length := List.length_filter_le _ _
theorem betw_len (l : List Pr) (a b : Int) : (betw l a b).length ≤ l.length := List.length_filter_le _ _
theorem do_len (l : List Pr) (o : OpS) : (doT l o).1.length ≤ l.length + 1 := by
 have h1 := with_len ⟨o.key, o.v⟩ l
 have h2 := without_len l o.key
 unfold doT
 repeat' split
 all_goals first | omega | (simp only []; split <;> omega) | (simp only []; omega)
theorem take_lt {l : List Pr} {k : Nat} {x : Pr} {K : Int} (hx : l[k]? = some x) (h : x.k < K) (hno : ∀ y ∈ l.take k, y.k < K) : ∀ y ∈ l.take (k + 1), y.k < K := fun y hy => by
 rw [List.take_succ_eq_append_getElem (lt_of_get hx), List.mem_append, (List.getElem?_eq_some_iff.1 hx).2] at hy
 rcases hy with hy | hy
 ·exact hno y hy
 ·rw [List.mem_singleton.1 hy]; exact h
theorem own_sub0 {T : TypeId} {k c : Nat} {rows : List (List Value)} {a : Option Addr} {M : E.Seg} (h : E.Own T k rows a c M) : subA a c k 0 = a := by
 rcases h.2 with ⟨rfl, rfl, _, _⟩ | ⟨g, cur, rfl, _⟩
 ·rfl
 ·exact sub0
theorem own_cap {T : TypeId} {k c : Nat} {rows : List (List Value)} {a : Option Addr} {M : E.Seg} (h : E.Own T k rows a c M) : rows.length ≤ c := by
 rcases h.2 with ⟨_, rfl, rfl, _⟩ | ⟨g, cur, _, _, h5, _⟩
 ·exact Nat.le_refl _
 ·exact h5
def andS (a b : SProp) : SProp := ⟨fun H => a.holds H ∧ b.holds H, fun _ _ h k => ⟨a.mono _ _ h k.1, b.mono _ _ h k.2⟩⟩
theorem allS3 {H : Hp} {x y z : Sl Pr} (hx : (prsP x).holds H) (hy : (prsP y).holds H) (hz : (prsP z).holds H) : (allS [x, y, z]).holds H := fun w hw => by
 simp only [List.mem_cons, List.not_mem_nil, or_false] at hw
 rcases hw with rfl | rfl | rfl
 ·exact hx
 ·exact hy
 ·exact hz
theorem cat3 (x y z : Sl Pr) : catU [x, y, z] 3 = x.l ++ (y.l ++ z.l) := by simp [catU]
/-- What DeleteFunc leaves, so far. -/
def DelInv (p : Pr → Bool) (l ls : List Pr) (i j : Nat) : Prop := ls.length = l.length ∧ i ≤ j ∧ j ≤ l.length ∧ ls.take i = (l.take j).filter (fun x => !p x) ∧ ls.drop j = l.drop j
theorem DelInv.start {p : Pr → Bool} {l : List Pr} {j : Nat} {x : Pr} (hx : l[j]? = some x) (hp : p x = true) (hno : ∀ y ∈ l.take j, p y = false) : DelInv p l l j (j + 1) := by
 have hj := lt_of_get hx
 refine ⟨rfl, by omega, hj, ?_, rfl⟩
 have h1 : (l.take j).filter (fun x => !p x) = l.take j := List.filter_eq_self.2 fun y hy => by rw [hno y hy]; rfl
 have h2 := filt_step (p := fun x => !p x) hx h1.symm
 rw [← h2]
 simp [hp]
theorem DelInv.get {p : Pr → Bool} {l ls : List Pr} {i j : Nat} {x : Pr} (h : DelInv p l ls i j) (hx : ls[j]? = some x) : l[j]? = some x := by
 obtain ⟨_, _, _, _, h5⟩ := h
 have h6 := congrArg (fun q => q[0]?) h5
 simp only [List.getElem?_drop, Nat.add_zero] at h6
 rw [← h6]; exact hx
theorem DelInv.skip {p : Pr → Bool} {l ls : List Pr} {i j : Nat} {x : Pr} (h : DelInv p l ls i j) (hx : ls[j]? = some x) (hp : p x = true) : DelInv p l ls i (j + 1) := by
 have hx' := h.get hx
 obtain ⟨h1, h2, h3, h4, h5⟩ := h
 have hj := lt_of_get hx'
 refine ⟨h1, by omega, hj, ?_, ?_⟩
 ·rw [← filt_step (p := fun x => !p x) hx' h4]; simp [hp]
 ·rw [← List.drop_drop, ← List.drop_drop, h5]
theorem DelInv.keep {p : Pr → Bool} {l ls : List Pr} {i j : Nat} {x : Pr} (h : DelInv p l ls i j) (hx : ls[j]? = some x) (hp : p x = false) : DelInv p l (ls.set i x) (i + 1) (j + 1) := by
 have hx' := h.get hx
 obtain ⟨h1, h2, h3, h4, h5⟩ := h
 have hj := lt_of_get hx'
 refine ⟨by simp [h1], by omega, hj, ?_, ?_⟩
 ·rw [← filt_step (p := fun x => !p x) hx' h4]
  simp only [hp, Bool.not_false, if_true]
  rw [List.take_succ_eq_append_getElem (by rw [List.length_set, h1]; omega), List.take_set_of_le (Nat.le_refl _)]
  simp
 ·rw [List.drop_set_of_lt (by omega), ← List.drop_drop, ← List.drop_drop, h5]
theorem DelInv.done {p : Pr → Bool} {l ls : List Pr} {i j : Nat} (h : DelInv p l ls i j) (hj : l.length ≤ j) : ls.take i = l.filter fun x => !p x := by
 obtain ⟨h1, h2, h3, h4, h5⟩ := h
 rw [h4, List.take_of_length_le hj]
end Go.Proofs.Ytmkodknmknfdkaa
set_option linter.unusedVariables false
set_option linter.unusedSimpArgs false
namespace Go.Proofs.Ytmkodknmknfdkaa
open E
set_option maxRecDepth 4000
theorem t77 : tRow Try.prog 77 = some (false, 4, 32, .agg #[.int .i64 0, .int .i64 0, .int .i64 0, .int .i64 0]) := by kernel_rfl
theorem s77 : sRow Try.prog 77 = some [(0, 1, true), (1, 1, true), (2, 1, true), (3, 1, true)] := by kernel_rfl
theorem en52 : Enters Try.prog 52 := Enters.mk' Try.func52 rfl rfl
theorem en120 : Enters Try.prog 120 := Enters.mk' Try.func120 rfl rfl
theorem en121 : Enters Try.prog 121 := Enters.mk' Try.func121 rfl rfl
theorem en124 : Enters Try.prog 124 := Enters.mk' Try.func124 rfl rfl
theorem mayop92 (o : OpS) : Con Try.prog 92 [o.val] [] [] (fun v Γ M => v = .bool (mayO o) ∧ Γ = [] ∧ M = []) := by
 refine Con.body 11 Try.func92 rfl Try.ntmps92 rfl fun X H₀ L₀ => ?_
 refine aE (aR ?_)
 refine At.loud (l_box rfl) rfl ?_
 rintro _ _ _ ⟨b1, rfl, rfl, rfl⟩
 refine At.freeze 0 (φ := blk b1 _) rfl (fun _ h => blk_def.2 ⟨_, _, h⟩) ?_
 refine aS 1 rfl rfl ?_
 refine aN (aT (aE (aR ?_)))
 refine aF s77 t3 rfl rfl rfl (Rd.blk (.head _) rfl) rfl rfl ?_
 refine aS 2 rfl rfl ?_
 refine At.splitP (d := 6) rfl (fun h1 => ?_) (fun h1 => ?_)
 ·
  refine At.open rfl rfl ?_
  refine aQ (q_fieldAddr s77 rfl rfl rfl) rfl ?_
  refine At.open rfl rfl ?_
  refine aQ (q_load t3 rfl (Rd.blk (.head _) rfl)) rfl ?_
  refine aS 3 rfl rfl ?_
  refine aN (aT (At.ret ?_))
  exact At.results (Γr := []) (M := []) rfl (RVals.cons (RVal.tmp rfl) RVals.nil) (ix 1 rfl) (fun _ _ => trivial) r_ ⟨congrArg Value.bool (by simp [mayO, h1]), rfl, rfl⟩
 ·
  refine aS 5 rfl rfl ?_
  refine aN (aT (At.ret ?_))
  exact At.results (Γr := []) (M := []) rfl (RVals.cons (RVal.tmp rfl) RVals.nil) (ix 1 rfl) (fun _ _ => trivial) r_ ⟨congrArg Value.bool (by simp [mayO, h1]), rfl, rfl⟩
theorem mayop64 (o : OpS) : Con Try.prog 64 [o.val] [] [] (fun v Γ M => v = .bool (mayO o) ∧ Γ = [] ∧ M = []) := by
 refine Con.body 11 Try.func64 rfl Try.ntmps64 rfl fun X H₀ L₀ => ?_
 refine aE (aR ?_)
 refine At.loud (l_box rfl) rfl ?_
 rintro _ _ _ ⟨b1, rfl, rfl, rfl⟩
 refine At.freeze 0 (φ := blk b1 _) rfl (fun _ h => blk_def.2 ⟨_, _, h⟩) ?_
 refine aS 1 rfl rfl ?_
 refine aN (aT (aE (aR ?_)))
 refine aF s77 t3 rfl rfl rfl (Rd.blk (.head _) rfl) rfl rfl ?_
 refine aS 2 rfl rfl ?_
 refine At.splitP (d := 6) rfl (fun h1 => ?_) (fun h1 => ?_)
 ·
  refine At.open rfl rfl ?_
  refine aQ (q_fieldAddr s77 rfl rfl rfl) rfl ?_
  refine At.open rfl rfl ?_
  refine aQ (q_load t3 rfl (Rd.blk (.head _) rfl)) rfl ?_
  refine aS 3 rfl rfl ?_
  refine aN (aT (At.ret ?_))
  exact At.results (Γr := []) (M := []) rfl (RVals.cons (RVal.tmp rfl) RVals.nil) (ix 1 rfl) (fun _ _ => trivial) r_ ⟨congrArg Value.bool (by simp [mayO, h1]), rfl, rfl⟩
 ·
  refine aS 5 rfl rfl ?_
  refine aN (aT (At.ret ?_))
  exact At.results (Γr := []) (M := []) rfl (RVals.cons (RVal.tmp rfl) RVals.nil) (ix 1 rfl) (fun _ _ => trivial) r_ ⟨congrArg Value.bool (by simp [mayO, h1]), rfl, rfl⟩
theorem upd95 (o : OpS) : Con Try.prog 95 [o.val] [] [] (fun v Γ M => v = .bool (updO o) ∧ Γ = [] ∧ M = []) := by
 refine Con.body 16 Try.func95 rfl Try.ntmps95 rfl fun X H₀ L₀ => ?_
 refine aE (aR ?_)
 refine At.loud (l_box rfl) rfl ?_
 rintro _ _ _ ⟨b1, rfl, rfl, rfl⟩
 refine At.freeze 0 (φ := blk b1 _) rfl (fun _ h => blk_def.2 ⟨_, _, h⟩) ?_
 refine aS 1 rfl rfl ?_
 refine aN (aT (aE (aR ?_)))
 refine aF s77 t3 rfl rfl rfl (Rd.blk (.head _) rfl) rfl rfl ?_
 refine aS 2 rfl rfl ?_
 refine At.splitP (d := 6) rfl (fun h1 => ?_) (fun h1 => ?_)
 ·
  refine aS 10 rfl rfl ?_
  refine aN (aT (At.ret ?_))
  exact At.results (Γr := []) (M := []) rfl (RVals.cons (RVal.tmp rfl) RVals.nil) (ix 1 rfl) (fun _ _ => trivial) r_ ⟨congrArg Value.bool (by simp [updO, h1]), rfl, rfl⟩
 ·
  refine At.open rfl rfl ?_
  refine aQ (q_fieldAddr s77 rfl rfl rfl) rfl ?_
  refine At.open rfl rfl ?_
  refine aQ (q_load t3 rfl (Rd.blk (.head _) rfl)) rfl ?_
  refine aS 3 rfl rfl ?_
  refine At.splitP (d := 11) rfl (fun h2 => ?_) (fun h2 => ?_)
  ·
   refine aS 5 rfl rfl ?_
   refine aN (aT (At.ret ?_))
   exact At.results (Γr := []) (M := []) rfl (RVals.cons (RVal.tmp rfl) RVals.nil) (ix 1 rfl) (fun _ _ => trivial) r_ ⟨congrArg Value.bool (by simp [updO, h1, h2]), rfl, rfl⟩
  ·
   refine At.open rfl rfl ?_
   refine aQ (q_fieldAddr s77 rfl rfl rfl) rfl ?_
   refine At.open rfl rfl ?_
   refine aQ (q_load t3 rfl (Rd.blk (.head _) rfl)) rfl ?_
   refine aS 3 rfl rfl ?_
   refine aN (aT (At.ret ?_))
   exact At.results (Γr := []) (M := []) rfl (RVals.cons (RVal.tmp rfl) RVals.nil) (ix 1 rfl) (fun _ _ => trivial) r_ ⟨congrArg Value.bool (by simp [updO, h1, h2]), rfl, rfl⟩
theorem clone72w (l : Sl Pr) (hl : l.l.length ≤ 8796093022208) : Con Try.prog 72 [l.val] [prsP l] [] (fun v Γ M => ∃ s : Sl Pr, v = s.val ∧ s.l = l.l ∧ Γ = [prsP s] ∧ M = []) := by
 refine Con.body 8 Try.func72 rfl Try.ntmps72 rfl fun X H₀ L₀ => ?_
 refine aE (aR ?_)
 refine aS 1 rfl rfl ?_
 refine aN (aT (aE (aE (aR ?_))))
 refine aS 1 rfl rfl ?_
 refine aQ (q_eqSliceNil Try.underlying31 rfl rfl) rfl ?_
 refine aN (aT ?_)
 refine At.cond rfl (fun hn => ?_) (fun hn => ?_)
 ·
  refine At.nilOf (hs := (ix 1 rfl)) (by simpa using hn) fun hnil => ?_
  refine At.know (prsP ⟨none, 0, []⟩) (fun _ _ => sl_nil _ _ _ (Nat.zero_le _)) ?_
  refine aE (aR ?_)
  refine aS 1 rfl rfl ?_
  refine aN (aT (At.ret (At.thenRet ?_)))
  exact At.results (Γr := [prsP ⟨none, 0, []⟩]) (M := []) rfl (RVals.cons (RVal.tmp rfl) RVals.nil) (ix 1 rfl) (fun _ h => ⟨h.1, trivial⟩) r_ ⟨⟨none, 0, []⟩, rfl, hnil.symm, rfl, rfl⟩
 ·
  refine At.skip (aT (aE (aR ?_)))
  refine At.loud (l_buildSlice0 Try.underlying31 t50) rfl ?_
  rintro _ _ _ ⟨e1, rfl, rfl, rfl⟩
  refine aS 1 rfl rfl ?_
  refine At.loud (l_appendNew rfl Try.underlying31 t50 rfl rfl (ix 1 rfl) (by simp) rfl (by omega) (by unfold maxLen; omega) rfl) rfl ?_
  rintro _ _ _ ⟨a2, c2, rfl, rfl, rfl⟩
  refine aS 1 rfl rfl ?_
  refine aN (aT (At.ret ?_))
  exact At.results (Γr := [prsP ⟨a2, c2, l.l⟩]) (M := []) rfl (RVals.cons (RVal.tmp rfl) RVals.nil) (ix 1 rfl) (fun _ h => ⟨h.1, trivial⟩) r_ ⟨⟨a2, c2, l.l⟩, rfl, rfl, rfl, rfl⟩
theorem clone72o (l : Sl Pr) (hl : l.l.length ≤ 8796093022208) : Con Try.prog 72 [l.val] [prsP l] [] (fun v Γ M => ∃ (a : Option Addr) (c : Nat) (M1 : Seg), v = .slice a l.l.length c ∧ Γ = [] ∧ M = [M1] ∧ Own 50 2 (l.l.map rowP) a c M1) := by
 refine Con.body 8 Try.func72 rfl Try.ntmps72 rfl fun X H₀ L₀ => ?_
 refine aE (aR ?_)
 refine aS 1 rfl rfl ?_
 refine aN (aT (aE (aE (aR ?_))))
 refine aS 1 rfl rfl ?_
 refine aQ (q_eqSliceNil Try.underlying31 rfl rfl) rfl ?_
 refine aN (aT ?_)
 refine At.cond rfl (fun hn => ?_) (fun hn => ?_)
 ·
  refine At.nilOf (hs := (ix 1 rfl)) (by simpa using hn) fun hnil => ?_
  refine At.nilSeg ?_
  refine aE (aR ?_)
  refine aS 1 rfl rfl ?_
  refine aN (aT (At.ret (At.thenRet ?_)))
  exact At.results (Γr := []) (M := [[]]) rfl (RVals.cons (RVal.tmp rfl) RVals.nil) (.head _) (fun _ _ => trivial) (k_ r_) ⟨none, 0, [], by rw [hnil]; rfl, rfl, rfl, by rw [hnil]; exact Own.nil _ _⟩
 ·
  refine At.skip (aT (aE (aR ?_)))
  refine At.loud (l_buildSlice0o Try.underlying31 t50) rfl ?_
  rintro _ _ _ ⟨be, o, rfl, hoe, rfl, rfl⟩
  refine aS 1 rfl rfl ?_
  refine At.loud (l_appendSl rfl Try.underlying31 t50 rfl rfl hoe (by simp) (i := 0) rfl (ix 1 rfl) (by simp) (one_map (fun _ => rfl) _) rfl rfl (by omega) (by unfold maxLen; omega)) rfl ?_
  rintro _ _ _ ⟨a2, c2, M2, rfl, ow2, rfl, rfl⟩
  refine aS 1 rfl rfl ?_
  refine aN (aT (At.ret ?_))
  exact At.results (Γr := []) (M := [M2]) rfl (RVals.cons (RVal.tmp rfl) RVals.nil) (.head _) (fun _ _ => trivial) (k_ r_) ⟨a2, c2, M2, by simp [resVal], rfl, rfl, by simpa using ow2⟩
theorem isk124 (key : Int) (x : Pr) (b : Nat) : Con Try.prog 124 [x.val, .pointer (some ⟨b, 0, none⟩)] [blk b #[.int .i64 key]] [] (fun v Γ M => v = .bool (isK key x) ∧ Γ = [] ∧ M = []) := by
 refine Con.body 8 Try.func124 rfl Try.ntmps124 rfl fun X H₀ L₀ => ?_
 refine aE (aR ?_)
 refine At.loud (l_box rfl) rfl ?_
 rintro _ _ _ ⟨b1, rfl, rfl, rfl⟩
 refine At.freeze 0 (φ := blk b1 _) rfl (fun _ h => blk_def.2 ⟨_, _, h⟩) ?_
 refine aS 1 rfl rfl ?_
 refine aN (aT (aE (aR ?_)))
 refine aF s50 t3 rfl rfl rfl (Rd.blk (.head _) rfl) rfl rfl ?_
 refine aQ (q_load t3 rfl (Rd.blk (ix 2 rfl) rfl)) rfl ?_
 refine aS 2 rfl rfl ?_
 refine aN (aT (At.ret ?_))
 exact At.results (Γr := []) (M := []) rfl (RVals.cons (RVal.tmp rfl) RVals.nil) (ix 1 rfl) (fun _ _ => trivial) r_ ⟨rfl, rfl, rfl⟩
theorem find122 (l : Sl Pr) (key : Int) : Con Try.prog 122 [l.val, .int .i64 key] [prsP l] [] (fun v Γ M => v = .int .i64 (idxI (isK key) l.l) ∧ Γ = [] ∧ M = []) := by
 refine Con.body 8 Try.func122 rfl Try.ntmps122 rfl fun X H₀ L₀ => ?_
 refine aE (aR ?_)
 refine At.loud (l_box rfl) rfl ?_
 rintro _ _ _ ⟨b1, rfl, rfl, rfl⟩
 refine At.freeze 0 (φ := blk b1 _) rfl (fun _ h => blk_def.2 ⟨_, _, h⟩) ?_
 refine aS 1 rfl rfl ?_
 refine aN (aT (aE (aR ?_)))
 refine aS 1 rfl rfl ?_
 refine aQ (q_makeFunc rfl rfl) rfl ?_
 refine At.call en115 rfl (index115 l 124 [_] (isK key) _ en124 (fun y => isk124 key y b1)) (fun _ h => ⟨h.2.2.1, h.1, trivial⟩) (List.Perm.refl _) rfl ?_
 rintro _ _ _ ⟨rfl, rfl, rfl⟩
 refine aS 1 rfl rfl ?_
 refine aN (aT (At.ret ?_))
 exact At.results (Γr := []) (M := []) rfl (RVals.cons (RVal.tmp rfl) RVals.nil) (ix 1 rfl) (fun _ _ => trivial) r_ ⟨rfl, rfl, rfl⟩
theorem find101 (l : Sl Pr) (key : Int) : Con Try.prog 101 [l.val, .int .i64 key] [prsP l] [] (fun v Γ M => v = .int .i64 (idxI (isK key) l.l) ∧ Γ = [] ∧ M = []) := by
 refine Con.body 20 Try.func101 rfl Try.ntmps101 rfl fun X H₀ L₀ => ?_
 refine At.lenOf (hs := (ix 1 rfl)) fun hlen => ?_
 rw [List.length_map] at hlen
 refine aE (aR ?_)
 refine aS 1 rfl rfl ?_
 refine aN (aT (aE (aE (aR ?_))))
 refine aS 1 rfl rfl ?_
 refine aQ (q_len Try.underlying31 rfl) rfl ?_
 refine aS 1 rfl rfl ?_
 refine aN (aT (At.block ?_))
 refine At.loopK (ι := Nat) [4, 5, 6, 9, 10, 11, 12, 13, 14, 15, 16, 17, 18, 19] (fun k => [(9, .int .i64 (k : Int))]) (fun k => []) (fun k => []) _ (fun k => k ≤ l.l.length ∧ ∀ y ∈ l.l.take k, isK key y = false) (fun k => l.l.length - k) 0 ⟨Nat.zero_le _, by simp⟩ ⟨rfl, trivial⟩ (fun _ _ => trivial) r_ ?_
 intro k hI
 refine aE (aR ?_)
 refine aS 1 rfl rfl ?_
 refine aN (aT (aE ?_))
 refine At.if rfl (fun hk => ?_) (fun hk => ?_)
 ·
  obtain ⟨x, hx⟩ := get_of_lt (l := l.l) (i := k) (by omega)
  have hk1 := lt_of_get hx
  refine At.skip (aT (aE (At.block (aE (aR ?_)))))
  refine aS 1 rfl rfl ?_
  refine aQ (q_index Try.underlying31 t50 rfl (ix 1 rfl) (by simp) rfl rfl (lt_of_get hx)) rfl ?_
  refine aQ (q_loadS t50 rfl (RdS.sl0 (ix 1 rfl) (map_get hx)) rfl) rfl ?_
  refine At.loud (l_alloc t50) rfl ?_
  rintro _ _ _ ⟨b1, rfl, rfl, rfl⟩
  refine aS 1 rfl rfl ?_
  refine At.loudN (l_store t50 rfl rfl (i := 0) rfl rfl rfl rfl) ?_
  rintro _ _ _ ⟨rfl, rfl⟩
  refine aN (aT (aE (aR ?_)))
  refine aF s50 t3 rfl rfl rfl (Rd.loc (i := 0) rfl rfl) rfl rfl ?_
  refine aS 2 rfl rfl ?_
  refine aN (aT ?_)
  refine At.if rfl (fun hp => ?_) (fun hp => ?_)
  ·
   refine aE (aR ?_)
   refine aS 2 rfl rfl ?_
   refine aN (aT (At.ret (At.inRet (At.thenRet (At.thenRet (At.inRet (At.thenRet ?_)))))))
   exact At.results (Γr := []) (M := []) rfl (RVals.cons (RVal.tmp rfl) RVals.nil) (.head _) (fun _ _ => trivial) (d_ r_) ⟨congrArg (Value.int .i64) (idx_at hx (decide_eq_true hp) hI.2).symm, rfl, rfl⟩
  ·
   refine At.skip (At.inNormal (aT (aR ?_)))
   refine aQ (q_add rfl rfl (by omega) (by omega)) rfl ?_
   refine aS 1 rfl rfl ?_
   refine aN (aT ?_)
   exact At.againK (k + 1) ⟨hk1, idx_step hx (decide_eq_false hp) hI.2⟩ (by (try dsimp only); omega) (Tells.end 13 ⟨rfl, trivial⟩ rfl rfl) (fun _ h => h) (d_ r_)
 ·
  refine At.exit (At.thenExit (At.thenExit (At.inHere rfl (aT (aE (aR ?_))))))
  refine aS 1 rfl rfl ?_
  refine aN (aT (At.ret ?_))
  exact At.results (Γr := []) (M := []) rfl (RVals.cons (RVal.tmp rfl) RVals.nil) (.head _) (fun _ _ => trivial) r_ ⟨congrArg (Value.int .i64) (idx_no (by have h := hI.2; rwa [List.take_of_length_le (by omega)] at h)).symm, rfl, rfl⟩
theorem without66 (l : Sl Pr) (key : Int) (hl : l.l.length ≤ 8796093022208) : Con Try.prog 66 [l.val, .int .i64 key] [prsP l] [] (PairsEndF (l.l.filter (fun p => !isK key p))) := by
 refine Con.body 24 Try.func66 rfl Try.ntmps66 rfl fun X H₀ L₀ => ?_
 refine At.lenOf (hs := (ix 1 rfl)) fun hlen => ?_
 rw [List.length_map] at hlen
 refine At.nilSeg ?_
 refine aE (aR ?_)
 refine aS 1 rfl rfl ?_
 refine aN (aT (aE (aR ?_)))
 refine aS 1 rfl rfl ?_
 refine aN (aT (aE (aE (aR ?_))))
 refine aS 1 rfl rfl ?_
 refine aQ (q_len Try.underlying31 rfl) rfl ?_
 refine aS 1 rfl rfl ?_
 refine aN (aT (At.block ?_))
 refine At.loopK (ι := Nat × Nat × List Pr × Option Addr × Nat × Seg) [5, 7, 10, 11, 12, 13, 14, 15, 16, 17, 18, 19, 20, 21, 22] (fun ⟨k, n0, o, a, c, M⟩ => [(10, .int .i64 (k : Int)), (5, .slice a n0 c)]) (fun ⟨k, n0, o, a, c, M⟩ => []) (fun ⟨k, n0, o, a, c, M⟩ => [M]) _ (fun ⟨k, n0, o, a, c, M⟩ => k ≤ l.l.length ∧ o = (l.l.take k).filter (fun p => !isK key p) ∧ Own 50 2 (o.map rowP) a c M ∧ n0 = o.length ∧ n0 ≤ k) (fun ⟨k, n0, o, a, c, M⟩ => l.l.length - k) (0, 0, [], none, 0, []) ⟨Nat.zero_le _, by simp, Own.nil _ _, rfl, Nat.le_refl _⟩ ⟨rfl, rfl, trivial⟩ (fun _ _ => trivial) (k_ r_) ?_
 intro i0 hI0
 obtain ⟨k, n0, o, a, c, M⟩ := i0
 obtain ⟨hkl, hoe, hO, hn0, hnk⟩ := hI0
 refine aE (aR ?_)
 refine aS 1 rfl rfl ?_
 refine aN (aT (aE ?_))
 refine At.if rfl (fun hk => ?_) (fun hk => ?_)
 ·
  obtain ⟨x, hx⟩ := get_of_lt (l := l.l) (i := k) (by omega)
  have hk1 := lt_of_get hx
  refine At.skip (aT (aE (At.block (aE (aR ?_)))))
  refine aQ (q_index Try.underlying31 t50 rfl (ix 1 rfl) (by simp) rfl rfl (lt_of_get hx)) rfl ?_
  refine aQ (q_loadS t50 rfl (RdS.sl0 (ix 1 rfl) (map_get hx)) rfl) rfl ?_
  refine At.loud (l_alloc t50) rfl ?_
  rintro _ _ _ ⟨b1, rfl, rfl, rfl⟩
  refine At.loudN (l_store t50 rfl rfl (i := 0) rfl rfl rfl rfl) ?_
  rintro _ _ _ ⟨rfl, rfl⟩
  refine aN (aT (aE (aR ?_)))
  refine aF s50 t3 rfl rfl rfl (Rd.loc (i := 0) rfl rfl) rfl rfl ?_
  refine aS 2 rfl rfl ?_
  refine aN (aT ?_)
  refine At.if rfl (fun hp => ?_) (fun hp => ?_)
  ·
   refine aR ?_
   refine aS 1 rfl rfl ?_
   refine aQ (q_loadS t50 rfl (RdS.loc (i := 0) rfl (m := 2) rfl) rfl) rfl ?_
   refine At.loud (l_buildSlice Try.underlying31 t50 rfl rfl rfl rfl rfl) rfl ?_
   rintro _ _ _ ⟨b2, rfl, rfl, rfl⟩
   refine At.loud (l_append rfl Try.underlying31 t50 rfl rfl hO (by simp; omega) (i := 2) rfl rfl (news := [rowP x]) (by simp [rowP]) (RdS.loc (i := 0) rfl (m := 2) rfl) rfl rfl rfl (by omega) (by unfold maxLen; omega)) rfl ?_
   rintro _ _ _ ⟨a2, c2, M2, rfl, ow, rfl, rfl⟩
   refine aS 1 rfl rfl ?_
   refine aN (At.inNormal (aT (aR ?_)))
   refine aQ (q_add rfl rfl (by omega) (by omega)) rfl ?_
   refine aS 1 rfl rfl ?_
   refine aN ?_
   refine At.front 2 rfl ?_
   refine aT ?_
   exact At.againK (k + 1, n0 + 1, o ++ [x], a2, c2, M2) ⟨hk1, by have hst := filt_step (p := (fun p => !isK key p)) hx hoe; rw [if_pos (by rw [isK, decide_eq_false (show ¬ x.k = key from hp)]; rfl)] at hst; exact hst, by simpa using ow, by simp; omega, by omega⟩ (by (try dsimp only); omega) (Tells.end 17 ⟨rfl, rfl, trivial⟩ rfl rfl) (fun _ h => h) (k_ (d_ (d_ r_)))
  ·
   refine At.skip (At.inNormal (aT (aR ?_)))
   refine aQ (q_add rfl rfl (by omega) (by omega)) rfl ?_
   refine aS 1 rfl rfl ?_
   refine aN ?_
   refine At.front 1 rfl ?_
   refine aT ?_
   exact At.againK (k + 1, n0, o, a, c, M) ⟨hk1, by have hst := filt_step (p := (fun p => !isK key p)) hx hoe; rw [if_neg (by rw [isK, decide_eq_true (show x.k = key by omega)]; simp)] at hst; exact hst, hO, hn0, by omega⟩ (by (try dsimp only); omega) (Tells.end 12 ⟨rfl, rfl, trivial⟩ rfl rfl) (fun _ h => h) (k_ (d_ r_))
 ·
  subst hn0
  refine At.freezeOwn 0 hO rfl ?_
  refine At.exit (At.thenExit (At.thenExit (At.inHere rfl (aT (aE (aR ?_))))))
  refine aS 2 rfl rfl ?_
  refine aN (aT (At.ret ?_))
  exact At.results (Γr := [_]) (M := []) rfl (RVals.cons (RVal.tmp rfl) RVals.nil) (ix 1 rfl) (fun _ h => ⟨h.1, trivial⟩) r_ ⟨⟨a, c, o⟩, rfl, rfl, rfl, filt_all (by omega) hoe⟩
theorem betw102 (l : Sl Pr) (lo hi : Int) (hl : l.l.length ≤ 8796093022208) : Con Try.prog 102 [l.val, .int .i64 lo, .int .i64 hi] [prsP l] [] (PairsEndF (l.l.filter (inR lo hi))) := by
 refine Con.body 32 Try.func102 rfl Try.ntmps102 rfl fun X H₀ L₀ => ?_
 refine At.lenOf (hs := (ix 1 rfl)) fun hlen => ?_
 rw [List.length_map] at hlen
 refine At.nilSeg ?_
 refine aE (aR ?_)
 refine aS 1 rfl rfl ?_
 refine aN (aT (aE (aR ?_)))
 refine aS 1 rfl rfl ?_
 refine aN (aT (aE (aE (aR ?_))))
 refine aS 1 rfl rfl ?_
 refine aQ (q_len Try.underlying31 rfl) rfl ?_
 refine aS 1 rfl rfl ?_
 refine aN (aT (At.block ?_))
 refine At.loopK (ι := Nat × Nat × List Pr × Option Addr × Nat × Seg) [7, 9, 12, 13, 14, 15, 16, 17, 18, 19, 20, 21, 22, 23, 24, 25, 26, 27, 28, 29, 30] (fun ⟨k, n0, o, a, c, M⟩ => [(12, .int .i64 (k : Int)), (7, .slice a n0 c)]) (fun ⟨k, n0, o, a, c, M⟩ => []) (fun ⟨k, n0, o, a, c, M⟩ => [M]) _ (fun ⟨k, n0, o, a, c, M⟩ => k ≤ l.l.length ∧ o = (l.l.take k).filter (inR lo hi) ∧ Own 50 2 (o.map rowP) a c M ∧ n0 = o.length ∧ n0 ≤ k) (fun ⟨k, n0, o, a, c, M⟩ => l.l.length - k) (0, 0, [], none, 0, []) ⟨Nat.zero_le _, by simp, Own.nil _ _, rfl, Nat.le_refl _⟩ ⟨rfl, rfl, trivial⟩ (fun _ _ => trivial) (k_ r_) ?_
 intro i0 hI0
 obtain ⟨k, n0, o, a, c, M⟩ := i0
 obtain ⟨hkl, hoe, hO, hn0, hnk⟩ := hI0
 refine aE (aR ?_)
 refine aS 1 rfl rfl ?_
 refine aN (aT (aE ?_))
 refine At.if rfl (fun hk => ?_) (fun hk => ?_)
 ·
  obtain ⟨x, hx⟩ := get_of_lt (l := l.l) (i := k) (by omega)
  have hk1 := lt_of_get hx
  refine At.skip (aT (aE (At.block (aE (aR ?_)))))
  refine aQ (q_index Try.underlying31 t50 rfl (ix 1 rfl) (by simp) rfl rfl (lt_of_get hx)) rfl ?_
  refine aQ (q_loadS t50 rfl (RdS.sl0 (ix 1 rfl) (map_get hx)) rfl) rfl ?_
  refine At.loud (l_alloc t50) rfl ?_
  rintro _ _ _ ⟨b1, rfl, rfl, rfl⟩
  refine At.loudN (l_store t50 rfl rfl (i := 0) rfl rfl rfl rfl) ?_
  rintro _ _ _ ⟨rfl, rfl⟩
  refine aN (aT (aE (aR ?_)))
  refine aF s50 t3 rfl rfl rfl (Rd.loc (i := 0) rfl rfl) rfl rfl ?_
  refine aS 3 rfl rfl ?_
  refine At.splitP (d := 20) rfl (fun hp => ?_) (fun hp => ?_)
  ·
   refine At.open rfl rfl ?_
   refine aQ (q_fieldAddr s50 rfl rfl rfl) rfl ?_
   refine At.open rfl rfl ?_
   refine aQ (q_load t3 rfl (Rd.loc (i := 0) rfl rfl)) rfl ?_
   refine aS 3 rfl rfl ?_
   refine aN (aT ?_)
   refine At.if rfl (fun hp2 => ?_) (fun hp2 => ?_)
   ·
    refine aR ?_
    refine aS 1 rfl rfl ?_
    refine aQ (q_loadS t50 rfl (RdS.loc (i := 0) rfl (m := 2) rfl) rfl) rfl ?_
    refine At.loud (l_buildSlice Try.underlying31 t50 rfl rfl rfl rfl rfl) rfl ?_
    rintro _ _ _ ⟨b2, rfl, rfl, rfl⟩
    refine At.loud (l_append rfl Try.underlying31 t50 rfl rfl hO (by simp; omega) (i := 2) rfl rfl (news := [rowP x]) (by simp [rowP]) (RdS.loc (i := 0) rfl (m := 2) rfl) rfl rfl rfl (by omega) (by unfold maxLen; omega)) rfl ?_
    rintro _ _ _ ⟨a2, c2, M2, rfl, ow, rfl, rfl⟩
    refine aS 1 rfl rfl ?_
    refine aN (At.inNormal (aT (aR ?_)))
    refine aQ (q_add rfl rfl (by omega) (by omega)) rfl ?_
    refine aS 1 rfl rfl ?_
    refine aN ?_
    refine At.front 2 rfl ?_
    refine aT ?_
    exact At.againK (k + 1, n0 + 1, o ++ [x], a2, c2, M2) ⟨hk1, by have hst := filt_step (p := (inR lo hi)) hx hoe; rw [if_pos (by rw [inR, decide_eq_true (show lo ≤ x.k from hp), decide_eq_true (show x.k ≤ hi from hp2)]; rfl)] at hst; exact hst, by simpa using ow, by simp; omega, by omega⟩ (by (try dsimp only); omega) (Tells.end 24 ⟨rfl, rfl, trivial⟩ rfl rfl) (fun _ h => h) (k_ (d_ (d_ r_)))
   ·
    refine At.skip (At.inNormal (aT (aR ?_)))
    refine aQ (q_add rfl rfl (by omega) (by omega)) rfl ?_
    refine aS 1 rfl rfl ?_
    refine aN ?_
    refine At.front 1 rfl ?_
    refine aT ?_
    exact At.againK (k + 1, n0, o, a, c, M) ⟨hk1, by have hst := filt_step (p := (inR lo hi)) hx hoe; rw [if_neg (by rw [inR, decide_eq_false (show ¬ x.k ≤ hi from hp2)]; simp)] at hst; exact hst, hO, hn0, by omega⟩ (by (try dsimp only); omega) (Tells.end 19 ⟨rfl, rfl, trivial⟩ rfl rfl) (fun _ h => h) (k_ (d_ r_))
  ·
   refine aS 5 rfl rfl ?_
   refine aN (aT ?_)
   refine At.condF rfl ?_
   refine At.skip (At.inNormal (aT (aR ?_)))
   refine aQ (q_add rfl rfl (by omega) (by omega)) rfl ?_
   refine aS 1 rfl rfl ?_
   refine aN ?_
   refine At.front 1 rfl ?_
   refine aT ?_
   exact At.againK (k + 1, n0, o, a, c, M) ⟨hk1, by have hst := filt_step (p := (inR lo hi)) hx hoe; rw [if_neg (by rw [inR, decide_eq_false (show ¬ lo ≤ x.k from hp)]; simp)] at hst; exact hst, hO, hn0, by omega⟩ (by (try dsimp only); omega) (Tells.end 19 ⟨rfl, rfl, trivial⟩ rfl rfl) (fun _ h => h) (k_ (d_ r_))
 ·
  subst hn0
  refine At.freezeOwn 0 hO rfl ?_
  refine At.exit (At.thenExit (At.thenExit (At.inHere rfl (aT (aE (aR ?_))))))
  refine aS 2 rfl rfl ?_
  refine aN (aT (At.ret ?_))
  exact At.results (Γr := [_]) (M := []) rfl (RVals.cons (RVal.tmp rfl) RVals.nil) (ix 1 rfl) (fun _ h => ⟨h.1, trivial⟩) r_ ⟨⟨a, c, o⟩, rfl, rfl, rfl, filt_all (by omega) hoe⟩
theorem delete120 (l : List Pr) (a : Option Addr) (c : Nat) (Mo : Seg) (hO0 : Own 50 2 (l.map rowP) a c Mo) (f : FuncId) (cap : List Value) (p : Pr → Bool) (φ : SProp) (hl9 : l.length ≤ 8796093022208) (hen : Enters Try.prog f) (hcon : ∀ x, Con Try.prog f (x.val :: cap) [φ] [] (fun v Γ M => v = .bool (p x) ∧ Γ = [] ∧ M = [])) : Con Try.prog 120 [.slice a l.length c, .func (.func f) #[] cap.toArray] [φ] [Mo] (PairsEndF (l.filter fun x => !p x)) := by
 refine Con.body 42 Try.func120 rfl Try.ntmps120 rfl fun X H₀ L₀ => ?_
 refine aE (aR ?_)
 refine aS 1 rfl rfl ?_
 refine aN (aT (aE (aR ?_)))
 refine aS 2 rfl rfl ?_
 refine At.callB en115 rfl (index115 ⟨a, c, l⟩ f cap p φ hen hcon) hO0 (i := 0) rfl (fun _ h => ⟨h.1, h.2.2.1, trivial⟩) (List.Perm.refl _) rfl ?_
 rintro _ _ _ ⟨rfl, rfl, rfl⟩
 refine aS 1 rfl rfl ?_
 refine aN (aT (aE (aE (aR ?_))))
 refine aS 2 rfl rfl ?_
 refine aN (aT ?_)
 refine At.if rfl (fun h1 => ?_) (fun h1 => ?_)
 ·
  have hno : ∀ y ∈ l, p y = false := (idx_neg (p := p) (l := l) (by have h := h1; dsimp only at h; omega)).2
  refine At.freezeOwn 0 hO0 rfl ?_
  refine aE (aR ?_)
  refine aS 2 rfl rfl ?_
  refine aN (aT (At.ret (At.thenRet ?_)))
  exact At.results (Γr := [_]) (M := []) rfl (RVals.cons (RVal.tmp rfl) RVals.nil) (ix 1 rfl) (fun _ h => ⟨h.1, trivial⟩) r_ ⟨⟨a, c, l⟩, rfl, rfl, rfl, (List.filter_eq_self.2 fun y hy => by rw [hno y hy]; rfl).symm⟩
 ·
  obtain ⟨j0, x0, hj0, hx0, hp0, hno⟩ := idx_get (p := p) (l := l) (by have h := h1; dsimp only at h; have h2 := idx_ge p l; omega)
  have hjl := lt_of_get hx0
  refine At.say 5 (.int .i64 (j0 : Int)) rfl (congrArg (Value.int .i64) hj0) ?_
  refine At.skip (aT (aE (aE (aR ?_))))
  refine aS 1 rfl rfl ?_
  refine aQ (q_add rfl rfl (by omega) (by omega)) rfl ?_
  refine aS 1 rfl rfl ?_
  refine aN (aT (At.block ?_))
  refine At.loopK (ι := Nat × Nat × List Pr × Seg) [5, 6, 7, 16, 17, 18, 19, 20, 21, 22, 23, 24, 25, 26, 27, 28, 29, 30, 31, 32, 33, 34, 35] (fun ⟨i, j, ls, M⟩ => [(5, .int .i64 (i : Int)), (6, .int .i64 (j : Int))]) (fun ⟨i, j, ls, M⟩ => []) (fun ⟨i, j, ls, M⟩ => [M]) _ (fun ⟨i, j, ls, M⟩ => DelInv p l ls i j ∧ Own 50 2 (ls.map rowP) a c M) (fun ⟨i, j, ls, M⟩ => l.length - j) (j0, j0 + 1, l, Mo) ⟨DelInv.start hx0 hp0 hno, hO0⟩ ⟨rfl, rfl, trivial⟩ (fun _ _ => trivial) (k_ r_) ?_
  intro i0 hI0
  obtain ⟨i, j, ls, M⟩ := i0
  obtain ⟨hD, hO⟩ := hI0
  obtain ⟨hD1, hD2, hD3, hD4, hD5⟩ := id hD
  refine aE (aE (aR ?_))
  refine aS 2 rfl rfl ?_
  refine aQ (q_len Try.underlying31 rfl) rfl ?_
  refine aS 1 rfl rfl ?_
  refine aN (aT ?_)
  refine At.if rfl (fun hj => ?_) (fun hj => ?_)
  ·
   obtain ⟨x, hx⟩ := get_of_lt (l := ls) (i := j) (by omega)
   obtain ⟨z, hz⟩ := get_of_lt (l := ls) (i := i) (by omega)
   have hjl1 := lt_of_get hx
   have hil1 := lt_of_get hz
   refine At.skip (aT (aE (At.block (aE (aR ?_)))))
   refine aS 2 rfl rfl ?_
   refine aQ (q_indexOwn Try.underlying31 t50 rfl hO (by simp [hD1]) rfl rfl (by omega)) rfl ?_
   refine aQ (q_loadS t50 rfl (RdS.own0 hO (i := 0) rfl (map_get hx)) rfl) rfl ?_
   refine At.loud (l_alloc t50) rfl ?_
   rintro _ _ _ ⟨b1, rfl, rfl, rfl⟩
   refine At.loudN (l_store t50 rfl rfl (i := 0) rfl rfl rfl rfl) ?_
   rintro _ _ _ ⟨rfl, rfl⟩
   refine aN (aT (aE (aR ?_)))
   refine aS 1 rfl rfl ?_
   refine aQ (q_loadS t50 rfl (RdS.loc (i := 0) rfl (m := 2) rfl) rfl) rfl ?_
   refine At.callV hen rfl rfl (by simp [Pr.val, rowP]; exact ⟨rfl, rfl⟩) (hcon x) (fun _ h => ⟨h.2.1, trivial⟩) (List.Perm.refl _) rfl ?_
   rintro _ _ _ ⟨rfl, rfl, rfl⟩
   refine aS 1 rfl rfl ?_
   refine aN (aT ?_)
   refine At.cond rfl (fun hp => ?_) (fun hp => ?_)
   ·
    refine aE (aR ?_)
    refine aS 2 rfl rfl ?_
    refine aQ (q_loadS t50 rfl (RdS.loc (i := 0) rfl (m := 2) rfl) rfl) rfl ?_
    refine aQ (q_indexOwn Try.underlying31 t50 rfl hO (by simp [hD1]) rfl rfl (by omega)) rfl ?_
    refine At.loudN (l_storeOwn0 t50 rfl rfl hO (i := 1) rfl (map_get hz) rfl rfl rfl) ?_
    rintro _ _ _ ⟨Mow1, ow1, rfl, rfl⟩
    refine aN (aT (aR ?_))
    have hO2 : Own 50 2 ((ls.set i x).map rowP) a c Mow1 := by rw [List.map_set]; exact ow1
    refine aS 1 rfl rfl ?_
    refine aQ (q_add rfl rfl (by omega) (by omega)) rfl ?_
    refine aS 1 rfl rfl ?_
    refine aN (At.inNormal (aT (aR ?_)))
    refine aS 1 rfl rfl ?_
    refine aQ (q_add rfl rfl (by omega) (by omega)) rfl ?_
    refine aS 1 rfl rfl ?_
    refine aN ?_
    refine At.front 1 rfl ?_
    refine aT ?_
    exact At.againK (i + 1, j + 1, ls.set i x, _) ⟨hD.keep hx (by simpa using hp), hO2⟩ (by (try dsimp only); omega) (Tells.end 25 ⟨rfl, rfl, trivial⟩ rfl rfl) (fun _ h => h) (k_ (d_ r_))
   ·
    refine At.skip (At.inNormal (aT (aR ?_)))
    refine aS 1 rfl rfl ?_
    refine aQ (q_add rfl rfl (by omega) (by omega)) rfl ?_
    refine aS 1 rfl rfl ?_
    refine aN ?_
    refine At.front 1 rfl ?_
    refine aT ?_
    exact At.againK (i, j + 1, ls, M) ⟨hD.skip hx (by simpa using hp), hO⟩ (by (try dsimp only); omega) (Tells.end 18 ⟨rfl, rfl, trivial⟩ rfl rfl) (fun _ h => h) (k_ (d_ r_))
  ·
   have hdone := hD.done (by omega)
   have hcap := own_cap hO
   rw [List.length_map] at hcap
   refine At.exit (At.thenExit (At.thenExit (At.inHere rfl (aT (aE (aR ?_))))))
   refine aS 2 rfl rfl ?_
   refine aQ (q_sliceLo Try.underlying31 t50 rfl rfl rfl (by omega)) rfl ?_
   refine At.loudN (l_clear (p := i) rfl Try.underlying31 t50 rfl hO (by simp [hD1]) (by omega) (i := 0) rfl rfl rfl) ?_
   rintro _ _ _ ⟨M5, ow5, rfl, rfl⟩
   refine aN (aT (aE (aR ?_)))
   refine aS 2 rfl rfl ?_
   refine aQ (q_sliceHi Try.underlying31 t50 rfl rfl (h := i) rfl (by omega)) rfl ?_
   refine At.freezeOwn 0 (show Own 50 2 ((ls.take i).map rowP) a c M5 by rw [List.map_take]; exact ow5) rfl ?_
   refine aS 1 rfl rfl ?_
   refine aN (aT (At.ret ?_))
   exact At.results (Γr := [prsP ⟨a, c, ls.take i⟩]) (M := []) rfl (RVals.cons (RVal.tmp rfl) RVals.nil) (ix 1 rfl) (fun _ h => ⟨h.1, trivial⟩) r_ ⟨⟨a, c, ls.take i⟩, by simp only [Sl.val, resVal]; rw [own_sub0 ow5, List.length_take, Nat.min_eq_left (show i ≤ ls.length by omega)], rfl, rfl, hdone⟩
theorem out121 (lo hi : Int) (x : Pr) (b1 b2 : Nat) : Con Try.prog 121 [x.val, .pointer (some ⟨b1, 0, none⟩), .pointer (some ⟨b2, 0, none⟩)] [andS (blk b1 #[.int .i64 lo]) (blk b2 #[.int .i64 hi])] [] (fun v Γ M => v = .bool (!inR lo hi x) ∧ Γ = [] ∧ M = []) := by
 refine Con.body 15 Try.func121 rfl Try.ntmps121 rfl fun X H₀ L₀ => ?_
 refine At.know (blk b1 #[.int .i64 lo]) (fun _ h => h.2.1.1) ?_
 refine At.know (blk b2 #[.int .i64 hi]) (fun _ h => h.2.2.1.2) ?_
 refine aE (aR ?_)
 refine At.loud (l_box rfl) rfl ?_
 rintro _ _ _ ⟨b1, rfl, rfl, rfl⟩
 refine At.freeze 0 (φ := blk b1 _) rfl (fun _ h => blk_def.2 ⟨_, _, h⟩) ?_
 refine aS 1 rfl rfl ?_
 refine aN (aT (aE (aR ?_)))
 refine aF s50 t3 rfl rfl rfl (Rd.blk (.head _) rfl) rfl rfl ?_
 refine aQ (q_load t3 rfl (Rd.blk (ix 2 rfl) rfl)) rfl ?_
 refine aS 2 rfl rfl ?_
 refine At.splitP (d := 9) rfl (fun hlo => ?_) (fun hlo => ?_)
 ·
  refine aS 6 rfl rfl ?_
  refine aN (aT (At.ret ?_))
  exact At.results (Γr := []) (M := []) rfl (RVals.cons (RVal.tmp rfl) RVals.nil) (ix 3 rfl) (fun _ _ => trivial) r_ ⟨congrArg Value.bool (by rw [inR, decide_eq_false (show ¬ lo ≤ x.k by omega)]; rfl), rfl, rfl⟩
 ·
  refine At.open rfl rfl ?_
  refine aQ (q_fieldAddr s50 rfl rfl rfl) rfl ?_
  refine At.open rfl rfl ?_
  refine aQ (q_load t3 rfl (Rd.blk (.head _) rfl)) rfl ?_
  refine At.open rfl rfl ?_
  refine aQ (q_load t3 rfl (Rd.blk (ix 1 rfl) rfl)) rfl ?_
  refine aS 3 rfl rfl ?_
  refine aN (aT (At.ret ?_))
  exact At.results (Γr := []) (M := []) rfl (RVals.cons (RVal.tmp rfl) RVals.nil) (ix 3 rfl) (fun _ _ => trivial) r_ ⟨congrArg Value.bool (by rw [inR, decide_eq_true (show lo ≤ x.k by omega)]; by_cases h : x.k ≤ hi <;> simp [h] <;> omega), rfl, rfl⟩
theorem within118 (l : Sl Pr) (lo hi : Int) (hl : l.l.length ≤ 8796093022208) : Con Try.prog 118 [l.val, .int .i64 lo, .int .i64 hi] [prsP l] [] (PairsEndF (betw l.l lo hi)) := by
 refine Con.body 11 Try.func118 rfl Try.ntmps118 rfl fun X H₀ L₀ => ?_
 refine aE (aR ?_)
 refine At.loud (l_box rfl) rfl ?_
 rintro _ _ _ ⟨b1, rfl, rfl, rfl⟩
 refine At.freeze 0 (φ := blk b1 _) rfl (fun _ h => blk_def.2 ⟨_, _, h⟩) ?_
 refine At.loud (l_box rfl) rfl ?_
 rintro _ _ _ ⟨b2, rfl, rfl, rfl⟩
 refine At.freeze 0 (φ := blk b2 _) rfl (fun _ h => blk_def.2 ⟨_, _, h⟩) ?_
 refine aS 1 rfl rfl ?_
 refine aN (aT (aE (aR ?_)))
 refine aS 1 rfl rfl ?_
 refine At.call en72 rfl (clone72o l hl) (fun _ h => ⟨h.2.2.2.1, trivial⟩) (List.Perm.refl _) rfl ?_
 rintro _ _ _ ⟨a, c, Mo, rfl, rfl, rfl, hO⟩
 refine aQ (q_makeFunc rfl rfl) rfl ?_
 refine At.know (andS (blk b1 #[.int .i64 lo]) (blk b2 #[.int .i64 hi])) (fun _ h => ⟨h.2.1, h.1⟩) ?_
 refine At.call en120 rfl (delete120 l.l a c Mo hO 121 [.pointer (some ⟨b1, 0, none⟩), .pointer (some ⟨b2, 0, none⟩)] (fun y => !inR lo hi y) _ hl en121 (fun y => out121 lo hi y b1 b2)) (fun _ h => ⟨h.1, trivial⟩) (List.Perm.refl _) rfl ?_
 rintro _ _ _ ⟨u, rfl, rfl, rfl, hul⟩
 refine aS 1 rfl rfl ?_
 refine aN (aT (At.ret ?_))
 exact At.results (Γr := [_]) (M := []) rfl (RVals.cons (RVal.tmp rfl) RVals.nil) (ix 4 rfl) (fun _ h => ⟨h.1, trivial⟩) r_ ⟨u, rfl, rfl, rfl, by rw [hul]; simp [betw]⟩
end Go.Proofs.Ytmkodknmknfdkaa
set_option linter.unusedVariables false
set_option linter.unusedSimpArgs false
namespace Go.Proofs.Ytmkodknmknfdkaa
open E
set_option maxRecDepth 4000
theorem grow109w (m : Nat) (hm : m ≤ 8796093022208) : Con Try.prog 109 [.slice none 0 0, .int .i64 (m : Int)] [] [] (fun v Γ M => ∃ (a : Option Addr) (c : Nat) (M1 : Seg), v = .slice a 0 c ∧ Γ = [] ∧ M = [M1] ∧ Own 50 2 [] a c M1) := by
 refine Con.body 27 Try.func109 rfl Try.ntmps109 rfl fun X H₀ L₀ => ?_
 refine aE (aR ?_)
 refine aS 1 rfl rfl ?_
 refine aN (aT (aE (aE (aR ?_))))
 refine aS 2 rfl rfl ?_
 refine aN (aT ?_)
 refine At.say 6 (.bool false) rfl (congrArg Value.bool (decide_eq_false (by omega))) ?_
 refine At.condF rfl ?_
 refine At.skip (aT (aE (aE (aR ?_))))
 refine aS 2 rfl rfl ?_
 refine aQ (q_cap Try.underlying31 rfl) rfl ?_
 refine aS 1 rfl rfl ?_
 refine aQ (q_len Try.underlying31 rfl) rfl ?_
 refine aQ (q_sub rfl rfl (by omega) (by omega)) rfl ?_
 refine aQ (q_sub rfl rfl (by omega) (by omega)) rfl ?_
 refine aS 1 rfl rfl ?_
 refine aN (aT (aE (aR ?_)))
 refine aS 2 rfl rfl ?_
 refine aN (aT ?_)
 refine At.if rfl (fun hpos => ?_) (fun hpos => ?_)
 ·
  refine aR ?_
  refine aS 2 rfl rfl ?_
  refine aQ (q_cap Try.underlying31 rfl) rfl ?_
  refine aQ (q_sliceHi Try.underlying31 t50 rfl rfl (h := 0) rfl (Nat.le_refl 0)) rfl ?_
  refine aS 1 rfl rfl ?_
  refine At.loud (l_appendZeros (m := m) rfl Try.underlying31 Try.underlying3 t50 rfl rfl (by omega) (by omega) rfl rfl (by omega) (by unfold maxLen; omega)) rfl ?_
  rintro _ _ _ ⟨bz, cz, gz, rfl, hOz, hmc, rfl, rfl⟩
  refine aS 1 rfl rfl ?_
  refine aQ (q_len Try.underlying31 rfl) rfl ?_
  refine aQ (q_sliceHi Try.underlying31 t50 rfl rfl (h := 0) rfl (Nat.zero_le _)) rfl ?_
  refine At.say 25 (.slice (some ⟨bz, 0, none⟩) 0 cz) rfl (by rw [sub0]) ?_
  refine aS 1 rfl rfl ?_
  refine aN (aT (aE (aR ?_)))
  refine aS 2 rfl rfl ?_
  refine aN (aT (At.ret ?_))
  exact At.results (Γr := []) (M := [gz]) rfl (RVals.cons (RVal.tmp rfl) RVals.nil) (.head _) (fun _ _ => trivial) (k_ r_) ⟨some ⟨bz, 0, none⟩, cz, gz, rfl, rfl, rfl, hOz⟩
 ·
  refine At.nilSeg ?_
  refine At.skip (aT (aE (aR ?_)))
  refine aS 2 rfl rfl ?_
  refine aN (aT (At.ret ?_))
  exact At.results (Γr := []) (M := [[]]) rfl (RVals.cons (RVal.tmp rfl) RVals.nil) (.head _) (fun _ _ => trivial) (k_ r_) ⟨none, 0, [], rfl, rfl, rfl, Own.nil _ _⟩
theorem concat85w2 (x y : Sl Pr) (b : Nat) (hlen : x.l.length + y.l.length ≤ 8796093022208) : Con Try.prog 85 [.slice (some ⟨b, 0, none⟩) 2 2] [prsP x, prsP y] [[(b, .cells #[x.val, y.val] 31 (0, 0))]] (PairsEndF (x.l ++ y.l)) := by
 refine Con.body 36 Try.func85 rfl Try.ntmps85 rfl fun X H₀ L₀ => ?_
 refine At.freeze 0 (φ := slsP (⟨some ⟨b, 0, none⟩, 2, [x, y]⟩ : Sl (Sl Pr))) rfl (fun _ h => sl_of_block h rfl (by simp [rowS]) rfl (show (2 : Nat) ≤ maxLen from by decide)) ?_
 refine At.know (allS [x, y]) (fun _ h => allS2 h.2.2.1 h.2.2.2.1) ?_
 have hc2 : catU [x, y] 2 = x.l ++ y.l := cat2 _ _
 have hln : (catU [x, y] 2).length ≤ 8796093022208 := by rw [hc2]; simp; omega
 have hle : ∀ k, k ≤ 2 → (catU [x, y] k).length ≤ 8796093022208 := fun k hk => Nat.le_trans (cat_mono (l := [x, y]) hk) hln
 have hl2 : [x, y].length = 2 := rfl
 refine aE (aR ?_)
 refine aS 1 rfl rfl ?_
 refine aN (aT (aE (aR ?_)))
 refine aS 1 rfl rfl ?_
 refine aN (aT (aE (aE (aR ?_))))
 refine aS 1 rfl rfl ?_
 refine aQ (q_len Try.underlying134 rfl) rfl ?_
 refine aS 1 rfl rfl ?_
 refine aN (aT (At.block ?_))
 refine At.loopK (ι := Nat) [3, 5, 11, 12, 13, 14, 15, 16, 17, 18, 19, 20, 21, 22] (fun k => [(11, .int .i64 (k : Int)), (3, .int .i64 ((catU [x, y] k).length : Nat))]) (fun k => []) (fun k => []) _ (fun k => k ≤ 2) (fun k => 2 - k) 0 (Nat.zero_le _) ⟨rfl, rfl, trivial⟩ (fun _ _ => trivial) r_ ?_
 intro k hk0
 refine aE (aR ?_)
 refine aS 1 rfl rfl ?_
 refine aN (aT (aE ?_))
 refine At.if rfl (fun hk => ?_) (fun hk => ?_)
 ·
  obtain ⟨z9, hz⟩ := get_of_lt (l := [x, y]) (i := k) (by omega)
  have hst := cat_step hz
  have hlk := hle (k + 1) (by omega)
  rw [hst, List.length_append] at hlk
  have hk1 : k + 1 ≤ 2 := by omega
  refine At.know (prsP z9) (fun _ h => allS_get h.1 hz) ?_
  refine At.skip (aT (aE (At.block (aE (aR ?_)))))
  refine aQ (q_index Try.underlying134 t31 rfl (ix 2 rfl) (by simp) rfl rfl (lt_of_get hz)) rfl ?_
  refine aQ (q_load t31 rfl (Rd.sl0 (ix 2 rfl) (map_get hz) rfl)) rfl ?_
  refine aS 1 rfl rfl ?_
  refine aN (aT (aE (aR ?_)))
  refine aS 2 rfl rfl ?_
  refine aQ (q_len Try.underlying31 rfl) rfl ?_
  refine aQ (q_add rfl rfl (by omega) (by omega)) rfl ?_
  refine aS 1 rfl rfl ?_
  refine aN (aT (aE (aR ?_)))
  refine aS 2 rfl rfl ?_
  refine aN (aT ?_)
  refine At.say 20 (.bool false) rfl (congrArg Value.bool (decide_eq_false (by omega))) ?_
  refine At.condF rfl ?_
  refine At.skip (At.inNormal (aT (aR ?_)))
  refine aQ (q_add rfl rfl (by omega) (by omega)) rfl ?_
  refine aS 1 rfl rfl ?_
  refine aN ?_
  refine At.say 3 (.int .i64 ((catU [x, y] (k + 1)).length : Nat)) rfl (congrArg (Value.int .i64) (by rw [hst, List.length_append]; simp)) ?_
  refine aT ?_
  exact At.againK (k + 1) hk1 (by (try dsimp only); omega) (Tells.end 17 ⟨rfl, rfl, trivial⟩ rfl rfl) (fun _ h => h.2) r_
 ·
  obtain rfl : k = 2 := by omega
  have hl3 := hle 2 (by omega)
  refine At.exit (At.thenExit (At.thenExit (At.inHere rfl (aT (aE (aR ?_))))))
  refine aS 1 rfl rfl ?_
  refine At.call en109 rfl (grow109w _ (by omega)) (fun _ _ => trivial) (List.Perm.refl _) rfl ?_
  rintro _ _ _ ⟨a0, c0, M0, rfl, rfl, rfl, hO0⟩
  refine aS 1 rfl rfl ?_
  refine aN (aT (aE (aE (aR ?_))))
  refine aS 1 rfl rfl ?_
  refine aQ (q_len Try.underlying134 rfl) rfl ?_
  refine aS 1 rfl rfl ?_
  refine aN (aT (At.block ?_))
  refine At.loopK (ι := Nat × Option Addr × Nat × Seg) [6, 8, 27, 28, 29, 30, 31, 32, 33, 34] (fun ⟨j, a, c, M⟩ => [(27, .int .i64 (j : Int)), (6, .slice a (catU [x, y] j).length c)]) (fun ⟨j, a, c, M⟩ => []) (fun ⟨j, a, c, M⟩ => [M]) _ (fun ⟨j, a, c, M⟩ => j ≤ 2 ∧ Own 50 2 ((catU [x, y] j).map rowP) a c M) (fun ⟨j, a, c, M⟩ => 2 - j) (0, a0, c0, M0) ⟨Nat.zero_le _, hO0⟩ ⟨rfl, rfl, trivial⟩ (fun _ _ => trivial) (k_ r_) ?_
  intro i0 hI0
  obtain ⟨j, a, c, M⟩ := i0
  obtain ⟨hj2, hO⟩ := hI0
  refine aE (aR ?_)
  refine aS 1 rfl rfl ?_
  refine aN (aT (aE ?_))
  refine At.if rfl (fun hjk => ?_) (fun hjk => ?_)
  ·
   obtain ⟨z9, hz⟩ := get_of_lt (l := [x, y]) (i := j) (by omega)
   have hst := cat_step hz
   have hlk := hle (j + 1) (by omega)
   rw [hst, List.length_append] at hlk
   have hj1 : j + 1 ≤ 2 := by omega
   refine At.know (prsP z9) (fun _ h => allS_get h.1 hz) ?_
   refine At.skip (aT (aE (At.block (aE (aR ?_)))))
   refine aQ (q_index Try.underlying134 t31 rfl (ix 2 rfl) (by simp) rfl rfl (lt_of_get hz)) rfl ?_
   refine aQ (q_load t31 rfl (Rd.sl0 (ix 2 rfl) (map_get hz) rfl)) rfl ?_
   refine aS 1 rfl rfl ?_
   refine aN (aT (aR ?_))
   refine aS 2 rfl rfl ?_
   refine At.loud (l_appendSl rfl Try.underlying31 t50 rfl rfl hO (by simp) (i := 0) rfl (.head _) (by simp) (one_map (fun _ => rfl) _) rfl rfl (by omega) (by unfold maxLen; omega)) rfl ?_
   rintro _ _ _ ⟨a2, c2, M2, rfl, ow, rfl, rfl⟩
   refine aS 1 rfl rfl ?_
   refine aN (At.inNormal (aT (aR ?_)))
   refine aQ (q_add rfl rfl (by omega) (by omega)) rfl ?_
   refine aS 1 rfl rfl ?_
   refine aN ?_
   refine At.say 6 (.slice a2 (catU [x, y] (j + 1)).length c2) rfl (by rw [hst, List.length_append]) ?_
   refine aT ?_
   exact At.againK (j + 1, a2, c2, M2) ⟨hj1, by rw [hst, List.map_append]; exact ow⟩ (by (try dsimp only); omega) (Tells.end 13 ⟨rfl, rfl, trivial⟩ rfl rfl) (fun _ h => h.2) (k_ r_)
  ·
   obtain rfl : j = 2 := by omega
   refine At.freezeOwn 0 hO rfl ?_
   refine At.exit (At.thenExit (At.thenExit (At.inHere rfl (aT (aE (aR ?_))))))
   refine aS 2 rfl rfl ?_
   refine aN (aT (At.ret ?_))
   exact At.results (Γr := [prsP ⟨a, c, catU [x, y] 2⟩]) (M := []) rfl (RVals.cons (RVal.tmp rfl) RVals.nil) (ix 3 rfl) (fun _ h => ⟨h.1, trivial⟩) r_ ⟨⟨a, c, catU [x, y] 2⟩, rfl, rfl, rfl, hc2⟩
theorem concat85w3 (x z : Sl Pr) (p : Pr) (b b2 : Nat) (hlen : x.l.length + z.l.length + 1 ≤ 8796093022208) : Con Try.prog 85 [.slice (some ⟨b, 0, none⟩) 3 3] [prsP x, prsP z] [[(b, .cells #[x.val, .slice (some ⟨b2, 0, none⟩) 1 1, z.val] 31 (0, 0))], [(b2, .cells #[.int .i64 p.k, .int .i64 p.v] 50 (0, 0))]] (PairsEndF (x.l ++ p :: z.l)) := by
 refine Con.body 36 Try.func85 rfl Try.ntmps85 rfl fun X H₀ L₀ => ?_
 refine At.freeze 1 (φ := prsP (⟨some ⟨b2, 0, none⟩, 1, [p]⟩ : Sl Pr)) rfl (fun _ h => sl_of_block h rfl (by simp [rowP]) rfl (show (1 : Nat) ≤ maxLen from by decide)) ?_
 refine At.freeze 0 (φ := slsP (⟨some ⟨b, 0, none⟩, 3, [x, (⟨some ⟨b2, 0, none⟩, 1, [p]⟩ : Sl Pr), z]⟩ : Sl (Sl Pr))) rfl (fun _ h => sl_of_block h rfl (by simp [rowS]) rfl (show (3 : Nat) ≤ maxLen from by decide)) ?_
 refine At.know (allS [x, (⟨some ⟨b2, 0, none⟩, 1, [p]⟩ : Sl Pr), z]) (fun _ h => allS3 h.2.2.2.1 h.2.1 h.2.2.2.2.1) ?_
 have hc2 : catU [x, (⟨some ⟨b2, 0, none⟩, 1, [p]⟩ : Sl Pr), z] 3 = x.l ++ p :: z.l := cat3 _ _ _
 have hln : (catU [x, (⟨some ⟨b2, 0, none⟩, 1, [p]⟩ : Sl Pr), z] 3).length ≤ 8796093022208 := by rw [hc2]; simp; omega
 have hle : ∀ k, k ≤ 3 → (catU [x, (⟨some ⟨b2, 0, none⟩, 1, [p]⟩ : Sl Pr), z] k).length ≤ 8796093022208 := fun k hk => Nat.le_trans (cat_mono (l := [x, (⟨some ⟨b2, 0, none⟩, 1, [p]⟩ : Sl Pr), z]) hk) hln
 have hl2 : [x, (⟨some ⟨b2, 0, none⟩, 1, [p]⟩ : Sl Pr), z].length = 3 := rfl
 refine aE (aR ?_)
 refine aS 1 rfl rfl ?_
 refine aN (aT (aE (aR ?_)))
 refine aS 1 rfl rfl ?_
 refine aN (aT (aE (aE (aR ?_))))
 refine aS 1 rfl rfl ?_
 refine aQ (q_len Try.underlying134 rfl) rfl ?_
 refine aS 1 rfl rfl ?_
 refine aN (aT (At.block ?_))
 refine At.loopK (ι := Nat) [3, 5, 11, 12, 13, 14, 15, 16, 17, 18, 19, 20, 21, 22] (fun k => [(11, .int .i64 (k : Int)), (3, .int .i64 ((catU [x, (⟨some ⟨b2, 0, none⟩, 1, [p]⟩ : Sl Pr), z] k).length : Nat))]) (fun k => []) (fun k => []) _ (fun k => k ≤ 3) (fun k => 3 - k) 0 (Nat.zero_le _) ⟨rfl, rfl, trivial⟩ (fun _ _ => trivial) r_ ?_
 intro k hk0
 refine aE (aR ?_)
 refine aS 1 rfl rfl ?_
 refine aN (aT (aE ?_))
 refine At.if rfl (fun hk => ?_) (fun hk => ?_)
 ·
  obtain ⟨z9, hz⟩ := get_of_lt (l := [x, (⟨some ⟨b2, 0, none⟩, 1, [p]⟩ : Sl Pr), z]) (i := k) (by omega)
  have hst := cat_step hz
  have hlk := hle (k + 1) (by omega)
  rw [hst, List.length_append] at hlk
  have hk1 : k + 1 ≤ 3 := by omega
  refine At.know (prsP z9) (fun _ h => allS_get h.1 hz) ?_
  refine At.skip (aT (aE (At.block (aE (aR ?_)))))
  refine aQ (q_index Try.underlying134 t31 rfl (ix 2 rfl) (by simp) rfl rfl (lt_of_get hz)) rfl ?_
  refine aQ (q_load t31 rfl (Rd.sl0 (ix 2 rfl) (map_get hz) rfl)) rfl ?_
  refine aS 1 rfl rfl ?_
  refine aN (aT (aE (aR ?_)))
  refine aS 2 rfl rfl ?_
  refine aQ (q_len Try.underlying31 rfl) rfl ?_
  refine aQ (q_add rfl rfl (by omega) (by omega)) rfl ?_
  refine aS 1 rfl rfl ?_
  refine aN (aT (aE (aR ?_)))
  refine aS 2 rfl rfl ?_
  refine aN (aT ?_)
  refine At.say 20 (.bool false) rfl (congrArg Value.bool (decide_eq_false (by omega))) ?_
  refine At.condF rfl ?_
  refine At.skip (At.inNormal (aT (aR ?_)))
  refine aQ (q_add rfl rfl (by omega) (by omega)) rfl ?_
  refine aS 1 rfl rfl ?_
  refine aN ?_
  refine At.say 3 (.int .i64 ((catU [x, (⟨some ⟨b2, 0, none⟩, 1, [p]⟩ : Sl Pr), z] (k + 1)).length : Nat)) rfl (congrArg (Value.int .i64) (by rw [hst, List.length_append]; simp)) ?_
  refine aT ?_
  exact At.againK (k + 1) hk1 (by (try dsimp only); omega) (Tells.end 17 ⟨rfl, rfl, trivial⟩ rfl rfl) (fun _ h => h.2) r_
 ·
  obtain rfl : k = 3 := by omega
  have hl3 := hle 3 (by omega)
  refine At.exit (At.thenExit (At.thenExit (At.inHere rfl (aT (aE (aR ?_))))))
  refine aS 1 rfl rfl ?_
  refine At.call en109 rfl (grow109w _ (by omega)) (fun _ _ => trivial) (List.Perm.refl _) rfl ?_
  rintro _ _ _ ⟨a0, c0, M0, rfl, rfl, rfl, hO0⟩
  refine aS 1 rfl rfl ?_
  refine aN (aT (aE (aE (aR ?_))))
  refine aS 1 rfl rfl ?_
  refine aQ (q_len Try.underlying134 rfl) rfl ?_
  refine aS 1 rfl rfl ?_
  refine aN (aT (At.block ?_))
  refine At.loopK (ι := Nat × Option Addr × Nat × Seg) [6, 8, 27, 28, 29, 30, 31, 32, 33, 34] (fun ⟨j, a, c, M⟩ => [(27, .int .i64 (j : Int)), (6, .slice a (catU [x, (⟨some ⟨b2, 0, none⟩, 1, [p]⟩ : Sl Pr), z] j).length c)]) (fun ⟨j, a, c, M⟩ => []) (fun ⟨j, a, c, M⟩ => [M]) _ (fun ⟨j, a, c, M⟩ => j ≤ 3 ∧ Own 50 2 ((catU [x, (⟨some ⟨b2, 0, none⟩, 1, [p]⟩ : Sl Pr), z] j).map rowP) a c M) (fun ⟨j, a, c, M⟩ => 3 - j) (0, a0, c0, M0) ⟨Nat.zero_le _, hO0⟩ ⟨rfl, rfl, trivial⟩ (fun _ _ => trivial) (k_ r_) ?_
  intro i0 hI0
  obtain ⟨j, a, c, M⟩ := i0
  obtain ⟨hj2, hO⟩ := hI0
  refine aE (aR ?_)
  refine aS 1 rfl rfl ?_
  refine aN (aT (aE ?_))
  refine At.if rfl (fun hjk => ?_) (fun hjk => ?_)
  ·
   obtain ⟨z9, hz⟩ := get_of_lt (l := [x, (⟨some ⟨b2, 0, none⟩, 1, [p]⟩ : Sl Pr), z]) (i := j) (by omega)
   have hst := cat_step hz
   have hlk := hle (j + 1) (by omega)
   rw [hst, List.length_append] at hlk
   have hj1 : j + 1 ≤ 3 := by omega
   refine At.know (prsP z9) (fun _ h => allS_get h.1 hz) ?_
   refine At.skip (aT (aE (At.block (aE (aR ?_)))))
   refine aQ (q_index Try.underlying134 t31 rfl (ix 2 rfl) (by simp) rfl rfl (lt_of_get hz)) rfl ?_
   refine aQ (q_load t31 rfl (Rd.sl0 (ix 2 rfl) (map_get hz) rfl)) rfl ?_
   refine aS 1 rfl rfl ?_
   refine aN (aT (aR ?_))
   refine aS 2 rfl rfl ?_
   refine At.loud (l_appendSl rfl Try.underlying31 t50 rfl rfl hO (by simp) (i := 0) rfl (.head _) (by simp) (one_map (fun _ => rfl) _) rfl rfl (by omega) (by unfold maxLen; omega)) rfl ?_
   rintro _ _ _ ⟨a2, c2, M2, rfl, ow, rfl, rfl⟩
   refine aS 1 rfl rfl ?_
   refine aN (At.inNormal (aT (aR ?_)))
   refine aQ (q_add rfl rfl (by omega) (by omega)) rfl ?_
   refine aS 1 rfl rfl ?_
   refine aN ?_
   refine At.say 6 (.slice a2 (catU [x, (⟨some ⟨b2, 0, none⟩, 1, [p]⟩ : Sl Pr), z] (j + 1)).length c2) rfl (by rw [hst, List.length_append]) ?_
   refine aT ?_
   exact At.againK (j + 1, a2, c2, M2) ⟨hj1, by rw [hst, List.map_append]; exact ow⟩ (by (try dsimp only); omega) (Tells.end 13 ⟨rfl, rfl, trivial⟩ rfl rfl) (fun _ h => h.2) (k_ r_)
  ·
   obtain rfl : j = 3 := by omega
   refine At.freezeOwn 0 hO rfl ?_
   refine At.exit (At.thenExit (At.thenExit (At.inHere rfl (aT (aE (aR ?_))))))
   refine aS 2 rfl rfl ?_
   refine aN (aT (At.ret ?_))
   exact At.results (Γr := [prsP ⟨a, c, catU [x, (⟨some ⟨b2, 0, none⟩, 1, [p]⟩ : Sl Pr), z] 3⟩]) (M := []) rfl (RVals.cons (RVal.tmp rfl) RVals.nil) (ix 4 rfl) (fun _ h => ⟨h.1, trivial⟩) r_ ⟨⟨a, c, catU [x, (⟨some ⟨b2, 0, none⟩, 1, [p]⟩ : Sl Pr), z] 3⟩, rfl, rfl, rfl, hc2⟩
set_option maxHeartbeats 1000000 in
theorem with123 (l : Sl Pr) (p : Pr) (hr : rises l.l = true) (hl : l.l.length + 1 ≤ 8796093022208) : Con Try.prog 123 [l.val, p.val] [prsP l] [] (PairsEndF (withT l.l p)) := by
 refine Con.body 48 Try.func123 rfl Try.ntmps123 rfl fun X H₀ L₀ => ?_
 refine At.lenOf (hs := (ix 1 rfl)) fun hlen => ?_
 rw [List.length_map] at hlen
 refine aE (aR ?_)
 refine At.loud (l_box rfl) rfl ?_
 rintro _ _ _ ⟨b1, rfl, rfl, rfl⟩
 refine At.freeze 0 (φ := blk b1 _) rfl (fun _ h => blk_def.2 ⟨_, _, h⟩) ?_
 refine aS 1 rfl rfl ?_
 refine aN (aT (aE (aR ?_)))
 refine aS 1 rfl rfl ?_
 refine aN (aT (aE (At.block ?_)))
 refine At.loopK (ι := Nat) [5, 7, 8, 9, 10, 11, 12, 13, 14, 15, 16, 17, 18, 19, 20, 21, 22] (fun k => [(5, .int .i64 (k : Int))]) (fun k => []) (fun k => []) _ (fun k => k ≤ l.l.length ∧ ∀ y ∈ l.l.take k, y.k < p.k) (fun k => l.l.length - k) 0 ⟨Nat.zero_le _, by simp⟩ ⟨rfl, trivial⟩ (fun _ _ => trivial) r_ ?_
 intro k hI
 refine aE (aE ?_)
 refine At.draw 12 (.q 0 (.q 1 (.q 2 (.q 3 (.q 4 (.q 5 (.q 6 (.q 7 (.q 8 (.q 9 (.q 10 (.q 11 (.e))))))))))))) _ (List.Sublist.refl _) mixed (by kernel_rfl) rfl ?_
 refine oQ rfl (q_move rfl) rfl (cT (cT (cT (cI (cT cP))))) ?_
 refine oQ rfl (q_move rfl) rfl (cT (cT (cT (cI (cT cP))))) ?_
 refine oQ rfl (q_len Try.underlying31 rfl) rfl (cT (cT (cT (cI (cT cP))))) ?_
 refine oQ rfl (q_lss rfl rfl) rfl (cT (cT (cT (cI (cT cP))))) ?_
 refine oQ rfl (q_move rfl) rfl (cT (cT (cT (cI (cT cP))))) ?_
 refine AtO.splitP (d := 11) rfl (fun hk => ?_) (fun hk => ?_)
 ·
  obtain ⟨hk0, hno⟩ := hI
  obtain ⟨x, hx⟩ := get_of_lt (l := l.l) (i := k) (by omega)
  refine oG rfl rfl rfl (q_move rfl) rfl (cT (cT (cT (cI (cT cP))))) ?_
  refine oG rfl rfl rfl (q_move rfl) rfl (cT (cT (cT (cI (cT cP))))) ?_
  refine oG rfl rfl rfl (q_index Try.underlying31 t50 rfl (ix 2 rfl) (by simp) rfl rfl (lt_of_get hx)) rfl (cT (cT (cT (cI (cT cP))))) ?_
  refine oG rfl rfl rfl (q_fieldAddr s50 rfl rfl rfl) rfl (cT (cT (cT (cI (cT cP))))) ?_
  refine oG rfl rfl rfl (q_load t3 rfl (Rd.sl (ix 2 rfl) (map_get hx) rfl)) rfl (cT (cT (cT (cI (cT cP))))) ?_
  refine oG rfl rfl rfl (q_fieldAddr s50 rfl rfl rfl) rfl (cT (cT (cT (cI (cT cP))))) ?_
  refine oG rfl rfl rfl (q_load t3 rfl (Rd.blk (.head _) rfl)) rfl (cT (cT (cT (cI (cT cP))))) ?_
  refine AtO.done ?_
  refine aS 2 rfl rfl ?_
  refine aN (aT ?_)
  refine At.if rfl (fun hlt => ?_) (fun hlt => ?_)
  ·
   refine At.skip (aT (At.block (aR ?_)))
   refine aS 1 rfl rfl ?_
   refine aQ (q_add rfl rfl (by omega) (by omega)) rfl ?_
   refine aS 1 rfl rfl ?_
   refine aN (At.inNormal (aT ?_))
   exact At.againK (k + 1) ⟨lt_of_get hx, take_lt hx hlt hno⟩ (by (try dsimp only); omega) (Tells.end 19 ⟨rfl, trivial⟩ rfl rfl) (fun _ h => h) r_
  ·
   have hge : ∀ y, l.l[k]? = some y → p.k ≤ y.k := fun y hy => by rw [hx] at hy; cases hy; omega
   have hx0 : (l.l.drop k)[0]? = some x := by rw [List.getElem?_drop]; exact hx
   have hk1 := lt_of_get hx
   refine At.exit (At.thenExit (At.thenExit (At.inHere rfl (aT (aE (aR ?_))))))
   refine At.lenOf (hs := (ix 2 rfl)) fun hlen2 => ?_
   rw [List.length_map] at hlen2
   refine At.capOf (hs := (ix 2 rfl)) fun hcap => ?_
   rw [List.length_map] at hcap
   refine At.know (prsP (⟨subA l.a l.c 2 k, l.c - k, l.l.drop k⟩ : Sl Pr)) (fun _ h => prs_drop h.2.2.1 (by omega)) ?_
   refine aS 2 rfl rfl ?_
   refine aQ (q_sliceLo Try.underlying31 t50 rfl rfl rfl (by omega)) rfl ?_
   refine At.say 25 (Sl.val (⟨subA l.a l.c 2 k, l.c - k, l.l.drop k⟩ : Sl Pr)) rfl (drop_val.symm) ?_
   refine aS 1 rfl rfl ?_
   refine aN (aT (aE (aE ?_)))
   refine At.draw 10 (.q 0 (.q 1 (.q 2 (.q 3 (.q 4 (.q 5 (.q 6 (.q 7 (.q 8 (.q 9 (.e))))))))))) _ (List.Sublist.refl _) mixed (by kernel_rfl) rfl ?_
   refine oQ rfl (q_move rfl) rfl (cT (cT cP)) ?_
   refine oQ rfl (q_len Try.underlying31 rfl) rfl (cT (cT cP)) ?_
   refine oQ rfl (q_gtr rfl rfl) rfl (cT (cT cP)) ?_
   refine oQ rfl (q_move rfl) rfl (cT (cT cP)) ?_
   refine AtO.say 29 (.bool true) rfl (congrArg Value.bool (decide_eq_true (by simp; omega))) ?_
   refine oG rfl rfl rfl (q_move rfl) rfl (cT (cT cP)) ?_
   refine oG rfl rfl rfl (q_index Try.underlying31 t50 rfl (.head _) (by simp) rfl rfl (lt_of_get hx0)) rfl (cT (cT cP)) ?_
   refine oG rfl rfl rfl (q_fieldAddr s50 rfl rfl rfl) rfl (cT (cT cP)) ?_
   refine oG rfl rfl rfl (q_load t3 rfl (Rd.sl (.head _) (map_get hx0) rfl)) rfl (cT (cT cP)) ?_
   refine oG rfl rfl rfl (q_fieldAddr s50 rfl rfl rfl) rfl (cT (cT cP)) ?_
   refine oG rfl rfl rfl (q_load t3 rfl (Rd.blk (ix 1 rfl) rfl)) rfl (cT (cT cP)) ?_
   refine AtO.done ?_
   refine aS 2 rfl rfl ?_
   refine aN (aT ?_)
   refine At.if rfl (fun heq => ?_) (fun heq => ?_)
   ·
    refine At.know (prsP (⟨subA (subA l.a l.c 2 k) (l.c - k) 2 1, l.c - k - 1, (l.l.drop k).drop 1⟩ : Sl Pr)) (fun _ h => prs_drop (s := (⟨subA l.a l.c 2 k, l.c - k, l.l.drop k⟩ : Sl Pr)) h.1 (by simp; omega)) ?_
    refine aR ?_
    refine aS 1 rfl rfl ?_
    refine aQ (q_sliceLo Try.underlying31 t50 rfl rfl (l := 1) rfl (by simp; omega)) rfl ?_
    refine At.say 39 (Sl.val (⟨subA (subA l.a l.c 2 k) (l.c - k) 2 1, l.c - k - 1, (l.l.drop k).drop 1⟩ : Sl Pr)) rfl ((drop_val (s := (⟨subA l.a l.c 2 k, l.c - k, l.l.drop k⟩ : Sl Pr))).symm) ?_
    refine aS 1 rfl rfl ?_
    refine aN (aT (aE ?_))
    refine At.know (prsP (⟨subA l.a l.c 2 0, l.c, l.l.take k⟩ : Sl Pr)) (fun _ h => prs_take h.2.2.2.2.1 (by omega)) ?_
    refine At.draw 6 (.q 0 (.q 1 (.q 2 (.q 3 (.q 5 (.o 4 (.e))))))) _ (List.Sublist.refl _) mixed (by kernel_rfl) rfl ?_
    refine oQ rfl (q_move rfl) rfl (cT cP) ?_
    refine oQ rfl (q_move rfl) rfl (cT cP) ?_
    refine oQ rfl (q_sliceHi Try.underlying31 t50 rfl rfl (h := k) rfl (by omega)) rfl (cT cP) ?_
    refine AtO.say 42 (Sl.val (⟨subA l.a l.c 2 0, l.c, l.l.take k⟩ : Sl Pr)) rfl ((take_val (by omega)).symm) ?_
    refine oQ rfl (q_loadS t50 rfl (RdS.blk (ix 3 rfl) (m := 2) rfl) rfl) rfl (cT cP) ?_
    refine oQ rfl (q_move rfl) rfl (cT cP) ?_
    refine AtO.loudA rfl (l_buildSlice Try.underlying31 t50 rfl rfl rfl rfl rfl) rfl (by rintro _ _ _ ⟨_, rfl, rfl, rfl⟩; exact ⟨fun _ h => h, d_ r_⟩) ?_
    rintro _ _ _ ⟨b2, rfl, rfl, rfl⟩
    refine AtO.done ?_
    refine At.loud (l_buildSlice Try.underlying134 t31 rfl rfl rfl rfl rfl) rfl ?_
    rintro _ _ _ ⟨b3, rfl, rfl, rfl⟩
    refine At.front 1 rfl ?_
    refine At.front 1 rfl ?_
    refine At.call en85 rfl (concat85w3 (⟨subA l.a l.c 2 0, l.c, l.l.take k⟩ : Sl Pr) (⟨subA (subA l.a l.c 2 k) (l.c - k) 2 1, l.c - k - 1, (l.l.drop k).drop 1⟩ : Sl Pr) p _ _ (by simp; omega)) (fun _ h => ⟨h.1, h.2.1, trivial⟩) (List.Perm.refl _) rfl ?_
    rintro _ _ _ ⟨u, rfl, rfl, rfl, hul⟩
    refine aS 1 rfl rfl ?_
    refine aN (aT (At.ret ?_))
    exact At.results (Γr := [_]) (M := []) rfl (RVals.cons (RVal.tmp rfl) RVals.nil) (ix 5 rfl) (fun _ h => ⟨h.1, trivial⟩) r_ ⟨u, rfl, rfl, rfl, by rw [hul]; exact with_cat hr hno hge (by simp only [hx]; rw [if_pos heq])⟩
   ·
    refine At.skip (aT (aE ?_))
    refine At.know (prsP (⟨subA l.a l.c 2 0, l.c, l.l.take k⟩ : Sl Pr)) (fun _ h => prs_take h.2.2.2.1 (by omega)) ?_
    refine At.draw 6 (.q 0 (.q 1 (.q 2 (.q 3 (.q 5 (.o 4 (.e))))))) _ (List.Sublist.refl _) mixed (by kernel_rfl) rfl ?_
    refine oQ rfl (q_move rfl) rfl (cT cP) ?_
    refine oQ rfl (q_move rfl) rfl (cT cP) ?_
    refine oQ rfl (q_sliceHi Try.underlying31 t50 rfl rfl (h := k) rfl (by omega)) rfl (cT cP) ?_
    refine AtO.say 42 (Sl.val (⟨subA l.a l.c 2 0, l.c, l.l.take k⟩ : Sl Pr)) rfl ((take_val (by omega)).symm) ?_
    refine oQ rfl (q_loadS t50 rfl (RdS.blk (ix 2 rfl) (m := 2) rfl) rfl) rfl (cT cP) ?_
    refine oQ rfl (q_move rfl) rfl (cT cP) ?_
    refine AtO.loudA rfl (l_buildSlice Try.underlying31 t50 rfl rfl rfl rfl rfl) rfl (by rintro _ _ _ ⟨_, rfl, rfl, rfl⟩; exact ⟨fun _ h => h, d_ r_⟩) ?_
    rintro _ _ _ ⟨b4, rfl, rfl, rfl⟩
    refine AtO.done ?_
    refine At.loud (l_buildSlice Try.underlying134 t31 rfl rfl rfl rfl rfl) rfl ?_
    rintro _ _ _ ⟨b5, rfl, rfl, rfl⟩
    refine At.front 1 rfl ?_
    refine At.front 1 rfl ?_
    refine At.call en85 rfl (concat85w3 (⟨subA l.a l.c 2 0, l.c, l.l.take k⟩ : Sl Pr) (⟨subA l.a l.c 2 k, l.c - k, l.l.drop k⟩ : Sl Pr) p _ _ (by simp; omega)) (fun _ h => ⟨h.1, h.2.1, trivial⟩) (List.Perm.refl _) rfl ?_
    rintro _ _ _ ⟨u, rfl, rfl, rfl, hul⟩
    refine aS 1 rfl rfl ?_
    refine aN (aT (At.ret ?_))
    exact At.results (Γr := [_]) (M := []) rfl (RVals.cons (RVal.tmp rfl) RVals.nil) (ix 4 rfl) (fun _ h => ⟨h.1, trivial⟩) r_ ⟨u, rfl, rfl, rfl, by rw [hul]; exact with_cat hr hno hge (by simp only [hx]; rw [if_neg heq])⟩
 ·
  obtain ⟨hk0, hno⟩ := hI
  have hkl : k = l.l.length := by omega
  have hge : ∀ y, l.l[k]? = some y → p.k ≤ y.k := fun y hy => by have := lt_of_get hy; omega
  refine AtO.shut rfl rfl rfl rfl (cT (cT (cT (cI (cT cP))))) ?_
  refine AtO.shut rfl rfl rfl rfl (cT (cT (cT (cI (cT cP))))) ?_
  refine AtO.shut rfl rfl rfl rfl (cT (cT (cT (cI (cT cP))))) ?_
  refine AtO.shut rfl rfl rfl rfl (cT (cT (cT (cI (cT cP))))) ?_
  refine AtO.shut rfl rfl rfl rfl (cT (cT (cT (cI (cT cP))))) ?_
  refine AtO.shut rfl rfl rfl rfl (cT (cT (cT (cI (cT cP))))) ?_
  refine AtO.shut rfl rfl rfl rfl (cT (cT (cT (cI (cT cP))))) ?_
  refine AtO.done ?_
  refine aS 2 rfl rfl ?_
  refine aN (aT ?_)
  refine At.condF rfl ?_
  refine At.exit (At.thenExit (At.thenExit (At.inHere rfl (aT (aE (aR ?_))))))
  refine At.lenOf (hs := (ix 2 rfl)) fun hlen2 => ?_
  rw [List.length_map] at hlen2
  refine At.capOf (hs := (ix 2 rfl)) fun hcap => ?_
  rw [List.length_map] at hcap
  refine At.know (prsP (⟨subA l.a l.c 2 k, l.c - k, l.l.drop k⟩ : Sl Pr)) (fun _ h => prs_drop h.2.2.1 (by omega)) ?_
  refine aS 2 rfl rfl ?_
  refine aQ (q_sliceLo Try.underlying31 t50 rfl rfl rfl (by omega)) rfl ?_
  refine At.say 25 (Sl.val (⟨subA l.a l.c 2 k, l.c - k, l.l.drop k⟩ : Sl Pr)) rfl (drop_val.symm) ?_
  refine aS 1 rfl rfl ?_
  refine aN (aT (aE (aE ?_)))
  refine At.draw 10 (.q 0 (.q 1 (.q 2 (.q 3 (.q 4 (.q 5 (.q 6 (.q 7 (.q 8 (.q 9 (.e))))))))))) _ (List.Sublist.refl _) mixed (by kernel_rfl) rfl ?_
  refine oQ rfl (q_move rfl) rfl (cT (cT cP)) ?_
  refine oQ rfl (q_len Try.underlying31 rfl) rfl (cT (cT cP)) ?_
  refine oQ rfl (q_gtr rfl rfl) rfl (cT (cT cP)) ?_
  refine oQ rfl (q_move rfl) rfl (cT (cT cP)) ?_
  refine AtO.say 29 (.bool false) rfl (congrArg Value.bool (decide_eq_false (by simp; omega))) ?_
  refine AtO.shut rfl rfl rfl rfl (cT (cT cP)) ?_
  refine AtO.shut rfl rfl rfl rfl (cT (cT cP)) ?_
  refine AtO.shut rfl rfl rfl rfl (cT (cT cP)) ?_
  refine AtO.shut rfl rfl rfl rfl (cT (cT cP)) ?_
  refine AtO.shut rfl rfl rfl rfl (cT (cT cP)) ?_
  refine AtO.shut rfl rfl rfl rfl (cT (cT cP)) ?_
  refine AtO.done ?_
  refine aS 2 rfl rfl ?_
  refine aN (aT ?_)
  refine At.condF rfl ?_
  refine At.skip (aT (aE ?_))
  refine At.know (prsP (⟨subA l.a l.c 2 0, l.c, l.l.take k⟩ : Sl Pr)) (fun _ h => prs_take h.2.2.2.1 (by omega)) ?_
  refine At.draw 6 (.q 0 (.q 1 (.q 2 (.q 3 (.q 5 (.o 4 (.e))))))) _ (List.Sublist.refl _) mixed (by kernel_rfl) rfl ?_
  refine oQ rfl (q_move rfl) rfl (cT cP) ?_
  refine oQ rfl (q_move rfl) rfl (cT cP) ?_
  refine oQ rfl (q_sliceHi Try.underlying31 t50 rfl rfl (h := k) rfl (by omega)) rfl (cT cP) ?_
  refine AtO.say 42 (Sl.val (⟨subA l.a l.c 2 0, l.c, l.l.take k⟩ : Sl Pr)) rfl ((take_val (by omega)).symm) ?_
  refine oQ rfl (q_loadS t50 rfl (RdS.blk (ix 2 rfl) (m := 2) rfl) rfl) rfl (cT cP) ?_
  refine oQ rfl (q_move rfl) rfl (cT cP) ?_
  refine AtO.loudA rfl (l_buildSlice Try.underlying31 t50 rfl rfl rfl rfl rfl) rfl (by rintro _ _ _ ⟨_, rfl, rfl, rfl⟩; exact ⟨fun _ h => h, d_ r_⟩) ?_
  rintro _ _ _ ⟨b6, rfl, rfl, rfl⟩
  refine AtO.done ?_
  refine At.loud (l_buildSlice Try.underlying134 t31 rfl rfl rfl rfl rfl) rfl ?_
  rintro _ _ _ ⟨b7, rfl, rfl, rfl⟩
  refine At.front 1 rfl ?_
  refine At.front 1 rfl ?_
  refine At.call en85 rfl (concat85w3 (⟨subA l.a l.c 2 0, l.c, l.l.take k⟩ : Sl Pr) (⟨subA l.a l.c 2 k, l.c - k, l.l.drop k⟩ : Sl Pr) p _ _ (by simp; omega)) (fun _ h => ⟨h.1, h.2.1, trivial⟩) (List.Perm.refl _) rfl ?_
  rintro _ _ _ ⟨u, rfl, rfl, rfl, hul⟩
  refine aS 1 rfl rfl ?_
  refine aN (aT (At.ret ?_))
  exact At.results (Γr := [_]) (M := []) rfl (RVals.cons (RVal.tmp rfl) RVals.nil) (ix 4 rfl) (fun _ h => ⟨h.1, trivial⟩) r_ ⟨u, rfl, rfl, rfl, by rw [hul]; exact with_cat hr hno hge (by rw [List.getElem?_eq_none (by omega)])⟩
end Go.Proofs.Ytmkodknmknfdkaa
