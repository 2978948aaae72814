/- Plain laws: a leaf split; what is split and joined again. -/
import Derived.Test.YtmkodknmknfdkaaP15
set_option linter.unusedVariables false
set_option linter.unusedSimpArgs false
namespace Go.Proofs.Ytmkodknmknfdkaa
open E

theorem flat_congr {f g : Nat → List Pr} : ∀ {l : List Nat}, (∀ p ∈ l, f p = g p) → l.flatMap f = l.flatMap g
  | [], _ => rfl
  | x :: l, h => by
    rw [List.flatMap_cons, List.flatMap_cons, h x (by simp), flat_congr fun p hp => h p (by simp [hp])]
def Sh.split (i N : Nat) : Sh → Sh
  | .leaf j => if j = i then .node i (.leaf N) (.leaf (N + 1)) else .leaf j
  | .node j l r => .node j (l.split i N) (r.split i N)
theorem split_out {s : Sh} {i N : Nat} (h : i ∉ s.places) : s.split i N = s := by
  induction s with
  | leaf j => simp only [Sh.split]; rw [if_neg (fun e => h (by rw [e]; simp [Sh.places]))]
  | node j l r h1 h2 =>
    simp only [Sh.places, List.mem_cons, List.mem_append, not_or] at h
    simp only [Sh.split, h1 h.2.1, h2 h.2.2]
theorem split_at (s : Sh) (i N : Nat) : (s.split i N).at_ = s.at_ := by
  cases s with
  | leaf j =>
    simp only [Sh.split]
    split
    · rename_i e; subst e; rfl
    · rfl
  | node j l r => rfl
def spN (n : Nod) (N : Nat) : Nod := ⟨true, (n.l.getD (n.l.length / 2) default).k, (N : Int), (N : Int) + 1, [], 0⟩
def spA (n : Nod) : Nod := ⟨false, 0, 0, 0, n.l.take (n.l.length / 2), 0⟩
def spB (n : Nod) : Nod := ⟨false, 0, 0, 0, n.l.drop (n.l.length / 2), 0⟩
def spNs (ns : List Nod) (i : Nat) (n : Nod) : List Nod := ns.set i (spN n ns.length) ++ [spA n, spB n]
theorem splitRaw_eq (t : PT) (i : Nat) (n : Nod) : splitRaw t i n = ⟨t.root, spNs t.ns i n⟩ := rfl
theorem sp_old {ns : List Nod} {i p : Nat} {n : Nod} (hp : p < ns.length) (hne : p ≠ i) : (spNs ns i n)[p]? = ns[p]? := by
  rw [spNs, List.getElem?_append_left (by simpa using hp), List.getElem?_set_ne (Ne.symm hne)]
theorem sp_at {ns : List Nod} {i : Nat} {n : Nod} (hi : i < ns.length) : (spNs ns i n)[i]? = some (spN n ns.length) := by
  rw [spNs, List.getElem?_append_left (by simpa using hi), List.getElem?_set_self hi]
theorem sp_a {ns : List Nod} {i : Nat} {n : Nod} : (spNs ns i n)[ns.length]? = some (spA n) := by
  rw [spNs, List.getElem?_append_right (by simp)]
  simp
theorem sp_b {ns : List Nod} {i : Nat} {n : Nod} : (spNs ns i n)[ns.length + 1]? = some (spB n) := by
  rw [spNs, List.getElem?_append_right (by simp)]
  simp
theorem sp_leaf {n : Nod} {k : Kb} (h : leafOk n k = true) (h2 : 2 ≤ n.l.length) (N : Nat) : routeOk (spN n N) k = true ∧ leafOk (spA n) (k.lefts (spN n N).key) = true ∧ leafOk (spB n) (k.rights (spN n N).key) = true := by
  rw [leafOk_parts] at h
  obtain ⟨_, _, _, hr, _, _, hp⟩ := h
  have hpw := rises_pw.1 hr
  obtain ⟨z, hz⟩ := get_of_lt (l := n.l) (i := n.l.length / 2) (by omega)
  have hzk : (spN n N).key = z.k := by simp only [spN]; rw [List.getD_eq_getElem?_getD, hz]; rfl
  have hzm := List.mem_of_getElem? hz
  have hzh := hp z hzm
  have lt1 : ∀ p ∈ n.l.take (n.l.length / 2), p.k < z.k := fun p hpm => by
    obtain ⟨j, hj⟩ := List.mem_iff_getElem?.1 hpm
    rw [List.getElem?_take] at hj
    split at hj
    · exact rises_lt hr j (n.l.length / 2) p z (by assumption) hj hz
    · cases hj
  have le2 : ∀ p ∈ n.l.drop (n.l.length / 2), z.k ≤ p.k := fun p hpm => by
    obtain ⟨j, hj⟩ := List.mem_iff_getElem?.1 hpm
    rw [List.getElem?_drop] at hj
    rcases Nat.eq_zero_or_pos j with rfl | hj0
    · rw [Nat.add_zero, hz] at hj; cases hj; omega
    · have := rises_lt hr (n.l.length / 2) (n.l.length / 2 + j) z p (by omega) hz hj
      omega
  refine ⟨routeOk_mk rfl rfl (by rw [hzk]; exact hzh) ?_, ?_, ?_⟩
  · rintro ⟨a, b⟩
    rw [hzk] at b
    obtain ⟨y, hy⟩ := get_of_lt (l := n.l) (i := 0) (by omega)
    have h1 := rises_lt hr 0 (n.l.length / 2) y z (by omega) hy hz
    have h3 := (has_iff.1 (hp y (List.mem_of_getElem? hy))).1 a
    omega
  · rw [leafOk_parts]
    refine ⟨rfl, rfl, rfl, rises_pw.2 (hpw.sublist (List.take_sublist _ _)), by show (-1000000 : Int) ≤ 0; decide, by show (0 : Int) ≤ 1000000; decide, fun p hpm => ?_⟩
    rw [hzk]
    exact (has_lefts hzh).2 ⟨hp p (List.mem_of_mem_take hpm), lt1 p hpm⟩
  · rw [leafOk_parts]
    refine ⟨rfl, rfl, rfl, rises_pw.2 (hpw.sublist (List.drop_sublist _ _)), by show (-1000000 : Int) ≤ 0; decide, by show (0 : Int) ≤ 1000000; decide, fun p hpm => ?_⟩
    rw [hzk]
    exact (has_rights hzh).2 ⟨hp p (List.mem_of_mem_drop hpm), le2 p hpm⟩
theorem split_fits {ns : List Nod} {s : Sh} {a : Int} {k : Kb} {i : Nat} {n : Nod} (h : Fits ns s a k) (hnd : s.places.Nodup) (hi : i ∈ s.leaves) (hn : ns[i]? = some n) (h2 : 2 ≤ n.l.length) :
    Fits (spNs ns i n) (s.split i ns.length) a k ∧ (s.split i ns.length).leaves.length = s.leaves.length + 1 ∧ (s.split i ns.length).size = s.size + 2 ∧
      ((s.split i ns.length).leaves.flatMap fun j => ((spNs ns i n).getD j default).l) = (s.leaves.flatMap fun j => (ns.getD j default).l) ∧
      (∀ p, p ∈ (s.split i ns.length).places ↔ p ∈ s.places ∨ p = ns.length ∨ p = ns.length + 1) ∧ (s.split i ns.length).places.Nodup ∧ ns.length ∈ (s.split i ns.length).leaves := by
  induction s generalizing a k with
  | leaf j =>
    obtain ⟨rfl, x, hx, hxr, hxk⟩ := h
    simp [Sh.leaves] at hi
    subst hi
    rw [hn] at hx
    cases hx
    have hil := lt_of_get hn
    obtain ⟨g1, g2, g3⟩ := sp_leaf hxk h2 ns.length
    simp only [Sh.split, if_true]
    refine ⟨⟨rfl, _, sp_at hil, rfl, g1, ⟨rfl, _, sp_a, rfl, g2⟩, ⟨by show ((ns.length : Int) + 1) = ((ns.length + 1 : Nat) : Int); omega, _, sp_b, rfl, g3⟩⟩, rfl, rfl, ?_, ?_, ?_, by simp [Sh.leaves]⟩
    · simp only [Sh.leaves, List.flatMap_append, List.flatMap_cons, List.flatMap_nil, List.append_nil, getD_of sp_a, getD_of sp_b, getD_of hn, spA, spB]
      exact List.take_append_drop _ _
    · intro p; simp [Sh.places]
    · simp [Sh.places]; omega
  | node j l r h1 h2' =>
    have hall : Fits ns (.node j l r) a k := h
    obtain ⟨rfl, x, hx, hxr, hxk, hl, hrr⟩ := h
    obtain ⟨c1, c2, d1, d2, d3⟩ := nodup_node hnd
    have hjl := lt_of_get hx
    rcases List.mem_append.1 hi with hi' | hi'
    · obtain ⟨g1, g2, g3, g4, g5, g6, g7⟩ := h1 hl d1 hi'
      have him := leaves_places i hi'
      have hij : i ≠ j := fun e => c1 (e ▸ him)
      have hir : i ∉ r.places := d3 i him
      have ho : r.split i ns.length = r := split_out hir
      have hor : ∀ p ∈ r.places, (spNs ns i n)[p]? = ns[p]? := fun p hp => sp_old (hrr.lt p hp) (fun e => hir (e ▸ hp))
      simp only [Sh.split, ho]
      refine ⟨⟨rfl, x, by rw [sp_old hjl (Ne.symm hij)]; exact hx, hxr, hxk, g1, fits_congr hrr hor⟩, by simp only [Sh.leaves, List.length_append]; omega, by simp only [Sh.size]; omega, ?_, ?_, ?_, by simp [Sh.leaves, g7]⟩
      · simp only [Sh.leaves, List.flatMap_append, g4]
        congr 1
        refine flat_congr fun p hp => ?_
        rw [List.getD_eq_getElem?_getD, List.getD_eq_getElem?_getD, hor p (leaves_places p hp)]
      · intro p
        simp only [Sh.places, List.mem_cons, List.mem_append, g5]
        constructor
        · rintro (h | (h | h | h) | h) <;> simp [h]
        · rintro ((h | h | h) | h | h) <;> simp [h]
      · simp only [Sh.places, List.nodup_cons, List.mem_append, List.nodup_append, g5]
        refine ⟨?_, g6, d2, ?_⟩
        · rintro ((h | h | h) | h)
          · exact c1 h
          · omega
          · omega
          · exact c2 h
        · intro p hp p' hp' e
          subst e
          have := hrr.lt p hp'
          rcases hp with h | h | h
          · exact d3 p h hp'
          · omega
          · omega
    · obtain ⟨g1, g2, g3, g4, g5, g6, g7⟩ := h2' hrr d2 hi'
      have him := leaves_places i hi'
      have hij : i ≠ j := fun e => c2 (e ▸ him)
      have hil : i ∉ l.places := fun h3 => d3 i h3 him
      have ho : l.split i ns.length = l := split_out hil
      have hol : ∀ p ∈ l.places, (spNs ns i n)[p]? = ns[p]? := fun p hp => sp_old (hl.lt p hp) (fun e => hil (e ▸ hp))
      simp only [Sh.split, ho]
      refine ⟨⟨rfl, x, by rw [sp_old hjl (Ne.symm hij)]; exact hx, hxr, hxk, fits_congr hl hol, g1⟩, by simp only [Sh.leaves, List.length_append]; omega, by simp only [Sh.size]; omega, ?_, ?_, ?_, by simp [Sh.leaves, g7]⟩
      · simp only [Sh.leaves, List.flatMap_append, g4]
        congr 1
        refine flat_congr fun p hp => ?_
        rw [List.getD_eq_getElem?_getD, List.getD_eq_getElem?_getD, hol p (leaves_places p hp)]
      · intro p
        simp only [Sh.places, List.mem_cons, List.mem_append, g5]
        constructor
        · rintro (h | h | h | h | h) <;> simp [h]
        · rintro ((h | h | h) | h | h) <;> simp [h]
      · simp only [Sh.places, List.nodup_cons, List.mem_append, List.nodup_append, g5]
        refine ⟨?_, d1, g6, ?_⟩
        · rintro (h | h | h | h)
          · exact c1 h
          · exact c2 h
          · omega
          · omega
        · intro p hp p' hp' e
          subst e
          have := hl.lt p hp
          rcases hp' with h | h | h
          · exact d3 p hp h
          · omega
          · omega
/-- What 'split' tells. -/
theorem split_yes {t u : PT} {a : Int} (h : splitT t a = some u) : ∃ (s : Sh) (i : Nat) (n : Nod), mayT t = some s ∧ a = (i : Int) ∧ i ∈ leavesT t ∧ t.ns[i]? = some n ∧ n.route = false ∧ 2 ≤ n.l.length ∧ mayT (splitRaw t i n) = some (s.split i t.ns.length) ∧ u = plainD (splitRaw t i n) := by
  cases hl : leafT t a
  · rw [split_no hl] at h; cases h
  · obtain ⟨s, i, n, hs, rfl, hn, hr⟩ := leaf_yes hl
    have h1 : ¬ n.l.length < 2 := fun e => by rw [split_few hn e] at h; cases h
    have h2 : ¬ 2000 < t.ns.length + 2 := fun e => by rw [split_big e] at h; cases h
    rw [split_raw hl hn h1 h2] at h
    have hi : i ∈ s.leaves := by
      have hip := (good_of hs).all i (lt_of_get hn)
      have : ∀ {s : Sh} {a : Int} {k : Kb}, Fits t.ns s a k → i ∈ s.places → i ∈ s.leaves := by
        intro s
        induction s with
        | leaf j => intro a k _ hi; simpa [Sh.places, Sh.leaves] using hi
        | node j l r g1 g2 =>
          intro a k hf hi
          obtain ⟨_, x, hx, hxr, _, hfl, hfr⟩ := hf
          simp only [Sh.places, List.mem_cons, List.mem_append] at hi
          simp only [Sh.leaves, List.mem_append]
          rcases hi with rfl | hi | hi
          · rw [hn] at hx; cases hx; rw [hr] at hxr; cases hxr
          · exact .inl (g1 hfl hi)
          · exact .inr (g2 hfr hi)
      exact this (may_fits hs) hip
    obtain ⟨g1, g2, g3, g4, g5, g6, _⟩ := split_fits (may_fits hs) (good_of hs).nodup hi hn (by omega)
    have hm : mayT (splitRaw t i n) = some (s.split i t.ns.length) := by
      rw [splitRaw_eq]
      refine may_of_fits (by simp [spNs]; omega) g1 g6 fun p hp => ?_
      rw [g5]
      simp [spNs] at hp
      rcases Nat.lt_or_ge p t.ns.length with h3 | h3
      · exact .inl ((good_of hs).all p h3)
      · omega
    refine ⟨s, i, n, hs, rfl, by rw [leavesT_eq hs]; exact hi, hn, hr, by omega, hm, ?_⟩
    unfold plainT at h
    rw [hm] at h
    rw [(plain_may hm).1]
    exact (Option.some.inj h).symm
theorem split_keeps {t u : PT} {a : Int} (h : splitT t a = some u) : (mayT u).isSome = true ∧ (leavesT u).length = (leavesT t).length + 1 ∧ allT u = allT t ∧ plainD u = u := by
  obtain ⟨s, i, n, hs, rfl, hi, hn, hr, h2, hm, rfl⟩ := split_yes h
  obtain ⟨p1, p2, p3⟩ := plain_may hm
  rw [leavesT_eq hs] at hi
  obtain ⟨g1, g2, g3, g4, _⟩ := split_fits (may_fits hs) (good_of hs).nodup hi hn h2
  refine ⟨by rw [p2]; rfl, ?_, ?_, p3⟩
  · rw [leavesT_eq p2, straight_leaves, leavesT_eq hs]; exact g2
  · rw [all_plain, p3, ← all_plain]
    unfold allT
    rw [leavesT_eq hm, leavesT_eq hs]
    exact g4
/-- A tree of few pairs has few in each leaf. -/
theorem small_all {u : Tr} {b : Nat} (hm : (mayT u.p).isSome = true) (h : (allT u.p).length ≤ b) (hb : b ≤ 1000000) : smallP u.ns.l := fun n hn => by
  obtain ⟨s, hs⟩ := Option.isSome_iff_exists.1 hm
  have h1 := all_pairs hs
  obtain ⟨j, hj⟩ := List.mem_iff_getElem?.1 hn
  have hjp : u.p.ns[j]? = some n.p := map_get hj
  have h2 := pairs_step hjp
  have h3 := pairs_mono u.p.ns (j + 1)
  have h4 : n.p.l.length = n.ps.l.length := rfl
  omega
end Go.Proofs.Ytmkodknmknfdkaa
