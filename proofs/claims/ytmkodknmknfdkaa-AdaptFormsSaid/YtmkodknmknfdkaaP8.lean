/- Plain laws of trees: the leaf of a key is the only one that may hold it. -/
import Derived.Test.YtmkodknmknfdkaaP7
import Derived.Test.YtmkodknmknfdkaaP5
import Derived.Test.YtmkodknmknfdkaaP4
set_option linter.unusedVariables false
set_option linter.unusedSimpArgs false
namespace Go.Proofs.Ytmkodknmknfdkaa
open E

/-! ### What bounds a leaf -/
def Sh.bd (ns : List Nod) : Sh → Kb → Nat → Kb
  | .leaf _, k, _ => k
  | .node j l r, k, i => if l.places.contains i then l.bd ns (k.lefts (ns.getD j default).key) i else r.bd ns (k.rights (ns.getD j default).key) i
theorem getD_of {ns : List Nod} {i : Nat} {n : Nod} (h : ns[i]? = some n) : ns.getD i default = n := by rw [List.getD_eq_getElem?_getD, h]; rfl
theorem nodup_node {j : Nat} {l r : Sh} (h : (Sh.node j l r).places.Nodup) : j ∉ l.places ∧ j ∉ r.places ∧ l.places.Nodup ∧ r.places.Nodup ∧ ∀ i ∈ l.places, i ∉ r.places := by
  simp only [Sh.places, List.nodup_cons, List.mem_append, List.nodup_append] at h
  obtain ⟨h1, h2, h3, h4⟩ := h
  exact ⟨fun h => h1 (.inl h), fun h => h1 (.inr h), h2, h3, fun i hi hj => h4 i hi i hj rfl⟩
theorem fits_leaf {ns : List Nod} {s : Sh} {a : Int} {k : Kb} {i : Nat} (h : Fits ns s a k) (hn : s.places.Nodup) (hi : i ∈ s.leaves) : ∃ n, ns[i]? = some n ∧ n.route = false ∧ leafOk n (s.bd ns k i) = true := by
  induction s generalizing a k with
  | leaf j =>
    obtain ⟨rfl, n, h1, h2, h3⟩ := h
    simp [Sh.leaves] at hi
    subst hi
    exact ⟨n, h1, h2, h3⟩
  | node j l r h1 h2 =>
    obtain ⟨rfl, n, hj, hr, hk, hl, hr'⟩ := h
    obtain ⟨_, _, d1, d2, d3⟩ := nodup_node hn
    simp only [Sh.bd, getD_of hj]
    rcases List.mem_append.1 hi with h' | h'
    · rw [if_pos (by simpa using leaves_places i h')]
      exact h1 hl d1 h'
    · rw [if_neg (by simpa using fun h3 => d3 i h3 (leaves_places i h'))]
      exact h2 hr' d2 h'
theorem bd_sub {ns : List Nod} {s : Sh} {a : Int} {k : Kb} {i : Nat} {x : Int} (h : Fits ns s a k) (hx : (s.bd ns k i).has x = true) : k.has x = true := by
  induction s generalizing a k with
  | leaf j => exact hx
  | node j l r h1 h2 =>
    obtain ⟨rfl, n, hj, hr, hk, hl, hr'⟩ := h
    obtain ⟨_, _, hh, _⟩ := routeOk_parts hk
    simp only [Sh.bd, getD_of hj] at hx
    split at hx
    · exact ((has_lefts hh).1 (h1 hl hx)).1
    · exact ((has_rights hh).1 (h2 hr' hx)).1
theorem find_leaf {ns : List Nod} {s : Sh} {key : Int} : (s.find ns key).leaf ∈ s.leaves := by
  induction s with
  | leaf j => simp [Sh.find, Sh.leaves]
  | node j l r h1 h2 =>
    simp only [Sh.find, Sh.leaves, List.mem_append]
    split
    · exact .inl h1
    · exact .inr h2
theorem find_iff {ns : List Nod} {s : Sh} {a : Int} {k : Kb} {i : Nat} {key : Int} (h : Fits ns s a k) (hn : s.places.Nodup) (hi : i ∈ s.leaves) (hk : k.has key = true) : (s.find ns key).leaf = i ↔ (s.bd ns k i).has key = true := by
  induction s generalizing a k with
  | leaf j =>
    simp [Sh.leaves] at hi
    subst hi
    simp [Sh.find, Sh.bd, hk]
  | node j l r h1 h2 =>
    obtain ⟨rfl, n, hj, hr, hok, hl, hr'⟩ := h
    obtain ⟨_, _, d1, d2, d3⟩ := nodup_node hn
    obtain ⟨_, _, hh, _⟩ := routeOk_parts hok
    simp only [Sh.bd, Sh.find, getD_of hj]
    by_cases hlt : key < n.key
    · rw [if_pos hlt]
      rcases List.mem_append.1 hi with h' | h'
      · rw [if_pos (by simpa using leaves_places i h')]
        exact h1 hl d1 h' ((has_lefts hh).2 ⟨hk, hlt⟩)
      · rw [if_neg (by simpa using fun h3 => d3 i h3 (leaves_places i h'))]
        constructor
        · intro e
          have e' : (l.find ns key).leaf = i := e
          exact absurd (leaves_places i h') (d3 i (e' ▸ leaves_places _ find_leaf))
        · intro e
          have := ((has_rights hh).1 (bd_sub hr' e)).2
          omega
    · rw [if_neg hlt]
      rcases List.mem_append.1 hi with h' | h'
      · rw [if_pos (by simpa using leaves_places i h')]
        constructor
        · intro e
          have e' : (r.find ns key).leaf = i := e
          exact absurd (e' ▸ leaves_places _ find_leaf) (d3 i (leaves_places i h'))
        · intro e
          have := ((has_lefts hh).1 (bd_sub hl e)).2
          omega
      · rw [if_neg (by simpa using fun h3 => d3 i h3 (leaves_places i h'))]
        exact h2 hr' d2 h' ((has_rights hh).2 ⟨hk, by omega⟩)
theorem findD_eq {t : PT} {s : Sh} (h : mayT t = some s) (key : Int) : findD t key = s.find t.ns key := by simp [findD, findT, h]
theorem leavesT_eq {t : PT} {s : Sh} (h : mayT t = some s) : leavesT t = s.leaves := by simp [leavesT, h]
/-- Each pair is in the leaf of its key. -/
theorem only_find {t : PT} {s : Sh} {i : Nat} {p : Pr} {n : Nod} (h : mayT t = some s) (hi : i ∈ leavesT t) (hn : t.ns[i]? = some n) (hp : p ∈ n.l) : (findD t p.k).leaf = i := by
  rw [leavesT_eq h] at hi
  rw [findD_eq h]
  obtain ⟨m, hm, _, hok⟩ := fits_leaf (may_fits h) (good_of h).nodup hi
  rw [hn] at hm
  cases hm
  exact (find_iff (may_fits h) (good_of h).nodup hi rfl).2 ((leafOk_parts.1 hok).2.2.2.2.2.2 p hp)

/-! ### A leaf anew -/
theorem hangs_set {ns : List Nod} {s s' : Sh} {a : Int} {i : Nat} {n n' : Nod} (hn : ns[i]? = some n) (hr : n.route = false) (hr' : n'.route = false) (h : Hangs ns s a) (h' : Hangs (ns.set i n') s' a) : s' = s := by
  have key : ∀ (j : Nat) (x : Nod), ns[j]? = some x → ∃ y, (ns.set i n')[j]? = some y ∧ y.route = x.route ∧ (x.route = true → y = x) := by
    intro j x hx
    by_cases hij : i = j
    · subst hij
      rw [hn] at hx
      cases hx
      refine ⟨n', ?_, by rw [hr, hr'], fun h => by rw [hr] at h; cases h⟩
      rw [List.getElem?_set]
      simp [lt_of_get hn]
    · exact ⟨x, by rw [List.getElem?_set_ne hij]; exact hx, rfl, fun _ => rfl⟩
  induction s generalizing a s' with
  | leaf j =>
    obtain ⟨rfl, x, hx, hxr⟩ := h
    obtain ⟨y, hy, hyr, _⟩ := key j x hx
    cases s' with
    | leaf j' => obtain ⟨e, _⟩ := h'; congr 1; omega
    | node j' l r =>
      obtain ⟨e, z, hz, hzr, _⟩ := h'
      obtain rfl : j = j' := by omega
      rw [hy] at hz; cases hz
      rw [hyr, hxr] at hzr; cases hzr
  | node j l r h1 h2 =>
    obtain ⟨rfl, x, hx, hxr, hl, hrr⟩ := h
    obtain ⟨y, hy, hyr, hyx⟩ := key j x hx
    have hyx := hyx hxr
    subst hyx
    cases s' with
    | leaf j' =>
      obtain ⟨e, z, hz, hzr⟩ := h'
      obtain rfl : j = j' := by omega
      rw [hy] at hz; cases hz
      rw [hxr] at hzr; cases hzr
    | node j' l' r' =>
      obtain ⟨e, z, hz, hzr, hl', hr''⟩ := h'
      obtain rfl : j = j' := by omega
      rw [hy] at hz; cases hz
      rw [h1 hl hl', h2 hrr hr'']
theorem fits_set {ns : List Nod} {s : Sh} {a : Int} {k : Kb} {i : Nat} {n' : Nod} (h : Fits ns s a k) (hn : s.places.Nodup) (hi : i ∈ s.leaves) (hr : n'.route = false) : Fits (ns.set i n') s a k ↔ leafOk n' (s.bd ns k i) = true := by
  have out : ∀ {s : Sh} {a : Int} {k : Kb}, i ∉ s.places → Fits ns s a k → Fits (ns.set i n') s a k := by
    intro s
    induction s with
    | leaf j =>
      rintro a k hi ⟨h0, x, hx, h1⟩
      exact ⟨h0, x, by rw [List.getElem?_set_ne (fun e => hi (by simp [Sh.places, e]))]; exact hx, h1⟩
    | node j l r h1 h2 =>
      rintro a k hi ⟨h0, x, hx, hxr, hk, hl, hrr⟩
      simp only [Sh.places, List.mem_cons, List.mem_append, not_or] at hi
      exact ⟨h0, x, by rw [List.getElem?_set_ne hi.1]; exact hx, hxr, hk, h1 hi.2.1 hl, h2 hi.2.2 hrr⟩
  induction s generalizing a k with
  | leaf j =>
    obtain ⟨rfl, x, hx, hxr, hk⟩ := h
    simp [Sh.leaves] at hi
    subst hi
    have e : (ns.set i n')[i]? = some n' := by rw [List.getElem?_set]; simp [lt_of_get hx]
    constructor
    · rintro ⟨_, y, hy, _, hk'⟩
      rw [e] at hy; cases hy
      exact hk'
    · intro h; exact ⟨rfl, n', e, hr, h⟩
  | node j l r h1 h2 =>
    obtain ⟨rfl, x, hx, hxr, hk, hl, hrr⟩ := h
    obtain ⟨c1, c2, d1, d2, d3⟩ := nodup_node hn
    simp only [Sh.bd, getD_of hx]
    have hij : i ≠ j := by
      rintro rfl
      rcases List.mem_append.1 hi with h' | h'
      · exact c1 (leaves_places _ h')
      · exact c2 (leaves_places _ h')
    have e : (ns.set i n')[j]? = some x := by rw [List.getElem?_set_ne hij]; exact hx
    rcases List.mem_append.1 hi with h' | h'
    · have hp := leaves_places i h'
      rw [if_pos (by simpa using hp)]
      refine Iff.trans ?_ (h1 hl d1 h')
      constructor
      · rintro ⟨_, y, hy, _, _, h3, _⟩
        rw [e] at hy; cases hy
        exact h3
      · intro h3; exact ⟨rfl, x, e, hxr, hk, h3, out (d3 i hp) hrr⟩
    · have hp := leaves_places i h'
      have hnl : i ∉ l.places := fun h3 => d3 i h3 hp
      rw [if_neg (by simpa using hnl)]
      refine Iff.trans ?_ (h2 hrr d2 h')
      constructor
      · rintro ⟨_, y, hy, _, _, _, h3⟩
        rw [e] at hy; cases hy
        exact h3
      · intro h3; exact ⟨rfl, x, e, hxr, hk, out hnl hl, h3⟩
theorem may_set {t : PT} {s : Sh} {i : Nat} {n' : Nod} (h : mayT t = some s) (hi : i ∈ leavesT t) (hr : n'.route = false) : mayT ⟨t.root, t.ns.set i n'⟩ = if leafOk n' (s.bd t.ns Kb.all i) then some s else none := by
  rw [leavesT_eq h] at hi
  have hg := good_of h
  have hf := fits_set (n' := n') (may_fits h) hg.nodup hi hr
  obtain ⟨n, hn, hnr, _⟩ := fits_leaf (may_fits h) hg.nodup hi
  cases hok : leafOk n' (s.bd t.ns Kb.all i)
  · cases hm : mayT ⟨t.root, t.ns.set i n'⟩ with
    | none => rfl
    | some s' =>
      have hf' := may_fits hm
      have := hangs_set hn hnr hr hg.hangs hf'.hangs
      subst this
      rw [hf.1 hf'] at hok
      cases hok
  · rw [if_pos rfl]
    exact may_of_fits (by simpa using hg.few) (hf.2 hok) hg.nodup (fun j hj => hg.all j (by simpa using hj))
theorem setT_leaf {t : PT} {s : Sh} {i : Nat} {n : Nod} {l : List Pr} {stat : Int} (h : mayT t = some s) (hi : i ∈ leavesT t) (hn : t.ns[i]? = some n) : setT t (i : Int) l stat = if leafOk { n with l := l, stat := stat } (s.bd t.ns Kb.all i) then some ⟨t.root, t.ns.set i { n with l := l, stat := stat }⟩ else none := by
  have hi' := hi
  rw [leavesT_eq h] at hi'
  obtain ⟨m, hm, hmr, _⟩ := fits_leaf (may_fits h) (good_of h).nodup hi'
  rw [hn] at hm
  cases hm
  have hs := may_set (n' := { n with l := l, stat := stat }) h hi hmr
  cases hok : leafOk { n with l := l, stat := stat } (s.bd t.ns Kb.all i)
  · rw [hok] at hs
    exact set_no5 hn hmr (by rw [hs]; rfl)
  · rw [hok] at hs
    exact set_ok h hn hmr (by rw [hs]; rfl)

/-! ### With -/
theorem withGo_done (p : Pr) (l : List Pr) : withGo p l true = l.filter fun x => decide (x.k ≠ p.k) := by
  induction l with
  | nil => rfl
  | cons x l ih =>
    simp only [withGo, Bool.not_true, Bool.false_and, Bool.false_eq_true, if_false, List.nil_append, Bool.true_or, ih]
    by_cases h : x.k = p.k
    · rw [if_pos h, List.filter_cons_of_neg (by simp [h])]; rfl
    · rw [if_neg h, List.filter_cons_of_pos (by simp [h])]; rfl
theorem mem_with {p x : Pr} {l : List Pr} : x ∈ withT l p ↔ x = p ∨ (x ∈ l ∧ x.k ≠ p.k) := by
  unfold withT
  induction l with
  | nil => simp [withGo]
  | cons y l ih =>
    by_cases h1 : p.k ≤ y.k
    · simp only [withGo, Bool.not_false, Bool.true_and, h1, decide_true, if_true, Bool.false_or, withGo_done, List.mem_append, List.mem_singleton, List.mem_filter, decide_eq_true_eq, List.mem_cons, List.not_mem_nil, or_false]
      by_cases h2 : y.k = p.k
      · simp only [if_pos h2, List.not_mem_nil, false_or]
        constructor
        · rintro (h | ⟨h, h'⟩)
          · exact .inl h
          · exact .inr ⟨.inr h, h'⟩
        · rintro (h | ⟨rfl | h, h'⟩)
          · exact .inl h
          · exact absurd h2 h'
          · exact .inr ⟨h, h'⟩
      · simp only [if_neg h2, List.mem_singleton]
        constructor
        · rintro (h | rfl | ⟨h, h'⟩)
          · exact .inl h
          · exact .inr ⟨.inl rfl, h2⟩
          · exact .inr ⟨.inr h, h'⟩
        · rintro (h | ⟨rfl | h, h'⟩)
          · exact .inl h
          · exact .inr (.inl rfl)
          · exact .inr (.inr ⟨h, h'⟩)
    · have h2 : y.k ≠ p.k := by omega
      simp only [withGo, Bool.not_false, Bool.true_and, h1, decide_false, Bool.false_eq_true, if_false, Bool.false_or, List.nil_append, if_neg h2, List.mem_append, List.mem_singleton, ih, List.mem_cons, List.not_mem_nil, or_false]
      constructor
      · rintro (rfl | h | ⟨h, h'⟩)
        · exact .inr ⟨.inl rfl, h2⟩
        · exact .inl h
        · exact .inr ⟨.inr h, h'⟩
      · rintro (h | ⟨rfl | h, h'⟩)
        · exact .inr (.inl h)
        · exact .inl rfl
        · exact .inr (.inr ⟨h, h'⟩)
theorem with_pw {p : Pr} {l : List Pr} (h : l.Pairwise fun a b => a.k < b.k) : (withT l p).Pairwise fun a b => a.k < b.k := by
  induction l with
  | nil => simp [withT, withGo]
  | cons y l ih =>
    obtain ⟨h1, h2⟩ := List.pairwise_cons.1 h
    have hin : ∀ x ∈ withGo p l false, x = p ∨ (x ∈ l ∧ x.k ≠ p.k) := fun x hx => mem_with.1 hx
    unfold withT
    by_cases h3 : p.k ≤ y.k
    · simp only [withGo, Bool.not_false, Bool.true_and, h3, decide_true, if_true, Bool.false_or, withGo_done]
      have hf := List.Pairwise.filter (fun x : Pr => decide (x.k ≠ p.k)) h2
      by_cases h4 : y.k = p.k
      · rw [if_pos h4]
        show List.Pairwise _ (p :: l.filter fun x : Pr => decide (x.k ≠ p.k))
        refine List.pairwise_cons.2 ⟨fun x hx => ?_, hf⟩
        have := h1 x (List.mem_filter.1 hx).1
        omega
      · rw [if_neg h4]
        show List.Pairwise _ (p :: y :: l.filter fun x : Pr => decide (x.k ≠ p.k))
        refine List.pairwise_cons.2 ⟨fun x hx => ?_, List.pairwise_cons.2 ⟨fun x hx => h1 x (List.mem_filter.1 hx).1, hf⟩⟩
        rcases List.mem_cons.1 hx with rfl | hx
        · omega
        · have := h1 x (List.mem_filter.1 hx).1
          omega
    · have h4 : y.k ≠ p.k := by omega
      simp only [withGo, Bool.not_false, Bool.true_and, h3, decide_false, Bool.false_eq_true, if_false, Bool.false_or, List.nil_append, if_neg h4]
      show List.Pairwise _ (y :: withGo p l false)
      refine List.pairwise_cons.2 ⟨fun x hx => ?_, ih h2⟩
      rcases hin x hx with rfl | ⟨hx, _⟩
      · omega
      · exact h1 x hx
/-- A pair into a leaf: the tree may be, if it is the leaf of its key. -/
theorem only_set {t : PT} {s : Sh} {i : Nat} {n : Nod} {p : Pr} (h : mayT t = some s) (hi : i ∈ leavesT t) (hn : t.ns[i]? = some n) : (setT t (i : Int) (withT n.l p) 0).isSome = decide ((i : Int) = ((findD t p.k).leaf : Int)) := by
  rw [setT_leaf h hi hn, findD_eq h]
  have hi' := hi
  rw [leavesT_eq h] at hi'
  have hiff := find_iff (key := p.k) (may_fits h) (good_of h).nodup hi' rfl
  obtain ⟨m, hm, hmr, hok⟩ := fits_leaf (may_fits h) (good_of h).nodup hi'
  rw [hn] at hm
  cases hm
  obtain ⟨a1, a2, a3, a4, a5, a6, a7⟩ := leafOk_parts.1 hok
  have e : leafOk { n with l := withT n.l p, stat := 0 } (s.bd t.ns Kb.all i) = true ↔ (s.bd t.ns Kb.all i).has p.k = true := by
    rw [leafOk_parts]
    constructor
    · intro h; exact h.2.2.2.2.2.2 p (mem_with.2 (.inl rfl))
    · intro h
      refine ⟨a1, a2, a3, rises_pw.2 (with_pw (rises_pw.1 a4)), by show (-1000000 : Int) ≤ 0; decide, by show (0 : Int) ≤ 1000000; decide, fun x hx => ?_⟩
      rcases mem_with.1 hx with rfl | ⟨hx, _⟩
      · exact h
      · exact a7 x hx
  rw [isSome_ite]
  rw [Bool.eq_iff_iff, e, ← hiff, decide_eq_true_eq]
  omega
theorem with_len (p : Pr) (l : List Pr) : (withT l p).length ≤ l.length + 1 := by
  unfold withT
  induction l with
  | nil => simp [withGo]
  | cons y l ih =>
    by_cases h1 : p.k ≤ y.k
    · simp only [withGo, Bool.not_false, Bool.true_and, h1, decide_true, if_true, Bool.false_or, withGo_done]
      have := List.length_filter_le (fun x : Pr => decide (x.k ≠ p.k)) l
      split <;> simp only [List.length_append, List.length_cons, List.length_nil] <;> omega
    · simp only [withGo, Bool.not_false, Bool.true_and, h1, decide_false, Bool.false_eq_true, if_false, Bool.false_or, List.nil_append]
      split <;> simp <;> omega
end Go.Proofs.Ytmkodknmknfdkaa
