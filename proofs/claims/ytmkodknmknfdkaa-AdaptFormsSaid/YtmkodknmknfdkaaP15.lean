/- Plain laws: all pairs are as they were, when leaves are split and joined. -/
import Derived.Test.YtmkodknmknfdkaaP14
set_option linter.unusedVariables false
set_option linter.unusedSimpArgs false
namespace Go.Proofs.Ytmkodknmknfdkaa
open E

/-! ### Fits, whatever the places say -/
def Fit2 (ns : List Nod) : Sh → Kb → Prop
  | .leaf i, k => ∃ n, ns[i]? = some n ∧ n.route = false ∧ leafOk n k = true
  | .node i l r, k => ∃ n, ns[i]? = some n ∧ n.route = true ∧ routeOk n k = true ∧ Fit2 ns l (k.lefts n.key) ∧ Fit2 ns r (k.rights n.key)
theorem fit2_of {ns : List Nod} {s : Sh} {a : Int} {k : Kb} (h : Fits ns s a k) : Fit2 ns s k := by
  induction s generalizing a k with
  | leaf i => obtain ⟨_, n, h1⟩ := h; exact ⟨n, h1⟩
  | node i l r h1 h2 => obtain ⟨_, n, hn, hr, hk, hl, hr'⟩ := h; exact ⟨n, hn, hr, hk, h1 hl, h2 hr'⟩
theorem fit2_congr {ns ns' : List Nod} {s : Sh} {k : Kb} (h : Fit2 ns s k) (he : ∀ p ∈ s.places, ns'[p]? = ns[p]?) : Fit2 ns' s k := by
  induction s generalizing k with
  | leaf i => obtain ⟨n, hn, h1⟩ := h; exact ⟨n, by rw [he i (by simp [Sh.places])]; exact hn, h1⟩
  | node i l r h1 h2 =>
    obtain ⟨n, hn, hr, hk, hl, hr'⟩ := h
    exact ⟨n, by rw [he i (by simp [Sh.places])]; exact hn, hr, hk, h1 hl fun p hp => he p (by simp [Sh.places, hp]), h2 hr' fun p hp => he p (by simp [Sh.places, hp])⟩
theorem fits_congr {ns ns' : List Nod} {s : Sh} {a : Int} {k : Kb} (h : Fits ns s a k) (he : ∀ p ∈ s.places, ns'[p]? = ns[p]?) : Fits ns' s a k := by
  induction s generalizing a k with
  | leaf i => obtain ⟨h0, n, hn, h1⟩ := h; exact ⟨h0, n, by rw [he i (by simp [Sh.places])]; exact hn, h1⟩
  | node i l r h1 h2 =>
    obtain ⟨h0, n, hn, hr, hk, hl, hr'⟩ := h
    exact ⟨h0, n, by rw [he i (by simp [Sh.places])]; exact hn, hr, hk, h1 hl fun p hp => he p (by simp [Sh.places, hp]), h2 hr' fun p hp => he p (by simp [Sh.places, hp])⟩
theorem fit2_lay {ns : List Nod} {s : Sh} {k : Kb} (h : Fit2 ns s k) : ∀ (b : Nat) (pre post : List Nod), pre.length = b → Fits (pre ++ s.lay ns b ++ post) (s.straight b) (b : Int) k := by
  induction s generalizing k with
  | leaf i =>
    obtain ⟨n, hn, hr, hk⟩ := h
    rintro b pre post rfl
    refine ⟨rfl, n, ?_, hr, hk⟩
    simp only [Sh.lay, getD_of hn]
    simp
  | node i l r h1 h2 =>
    obtain ⟨n, hn, hr, hk, hl, hr'⟩ := h
    rintro b pre post rfl
    simp only [Sh.lay, getD_of hn, Sh.straight]
    refine ⟨rfl, { n with left := ((pre.length + 1 : Nat) : Int), right := ((pre.length + 1 + l.size : Nat) : Int) }, by simp, hr, hk, ?_, ?_⟩
    · have := h1 hl (pre.length + 1) (pre ++ [{ n with left := ((pre.length + 1 : Nat) : Int), right := ((pre.length + 1 + l.size : Nat) : Int) }]) (r.lay ns (pre.length + 1 + l.size) ++ post) (by simp)
      simpa [List.append_assoc] using this
    · have := h2 hr' (pre.length + 1 + l.size) (pre ++ { n with left := ((pre.length + 1 : Nat) : Int), right := ((pre.length + 1 + l.size : Nat) : Int) } :: l.lay ns (pre.length + 1)) post (by simp [Sh.lay_length]; omega)
      simpa [List.append_assoc] using this
theorem straight_leaves (s : Sh) (b : Nat) : (s.straight b).leaves.length = s.leaves.length := by
  induction s generalizing b with
  | leaf i => rfl
  | node i l r h1 h2 => simp only [Sh.straight, Sh.leaves, List.length_append, h1, h2]
theorem fit2_pairs {ns : List Nod} {s : Sh} {k : Kb} (h : Fit2 ns s k) (b : Nat) : (s.lay ns b).flatMap (·.l) = s.leaves.flatMap fun i => (ns.getD i default).l := by
  induction s generalizing k b with
  | leaf i => simp [Sh.leaves, Sh.lay]
  | node i l r h1 h2 =>
    obtain ⟨n, hn, hr, hk, hl, hr'⟩ := h
    simp only [Sh.leaves, Sh.lay, List.flatMap_append, List.flatMap_cons, getD_of hn]
    rw [(route_pure hk).1, h1 hl (b + 1), h2 hr' (b + 1 + l.size)]
    simp
/-- A shape that fits, laid, may be. -/
theorem laid_may {ns : List Nod} {s : Sh} (h : Fit2 ns s Kb.all) (hz : s.size ≤ 2000) : mayT ⟨0, s.lay ns 0⟩ = some (s.straight 0) := by
  have hf := fit2_lay h 0 [] [] rfl
  simp only [List.nil_append, List.append_nil] at hf
  refine may_of_fits (by rw [Sh.lay_length]; exact hz) hf ?_ fun i hi => ?_
  · rw [straight_places]; exact List.nodup_range'
  · rw [straight_places, List.mem_range'_1]
    rw [Sh.lay_length] at hi
    omega
theorem fit2_lay_lay {ns : List Nod} {s : Sh} {k : Kb} (h : Fit2 ns s k) : ∀ (b : Nat) (pre post : List Nod), pre.length = b → (s.straight b).lay (pre ++ s.lay ns b ++ post) b = s.lay ns b := by
  induction s generalizing k with
  | leaf i =>
    rintro b pre post rfl
    simp [Sh.straight, Sh.lay]
  | node i l r h1 h2 =>
    obtain ⟨n, hn, hr, hk, hl, hr'⟩ := h
    rintro b pre post rfl
    have e1 := h1 hl (pre.length + 1) (pre ++ [{ n with left := ((pre.length + 1 : Nat) : Int), right := ((pre.length + 1 + l.size : Nat) : Int) }]) (r.lay ns (pre.length + 1 + l.size) ++ post) (by simp)
    have e2 := h2 hr' (pre.length + 1 + l.size) (pre ++ { n with left := ((pre.length + 1 : Nat) : Int), right := ((pre.length + 1 + l.size : Nat) : Int) } :: l.lay ns (pre.length + 1)) post (by simp [Sh.lay_length]; omega)
    simp only [List.append_assoc, List.cons_append, List.nil_append] at e1 e2
    simp only [Sh.lay, getD_of hn, Sh.straight, straight_size, List.append_assoc, List.cons_append]
    rw [e1, e2]
    simp [List.getD_eq_getElem?_getD]
theorem laid_plain {ns : List Nod} {s : Sh} (h : Fit2 ns s Kb.all) (hz : s.size ≤ 2000) : plainD ⟨0, s.lay ns 0⟩ = ⟨0, s.lay ns 0⟩ := by
  have hl := fit2_lay_lay h 0 [] [] rfl
  simp only [List.nil_append, List.append_nil] at hl
  simp [plainD, plainT, laid_may h hz, hl]
theorem laid_all {ns : List Nod} {s : Sh} (h : Fit2 ns s Kb.all) (hz : s.size ≤ 2000) : allT ⟨0, s.lay ns 0⟩ = s.leaves.flatMap fun i => (ns.getD i default).l := by
  rw [all_plain, laid_plain h hz]
  exact fit2_pairs h 0
theorem laid_leaves {ns : List Nod} {s : Sh} (h : Fit2 ns s Kb.all) (hz : s.size ≤ 2000) : (leavesT ⟨0, s.lay ns 0⟩).length = s.leaves.length := by
  rw [leavesT_eq (laid_may h hz), straight_leaves]

/-! ### Wider bounds -/
def Kb.sub (k k' : Kb) : Prop := (∀ x, k.has x = true → k'.has x = true) ∧ (∀ x, k.has x = true → (k'.isLeast = true → x = k'.least → k.isLeast = true ∧ x = k.least))
theorem leafOk_mono {n : Nod} {k k' : Kb} (h : leafOk n k = true) (hs : k.sub k') : leafOk n k' = true := by
  rw [leafOk_parts] at h ⊢
  exact ⟨h.1, h.2.1, h.2.2.1, h.2.2.2.1, h.2.2.2.2.1, h.2.2.2.2.2.1, fun p hp => hs.1 _ (h.2.2.2.2.2.2 p hp)⟩
theorem routeOk_mk {n : Nod} {k : Kb} (h1 : n.l = []) (h2 : n.stat = 0) (h3 : k.has n.key = true) (h4 : ¬ (k.isLeast = true ∧ n.key = k.least)) : routeOk n k = true := by
  simp only [routeOk, h1, h2, h3, List.isEmpty_nil, Bool.true_and, decide_true, Bool.not_eq_true', Bool.and_eq_false_iff, decide_eq_false_iff_not]
  by_cases hL : k.isLeast = true
  · exact .inr fun e => h4 ⟨hL, e⟩
  · left; simpa using hL
theorem routeOk_mono {n : Nod} {k k' : Kb} (h : routeOk n k = true) (hs : k.sub k') : routeOk n k' = true := by
  obtain ⟨h1, h2, h3, h4⟩ := routeOk_parts h
  exact routeOk_mk h1 h2 (hs.1 _ h3) fun ⟨a, b⟩ => h4 (hs.2 _ h3 a b)
theorem sub_lefts {k k' : Kb} {key : Int} (hk : k.has key = true) (hs : k.sub k') : (k.lefts key).sub (k'.lefts key) :=
  ⟨fun x hx => by
    obtain ⟨h1, h2⟩ := (has_lefts hk).1 hx
    exact (has_lefts (hs.1 _ hk)).2 ⟨hs.1 _ h1, h2⟩,
   fun x hx a b => hs.2 x ((has_lefts hk).1 hx).1 a b⟩
theorem sub_rights {k k' : Kb} {key : Int} (hk : k.has key = true) (hs : k.sub k') : (k.rights key).sub (k'.rights key) :=
  ⟨fun x hx => by
    obtain ⟨h1, h2⟩ := (has_rights hk).1 hx
    exact (has_rights (hs.1 _ hk)).2 ⟨hs.1 _ h1, h2⟩,
   fun x hx a b => ⟨rfl, b⟩⟩
theorem fits_mono {ns : List Nod} {s : Sh} {a : Int} {k k' : Kb} (h : Fits ns s a k) (hs : k.sub k') : Fits ns s a k' := by
  induction s generalizing a k k' with
  | leaf i => obtain ⟨h0, n, hn, hr, hk⟩ := h; exact ⟨h0, n, hn, hr, leafOk_mono hk hs⟩
  | node i l r h1 h2 =>
    obtain ⟨h0, n, hn, hr, hk, hl, hr'⟩ := h
    have hh := (routeOk_parts hk).2.2.1
    exact ⟨h0, n, hn, hr, routeOk_mono hk hs, h1 hl (sub_lefts hh hs), h2 hr' (sub_rights hh hs)⟩
theorem rights_sub {k : Kb} {key : Int} (hk : k.has key = true) (hne : ¬ (k.isLeast = true ∧ key = k.least)) : (k.rights key).sub k :=
  ⟨fun x hx => ((has_rights hk).1 hx).1, fun x hx a b => by
    have h1 := ((has_rights hk).1 hx).2
    have h2 := (has_iff.1 hk).1 a
    exact absurd ⟨a, by omega⟩ hne⟩
theorem lefts_sub {k : Kb} {key : Int} (hk : k.has key = true) : (k.lefts key).sub k :=
  ⟨fun x hx => ((has_lefts hk).1 hx).1, fun x hx a b => ⟨a, b⟩⟩
theorem find_first {ns : List Nod} {s : Sh} {a : Int} {k : Kb} {x : Int} (h : Fits ns s a k) (hx : ∀ y, k.has y = true → x < y) : (s.find ns x).leaf = s.first := by
  induction s generalizing a k with
  | leaf i => rfl
  | node i l r h1 h2 =>
    obtain ⟨_, n, hn, _, hk, hl, _⟩ := h
    have hh := (routeOk_parts hk).2.2.1
    simp only [Sh.find, Sh.first, getD_of hn, if_pos (hx _ hh)]
    exact h1 hl fun y hy => hx y ((has_lefts hh).1 hy).1
theorem find_last {ns : List Nod} {s : Sh} {a : Int} {k : Kb} {x : Int} (h : Fits ns s a k) (hx : ∀ y, k.has y = true → y ≤ x) : (s.find ns x).leaf = s.last := by
  induction s generalizing a k with
  | leaf i => rfl
  | node i l r h1 h2 =>
    obtain ⟨_, n, hn, _, hk, _, hr⟩ := h
    have hh := (routeOk_parts hk).2.2.1
    have := hx _ hh
    simp only [Sh.find, Sh.last, getD_of hn, if_neg (show ¬ x < n.key by omega)]
    exact h2 hr fun y hy => hx y ((has_rights hh).1 hy).1
theorem first_mem (s : Sh) : s.first ∈ s.leaves := by obtain ⟨l, h⟩ := first_leaves s; rw [h]; simp
theorem last_mem (s : Sh) : s.last ∈ s.leaves := by obtain ⟨l, h⟩ := last_leaves s; rw [h]; simp
theorem leaf_join {xl nl : Nod} {cn : Nod} {k1 k2 k : Kb} (h1 : leafOk xl k1 = true) (h2 : leafOk nl k2 = true) (hc : cn = ⟨false, 0, 0, 0, xl.l ++ nl.l, 0⟩) (hlt : ∀ p ∈ xl.l, ∀ q ∈ nl.l, p.k < q.k) (ha : ∀ p ∈ xl.l, k.has p.k = true) (hb : ∀ p ∈ nl.l, k.has p.k = true) : leafOk cn k = true := by
  subst hc
  rw [leafOk_parts] at h1 h2 ⊢
  refine ⟨rfl, rfl, rfl, rises_pw.2 (List.pairwise_append.2 ⟨rises_pw.1 h1.2.2.2.1, rises_pw.1 h2.2.2.2.1, hlt⟩), by show (-1000000 : Int) ≤ 0; decide, by show (0 : Int) ≤ 1000000; decide, fun p hp => ?_⟩
  rcases List.mem_append.1 hp with h | h
  · exact ha p h
  · exact hb p h
theorem flat_set {ns : List Nod} {l : List Nat} {m : Nat} {cn : Nod} (h : m ∉ l) : (l.flatMap fun i => ((ns.set m cn).getD i default).l) = l.flatMap fun i => (ns.getD i default).l := by
  induction l with
  | nil => rfl
  | cons x l ih =>
    simp only [List.mem_cons, not_or] at h
    simp only [List.flatMap_cons, ih h.2]
    rw [List.getD_eq_getElem?_getD, List.getD_eq_getElem?_getD, List.getElem?_set_ne h.1]
/-- A leaf joined to its neighbour. -/
theorem cut_fit {ns : List Nod} {s : Sh} {a : Int} {k : Kb} {i q m : Nat} {side : Bool} (h : Fits ns s a k) (hnd : s.places.Nodup) (hnb : s.nb i = some (q, side, m)) :
    Fit2 (ns.set m (joinN ns i m side)) (s.cut i) k ∧ ((s.cut i).leaves.flatMap fun j => ((ns.set m (joinN ns i m side)).getD j default).l) = (s.leaves.flatMap fun j => (ns.getD j default).l) ∧ (s.cut i).leaves.length + 1 = s.leaves.length ∧ (s.cut i).size + 2 = s.size := by
  induction s generalizing a k with
  | leaf j => cases hnb
  | node j l r h1 h2 =>
    obtain ⟨rfl, n, hn, hr, hk, hl, hrr⟩ := h
    obtain ⟨c1, c2, d1, d2, d3⟩ := nodup_node hnd
    obtain ⟨_, _, hh, hne⟩ := routeOk_parts hk
    simp only [Sh.nb] at hnb
    simp only [Sh.cut, Sh.leaves, List.flatMap_append, List.length_append]
    split at hnb
    · rename_i e
      cases hnb
      subst e
      rw [if_pos rfl]
      obtain ⟨_, x, hx, hxr, hxk⟩ := hl
      have hmem := first_mem r
      obtain ⟨nm, hm, hmr, hmk⟩ := fits_leaf hrr d2 hmem
      have hlen := lt_of_get hm
      have hjn : joinN ns i r.first false = ⟨false, 0, 0, 0, x.l ++ nm.l, 0⟩ := by rw [joinN_eq hx hm]; rfl
      have hrk := fits_mono hrr (rights_sub hh hne)
      have hxp := (leafOk_parts.1 hxk).2.2.2.2.2.2
      have hmp := (leafOk_parts.1 hmk).2.2.2.2.2.2
      obtain ⟨nm2, hm2, _, hmk2⟩ := fits_leaf hrk d2 hmem
      rw [hm] at hm2
      cases hm2
      have hok : leafOk (joinN ns i r.first false) (r.bd ns k r.first) = true := by
        refine leaf_join hxk hmk hjn (fun p hp q hq => ?_) (fun p hp => ?_) (leafOk_parts.1 hmk2).2.2.2.2.2.2
        · have a1 := ((has_lefts hh).1 (hxp p hp)).2
          have a2 := ((has_rights hh).1 (bd_sub hrr (hmp q hq))).2
          omega
        · have a1 := (has_lefts hh).1 (hxp p hp)
          refine (find_iff hrk d2 hmem a1.1).1 (find_first hrr fun y hy => ?_)
          have := ((has_rights hh).1 hy).2
          omega
      refine ⟨fit2_of ((fits_set hrk d2 hmem (by rw [hjn])).2 hok), ?_, by simp [Sh.leaves]; omega, by simp only [Sh.size]; omega⟩
      obtain ⟨rest, hrest⟩ := first_leaves r
      have hnr : r.first ∉ rest := by
        have := leaves_nodup d2
        rw [hrest] at this
        exact (List.nodup_cons.1 this).1
      rw [hrest]
      simp only [show (Sh.leaf i).leaves = [i] from rfl, List.flatMap_cons, List.flatMap_nil, List.append_nil, flat_set hnr]
      have e1 : (ns.set r.first (joinN ns i r.first false)).getD r.first default = joinN ns i r.first false := by
        rw [List.getD_eq_getElem?_getD, List.getElem?_set_self hlen]; rfl
      rw [e1, hjn, getD_of hx, getD_of hm]
      simp
    · rename_i e
      split at hnb
      · rename_i e'
        cases hnb
        subst e'
        rw [if_neg e, if_pos rfl]
        obtain ⟨_, x, hx, hxr, hxk⟩ := hrr
        have hmem := last_mem l
        obtain ⟨nm, hm, hmr, hmk⟩ := fits_leaf hl d1 hmem
        have hlen := lt_of_get hm
        have hjn : joinN ns i l.last true = ⟨false, 0, 0, 0, nm.l ++ x.l, 0⟩ := by rw [joinN_eq hx hm]; rfl
        have hlk := fits_mono hl (lefts_sub hh)
        have hxp := (leafOk_parts.1 hxk).2.2.2.2.2.2
        have hmp := (leafOk_parts.1 hmk).2.2.2.2.2.2
        obtain ⟨nm2, hm2, _, hmk2⟩ := fits_leaf hlk d1 hmem
        rw [hm] at hm2
        cases hm2
        have hok : leafOk (joinN ns i l.last true) (l.bd ns k l.last) = true := by
          refine leaf_join hmk hxk hjn (fun p hp q hq => ?_) (leafOk_parts.1 hmk2).2.2.2.2.2.2 (fun p hp => ?_)
          · have a1 := ((has_lefts hh).1 (bd_sub hl (hmp p hp))).2
            have a2 := ((has_rights hh).1 (hxp q hq)).2
            omega
          · have a1 := (has_rights hh).1 (hxp p hp)
            refine (find_iff hlk d1 hmem a1.1).1 (find_last hl fun y hy => ?_)
            have := ((has_lefts hh).1 hy).2
            omega
        refine ⟨fit2_of ((fits_set hlk d1 hmem (by rw [hjn])).2 hok), ?_, by simp [Sh.leaves], by simp only [Sh.size]; omega⟩
        obtain ⟨rest, hrest⟩ := last_leaves l
        have hnr : l.last ∉ rest := by
          have := leaves_nodup d1
          rw [hrest] at this
          intro hc
          exact (List.nodup_append.1 this).2.2 _ hc _ (by simp) rfl
        rw [hrest]
        simp only [show (Sh.leaf i).leaves = [i] from rfl, List.flatMap_append, List.flatMap_cons, List.flatMap_nil, List.append_nil, flat_set hnr]
        have e1 : (ns.set l.last (joinN ns i l.last true)).getD l.last default = joinN ns i l.last true := by
          rw [List.getD_eq_getElem?_getD, List.getElem?_set_self hlen]; rfl
        rw [e1, hjn, getD_of hx, getD_of hm]
        simp
      · rename_i e'
        rw [if_neg e, if_neg e']
        have cutNo : ∀ {s' : Sh}, i ∉ s'.places → s'.cut i = s' := by
          intro s'
          induction s' with
          | leaf k => intro _; rfl
          | node k l' r' g1 g2 =>
            intro hi
            simp only [Sh.places, List.mem_cons, List.mem_append, not_or] at hi
            have n1 : l' ≠ .leaf i := fun e => hi.2.1 (by rw [e]; simp [Sh.places])
            have n2 : r' ≠ .leaf i := fun e => hi.2.2 (by rw [e]; simp [Sh.places])
            simp only [Sh.cut, if_neg n1, if_neg n2, g1 hi.2.1, g2 hi.2.2]
        split at hnb
        · rename_i y hy
          cases hnb
          obtain ⟨g1, g2, g3, g4⟩ := h1 hl d1 hy
          have him := leaves_places m (nb_leafs hy)
          have hir : i ∉ r.places := d3 i (leaves_places i (nb_mem hy))
          have hmr : m ∉ r.places := d3 m him
          have hmj : m ≠ j := fun e => c1 (e ▸ him)
          rw [cutNo hir]
          refine ⟨⟨n, by rw [List.getElem?_set_ne hmj]; exact hn, hr, hk, g1, fit2_congr (fit2_of hrr) fun p hp => List.getElem?_set_ne (fun e => hmr (by rw [e]; exact hp))⟩, ?_, ?_, ?_⟩
          · simp only [Sh.leaves, List.flatMap_append, g2]
            rw [flat_set fun hc => hmr (leaves_places m hc)]
          · simp only [Sh.leaves, List.length_append]; omega
          · simp only [Sh.size]; omega
        · rename_i hno
          obtain ⟨g1, g2, g3, g4⟩ := h2 hrr d2 hnb
          have him := leaves_places m (nb_leafs hnb)
          have hil : i ∉ l.places := fun h3 => d3 i h3 (leaves_places i (nb_mem hnb))
          have hml : m ∉ l.places := fun h3 => d3 m h3 him
          have hmj : m ≠ j := fun e => c2 (e ▸ him)
          rw [cutNo hil]
          refine ⟨⟨n, by rw [List.getElem?_set_ne hmj]; exact hn, hr, hk, fit2_congr (fit2_of hl) fun p hp => List.getElem?_set_ne (fun e => hml (by rw [e]; exact hp)), g1⟩, ?_, ?_, ?_⟩
          · simp only [Sh.leaves, List.flatMap_append, g2]
            rw [flat_set fun hc => hml (leaves_places m hc)]
          · simp only [Sh.leaves, List.length_append]; omega
          · simp only [Sh.size]; omega
/-- Joined: it may be; a leaf less; all pairs as they were. -/
theorem join_keeps {t u : PT} {a : Int} (h : joinT t a = some u) : (mayT u).isSome = true ∧ (leavesT u).length + 1 = (leavesT t).length ∧ allT u = allT t ∧ plainD u = u := by
  unfold joinT at h
  split at h
  · cases hs : mayT t with
    | none => rw [hs] at h; cases h
    | some s =>
      rw [hs] at h
      simp only [] at h
      cases hnb : s.nb a.toNat with
      | none => rw [hnb] at h; cases h
      | some x =>
        obtain ⟨q, side, m⟩ := x
        rw [hnb] at h
        cases h
        obtain ⟨g1, g2, g3, g4⟩ := cut_fit (may_fits hs) (good_of hs).nodup hnb
        have hz : (s.cut a.toNat).size ≤ 2000 := by
          have h1 := (good_of hs).size
          have h2 := (good_of hs).few
          omega
        refine ⟨by rw [laid_may g1 hz]; rfl, ?_, ?_, laid_plain g1 hz⟩
        · rw [laid_leaves g1 hz, leavesT_eq hs]; exact g3
        · rw [laid_all g1 hz, g2, allT, leavesT_eq hs]
  · cases h
end Go.Proofs.Ytmkodknmknfdkaa
