/- Plain laws: what is split and joined again is as it was. -/
import Derived.Test.YtmkodknmknfdkaaP17
set_option linter.unusedVariables false
set_option linter.unusedSimpArgs false
namespace Go.Proofs.Ytmkodknmknfdkaa
open E

theorem lay_lay_any {ns : List Nod} {s : Sh} {k : Kb} (h : Fit2 ns s k) : ∀ (b : Nat) (pre post : List Nod) (c : Nat), pre.length = b → (s.straight b).lay (pre ++ s.lay ns b ++ post) c = s.lay ns c := by
  induction s generalizing k with
  | leaf i =>
    rintro b pre post c rfl
    simp [Sh.straight, Sh.lay]
  | node i l r h1 h2 =>
    obtain ⟨n, hn, hr, hk, hl, hr'⟩ := h
    rintro b pre post c rfl
    have e1 := h1 hl (pre.length + 1) (pre ++ [{ n with left := ((pre.length + 1 : Nat) : Int), right := ((pre.length + 1 + l.size : Nat) : Int) }]) (r.lay ns (pre.length + 1 + l.size) ++ post) (c + 1) (by simp)
    have e2 := h2 hr' (pre.length + 1 + l.size) (pre ++ { n with left := ((pre.length + 1 : Nat) : Int), right := ((pre.length + 1 + l.size : Nat) : Int) } :: l.lay ns (pre.length + 1)) post (c + 1 + l.size) (by simp [Sh.lay_length]; omega)
    simp only [List.append_assoc, List.cons_append, List.nil_append] at e1 e2
    simp only [Sh.lay, getD_of hn, Sh.straight, straight_size, List.append_assoc, List.cons_append]
    rw [e1, e2]
    simp [List.getD_eq_getElem?_getD]
theorem cut_out {s : Sh} {f : Nat} (h : f ∉ s.places) : s.cut f = s := by
  induction s with
  | leaf k => rfl
  | node k l r g1 g2 =>
    simp only [Sh.places, List.mem_cons, List.mem_append, not_or] at h
    have n1 : l ≠ .leaf f := fun e => h.2.1 (by rw [e]; simp [Sh.places])
    have n2 : r ≠ .leaf f := fun e => h.2.2 (by rw [e]; simp [Sh.places])
    simp only [Sh.cut, if_neg n1, if_neg n2, g1 h.2.1, g2 h.2.2]
theorem split_node {s : Sh} {i N b : Nat} (h : i ∈ s.leaves) (f : Nat) : (s.split i N).straight b ≠ .leaf f := by
  cases s with
  | leaf j => simp [Sh.leaves] at h; subst h; simp [Sh.split, Sh.straight]
  | node j l r => simp [Sh.split, Sh.straight]
theorem back_core {ns : List Nod} {s : Sh} {a : Int} {k : Kb} {i : Nat} {n cn : Nod} (h : Fits ns s a k) (hnd : s.places.Nodup) (hi : i ∈ s.leaves) (hn : ns[i]? = some n) (h2 : 2 ≤ n.l.length) :
    ∀ (b : Nat) (pre post : List Nod), pre.length = b → ∃ f q, b ≤ f ∧ f + 1 < b + (s.split i ns.length).size ∧ f ∈ ((s.split i ns.length).straight b).leaves ∧ ((s.split i ns.length).straight b).nb f = some (q, false, f + 1) ∧
      (pre ++ (s.split i ns.length).lay (spNs ns i n) b ++ post)[f]? = some (spA n) ∧ (pre ++ (s.split i ns.length).lay (spNs ns i n) b ++ post)[f + 1]? = some (spB n) ∧
      ∀ c, (((s.split i ns.length).straight b).cut f).lay ((pre ++ (s.split i ns.length).lay (spNs ns i n) b ++ post).set (f + 1) cn) c = s.lay (ns.set i cn) c := by
  induction s generalizing a k with
  | leaf j =>
    obtain ⟨rfl, x, hx, hxr, hxk⟩ := h
    simp [Sh.leaves] at hi
    subst hi
    rintro b pre post rfl
    have hil := lt_of_get hn
    have e0 : (Sh.leaf i).split i ns.length = .node i (.leaf ns.length) (.leaf (ns.length + 1)) := by simp [Sh.split]
    rw [e0]
    simp only [Sh.lay, Sh.straight, getD_of (sp_at hil), getD_of sp_a, getD_of sp_b, Sh.size]
    refine ⟨pre.length + 1, pre.length, by omega, by omega, by simp [Sh.leaves], by simp [Sh.nb, Sh.first], ?_, ?_, fun c => ?_⟩
    · simp
    · simp
      rw [List.getElem?_append_right (by omega), show pre.length + 1 + 1 - pre.length = 2 by omega]
      rfl
    · simp only [Sh.cut, if_true, Sh.lay]
      rw [List.getD_eq_getElem?_getD, List.getD_eq_getElem?_getD, List.getElem?_set_self (by simp; omega), List.getElem?_set_self hil]
  | node j l r h1 h2' =>
    obtain ⟨rfl, x, hx, hxr, hxk, hl, hrr⟩ := h
    obtain ⟨c1, c2, d1, d2, d3⟩ := nodup_node hnd
    have hjl := lt_of_get hx
    rintro b pre post rfl
    rcases List.mem_append.1 hi with hi' | hi'
    · have him := leaves_places i hi'
      have hij : i ≠ j := fun e => c1 (e ▸ him)
      have hir : i ∉ r.places := d3 i him
      have ho : r.split i ns.length = r := split_out hir
      have hor : ∀ p ∈ r.places, (spNs ns i n)[p]? = ns[p]? := fun p hp => sp_old (hrr.lt p hp) (fun e => hir (e ▸ hp))
      have hor2 : ∀ p ∈ r.places, (ns.set i cn)[p]? = ns[p]? := fun p hp => List.getElem?_set_ne (fun e => hir (by rw [e]; exact hp))
      have hsj : (spNs ns i n)[j]? = some x := by rw [sp_old hjl (Ne.symm hij)]; exact hx
      have hcj : (ns.set i cn)[j]? = some x := by rw [List.getElem?_set_ne hij]; exact hx
      simp only [Sh.split, ho, Sh.lay, Sh.straight, getD_of hsj]
      generalize hxx : ({ x with left := ((pre.length + 1 : Nat) : Int), right := ((pre.length + 1 + (l.split i ns.length).size : Nat) : Int) } : Nod) = xx
      obtain ⟨f, q, g1, g2, g3, g4, g5, g6, g7⟩ := h1 hl d1 hi' (pre.length + 1) (pre ++ [xx]) (r.lay (spNs ns i n) (pre.length + 1 + (l.split i ns.length).size) ++ post) (by simp)
      have eX : pre ++ (xx :: ((l.split i ns.length).lay (spNs ns i n) (pre.length + 1) ++ r.lay (spNs ns i n) (pre.length + 1 + (l.split i ns.length).size))) ++ post = (pre ++ [xx]) ++ (l.split i ns.length).lay (spNs ns i n) (pre.length + 1) ++ (r.lay (spNs ns i n) (pre.length + 1 + (l.split i ns.length).size) ++ post) := by simp [List.append_assoc]
      rw [eX]
      have hfr : f ∉ (r.straight (pre.length + 1 + (l.split i ns.length).size)).places := by rw [straight_places, List.mem_range'_1]; omega
      have nl := split_node (N := ns.length) (b := pre.length + 1) hi' f
      have nr : r.straight (pre.length + 1 + (l.split i ns.length).size) ≠ .leaf f := fun e => hfr (by rw [e]; simp [Sh.places])
      refine ⟨f, q, by omega, by simp only [Sh.size]; omega, by simp [Sh.leaves, g3], by simp only [Sh.nb, if_neg nl, if_neg nr, g4], g5, g6, fun c => ?_⟩
      simp only [Sh.cut, if_neg nl, if_neg nr, cut_out hfr, Sh.lay]
      have hsz : (((l.split i ns.length).straight (pre.length + 1)).cut f).size = l.size := by rw [← Sh.lay_length _ _ 0, g7 0, Sh.lay_length]
      have eb : (((pre ++ [xx]) ++ (l.split i ns.length).lay (spNs ns i n) (pre.length + 1) ++ (r.lay (spNs ns i n) (pre.length + 1 + (l.split i ns.length).size) ++ post)).set (f + 1) cn)[pre.length]? = some xx := by
        rw [List.getElem?_set_ne (by omega)]
        simp [List.append_assoc]
      have er : (r.straight (pre.length + 1 + (l.split i ns.length).size)).lay (((pre ++ [xx]) ++ (l.split i ns.length).lay (spNs ns i n) (pre.length + 1) ++ (r.lay (spNs ns i n) (pre.length + 1 + (l.split i ns.length).size) ++ post)).set (f + 1) cn) (c + 1 + l.size) = r.lay (ns.set i cn) (c + 1 + l.size) := by
        have e1 : (r.straight (pre.length + 1 + (l.split i ns.length).size)).lay (((pre ++ [xx]) ++ (l.split i ns.length).lay (spNs ns i n) (pre.length + 1) ++ (r.lay (spNs ns i n) (pre.length + 1 + (l.split i ns.length).size) ++ post)).set (f + 1) cn) (c + 1 + l.size) =
            (r.straight (pre.length + 1 + (l.split i ns.length).size)).lay ((pre ++ [xx]) ++ (l.split i ns.length).lay (spNs ns i n) (pre.length + 1) ++ (r.lay (spNs ns i n) (pre.length + 1 + (l.split i ns.length).size) ++ post)) (c + 1 + l.size) :=
          lay_congr (fun p hp => List.getElem?_set_ne (by rw [straight_places, List.mem_range'_1] at hp; omega)) _
        rw [e1]
        have e2 := lay_lay_any (fit2_congr (fit2_of hrr) hor) (pre.length + 1 + (l.split i ns.length).size) ((pre ++ [xx]) ++ (l.split i ns.length).lay (spNs ns i n) (pre.length + 1)) post (c + 1 + l.size) (by simp [Sh.lay_length]; omega)
        rw [List.append_assoc] at e2
        rw [e2, lay_congr hor, lay_congr hor2]
      rw [getD_of eb, getD_of hcj, hsz, g7, er, ← hxx]
    · have him := leaves_places i hi'
      have hij : i ≠ j := fun e => c2 (e ▸ him)
      have hil : i ∉ l.places := fun h3 => d3 i h3 him
      have ho : l.split i ns.length = l := split_out hil
      have hol : ∀ p ∈ l.places, (spNs ns i n)[p]? = ns[p]? := fun p hp => sp_old (hl.lt p hp) (fun e => hil (e ▸ hp))
      have hol2 : ∀ p ∈ l.places, (ns.set i cn)[p]? = ns[p]? := fun p hp => List.getElem?_set_ne (fun e => hil (by rw [e]; exact hp))
      have hsj : (spNs ns i n)[j]? = some x := by rw [sp_old hjl (Ne.symm hij)]; exact hx
      have hcj : (ns.set i cn)[j]? = some x := by rw [List.getElem?_set_ne hij]; exact hx
      simp only [Sh.split, ho, Sh.lay, Sh.straight, getD_of hsj]
      generalize hxx : ({ x with left := ((pre.length + 1 : Nat) : Int), right := ((pre.length + 1 + l.size : Nat) : Int) } : Nod) = xx
      obtain ⟨f, q, g1, g2, g3, g4, g5, g6, g7⟩ := h2' hrr d2 hi' (pre.length + 1 + l.size) (pre ++ (xx :: l.lay (spNs ns i n) (pre.length + 1))) post (by simp [Sh.lay_length]; omega)
      have eX : pre ++ (xx :: (l.lay (spNs ns i n) (pre.length + 1) ++ (r.split i ns.length).lay (spNs ns i n) (pre.length + 1 + l.size))) ++ post = (pre ++ (xx :: l.lay (spNs ns i n) (pre.length + 1))) ++ (r.split i ns.length).lay (spNs ns i n) (pre.length + 1 + l.size) ++ post := by simp [List.append_assoc]
      rw [eX]
      have hfl : f ∉ (l.straight (pre.length + 1)).places := by rw [straight_places, List.mem_range'_1]; omega
      have nl : l.straight (pre.length + 1) ≠ .leaf f := fun e => hfl (by rw [e]; simp [Sh.places])
      have nr := split_node (N := ns.length) (b := pre.length + 1 + l.size) hi' f
      have hnl : (l.straight (pre.length + 1)).nb f = none := by
        cases hq : (l.straight (pre.length + 1)).nb f with
        | none => rfl
        | some y => obtain ⟨y1, y2, y3⟩ := y; exact absurd (leaves_places f (nb_mem hq)) hfl
      refine ⟨f, q, by omega, by simp only [Sh.size]; omega, by simp [Sh.leaves, g3], by simp only [Sh.nb, if_neg nl, if_neg nr, hnl, g4], g5, g6, fun c => ?_⟩
      simp only [Sh.cut, if_neg nl, if_neg nr, cut_out hfl, Sh.lay]
      have eb : (((pre ++ (xx :: l.lay (spNs ns i n) (pre.length + 1))) ++ (r.split i ns.length).lay (spNs ns i n) (pre.length + 1 + l.size) ++ post).set (f + 1) cn)[pre.length]? = some xx := by
        rw [List.getElem?_set_ne (by omega)]
        simp [List.append_assoc]
      have el : (l.straight (pre.length + 1)).lay (((pre ++ (xx :: l.lay (spNs ns i n) (pre.length + 1))) ++ (r.split i ns.length).lay (spNs ns i n) (pre.length + 1 + l.size) ++ post).set (f + 1) cn) (c + 1) = l.lay (ns.set i cn) (c + 1) := by
        have e1 : (l.straight (pre.length + 1)).lay (((pre ++ (xx :: l.lay (spNs ns i n) (pre.length + 1))) ++ (r.split i ns.length).lay (spNs ns i n) (pre.length + 1 + l.size) ++ post).set (f + 1) cn) (c + 1) =
            (l.straight (pre.length + 1)).lay ((pre ++ (xx :: l.lay (spNs ns i n) (pre.length + 1))) ++ (r.split i ns.length).lay (spNs ns i n) (pre.length + 1 + l.size) ++ post) (c + 1) :=
          lay_congr (fun p hp => List.getElem?_set_ne (by rw [straight_places, List.mem_range'_1] at hp; omega)) _
        rw [e1]
        have e2 := lay_lay_any (fit2_congr (fit2_of hl) hol) (pre.length + 1) (pre ++ [xx]) ((r.split i ns.length).lay (spNs ns i n) (pre.length + 1 + l.size) ++ post) (c + 1) (by simp)
        have e3 : (pre ++ [xx]) ++ l.lay (spNs ns i n) (pre.length + 1) ++ ((r.split i ns.length).lay (spNs ns i n) (pre.length + 1 + l.size) ++ post) = (pre ++ (xx :: l.lay (spNs ns i n) (pre.length + 1))) ++ (r.split i ns.length).lay (spNs ns i n) (pre.length + 1 + l.size) ++ post := by simp [List.append_assoc]
        rw [e3] at e2
        rw [e2, lay_congr hol, lay_congr hol2]
      rw [getD_of eb, getD_of hcj, straight_size, g7, el, ← hxx]
/-- Split, and joined again. -/
theorem back {t u : PT} {i : Nat} {n : Nod} {y : Pr} (hu : splitT t (i : Int) = some u) (hn : t.ns[i]? = some n) (hy : n.l[0]? = some y) :
    (joinT u ((findD u y.k).leaf : Int)).isSome = true ∧ (setT t (i : Int) n.l 0).isSome = true ∧ sameT (optD (joinT u ((findD u y.k).leaf : Int))) (setD t (i : Int) n.l 0) = true := by
  obtain ⟨s, i', n', hs, e, hi, hn', hr, h2, hm, hup⟩ := split_yes hu
  obtain rfl : i = i' := by omega
  rw [hn] at hn'
  cases hn'
  have hi0 := hi
  rw [leavesT_eq hs] at hi
  obtain ⟨p1, p2, p3⟩ := plain_may hm
  obtain ⟨m, hmn, _, hok⟩ := fits_leaf (may_fits hs) (good_of hs).nodup hi
  rw [hn] at hmn
  cases hmn
  obtain ⟨o1, o2, o3, o4, o5, o6, o7⟩ := leafOk_parts.1 hok
  generalize hcn : (⟨false, 0, 0, 0, n.l, 0⟩ : Nod) = cn
  obtain ⟨f, q, g1, g2, g3, g4, g5, g6, g7⟩ := back_core (cn := cn) (may_fits hs) (good_of hs).nodup hi hn h2 0 [] [] rfl
  simp only [List.nil_append, List.append_nil] at g5 g6 g7
  have hus : u = ⟨0, (s.split i t.ns.length).lay (spNs t.ns i n) 0⟩ := by rw [hup, p1]; rfl
  have hum : mayT u = some ((s.split i t.ns.length).straight 0) := by rw [hup]; exact p2
  have hun : u.ns = (s.split i t.ns.length).lay (spNs t.ns i n) 0 := by rw [hus]
  have hfl : f ∈ leavesT u := by rw [leavesT_eq hum]; exact g3
  have huf : u.ns[f]? = some (spA n) := by rw [hun]; exact g5
  have hym : y ∈ (spA n).l := by
    simp only [spA]
    refine List.mem_iff_getElem?.2 ⟨0, ?_⟩
    rw [List.getElem?_take, if_pos (by omega)]
    exact hy
  have hff := only_find hum hfl huf hym
  rw [hff]
  have hj : joinT u (f : Int) = some ⟨0, s.lay (t.ns.set i cn) 0⟩ := by
    rw [join_eq hum (leaf_of_leaves hfl) g4]
    have e1 : joinN u.ns f (f + 1) false = cn := by
      rw [joinN_eq huf (by rw [hun]; exact g6), ← hcn]
      simp [spA, spB]
    rw [e1, hun, g7 0]
  have hcn2 : cn = { n with l := n.l, stat := 0 } := by
    rw [← hcn]
    obtain ⟨n1, n2, n3, n4, n5, n6⟩ := n
    simp only at o1 o2 o3 hr ⊢
    simp [o1, o2, o3, hr]
  have hok2 : leafOk { n with l := n.l, stat := 0 } (s.bd t.ns Kb.all i) = true := by
    rw [leafOk_parts]
    exact ⟨o1, o2, o3, o4, by show (-1000000 : Int) ≤ 0; decide, by show (0 : Int) ≤ 1000000; decide, o7⟩
  have hset : setT t (i : Int) n.l 0 = some ⟨t.root, t.ns.set i cn⟩ := by
    rw [setT_leaf hs hi0 hn, hok2, ← hcn2]
    rfl
  have hms : mayT ⟨t.root, t.ns.set i cn⟩ = some s := by
    rw [may_set hs hi0 (by rw [← hcn])]
    rw [hcn2, hok2]
    rfl
  obtain ⟨k1, _, _, k4⟩ := join_keeps hj
  refine ⟨by rw [hj]; rfl, by rw [hset]; rfl, ?_⟩
  have e2 : optD (joinT u (f : Int)) = ⟨0, s.lay (t.ns.set i cn) 0⟩ := by rw [hj]; rfl
  have e3 : setD t (i : Int) n.l 0 = ⟨t.root, t.ns.set i cn⟩ := by rw [setD, hset]; rfl
  rw [e2, e3]
  refine same_true k1 (by rw [hms]; rfl) ?_
  rw [k4]
  exact (plain_may hms).1
theorem leaves_half (s : Sh) : 2 * s.leaves.length ≤ s.size + 1 := by
  induction s with
  | leaf j => simp [Sh.leaves, Sh.size]
  | node j l r h1 h2 => simp only [Sh.leaves, Sh.size, List.length_append]; omega
theorem one_leaf {t : Tr} {s : Sh} (hs : mayT t.p = some s) (h : (leavesT t.p).length = 1) : t.ns.l.length = 1 := by
  rw [leavesT_eq hs] at h
  have hz := (good_of hs).size
  have hN : t.p.ns.length = t.ns.l.length := by simp [Tr.p]
  cases s with
  | leaf j => simp only [Sh.size] at hz; omega
  | node j l r =>
    have h1 := leaves_pos l
    have h2 := leaves_pos r
    simp only [Sh.leaves, List.length_append] at h
    omega
theorem back_tr {t u : Tr} {i : Nat} {x : Nd} {y : Pr} (hu : u.p = optD (splitT t.p (i : Int))) (hok : (splitT t.p (i : Int)).isSome = true) (hx : t.p.ns[i]? = some x.p) (hy : x.ps.l[0]? = some y) :
    (joinT u.p ((findD u.p y.k).leaf : Int)).isSome = true ∧ (setT t.p (i : Int) x.ps.l 0).isSome = true ∧ sameT (optD (joinT u.p ((findD u.p y.k).leaf : Int))) (setD t.p (i : Int) x.ps.l 0) = true := by
  obtain ⟨w, hw⟩ := Option.isSome_iff_exists.1 hok
  have e : u.p = w := by rw [hu, hw]; rfl
  rw [← e] at hw
  exact back hw hx hy
theorem same_plain {a b : PT} (h : sameT a b = true) : plainD a = plainD b := by
  unfold sameT at h
  simp only [Bool.and_eq_true, decide_eq_true_eq] at h
  exact h.2.2
end Go.Proofs.Ytmkodknmknfdkaa
