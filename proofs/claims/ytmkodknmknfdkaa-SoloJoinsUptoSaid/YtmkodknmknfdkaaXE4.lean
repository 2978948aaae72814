/- Texts of this seat, joined: part 4. -/
import Derived.WalkKit
import Derived.OrdersHeld
import Derived.Lib.MinMax
import Derived.Laws.AppendOwn
import Derived.ProofKit
import Derived.OpenShut
import Derived.ChangeOld
import Derived.Carry
import Derived.Deep.Slices
import Derived.Laws.MakeOwn
import Derived.Lib.SliceRun
import Derived.Test.YtmkodknmknfdkaaRows
import Derived.MapKept
import Derived.Lib.AppendZeros
import Derived.SizedLaws
import Derived.Deep.CondSized
import Derived.JoinedCond
import Derived.Test.YtmkodknmknfdkaaXE3
set_option linter.unusedVariables false
set_option linter.unusedSimpArgs false
namespace Go.Proofs.Ytmkodknmknfdkaa
open E
theorem lay_lay_any {ns : List Nod} {s : Sh} {k : Kb} (h : Fit2 ns s k) : ∀ (b : Nat) (pre post : List Nod) (c : Nat), pre.length = b → (s.straight b).lay (pre ++ s.lay ns b ++ post) c = s.lay ns c := by
  induction s generalizing k with
  | leaf i =>
    rintro b pre post c rfl
    simp [Sh.straight, Sh.lay]
  | node i l r h1 h2 =>
    obtain ⟨n, hn, hr, hk, hl, hr'⟩ := h
    rintro b pre post c rfl
    have e1 := h1 hl (pre.length + 1) (pre ++ [{ n with left := ((pre.length + 1 : Nat) : Int), right := ((pre.length + 1 + l.size : Nat) : Int) }]) (r.lay ns (pre.length + 1 + l.size) ++ post) (c + 1) (by simp)
    have e2 := h2 hr' (pre.length + 1 + l.size) (pre ++ { n with left := ((pre.length + 1 : Nat) : Int), right := ((pre.length + 1 + l.size : Nat) : Int) } :: l.lay ns (pre.length + 1)) post (c + 1 + l.size) (by simp [Sh.lay_length]; omega)
    simp only [List.append_assoc, List.cons_append, List.nil_append] at e1 e2
    simp only [Sh.lay, getD_of hn, Sh.straight, straight_size, List.append_assoc, List.cons_append]
    rw [e1, e2]
    simp [List.getD_eq_getElem?_getD]
theorem cut_out {s : Sh} {f : Nat} (h : f ∉ s.places) : s.cut f = s := by
  induction s with
  | leaf k => rfl
  | node k l r g1 g2 =>
    simp only [Sh.places, List.mem_cons, List.mem_append, not_or] at h
    have n1 : l ≠ .leaf f := fun e => h.2.1 (by rw [e]; simp [Sh.places])
    have n2 : r ≠ .leaf f := fun e => h.2.2 (by rw [e]; simp [Sh.places])
    simp only [Sh.cut, if_neg n1, if_neg n2, g1 h.2.1, g2 h.2.2]
theorem split_node {s : Sh} {i N b : Nat} (h : i ∈ s.leaves) (f : Nat) : (s.split i N).straight b ≠ .leaf f := by
  cases s with
  | leaf j => simp [Sh.leaves] at h; subst h; simp [Sh.split, Sh.straight]
  | node j l r => simp [Sh.split, Sh.straight]
theorem back_core {ns : List Nod} {s : Sh} {a : Int} {k : Kb} {i : Nat} {n cn : Nod} (h : Fits ns s a k) (hnd : s.places.Nodup) (hi : i ∈ s.leaves) (hn : ns[i]? = some n) (h2 : 2 ≤ n.l.length) :
    ∀ (b : Nat) (pre post : List Nod), pre.length = b → ∃ f q, b ≤ f ∧ f + 1 < b + (s.split i ns.length).size ∧ f ∈ ((s.split i ns.length).straight b).leaves ∧ ((s.split i ns.length).straight b).nb f = some (q, false, f + 1) ∧
      (pre ++ (s.split i ns.length).lay (spNs ns i n) b ++ post)[f]? = some (spA n) ∧ (pre ++ (s.split i ns.length).lay (spNs ns i n) b ++ post)[f + 1]? = some (spB n) ∧
      ∀ c, (((s.split i ns.length).straight b).cut f).lay ((pre ++ (s.split i ns.length).lay (spNs ns i n) b ++ post).set (f + 1) cn) c = s.lay (ns.set i cn) c := by
  induction s generalizing a k with
  | leaf j =>
    obtain ⟨rfl, x, hx, hxr, hxk⟩ := h
    simp [Sh.leaves] at hi
    subst hi
    rintro b pre post rfl
    have hil := lt_of_get hn
    have e0 : (Sh.leaf i).split i ns.length = .node i (.leaf ns.length) (.leaf (ns.length + 1)) := by simp [Sh.split]
    rw [e0]
    simp only [Sh.lay, Sh.straight, getD_of (sp_at hil), getD_of sp_a, getD_of sp_b, Sh.size]
    refine ⟨pre.length + 1, pre.length, by omega, by omega, by simp [Sh.leaves], by simp [Sh.nb, Sh.first], ?_, ?_, fun c => ?_⟩
    · simp
    · simp
      rw [List.getElem?_append_right (by omega), show pre.length + 1 + 1 - pre.length = 2 by omega]
      rfl
    · simp only [Sh.cut, if_true, Sh.lay]
      rw [List.getD_eq_getElem?_getD, List.getD_eq_getElem?_getD, List.getElem?_set_self (by simp; omega), List.getElem?_set_self hil]
  | node j l r h1 h2' =>
    obtain ⟨rfl, x, hx, hxr, hxk, hl, hrr⟩ := h
    obtain ⟨c1, c2, d1, d2, d3⟩ := nodup_node hnd
    have hjl := lt_of_get hx
    rintro b pre post rfl
    rcases List.mem_append.1 hi with hi' | hi'
    · have him := leaves_places i hi'
      have hij : i ≠ j := fun e => c1 (e ▸ him)
      have hir : i ∉ r.places := d3 i him
      have ho : r.split i ns.length = r := split_out hir
      have hor : ∀ p ∈ r.places, (spNs ns i n)[p]? = ns[p]? := fun p hp => sp_old (hrr.lt p hp) (fun e => hir (e ▸ hp))
      have hor2 : ∀ p ∈ r.places, (ns.set i cn)[p]? = ns[p]? := fun p hp => List.getElem?_set_ne (fun e => hir (by rw [e]; exact hp))
      have hsj : (spNs ns i n)[j]? = some x := by rw [sp_old hjl (Ne.symm hij)]; exact hx
      have hcj : (ns.set i cn)[j]? = some x := by rw [List.getElem?_set_ne hij]; exact hx
      simp only [Sh.split, ho, Sh.lay, Sh.straight, getD_of hsj]
      generalize hxx : ({ x with left := ((pre.length + 1 : Nat) : Int), right := ((pre.length + 1 + (l.split i ns.length).size : Nat) : Int) } : Nod) = xx
      obtain ⟨f, q, g1, g2, g3, g4, g5, g6, g7⟩ := h1 hl d1 hi' (pre.length + 1) (pre ++ [xx]) (r.lay (spNs ns i n) (pre.length + 1 + (l.split i ns.length).size) ++ post) (by simp)
      have eX : pre ++ (xx :: ((l.split i ns.length).lay (spNs ns i n) (pre.length + 1) ++ r.lay (spNs ns i n) (pre.length + 1 + (l.split i ns.length).size))) ++ post = (pre ++ [xx]) ++ (l.split i ns.length).lay (spNs ns i n) (pre.length + 1) ++ (r.lay (spNs ns i n) (pre.length + 1 + (l.split i ns.length).size) ++ post) := by simp [List.append_assoc]
      rw [eX]
      have hfr : f ∉ (r.straight (pre.length + 1 + (l.split i ns.length).size)).places := by rw [straight_places, List.mem_range'_1]; omega
      have nl := split_node (N := ns.length) (b := pre.length + 1) hi' f
      have nr : r.straight (pre.length + 1 + (l.split i ns.length).size) ≠ .leaf f := fun e => hfr (by rw [e]; simp [Sh.places])
      refine ⟨f, q, by omega, by simp only [Sh.size]; omega, by simp [Sh.leaves, g3], by simp only [Sh.nb, if_neg nl, if_neg nr, g4], g5, g6, fun c => ?_⟩
      simp only [Sh.cut, if_neg nl, if_neg nr, cut_out hfr, Sh.lay]
      have hsz : (((l.split i ns.length).straight (pre.length + 1)).cut f).size = l.size := by rw [← Sh.lay_length _ _ 0, g7 0, Sh.lay_length]
      have eb : (((pre ++ [xx]) ++ (l.split i ns.length).lay (spNs ns i n) (pre.length + 1) ++ (r.lay (spNs ns i n) (pre.length + 1 + (l.split i ns.length).size) ++ post)).set (f + 1) cn)[pre.length]? = some xx := by
        rw [List.getElem?_set_ne (by omega)]
        simp [List.append_assoc]
      have er : (r.straight (pre.length + 1 + (l.split i ns.length).size)).lay (((pre ++ [xx]) ++ (l.split i ns.length).lay (spNs ns i n) (pre.length + 1) ++ (r.lay (spNs ns i n) (pre.length + 1 + (l.split i ns.length).size) ++ post)).set (f + 1) cn) (c + 1 + l.size) = r.lay (ns.set i cn) (c + 1 + l.size) := by
        have e1 : (r.straight (pre.length + 1 + (l.split i ns.length).size)).lay (((pre ++ [xx]) ++ (l.split i ns.length).lay (spNs ns i n) (pre.length + 1) ++ (r.lay (spNs ns i n) (pre.length + 1 + (l.split i ns.length).size) ++ post)).set (f + 1) cn) (c + 1 + l.size) =
            (r.straight (pre.length + 1 + (l.split i ns.length).size)).lay ((pre ++ [xx]) ++ (l.split i ns.length).lay (spNs ns i n) (pre.length + 1) ++ (r.lay (spNs ns i n) (pre.length + 1 + (l.split i ns.length).size) ++ post)) (c + 1 + l.size) :=
          lay_congr (fun p hp => List.getElem?_set_ne (by rw [straight_places, List.mem_range'_1] at hp; omega)) _
        rw [e1]
        have e2 := lay_lay_any (fit2_congr (fit2_of hrr) hor) (pre.length + 1 + (l.split i ns.length).size) ((pre ++ [xx]) ++ (l.split i ns.length).lay (spNs ns i n) (pre.length + 1)) post (c + 1 + l.size) (by simp [Sh.lay_length]; omega)
        rw [List.append_assoc] at e2
        rw [e2, lay_congr hor, lay_congr hor2]
      rw [getD_of eb, getD_of hcj, hsz, g7, er, ← hxx]
    · have him := leaves_places i hi'
      have hij : i ≠ j := fun e => c2 (e ▸ him)
      have hil : i ∉ l.places := fun h3 => d3 i h3 him
      have ho : l.split i ns.length = l := split_out hil
      have hol : ∀ p ∈ l.places, (spNs ns i n)[p]? = ns[p]? := fun p hp => sp_old (hl.lt p hp) (fun e => hil (e ▸ hp))
      have hol2 : ∀ p ∈ l.places, (ns.set i cn)[p]? = ns[p]? := fun p hp => List.getElem?_set_ne (fun e => hil (by rw [e]; exact hp))
      have hsj : (spNs ns i n)[j]? = some x := by rw [sp_old hjl (Ne.symm hij)]; exact hx
      have hcj : (ns.set i cn)[j]? = some x := by rw [List.getElem?_set_ne hij]; exact hx
      simp only [Sh.split, ho, Sh.lay, Sh.straight, getD_of hsj]
      generalize hxx : ({ x with left := ((pre.length + 1 : Nat) : Int), right := ((pre.length + 1 + l.size : Nat) : Int) } : Nod) = xx
      obtain ⟨f, q, g1, g2, g3, g4, g5, g6, g7⟩ := h2' hrr d2 hi' (pre.length + 1 + l.size) (pre ++ (xx :: l.lay (spNs ns i n) (pre.length + 1))) post (by simp [Sh.lay_length]; omega)
      have eX : pre ++ (xx :: (l.lay (spNs ns i n) (pre.length + 1) ++ (r.split i ns.length).lay (spNs ns i n) (pre.length + 1 + l.size))) ++ post = (pre ++ (xx :: l.lay (spNs ns i n) (pre.length + 1))) ++ (r.split i ns.length).lay (spNs ns i n) (pre.length + 1 + l.size) ++ post := by simp [List.append_assoc]
      rw [eX]
      have hfl : f ∉ (l.straight (pre.length + 1)).places := by rw [straight_places, List.mem_range'_1]; omega
      have nl : l.straight (pre.length + 1) ≠ .leaf f := fun e => hfl (by rw [e]; simp [Sh.places])
      have nr := split_node (N := ns.length) (b := pre.length + 1 + l.size) hi' f
      have hnl : (l.straight (pre.length + 1)).nb f = none := by
        cases hq : (l.straight (pre.length + 1)).nb f with
        | none => rfl
        | some y => obtain ⟨y1, y2, y3⟩ := y; exact absurd (leaves_places f (nb_mem hq)) hfl
      refine ⟨f, q, by omega, by simp only [Sh.size]; omega, by simp [Sh.leaves, g3], by simp only [Sh.nb, if_neg nl, if_neg nr, hnl, g4], g5, g6, fun c => ?_⟩
      simp only [Sh.cut, if_neg nl, if_neg nr, cut_out hfl, Sh.lay]
      have eb : (((pre ++ (xx :: l.lay (spNs ns i n) (pre.length + 1))) ++ (r.split i ns.length).lay (spNs ns i n) (pre.length + 1 + l.size) ++ post).set (f + 1) cn)[pre.length]? = some xx := by
        rw [List.getElem?_set_ne (by omega)]
        simp [List.append_assoc]
      have el : (l.straight (pre.length + 1)).lay (((pre ++ (xx :: l.lay (spNs ns i n) (pre.length + 1))) ++ (r.split i ns.length).lay (spNs ns i n) (pre.length + 1 + l.size) ++ post).set (f + 1) cn) (c + 1) = l.lay (ns.set i cn) (c + 1) := by
        have e1 : (l.straight (pre.length + 1)).lay (((pre ++ (xx :: l.lay (spNs ns i n) (pre.length + 1))) ++ (r.split i ns.length).lay (spNs ns i n) (pre.length + 1 + l.size) ++ post).set (f + 1) cn) (c + 1) =
            (l.straight (pre.length + 1)).lay ((pre ++ (xx :: l.lay (spNs ns i n) (pre.length + 1))) ++ (r.split i ns.length).lay (spNs ns i n) (pre.length + 1 + l.size) ++ post) (c + 1) :=
          lay_congr (fun p hp => List.getElem?_set_ne (by rw [straight_places, List.mem_range'_1] at hp; omega)) _
        rw [e1]
        have e2 := lay_lay_any (fit2_congr (fit2_of hl) hol) (pre.length + 1) (pre ++ [xx]) ((r.split i ns.length).lay (spNs ns i n) (pre.length + 1 + l.size) ++ post) (c + 1) (by simp)
        have e3 : (pre ++ [xx]) ++ l.lay (spNs ns i n) (pre.length + 1) ++ ((r.split i ns.length).lay (spNs ns i n) (pre.length + 1 + l.size) ++ post) = (pre ++ (xx :: l.lay (spNs ns i n) (pre.length + 1))) ++ (r.split i ns.length).lay (spNs ns i n) (pre.length + 1 + l.size) ++ post := by simp [List.append_assoc]
        rw [e3] at e2
        rw [e2, lay_congr hol, lay_congr hol2]
      rw [getD_of eb, getD_of hcj, straight_size, g7, el, ← hxx]
/-- Split, and joined again. -/
theorem back {t u : PT} {i : Nat} {n : Nod} {y : Pr} (hu : splitT t (i : Int) = some u) (hn : t.ns[i]? = some n) (hy : n.l[0]? = some y) :
    (joinT u ((findD u y.k).leaf : Int)).isSome = true ∧ (setT t (i : Int) n.l 0).isSome = true ∧ sameT (optD (joinT u ((findD u y.k).leaf : Int))) (setD t (i : Int) n.l 0) = true := by
  obtain ⟨s, i', n', hs, e, hi, hn', hr, h2, hm, hup⟩ := split_yes hu
  obtain rfl : i = i' := by omega
  rw [hn] at hn'
  cases hn'
  have hi0 := hi
  rw [leavesT_eq hs] at hi
  obtain ⟨p1, p2, p3⟩ := plain_may hm
  obtain ⟨m, hmn, _, hok⟩ := fits_leaf (may_fits hs) (good_of hs).nodup hi
  rw [hn] at hmn
  cases hmn
  obtain ⟨o1, o2, o3, o4, o5, o6, o7⟩ := leafOk_parts.1 hok
  generalize hcn : (⟨false, 0, 0, 0, n.l, 0⟩ : Nod) = cn
  obtain ⟨f, q, g1, g2, g3, g4, g5, g6, g7⟩ := back_core (cn := cn) (may_fits hs) (good_of hs).nodup hi hn h2 0 [] [] rfl
  simp only [List.nil_append, List.append_nil] at g5 g6 g7
  have hus : u = ⟨0, (s.split i t.ns.length).lay (spNs t.ns i n) 0⟩ := by rw [hup, p1]; rfl
  have hum : mayT u = some ((s.split i t.ns.length).straight 0) := by rw [hup]; exact p2
  have hun : u.ns = (s.split i t.ns.length).lay (spNs t.ns i n) 0 := by rw [hus]
  have hfl : f ∈ leavesT u := by rw [leavesT_eq hum]; exact g3
  have huf : u.ns[f]? = some (spA n) := by rw [hun]; exact g5
  have hym : y ∈ (spA n).l := by
    simp only [spA]
    refine List.mem_iff_getElem?.2 ⟨0, ?_⟩
    rw [List.getElem?_take, if_pos (by omega)]
    exact hy
  have hff := only_find hum hfl huf hym
  rw [hff]
  have hj : joinT u (f : Int) = some ⟨0, s.lay (t.ns.set i cn) 0⟩ := by
    rw [join_eq hum (leaf_of_leaves hfl) g4]
    have e1 : joinN u.ns f (f + 1) false = cn := by
      rw [joinN_eq huf (by rw [hun]; exact g6), ← hcn]
      simp [spA, spB]
    rw [e1, hun, g7 0]
  have hcn2 : cn = { n with l := n.l, stat := 0 } := by
    rw [← hcn]
    obtain ⟨n1, n2, n3, n4, n5, n6⟩ := n
    simp only at o1 o2 o3 hr ⊢
    simp [o1, o2, o3, hr]
  have hok2 : leafOk { n with l := n.l, stat := 0 } (s.bd t.ns Kb.all i) = true := by
    rw [leafOk_parts]
    exact ⟨o1, o2, o3, o4, by show (-1000000 : Int) ≤ 0; decide, by show (0 : Int) ≤ 1000000; decide, o7⟩
  have hset : setT t (i : Int) n.l 0 = some ⟨t.root, t.ns.set i cn⟩ := by
    rw [setT_leaf hs hi0 hn, hok2, ← hcn2]
    rfl
  have hms : mayT ⟨t.root, t.ns.set i cn⟩ = some s := by
    rw [may_set hs hi0 (by rw [← hcn])]
    rw [hcn2, hok2]
    rfl
  obtain ⟨k1, _, _, k4⟩ := join_keeps hj
  refine ⟨by rw [hj]; rfl, by rw [hset]; rfl, ?_⟩
  have e2 : optD (joinT u (f : Int)) = ⟨0, s.lay (t.ns.set i cn) 0⟩ := by rw [hj]; rfl
  have e3 : setD t (i : Int) n.l 0 = ⟨t.root, t.ns.set i cn⟩ := by rw [setD, hset]; rfl
  rw [e2, e3]
  refine same_true k1 (by rw [hms]; rfl) ?_
  rw [k4]
  exact (plain_may hms).1
end Go.Proofs.Ytmkodknmknfdkaa
set_option linter.unusedVariables false
set_option linter.unusedSimpArgs false
namespace Go.Proofs.Ytmkodknmknfdkaa
namespace E
open Go Go.MapKept
section
variable {P : Program} {n : Nat} {env : Env} {Γ : List SProp} {L : Loc} {ty t k e : TypeId} {m x y : Operand} {f : Int → Option Int} {b i : Nat} {M : Seg} {a c : Int}
end
end E
end Go.Proofs.Ytmkodknmknfdkaa
set_option linter.unusedVariables false
set_option linter.unusedSimpArgs false
namespace Go.Proofs.Ytmkodknmknfdkaa
open E
def hold (n lo hi : Int) : Int := min (max n lo) hi
structure Pol where
  high : Int
  low : Int
  cont : Int
  uncont : Int
  multi : Int
  deriving DecidableEq
def Pol.val (p : Pol) : Value := .agg #[.int .i64 p.high, .int .i64 p.low, .int .i64 p.cont, .int .i64 p.uncont, .int .i64 p.multi]
def Pol.clamp (p : Pol) : Pol := ⟨hold p.high 1 100000, hold p.low (-100000) 0, hold p.cont (-100000) 100000, hold p.uncont (-100000) 100000, hold p.multi (-100000) 100000⟩
def Pol.off : Pol := ⟨100000, -100000, 0, 0, 0⟩
def Pol.eager : Pol := ⟨1, -1, 2, -1, 3⟩
theorem Pol.clamp_bd (p : Pol) : 1 ≤ p.clamp.high ∧ p.clamp.high ≤ 100000 ∧ -100000 ≤ p.clamp.low ∧ p.clamp.low ≤ 0 ∧ -100000 ≤ p.clamp.cont ∧ p.clamp.cont ≤ 100000 ∧
    -100000 ≤ p.clamp.uncont ∧ p.clamp.uncont ≤ 100000 ∧ -100000 ≤ p.clamp.multi ∧ p.clamp.multi ≤ 100000 := by
  simp only [Pol.clamp, hold]; omega
def heldS (n : Int) : Int := hold n (-1000000) 1000000
theorem heldS_bd (n : Int) : -1000000 ≤ heldS n ∧ heldS n ≤ 1000000 := by unfold heldS hold; omega
def pushed (p : Pol) (s w : Int) : Int := if w = 1 then heldS s + p.clamp.cont else if w = 2 then heldS s - p.clamp.uncont else if w = 3 then heldS s - p.clamp.multi else heldS s
def nextS (p : Pol) (s w : Int) : Int := heldS (pushed p s w)
def decideS (p : Pol) (s : Int) : Int := if p.clamp.high < heldS s then 1 else if heldS s < p.clamp.low then 2 else 0
/-- A leaf, bent as its stat says. -/
def bendT (t : PT) (p : Pol) (a : Int) : PT × Int := if leafT t a then (match t.ns[a.toNat]? with
  | none => (⟨0, []⟩, 0)
  | some n => if decideS p n.stat = 1 ∧ (splitT t a).isSome = true then (optD (splitT t a), 1) else if decideS p n.stat = 2 ∧ (joinT t a).isSome = true then (optD (joinT t a), 2) else (plainD t, 0)) else (⟨0, []⟩, 0)
theorem bend_no {t : PT} {p : Pol} {a : Int} (h : leafT t a = false) : bendT t p a = (⟨0, []⟩, 0) := by simp [bendT, h]
theorem bend_eq {t : PT} {p : Pol} {i : Nat} {n : Nod} (h : leafT t (i : Int) = true) (hn : t.ns[i]? = some n) :
    bendT t p (i : Int) = if decideS p n.stat = 1 ∧ (splitT t (i : Int)).isSome = true then (optD (splitT t (i : Int)), 1) else if decideS p n.stat = 2 ∧ (joinT t (i : Int)).isSome = true then (optD (joinT t (i : Int)), 2) else (plainD t, 0) := by
  unfold bendT
  rw [if_pos h]
  simp only [Int.toNat_natCast, hn]
def BendEnd (x : PT × Int) (v : Value) (Γ : List SProp) (M : E.Loc) : Prop := ∃ u : Tr, v = .tuple #[u.val, .int .i64 x.2] ∧ Γ = [ndsP u.ns, psP u.ns.l] ∧ M = [] ∧ u.p = x.1
/-- A leaf's stat anew. -/
theorem set_stat {t : PT} {s : Sh} {i : Nat} {n : Nod} {st : Int} (hs : mayT t = some s) (hi : i ∈ leavesT t) (hn : t.ns[i]? = some n) (h1 : -1000000 ≤ st) (h2 : st ≤ 1000000) :
    setT t (i : Int) n.l st = some ⟨t.root, t.ns.set i { n with l := n.l, stat := st }⟩ ∧ mayT ⟨t.root, t.ns.set i { n with l := n.l, stat := st }⟩ = some s ∧ leavesT ⟨t.root, t.ns.set i { n with l := n.l, stat := st }⟩ = leavesT t ∧ allT ⟨t.root, t.ns.set i { n with l := n.l, stat := st }⟩ = allT t := by
  have hi0 := hi
  rw [leavesT_eq hs] at hi
  obtain ⟨m, hmn, hr, hok⟩ := fits_leaf (may_fits hs) (good_of hs).nodup hi
  rw [hn] at hmn
  cases hmn
  obtain ⟨o1, o2, o3, o4, o5, o6, o7⟩ := leafOk_parts.1 hok
  have hok2 : leafOk { n with l := n.l, stat := st } (s.bd t.ns Kb.all i) = true := leafOk_parts.2 ⟨o1, o2, o3, o4, h1, h2, o7⟩
  have hm : mayT ⟨t.root, t.ns.set i { n with l := n.l, stat := st }⟩ = some s := by
    rw [may_set (n' := { n with l := n.l, stat := st }) hs hi0 hr, hok2]; rfl
  have hlv : leavesT ⟨t.root, t.ns.set i { n with l := n.l, stat := st }⟩ = leavesT t := by rw [leavesT_eq hm, leavesT_eq hs]
  refine ⟨by rw [setT_leaf hs hi0 hn, hok2]; rfl, hm, hlv, ?_⟩
  unfold allT
  rw [hlv]
  refine flat_congr fun p hp => ?_
  by_cases hpi : i = p
  · subst hpi
    have e : (t.ns.set i { n with l := n.l, stat := st })[i]? = some { n with l := n.l, stat := st } := List.getElem?_set_self (lt_of_get hn)
    rw [getD_of e, getD_of hn]
  · rw [List.getD_eq_getElem?_getD, List.getD_eq_getElem?_getD, List.getElem?_set_ne hpi]
theorem plain_keeps {t : PT} (h : (mayT t).isSome = true) : (mayT (plainD t)).isSome = true ∧ (leavesT (plainD t)).length = (leavesT t).length ∧ allT (plainD t) = allT t ∧ plainD (plainD t) = plainD t := by
  obtain ⟨s, hs⟩ := Option.isSome_iff_exists.1 h
  obtain ⟨p1, p2, p3⟩ := plain_may hs
  exact ⟨by rw [p2]; rfl, by rw [leavesT_eq p2, straight_leaves, leavesT_eq hs], by rw [all_plain, p3, ← all_plain], p3⟩
/-- By how many leaves there are more. -/
def byT (d : Int) : Int := if d = 1 then 1 else if d = 2 then -1 else 0
theorem bend_keeps {t : PT} {s : Sh} {p : Pol} {i : Nat} {n : Nod} (hs : mayT t = some s) (hi : i ∈ leavesT t) (hn : t.ns[i]? = some n) :
    (mayT (bendT t p (i : Int)).1).isSome = true ∧ (((leavesT (bendT t p (i : Int)).1).length : Nat) : Int) = (leavesT t).length + byT (bendT t p (i : Int)).2 ∧ allT (bendT t p (i : Int)).1 = allT t := by
  rw [bend_eq (leaf_of_leaves hi) hn]
  split
  · rename_i h
    obtain ⟨k1, k2, k3, _⟩ := split_opt rfl h.2
    exact ⟨k1, by rw [k2]; simp [byT], k3⟩
  · split
    · rename_i h
      obtain ⟨k1, k2, k3, _⟩ := join_opt rfl h.2
      exact ⟨k1, by simp [byT]; omega, k3⟩
    · obtain ⟨k1, k2, k3, _⟩ := plain_keeps (t := t) (by rw [hs]; rfl)
      exact ⟨k1, by rw [k2]; simp [byT], k3⟩
end Go.Proofs.Ytmkodknmknfdkaa
set_option linter.unusedVariables false
set_option linter.unusedSimpArgs false
namespace Go.Proofs.Ytmkodknmknfdkaa
open E
set_option maxRecDepth 4000
theorem t64 : tRow Try.prog 64 = some (false, 5, 40, .agg #[.int .i64 0, .int .i64 0, .int .i64 0, .int .i64 0, .int .i64 0]) := by kernel_rfl
theorem s64 : sRow Try.prog 64 = some [(0, 1, true), (1, 1, true), (2, 1, true), (3, 1, true), (4, 1, true)] := by kernel_rfl
theorem en89 : Enters Try.prog 89 := Enters.mk' Try.func89 rfl rfl
theorem en111 : Enters Try.prog 111 := Enters.mk' Try.func111 rfl rfl
theorem en112 : Enters Try.prog 112 := Enters.mk' Try.func112 rfl rfl
theorem en117 : Enters Try.prog 117 := Enters.mk' Try.func117 rfl rfl
theorem held117 (n lo hi : Int) : Con Try.prog 117 [.int .i64 n, .int .i64 lo, .int .i64 hi] [] [] (fun v Γ M => v = .int .i64 (hold n lo hi) ∧ Γ = [] ∧ M = []) := by
  refine Con.body 12 Try.func117 rfl Try.ntmps117 rfl fun X H₀ L₀ => ?_
  refine At.seq ?_
  refine At.region ?_
  refine At.skim 1 rfl rfl ?_
  refine At.nil ?_
  refine At.then ?_
  refine At.seq ?_
  refine At.region ?_
  refine At.skim 2 rfl rfl ?_
  refine At.quiet (q_max rfl rfl) rfl ?_
  refine At.skim 1 rfl rfl ?_
  refine At.quiet (q_min rfl rfl) rfl ?_
  refine At.skim 1 rfl rfl ?_
  refine At.nil ?_
  refine At.then ?_
  refine At.ret ?_
  exact At.results (Γr := []) (M := []) rfl (RVals.cons (RVal.tmp rfl) RVals.nil) (.head _) (fun _ _ => trivial) (.refl _) ⟨rfl, rfl, rfl⟩
theorem held112 (n : Int) : Con Try.prog 112 [.int .i64 n] [] [] (fun v Γ M => v = .int .i64 (heldS n) ∧ Γ = [] ∧ M = []) := by
  refine Con.body 6 Try.func112 rfl Try.ntmps112 rfl fun X H₀ L₀ => ?_
  refine At.seq ?_
  refine At.region ?_
  refine At.skim 1 rfl rfl ?_
  refine At.nil ?_
  refine At.then ?_
  refine At.seq ?_
  refine At.region ?_
  refine At.skim 1 rfl rfl ?_
  refine At.quiet (q_max rfl rfl) rfl ?_
  refine At.quiet (q_min rfl rfl) rfl ?_
  refine At.skim 1 rfl rfl ?_
  refine At.nil ?_
  refine At.then ?_
  refine At.ret ?_
  exact At.results (Γr := []) (M := []) rfl (RVals.cons (RVal.tmp rfl) RVals.nil) (.head _) (fun _ _ => trivial) (.refl _) ⟨rfl, rfl, rfl⟩
theorem clamp111 (p : Pol) : Con Try.prog 111 [p.val] [] [] (fun v Γ M => v = p.clamp.val ∧ Γ = [] ∧ M = []) := by
  refine Con.body 19 Try.func111 rfl Try.ntmps111 rfl fun X H₀ L₀ => ?_
  refine At.seq ?_
  refine At.region ?_
  refine At.loud (l_box rfl) rfl ?_
  rintro _ _ _ ⟨b1, rfl, rfl, rfl⟩
  refine At.freeze 0 (φ := blk b1 _) rfl (fun _ h => blk_def.2 ⟨_, _, h⟩) ?_
  refine At.loud (l_alloc t64) rfl ?_
  rintro _ _ _ ⟨b2, rfl, rfl, rfl⟩
  refine At.nil ?_
  refine At.then ?_
  refine At.seq ?_
  refine At.draw 14 (.q 0 (.q 1 (.q 3 (.q 4 (.q 6 (.q 7 (.q 9 (.q 10 (.q 12 (.q 13 (.o 2 (.o 5 (.o 8 (.o 11 (.e))))))))))))))) _ (List.Sublist.refl _) mixed (by kernel_rfl) rfl ?_
  refine AtO.quiet rfl (q_fieldAddr s64 rfl rfl rfl) rfl (Calm.then Post.calm) ?_
  refine AtO.quiet rfl (q_load t3 rfl (Rd.blk (.head _) rfl)) rfl (Calm.then Post.calm) ?_
  refine AtO.quiet rfl (q_fieldAddr s64 rfl rfl rfl) rfl (Calm.then Post.calm) ?_
  refine AtO.quiet rfl (q_load t3 rfl (Rd.blk (.head _) rfl)) rfl (Calm.then Post.calm) ?_
  refine AtO.quiet rfl (q_fieldAddr s64 rfl rfl rfl) rfl (Calm.then Post.calm) ?_
  refine AtO.quiet rfl (q_load t3 rfl (Rd.blk (.head _) rfl)) rfl (Calm.then Post.calm) ?_
  refine AtO.quiet rfl (q_fieldAddr s64 rfl rfl rfl) rfl (Calm.then Post.calm) ?_
  refine AtO.quiet rfl (q_load t3 rfl (Rd.blk (.head _) rfl)) rfl (Calm.then Post.calm) ?_
  refine AtO.quiet rfl (q_fieldAddr s64 rfl rfl rfl) rfl (Calm.then Post.calm) ?_
  refine AtO.quiet rfl (q_load t3 rfl (Rd.blk (.head _) rfl)) rfl (Calm.then Post.calm) ?_
  refine AtO.callA rfl en117 rfl (held117 _ _ _) (fun _ _ => trivial) (List.Perm.refl _) rfl (.refl _) ?_
  rintro _ _ _ ⟨rfl, rfl, rfl⟩
  refine AtO.callA rfl en117 rfl (held117 _ _ _) (fun _ _ => trivial) (List.Perm.refl _) rfl (.refl _) ?_
  rintro _ _ _ ⟨rfl, rfl, rfl⟩
  refine AtO.callA rfl en117 rfl (held117 _ _ _) (fun _ _ => trivial) (List.Perm.refl _) rfl (.refl _) ?_
  rintro _ _ _ ⟨rfl, rfl, rfl⟩
  refine AtO.callA rfl en117 rfl (held117 _ _ _) (fun _ _ => trivial) (List.Perm.refl _) rfl (.refl _) ?_
  rintro _ _ _ ⟨rfl, rfl, rfl⟩
  refine AtO.done ?_
  refine At.call en117 rfl (held117 _ _ _) (fun _ _ => trivial) (List.Perm.refl _) rfl ?_
  rintro _ _ _ ⟨rfl, rfl, rfl⟩
  refine At.quiet (q_build t64 s64 rfl rfl) rfl ?_
  refine At.loudN (l_store t64 rfl rfl (i := 0) rfl rfl rfl rfl) ?_
  rintro _ _ _ ⟨rfl, rfl⟩
  refine At.nil ?_
  refine At.then ?_
  refine At.ret ?_
  exact At.results (Γr := []) (M := []) rfl (RVals.cons (RVal.cellS rfl t64 (RdS.loc (i := 0) rfl (m := 5) rfl) rfl) RVals.nil) (.tail _ (.head _)) (fun _ _ => trivial) (.cons _ (.refl _)) ⟨rfl, rfl, rfl⟩
theorem decide89 (p : Pol) (s : Int) : Con Try.prog 89 [p.val, .int .i64 s] [] [] (fun v Γ M => v = .int .i64 (decideS p s) ∧ Γ = [] ∧ M = []) := by
  refine Con.body 19 Try.func89 rfl Try.ntmps89 rfl fun X H₀ L₀ => ?_
  refine At.seq ?_
  refine At.region ?_
  refine At.loud (l_box rfl) rfl ?_
  rintro _ _ _ ⟨b1, rfl, rfl, rfl⟩
  refine At.skim 1 rfl rfl ?_
  refine At.nil ?_
  refine At.then ?_
  refine At.seq ?_
  refine At.region ?_
  refine At.quiet (q_loadS t64 rfl (RdS.loc (i := 0) rfl (m := 5) rfl) rfl) rfl ?_
  refine At.call en111 rfl (clamp111 p) (fun _ _ => trivial) (List.Perm.refl _) rfl ?_
  rintro _ _ _ ⟨rfl, rfl, rfl⟩
  refine At.skim 1 rfl rfl ?_
  refine At.call en112 rfl (held112 _) (fun _ _ => trivial) (List.Perm.refl _) rfl ?_
  rintro _ _ _ ⟨rfl, rfl, rfl⟩
  refine At.loudN (l_store t64 rfl rfl (i := 0) rfl rfl rfl rfl) ?_
  rintro _ _ _ ⟨rfl, rfl⟩
  refine At.skim 1 rfl rfl ?_
  refine At.nil ?_
  refine At.then ?_
  refine At.seq ?_
  refine At.block ?_
  refine At.seq ?_
  refine At.region ?_
  refine At.skim 1 rfl rfl ?_
  refine At.fld s64 t3 rfl rfl rfl (Rd.loc (i := 0) rfl rfl) rfl rfl ?_
  refine At.skim 2 rfl rfl ?_
  refine At.nil ?_
  refine At.then ?_
  refine At.if rfl (fun h1 => ?_) (fun h1 => ?_)
  · skip
    refine At.seq ?_
    refine At.region ?_
    refine At.skim 1 rfl rfl ?_
    refine At.nil ?_
    refine At.then ?_
    refine At.ret ?_
    refine At.inRet ?_
    refine At.thenRet ?_
    exact At.results (Γr := []) (M := []) rfl (RVals.cons (RVal.tmp rfl) RVals.nil) (.head _) (fun _ _ => trivial) (.cons _ (.refl _)) ⟨by simp only [resVal, decideS, if_pos (show p.clamp.high < heldS s from h1)] <;> rfl, rfl, rfl⟩
  · skip
    refine At.seq ?_
    refine At.region ?_
    refine At.skim 1 rfl rfl ?_
    refine At.fld s64 t3 rfl rfl rfl (Rd.loc (i := 0) rfl rfl) rfl rfl ?_
    refine At.skim 2 rfl rfl ?_
    refine At.nil ?_
    refine At.then ?_
    refine At.if rfl (fun h2 => ?_) (fun h2 => ?_)
    · skip
      refine At.seq ?_
      refine At.region ?_
      refine At.skim 1 rfl rfl ?_
      refine At.nil ?_
      refine At.then ?_
      refine At.ret ?_
      refine At.inRet ?_
      refine At.thenRet ?_
      exact At.results (Γr := []) (M := []) rfl (RVals.cons (RVal.tmp rfl) RVals.nil) (.head _) (fun _ _ => trivial) (.cons _ (.refl _)) ⟨by simp only [resVal, decideS, if_neg (show ¬ p.clamp.high < heldS s from h1), if_pos (show heldS s < p.clamp.low from h2)] <;> rfl, rfl, rfl⟩
    · skip
      refine At.skip ?_
      refine At.inNormal ?_
      refine At.then ?_
      refine At.seq ?_
      refine At.region ?_
      refine At.skim 1 rfl rfl ?_
      refine At.nil ?_
      refine At.then ?_
      refine At.ret ?_
      exact At.results (Γr := []) (M := []) rfl (RVals.cons (RVal.tmp rfl) RVals.nil) (.head _) (fun _ _ => trivial) (.cons _ (.refl _)) ⟨by simp only [resVal, decideS, if_neg (show ¬ p.clamp.high < heldS s from h1), if_neg (show ¬ heldS s < p.clamp.low from h2)] <;> rfl, rfl, rfl⟩
theorem bend51 (t : Tr) (hsm : smallP t.ns.l) (p : Pol) (at_ : Int) : Con Try.prog 51 [t.val, p.val, .int .i64 at_] [ndsP t.ns, psP t.ns.l] [] (BendEnd (bendT t.p p at_)) := by
  refine Con.body 50 Try.func51 rfl Try.ntmps51 rfl fun X H₀ L₀ => ?_
  refine At.seq ?_
  refine At.region ?_
  refine At.loud (l_box rfl) rfl ?_
  rintro _ _ _ ⟨b1, rfl, rfl, rfl⟩
  refine At.freeze 0 (φ := blk b1 _) rfl (fun _ h => blk_def.2 ⟨_, _, h⟩) ?_
  refine At.loud (l_box rfl) rfl ?_
  rintro _ _ _ ⟨b2, rfl, rfl, rfl⟩
  refine At.freeze 0 (φ := blk b2 _) rfl (fun _ h => blk_def.2 ⟨_, _, h⟩) ?_
  refine At.loud (l_alloc t24) rfl ?_
  rintro _ _ _ ⟨b3, rfl, rfl, rfl⟩
  refine At.skim 1 rfl rfl ?_
  refine At.nil ?_
  refine At.then ?_
  refine At.seq ?_
  refine At.seq ?_
  refine At.region ?_
  refine At.quiet (q_loadS t24 rfl (RdS.blk (.tail _ (.head _)) (m := 2) rfl) rfl) rfl ?_
  refine At.skim 1 rfl rfl ?_
  refine At.call en80 rfl (leaf80 _ _) (fun _ h => ⟨h.2.2.2.1, h.2.2.2.2.1, trivial⟩) (List.Perm.refl _) rfl ?_
  rintro _ _ _ ⟨rfl, rfl, rfl⟩
  refine At.skim 1 rfl rfl ?_
  refine At.nil ?_
  refine At.then ?_
  refine At.cond rfl (fun hlf => ?_) (fun hlf => ?_)
  · skip
    refine At.know (ndsP ⟨none, 0, []⟩) (fun _ h => sl_nil _ _ _ (Nat.zero_le _)) ?_
    refine At.know (psP []) (fun _ h => psP_nil) ?_
    refine At.seq ?_
    refine At.region ?_
    refine At.quiet (q_build t24 s24 rfl rfl) rfl ?_
    refine At.loudN (l_store t24 rfl rfl (i := 0) rfl rfl rfl rfl) ?_
    rintro _ _ _ ⟨rfl, rfl⟩
    refine At.skim 1 rfl rfl ?_
    refine At.nil ?_
    refine At.then ?_
    refine At.ret ?_
    refine At.thenRet ?_
    exact At.results (Γr := [_, _]) (M := []) rfl (RVals.cons (RVal.cellS rfl t24 (RdS.loc (i := 0) rfl (m := 2) rfl) rfl) (RVals.cons (RVal.tmp rfl) RVals.nil)) (.tail _ (.tail _ (.tail _ (.tail _ (.head _))))) (fun _ h => ⟨h.2.1, h.1, trivial⟩) (.cons _ (.refl _)) ⟨⟨0, ⟨none, 0, []⟩⟩, by rw [bend_no (not_t hlf)]; rfl, rfl, rfl, by rw [bend_no (not_t hlf)]; rfl⟩
  · skip
    obtain ⟨s, i, n, hs, rfl, hn, hnr⟩ := leaf_yes (not_f hlf)
    have hil := lt_of_get hn
    obtain ⟨x, hx, hxn⟩ := p_get (u := t) rfl hn
    have hbe := bend_eq (p := p) (not_f hlf) hn
    have hxs : x.stat = n.stat := by rw [← hxn]; rfl
    refine At.know (prsP x.ps) (fun _ h => psP_get h.2.2.2.2.1 hx) ?_
    refine At.skip ?_
    refine At.then ?_
    refine At.seq ?_
    refine At.draw 7 (.q 0 (.q 1 (.q 2 (.q 3 (.q 4 (.q 5 (.q 6 (.e)))))))) _ (List.Sublist.refl _) mixed (by kernel_rfl) rfl ?_
    refine AtO.quiet rfl (q_loadS t64 rfl (RdS.blk (.tail _ (.head _)) (m := 5) rfl) rfl) rfl (Calm.then Post.calm) ?_
    refine AtO.quiet rfl (q_fieldAddr s24 rfl rfl rfl) rfl (Calm.then Post.calm) ?_
    refine AtO.quiet rfl (q_load t22 rfl (Rd.blk (.tail _ (.tail _ (.head _))) rfl)) rfl (Calm.then Post.calm) ?_
    refine AtO.quiet rfl (q_move rfl) rfl (Calm.then Post.calm) ?_
    refine AtO.quiet rfl (q_index Try.underlying22 t33 rfl (.tail _ (.tail _ (.tail _ (.tail _ (.head _))))) (by simp) rfl rfl (lt_of_get hx)) rfl (Calm.then Post.calm) ?_
    refine AtO.quiet rfl (q_fieldAddr s33 rfl rfl rfl) rfl (Calm.then Post.calm) ?_
    refine AtO.quiet rfl (q_load t3 rfl (Rd.sl (.tail _ (.tail _ (.tail _ (.tail _ (.head _))))) (map_get hx) rfl)) rfl (Calm.then Post.calm) ?_
    refine AtO.done ?_
    refine At.call en89 rfl (decide89 p x.stat) (fun _ _ => trivial) (List.Perm.refl _) rfl ?_
    rintro _ _ _ ⟨rfl, rfl, rfl⟩
    refine At.skim 1 rfl rfl ?_
    refine At.nil ?_
    refine At.then ?_
    refine At.seq ?_
    refine At.region ?_
    rw [← hxs] at hbe
    refine At.loud (l_alloc t24) rfl ?_
    rintro _ _ _ ⟨b4, rfl, rfl, rfl⟩
    refine At.nil ?_
    refine At.then ?_
    refine At.seq ?_
    refine At.region ?_
    refine At.skim 1 rfl rfl ?_
    refine At.nil ?_
    refine At.then ?_
    refine At.seq ?_
    refine At.seq ?_
    refine At.region ?_
    refine At.skim 1 rfl rfl ?_
    refine At.nil ?_
    refine At.then ?_
    refine At.block ?_
    refine At.seq ?_
    refine At.region ?_
    refine At.skim 2 rfl rfl ?_
    refine At.nil ?_
    refine At.then ?_
    refine At.if rfl (fun h1 => ?_) (fun h1 => ?_)
    · skip
      refine At.region ?_
      refine At.quiet (q_loadS t24 rfl (RdS.blk (.tail _ (.tail _ (.head _))) (m := 2) rfl) rfl) rfl ?_
      refine At.skim 1 rfl rfl ?_
      refine At.call en47 rfl (split47 _ (by assumption) _) (fun _ h => ⟨h.2.2.2.2.1, h.2.2.2.2.2.1, trivial⟩) (List.Perm.refl _) rfl ?_
      rintro _ _ _ ⟨u, rfl, rfl, rfl, hpu⟩
      refine At.skim 1 rfl rfl ?_
      refine At.quiet (q_extract rfl rfl) rfl ?_
      refine At.quiet (q_extract rfl rfl) rfl ?_
      refine At.loudN (l_store t24 rfl rfl (i := 0) rfl rfl rfl rfl) ?_
      rintro _ _ _ ⟨rfl, rfl⟩
      refine At.skim 1 rfl rfl ?_
      refine At.nil ?_
      refine At.inNormal ?_
      refine At.then ?_
      refine At.seq ?_
      refine At.seq ?_
      refine At.region ?_
      refine At.skim 2 rfl rfl ?_
      refine At.nil ?_
      refine At.then ?_
      refine At.cond rfl (fun hok => ?_) (fun hok => ?_)
      · skip
        refine At.seq ?_
        refine At.region ?_
        refine At.quiet (q_loadS t24 rfl (RdS.blk (.tail _ (.tail _ (.tail _ (.tail _ (.head _))))) (m := 2) rfl) rfl) rfl ?_
        refine At.call en25 rfl (plain25 _ (by assumption)) (fun _ h => ⟨h.2.2.2.2.2.2.1, h.2.2.2.2.2.2.2.1, trivial⟩) (List.Perm.refl _) rfl ?_
        rintro _ _ _ ⟨w, Mw, rfl, rfl, rfl, hw, hpw⟩
        refine At.skim 1 rfl rfl ?_
        refine At.quiet (q_extract rfl rfl) rfl ?_
        refine At.quiet (q_extract rfl rfl) rfl ?_
        refine At.loudN (l_store t24 rfl rfl (i := 1) rfl rfl rfl rfl) ?_
        rintro _ _ _ ⟨rfl, rfl⟩
        refine At.nil ?_
        refine At.then ?_
        refine At.region ?_
        refine At.skim 1 rfl rfl ?_
        refine At.nil ?_
        refine At.then ?_
        refine At.seq ?_
        refine At.region ?_
        refine At.freezeOwn 0 hw rfl ?_
        refine At.quiet (q_loadS t24 rfl (RdS.loc (i := 0) rfl (m := 2) rfl) rfl) rfl ?_
        refine At.skim 1 rfl rfl ?_
        refine At.loudN (l_store t24 rfl rfl (i := 1) rfl rfl rfl rfl) ?_
        rintro _ _ _ ⟨rfl, rfl⟩
        refine At.skim 1 rfl rfl ?_
        refine At.nil ?_
        refine At.then ?_
        refine At.ret ?_
        exact At.results (Γr := [_, _]) (M := []) rfl (RVals.cons (RVal.cellS rfl t24 (RdS.loc (i := 1) rfl (m := 2) rfl) rfl) (RVals.cons (RVal.tmp rfl) RVals.nil)) (.tail _ (.tail _ (.tail _ (.tail _ (.tail _ (.tail _ (.tail _ (.head _)))))))) (fun _ h => ⟨h.1, h.2.1, trivial⟩) (.cons _ (.cons _ (.refl _))) ⟨w, by rw [hbe, if_neg (fun h => by rw [not_t hok] at h; exact absurd h.2 (by simp)), if_neg (fun h => by omega)]; rfl, rfl, rfl, by rw [hbe, if_neg (fun h => by rw [not_t hok] at h; exact absurd h.2 (by simp)), if_neg (fun h => by omega)]; exact hpw⟩
      · skip
        refine At.skip ?_
        refine At.then ?_
        refine At.seq ?_
        refine At.region ?_
        refine At.quiet (q_loadS t24 rfl (RdS.loc (i := 0) rfl (m := 2) rfl) rfl) rfl ?_
        refine At.skim 1 rfl rfl ?_
        refine At.loudN (l_store t24 rfl rfl (i := 1) rfl rfl rfl rfl) ?_
        rintro _ _ _ ⟨rfl, rfl⟩
        refine At.skim 1 rfl rfl ?_
        refine At.nil ?_
        refine At.then ?_
        refine At.ret ?_
        exact At.results (Γr := [_, _]) (M := []) rfl (RVals.cons (RVal.cellS rfl t24 (RdS.loc (i := 1) rfl (m := 2) rfl) rfl) (RVals.cons (RVal.tmp rfl) RVals.nil)) (.tail _ (.tail _ (.tail _ (.tail _ (.tail _ (.head _)))))) (fun _ h => ⟨h.1, h.2.1, trivial⟩) (.cons _ (.cons _ (.refl _))) ⟨u, by rw [hbe, if_pos ⟨h1, not_f hok⟩]; first | rfl | (rw [h1]; rfl) | (rw [h2]; rfl), rfl, rfl, by rw [hbe, if_pos ⟨h1, not_f hok⟩]; exact hpu⟩
    · skip
      refine At.seq ?_
      refine At.region ?_
      refine At.skim 2 rfl rfl ?_
      refine At.nil ?_
      refine At.then ?_
      refine At.if rfl (fun h2 => ?_) (fun h2 => ?_)
      · skip
        refine At.region ?_
        refine At.quiet (q_loadS t24 rfl (RdS.blk (.tail _ (.tail _ (.head _))) (m := 2) rfl) rfl) rfl ?_
        refine At.skim 1 rfl rfl ?_
        refine At.call en48 rfl (join48 _ (by assumption) _) (fun _ h => ⟨h.2.2.2.2.1, h.2.2.2.2.2.1, trivial⟩) (List.Perm.refl _) rfl ?_
        rintro _ _ _ ⟨u, rfl, rfl, rfl, hpu⟩
        refine At.skim 1 rfl rfl ?_
        refine At.quiet (q_extract rfl rfl) rfl ?_
        refine At.quiet (q_extract rfl rfl) rfl ?_
        refine At.loudN (l_store t24 rfl rfl (i := 0) rfl rfl rfl rfl) ?_
        rintro _ _ _ ⟨rfl, rfl⟩
        refine At.skim 1 rfl rfl ?_
        refine At.nil ?_
        refine At.inNormal ?_
        refine At.then ?_
        refine At.seq ?_
        refine At.seq ?_
        refine At.region ?_
        refine At.skim 2 rfl rfl ?_
        refine At.nil ?_
        refine At.then ?_
        refine At.cond rfl (fun hok => ?_) (fun hok => ?_)
        · skip
          refine At.seq ?_
          refine At.region ?_
          refine At.quiet (q_loadS t24 rfl (RdS.blk (.tail _ (.tail _ (.tail _ (.tail _ (.head _))))) (m := 2) rfl) rfl) rfl ?_
          refine At.call en25 rfl (plain25 _ (by assumption)) (fun _ h => ⟨h.2.2.2.2.2.2.1, h.2.2.2.2.2.2.2.1, trivial⟩) (List.Perm.refl _) rfl ?_
          rintro _ _ _ ⟨w, Mw, rfl, rfl, rfl, hw, hpw⟩
          refine At.skim 1 rfl rfl ?_
          refine At.quiet (q_extract rfl rfl) rfl ?_
          refine At.quiet (q_extract rfl rfl) rfl ?_
          refine At.loudN (l_store t24 rfl rfl (i := 1) rfl rfl rfl rfl) ?_
          rintro _ _ _ ⟨rfl, rfl⟩
          refine At.nil ?_
          refine At.then ?_
          refine At.region ?_
          refine At.skim 1 rfl rfl ?_
          refine At.nil ?_
          refine At.then ?_
          refine At.seq ?_
          refine At.region ?_
          refine At.freezeOwn 0 hw rfl ?_
          refine At.quiet (q_loadS t24 rfl (RdS.loc (i := 0) rfl (m := 2) rfl) rfl) rfl ?_
          refine At.skim 1 rfl rfl ?_
          refine At.loudN (l_store t24 rfl rfl (i := 1) rfl rfl rfl rfl) ?_
          rintro _ _ _ ⟨rfl, rfl⟩
          refine At.skim 1 rfl rfl ?_
          refine At.nil ?_
          refine At.then ?_
          refine At.ret ?_
          exact At.results (Γr := [_, _]) (M := []) rfl (RVals.cons (RVal.cellS rfl t24 (RdS.loc (i := 1) rfl (m := 2) rfl) rfl) (RVals.cons (RVal.tmp rfl) RVals.nil)) (.tail _ (.tail _ (.tail _ (.tail _ (.tail _ (.tail _ (.tail _ (.head _)))))))) (fun _ h => ⟨h.1, h.2.1, trivial⟩) (.cons _ (.cons _ (.refl _))) ⟨w, by rw [hbe, if_neg (fun h => h1 h.1), if_neg (fun h => by rw [not_t hok] at h; exact absurd h.2 (by simp))]; rfl, rfl, rfl, by rw [hbe, if_neg (fun h => h1 h.1), if_neg (fun h => by rw [not_t hok] at h; exact absurd h.2 (by simp))]; exact hpw⟩
        · skip
          refine At.skip ?_
          refine At.then ?_
          refine At.seq ?_
          refine At.region ?_
          refine At.quiet (q_loadS t24 rfl (RdS.loc (i := 0) rfl (m := 2) rfl) rfl) rfl ?_
          refine At.skim 1 rfl rfl ?_
          refine At.loudN (l_store t24 rfl rfl (i := 1) rfl rfl rfl rfl) ?_
          rintro _ _ _ ⟨rfl, rfl⟩
          refine At.skim 1 rfl rfl ?_
          refine At.nil ?_
          refine At.then ?_
          refine At.ret ?_
          exact At.results (Γr := [_, _]) (M := []) rfl (RVals.cons (RVal.cellS rfl t24 (RdS.loc (i := 1) rfl (m := 2) rfl) rfl) (RVals.cons (RVal.tmp rfl) RVals.nil)) (.tail _ (.tail _ (.tail _ (.tail _ (.tail _ (.head _)))))) (fun _ h => ⟨h.1, h.2.1, trivial⟩) (.cons _ (.cons _ (.refl _))) ⟨u, by rw [hbe, if_neg (fun h => h1 h.1), if_pos ⟨h2, not_f hok⟩]; first | rfl | (rw [h1]; rfl) | (rw [h2]; rfl), rfl, rfl, by rw [hbe, if_neg (fun h => h1 h.1), if_pos ⟨h2, not_f hok⟩]; exact hpu⟩
      · skip
        refine At.skip ?_
        refine At.inNormal ?_
        refine At.then ?_
        refine At.seq ?_
        refine At.seq ?_
        refine At.region ?_
        refine At.skim 2 rfl rfl ?_
        refine At.nil ?_
        refine At.then ?_
        refine At.condT rfl ?_
        refine At.seq ?_
        refine At.region ?_
        refine At.quiet (q_loadS t24 rfl (RdS.blk (.tail _ (.tail _ (.head _))) (m := 2) rfl) rfl) rfl ?_
        refine At.call en25 rfl (plain25 _ (by assumption)) (fun _ h => ⟨h.2.2.2.2.1, h.2.2.2.2.2.1, trivial⟩) (List.Perm.refl _) rfl ?_
        rintro _ _ _ ⟨w, Mw, rfl, rfl, rfl, hw, hpw⟩
        refine At.skim 1 rfl rfl ?_
        refine At.quiet (q_extract rfl rfl) rfl ?_
        refine At.quiet (q_extract rfl rfl) rfl ?_
        refine At.loudN (l_store t24 rfl rfl (i := 1) rfl rfl rfl rfl) ?_
        rintro _ _ _ ⟨rfl, rfl⟩
        refine At.nil ?_
        refine At.then ?_
        refine At.region ?_
        refine At.skim 1 rfl rfl ?_
        refine At.nil ?_
        refine At.then ?_
        refine At.seq ?_
        refine At.region ?_
        refine At.freezeOwn 0 hw rfl ?_
        refine At.quiet (q_loadS t24 rfl (RdS.loc (i := 0) rfl (m := 2) rfl) rfl) rfl ?_
        refine At.skim 1 rfl rfl ?_
        refine At.loudN (l_store t24 rfl rfl (i := 1) rfl rfl rfl rfl) ?_
        rintro _ _ _ ⟨rfl, rfl⟩
        refine At.skim 1 rfl rfl ?_
        refine At.nil ?_
        refine At.then ?_
        refine At.ret ?_
        exact At.results (Γr := [_, _]) (M := []) rfl (RVals.cons (RVal.cellS rfl t24 (RdS.loc (i := 1) rfl (m := 2) rfl) rfl) (RVals.cons (RVal.tmp rfl) RVals.nil)) (.tail _ (.tail _ (.tail _ (.tail _ (.tail _ (.head _)))))) (fun _ h => ⟨h.1, h.2.1, trivial⟩) (.cons _ (.cons _ (.refl _))) ⟨w, by rw [hbe, if_neg (fun h => h1 h.1), if_neg (fun h => h2 h.1)]; rfl, rfl, rfl, by rw [hbe, if_neg (fun h => h1 h.1), if_neg (fun h => h2 h.1)]; exact hpw⟩
end Go.Proofs.Ytmkodknmknfdkaa
set_option linter.unusedVariables false
set_option linter.unusedSimpArgs false
namespace Go.Proofs.Ytmkodknmknfdkaa
open E
def UpEnd (t : PT) (a : Int) (v : Value) (Γ : List SProp) (M : E.Loc) : Prop :=
  Γ = [] ∧ M = [] ∧ ((v = .tuple #[.int .i64 (-1), .bool false] ∧ ∀ (j : Nat) (n : Nod), t.ns[j]? = some n → n.route = true → n.left ≠ a ∧ n.right ≠ a) ∨
    ∃ (k : Nat) (n : Nod), v = .tuple #[.int .i64 (k : Int), .bool (decide (n.right = a))] ∧ t.ns[k]? = some n ∧ n.route = true ∧ (n.left = a ∨ n.right = a))
def nbI (o : Option Nat) : Int := match o with
  | none => -1
  | some m => (m : Int)
/-- A leaf without a parent stands alone. -/
theorem alone {t : PT} {s : Sh} {i : Nat} {x : Nod} (hs : mayT t = some s) (hx : t.ns[i]? = some x) (hr : x.route = false) (h : ∀ (j : Nat) (n : Nod), t.ns[j]? = some n → n.route = true → n.left ≠ (i : Int) ∧ n.right ≠ (i : Int)) : s.nb i = none := by
  obtain ⟨u, b, hw, _⟩ := way_of hs (lt_of_get hx)
  rcases way_nb hs hx hr hw with ⟨_, _, e⟩ | ⟨_, _, q, n, side, _, _, _, _, hn, hnr, he, _⟩
  · exact e
  · have := h q n hn hnr
    cases side
    · exact absurd he this.1
    · exact absurd he this.2
def HangsS (ns : List Nod) (g o : Int) : Sh → Int → Prop
  | .leaf i, a => (if a = g then o else a) = (i : Int) ∧ ∃ n, ns[i]? = some n ∧ n.route = false
  | .node i l r, a => (if a = g then o else a) = (i : Int) ∧ ∃ n, ns[i]? = some n ∧ n.route = true ∧ HangsS ns g o l n.left ∧ HangsS ns g o r n.right
theorem HangsS.at {t : Tr} {g o : Int} {s : Sh} {a : Int} (h : HangsS t.p.ns g o s a) : ∃ (i : Nat) (x : Nd), (if a = g then o else a) = (i : Int) ∧ t.ns.l[i]? = some x ∧ t.p.ns.getD i default = x.p ∧
    ((x.route = false ∧ s = .leaf i) ∨ (x.route = true ∧ ∃ l r, s = .node i l r ∧ HangsS t.p.ns g o l x.left ∧ HangsS t.p.ns g o r x.right)) := by
  cases s with
  | leaf i =>
    obtain ⟨h0, n, hn, hr⟩ := h
    obtain ⟨x, hx, hxn⟩ := p_get (u := t) rfl hn
    subst hxn
    exact ⟨i, x, h0, hx, getD_of hn, .inl ⟨hr, rfl⟩⟩
  | node i l r =>
    obtain ⟨h0, n, hn, hr, hl, hr'⟩ := h
    obtain ⟨x, hx, hxn⟩ := p_get (u := t) rfl hn
    subst hxn
    exact ⟨i, x, h0, hx, getD_of hn, .inr ⟨hr, l, r, rfl, hl, hr'⟩⟩
def InEnd (t : Tr) (s : Sh) (q : List Nd) (v : Value) (Γ : List SProp) (M : E.Loc) : Prop :=
  ∃ (o' : List Nd) (a' : Option Addr) (c' : Nat) (M' : E.Seg), v = .tuple #[.slice a' (q ++ o').length c', .int .i64 (q.length : Int)] ∧ Γ = [psP o'] ∧ M = [M'] ∧ E.Own 33 6 ((q ++ o').map rowN) a' c' M' ∧ o'.map Nd.p = s.lay t.p.ns q.length
def CopyIn (t : Tr) (g o : Int) (s : Sh) : Prop := ∀ (at_ : Int), HangsS t.p.ns g o s at_ → ∀ (q : List Nd) (a : Option Addr) (c : Nat) (Mo : E.Seg), E.Own 33 6 (q.map rowN) a c Mo → q.length + s.size ≤ 1000000 →
  Con Try.prog 88 [t.val, .int .i64 at_, .int .i64 g, .int .i64 o, .slice a q.length c] [ndsP t.ns, psP t.ns.l] [Mo] (InEnd t s q)
def psX (m : Nat) (l : List Nd) : SProp := ⟨fun H => ∀ (j : Nat) (n : Nd), l[j]? = some n → j ≠ m → (prsP n.ps).holds H, fun _ _ h k j n hn hj => (prsP n.ps).mono _ _ h (k j n hn hj)⟩
def OwnAt (m : Nat) (o : List Nd) (mp : E.Seg) : Prop := (o.length ≤ m ∧ mp = []) ∨ ∃ y, o[m]? = some y ∧ E.Own 50 2 (y.ps.l.map rowP) y.ps.a y.ps.c mp
theorem OwnAt.here {m : Nat} {o : List Nd} {n : Nd} {mp M : E.Seg} (h : OwnAt m o mp) (hm : o.length = m) (hO : E.Own 50 2 (n.ps.l.map rowP) n.ps.a n.ps.c M) : OwnAt m (o ++ [n]) M := .inr ⟨n, by rw [← hm]; simp, hO⟩
theorem OwnAt.there {m : Nat} {o : List Nd} {n : Nd} {mp : E.Seg} (h : OwnAt m o mp) (hm : o.length ≠ m) : OwnAt m (o ++ [n]) mp := by
  rcases h with ⟨h1, h2⟩ | ⟨y, hy, hO⟩
  · exact .inl ⟨by simp; omega, h2⟩
  · exact .inr ⟨y, by rw [List.getElem?_append_left (lt_of_get hy)]; exact hy, hO⟩
def CopyXEnd (t : Tr) (m : Nat) (v : Value) (Γ : List SProp) (M : E.Loc) : Prop :=
  ∃ (u : Tr) (M' mp : E.Seg), v = u.val ∧ Γ = [psX m u.ns.l] ∧ M = [M', mp] ∧ E.Own 33 6 (u.ns.l.map rowN) u.ns.a u.ns.c M' ∧ OwnAt m u.ns.l mp ∧ u.p = t.p
end Go.Proofs.Ytmkodknmknfdkaa
set_option linter.unusedVariables false
set_option linter.unusedSimpArgs false
namespace Go.Proofs.Ytmkodknmknfdkaa
open E
set_option maxRecDepth 4000
theorem en51 : Enters Try.prog 51 := Enters.mk' Try.func51 rfl rfl
end Go.Proofs.Ytmkodknmknfdkaa
set_option linter.unusedVariables false
set_option linter.unusedSimpArgs false
namespace Go.Proofs.Ytmkodknmknfdkaa
open E
theorem OwnAt.nil (m : Nat) : OwnAt m [] [] := .inl ⟨Nat.zero_le _, rfl⟩
theorem OwnAt.get {m : Nat} {o : List Nd} {mp : E.Seg} (h : OwnAt m o mp) (hm : m < o.length) : ∃ y, o[m]? = some y ∧ E.Own 50 2 (y.ps.l.map rowP) y.ps.a y.ps.c mp := by
  rcases h with ⟨h, _⟩ | h
  · omega
  · exact h
def small2 (l : List Nd) : Prop := ∀ n ∈ l, n.ps.l.length ≤ 2000000
end Go.Proofs.Ytmkodknmknfdkaa
set_option linter.unusedVariables false
set_option linter.unusedSimpArgs false
namespace Go.Proofs.Ytmkodknmknfdkaa
open E
set_option maxRecDepth 4000
end Go.Proofs.Ytmkodknmknfdkaa
set_option linter.unusedVariables false
set_option linter.unusedSimpArgs false
namespace Go.Proofs.Ytmkodknmknfdkaa
namespace E
open Go
section
variable {P : Program} {n : Nat} {env : Env} {Γ : List SProp} {L : Loc} {ty t e : TypeId} {x y : Operand} {a : Option Addr} {c k i p : Nat} {rows : List (List Value)} {M : Seg}
theorem zeroCells_mem {z : Array Value} {m : Nat} {v : Value} (h : v ∈ (Builtin.zeroCells z m).toList) : v ∈ z.toList := by
  have h' : v ∈ Builtin.zeroCells z m := by simpa using h
  unfold Builtin.zeroCells at h'
  obtain ⟨j, hj, rfl⟩ := Array.mem_map.1 h'
  have hj' : j < m * z.size := by simpa using hj
  have hz : 0 < z.size := by
    rcases Nat.eq_zero_or_pos z.size with h0 | h0
    · rw [h0] at hj'; simp at hj'
    · exact h0
  have hl : j % z.size < z.size := Nat.mod_lt _ hz
  rw [getElem!_pos z (j % z.size) hl]
  simp
theorem take_flat {k : Nat} : ∀ {rows : List (List Value)} (p : Nat), (∀ r ∈ rows, r.length = k) → rows.flatten.take (p * k) = (rows.take p).flatten
  | [], p, _ => by simp
  | r :: rows, 0, _ => by simp
  | r :: rows, p + 1, h => by
    have h1 := h r (by simp)
    have h2 := take_flat (rows := rows) p fun r hr => h r (List.mem_cons_of_mem _ hr)
    simp only [List.flatten_cons, List.take_succ_cons]
    rw [← h2, Nat.add_mul, Nat.one_mul, List.take_append, h1, List.take_of_length_le (by omega)]
    congr 2
    omega
theorem Own.take {T : TypeId} (h : Own T k rows a c M) (p : Nat) : Own T k (rows.take p) a c M := by
  obtain ⟨hk, hM⟩ := h
  refine ⟨fun r hr => hk r (List.mem_of_mem_take hr), ?_⟩
  rcases hM with ⟨rfl, rfl, rfl, rfl⟩ | ⟨g, cur, rfl, rfl, h5, h6, h7, h8⟩
  · exact .inl ⟨rfl, rfl, by simp, rfl⟩
  · refine .inr ⟨g, cur, rfl, rfl, by rw [List.length_take]; omega, h6, h7, ?_⟩
    rw [List.length_take]
    have e : cur.toList.take (min p rows.length * k) = (cur.toList.take (rows.length * k)).take (min p rows.length * k) := by
      rw [List.take_take, Nat.min_eq_left (Nat.mul_le_mul_right _ (Nat.min_le_right ..))]
    rw [e, h8, take_flat _ hk]
    congr 1
    rcases Nat.le_total p rows.length with h | h
    · rw [Nat.min_eq_left h]
    · rw [Nat.min_eq_right h, List.take_of_length_le h, List.take_of_length_le (Nat.le_refl _)]
theorem l_clear {sc : Bool} {size bytes len : Nat} {zero : Value} {ats : Array TypeId} (hats : ats = #[t]) (ht : P.underlying t = some (.slice e)) (he : tRow P e = some (sc, size, bytes, zero))
    (hy : ev env y = some (.slice (subA a c size p) (len - p) (c - p))) (ho : Own e size rows a c M) (hlen : len = rows.length) (hp : p ≤ len) (hL : L[i]? = some M) (hzs : Nat.beq zero.cells.size size = true) (h1 : zero.cells.toList.all Value.oneCell' = true) :
    Loud P (.call ⟨.builtin .clear, #[y], ats⟩) ty n env Γ L (fun v Γ' L' => ∃ M', Own e size (rows.take p) a c M' ∧ Γ' = Γ ∧ L' = L.set i M') :=
  Loud.ofRun fun X d pos aft g ac w H k1 k2 k3 => by
    subst hats
    subst hlen
    have hz' := Nat.eq_of_beq_eq_true hzs
    obtain ⟨td, inf, e1, e2, e0, e3, e4, e5⟩ := tRow_parts he
    rcases Nat.eq_zero_or_pos (rows.length - p) with h0 | h0
    · refine ⟨.tuple #[], w, H, Γ, L, ?_, ⟨M, ho.take p, rfl, ?_⟩, Hp.le_refl H, k2, k3⟩
      · rw [h0] at hy
        have hy' := k1.ev hy
        cases hs : subA a c size p with
        | none => rw [hs] at hy'; simp [execOp, resolve, invoke, builtin, hy', Builtin.clear_, underlying, ht]
        | some s => rw [hs] at hy'; simp [execOp, resolve, invoke, builtin, hy', Builtin.clear_, underlying, ht]
      · obtain ⟨hi, rfl⟩ := List.getElem?_eq_some_iff.1 hL
        simp
    · obtain ⟨hk, hM⟩ := ho
      rcases hM with ⟨rfl, rfl, rfl, rfl⟩ | ⟨b, cur, rfl, rfl, h5, h6, h7, h8⟩
      · simp at h0
      · have hf := k3.front hL
        have hg : w.heap[b]? = some (.cells cur e (0, 0)) := hf.loc (b, _) (List.mem_cons_self ..)
        have hvl : (Builtin.zeroCells zero.cells (rows.length - p)).toList.length = (rows.length - p) * size := by simp [size_zeroCells, hz']
        have hle : rows.length * size ≤ cur.size := by rw [h7]; exact Nat.mul_le_mul_right _ h5
        have hsum : p * size + (rows.length - p) * size = rows.length * size := by rw [← Nat.add_mul]; congr 1; omega
        have hst := run_storeCells_at P b (p * size) e (Builtin.zeroCells zero.cells (rows.length - p)).toList 0 cur w hg (by rw [hvl]; omega) (fun v hv => List.all_eq_true.1 h1 v (zeroCells_mem hv))
        have hsub : subA (some ⟨b, 0, none⟩) c size p = some ⟨b, p * size, none⟩ := by
          unfold subA
          rw [if_neg (by omega)]
          simp only [Option.map_some]
          congr 1
          unfold Addr.add
          split <;> simp_all
        rw [hsub] at hy
        obtain ⟨q, hq⟩ : ∃ q, rows.length - p = q + 1 := ⟨rows.length - p - 1, by omega⟩
        refine ⟨.tuple #[], _, H, Γ, _, ?_, ⟨[(b, .cells (spl cur.toList (p * size) (Builtin.zeroCells zero.cells (rows.length - p)).toList).toArray e (0, 0))], ⟨fun r hr => hk r (List.mem_of_mem_take hr), .inr ⟨b, _, rfl, rfl, by rw [List.length_take]; omega, h6, ?_, ?_⟩⟩, rfl, rfl⟩, Hp.le_refl H, k2,
          St.back _ hL (hf.set (w' := w.setRow b (spl cur.toList (p * size) (Builtin.zeroCells zero.cells (rows.length - p)).toList).toArray) rfl rfl rfl (setRow_heap w b cur _ e (0, 0) hg) fun c hc => setRow_other w b c _ hc)⟩
        · have hy' := k1.ev hy
          simp only [Nat.add_zero] at hst
          rw [hq] at hst hy' ⊢
          simp [execOp, resolve, invoke, builtin, hy', Builtin.clear_, underlying, ht, tRow_zero he, hst, spl]
        · simp only [spl, List.size_toArray, List.length_append, List.length_take, List.length_drop, Array.length_toList]
          have hvs : (Builtin.zeroCells zero.cells (rows.length - p)).size = (rows.length - p) * size := by simp [size_zeroCells, hz']
          rw [hvs]
          omega
        · have hpl : (rows.take p).length = p := by rw [List.length_take]; omega
          rw [hpl]
          show ((spl cur.toList (p * size) _)).take (p * size) = _
          simp only [spl]
          rw [List.append_assoc, List.take_append_of_le_length (by simp; omega), List.take_take, Nat.min_self]
          have e9 : cur.toList.take (p * size) = (cur.toList.take (rows.length * size)).take (p * size) := by
            rw [List.take_take, Nat.min_eq_left (Nat.mul_le_mul_right _ (by omega))]
          rw [e9, h8, take_flat _ hk]
theorem q_eqPtr {t' : TypeId} {ad : Addr} (ht : P.underlying t = some (.pointer e)) (hx : ev env x = some (.pointer (some ad))) (hy : ev env y = some (.pointer none)) :
    Quiet P (.binOp .eql t x y t') ty n env Γ L (.bool false) :=
  fun _ _ _ _ _ ac w _ h1 _ _ => by
    have h8 : ∀ d : Nat, (Op.equalIn (d + 1) t (.pointer (some ad)) (.pointer none)).run P w = .ok false w := fun d => by
      simp [Op.equalIn, underlying, ht]
    have h9 := h8 9999
    simp [execOp, h1.ev hx, h1.ev hy, eqGuard, binOp, Op.equal, Op.maxDepth, h9]
theorem sl_spot {H : Hp} {r : List Value} (h : (sl a c k rows).holds H) (hr : rows[i]? = some r) : (adr a).spot = none := by
  obtain ⟨_, _, _, h3⟩ := sl_def.1 h
  rcases h3 with rfl | ⟨a', rfl, hsp, _⟩
  · simp at hr
  · exact hsp
theorem add_two {x : Addr} (h : x.spot = none) (p i j : Nat) : ((x.add p).add i).add j = (x.add p).add (i + j) := add_add (add_spot p h) _ _
theorem l_buildSlice0o {sc : Bool} {size bytes : Nat} {zero : Value} (ht : P.underlying t = some (.slice e)) (he : tRow P e = some (sc, size, bytes, zero)) :
    Loud P (.buildSlice t 0 #[]) ty n env Γ L (fun v Γ' L' => ∃ b M, v = .slice (some ⟨b, 0, none⟩) 0 0 ∧ Own e size [] (some ⟨b, 0, none⟩) 0 M ∧ Γ' = Γ ∧ L' = M :: L) :=
  Loud.ofRun fun X d pos aft g a w H h1 h2 h3 => by
    refine ⟨_, _, H, Γ, _, ?_, ⟨w.heap.size, _, rfl, ⟨by simp, .inr ⟨_, _, rfl, rfl, Nat.le_refl _, Nat.zero_le _, by simp, by simp⟩⟩, rfl, rfl⟩, Hp.le_refl H, h2, h3.push (.cells #[] e (0, 0))⟩
    simp [execOp, Instr.buildSlice, underlying, ht, tRow_size he, Instr.fill, newRow, newObj, Sem.run, Array.range_zero']
end
end E
end Go.Proofs.Ytmkodknmknfdkaa
set_option linter.unusedVariables false
set_option linter.unusedSimpArgs false
namespace Go.Proofs.Ytmkodknmknfdkaa
open E
structure OpS where
  kind : Int
  key : Int
  hi : Int
  v : Int
def OpS.val (o : OpS) : Value := .agg #[.int .i64 o.kind, .int .i64 o.key, .int .i64 o.hi, .int .i64 o.v]
def mayO (o : OpS) : Bool := decide (1 ≤ o.kind) && decide (o.kind ≤ 8)
def updO (o : OpS) : Bool := decide (o.kind = 1) || (decide (o.kind = 2) || decide (o.kind = 3))
structure An where
  err : Int
  ok : Bool
  p : Pr
  n : Int
  l : List Pr
  deriving DecidableEq
def An.val (a : An) (s : Sl Pr) : Value := .agg #[.int .i64 a.err, .bool a.ok, .int .i64 a.p.k, .int .i64 a.p.v, .int .i64 a.n, s.val]
def An.zero : An := ⟨0, false, ⟨0, 0⟩, 0, []⟩
def An.bad : An := ⟨1, false, ⟨0, 0⟩, 0, []⟩
def isK (k : Int) (p : Pr) : Bool := decide (p.k = k)
def inR (lo hi : Int) (p : Pr) : Bool := decide (lo ≤ p.k) && decide (p.k ≤ hi)
def betw (l : List Pr) (lo hi : Int) : List Pr := l.filter (inR lo hi)
def without (l : List Pr) (k : Int) : List Pr := l.filter fun p => !isK k p
def firstA : Option Pr → An
  | none => .zero
  | some p => ⟨0, true, p, 0, []⟩
def hit (l : List Pr) (k : Int) : An := firstA (l.find? (isK k))
def doT (l : List Pr) (o : OpS) : List Pr × An :=
  if rises l && mayO o then
    (if o.kind = 1 then (withT l ⟨o.key, o.v⟩, hit l o.key)
     else if o.kind = 2 then (if (hit l o.key).ok then l else withT l ⟨o.key, o.v⟩, hit l o.key)
     else if o.kind = 3 then (without l o.key, hit l o.key)
     else if o.kind = 5 then (l, ⟨0, false, ⟨0, 0⟩, ((betw l o.key o.hi).length : Int), betw l o.key o.hi⟩)
     else if o.kind = 6 then (l, ⟨0, false, ⟨0, 0⟩, ((betw l o.key o.hi).length : Int), []⟩)
     else if o.kind = 7 then (l, firstA l.head?)
     else if o.kind = 8 then (l, firstA l.getLast?)
     else (l, hit l o.key))
  else (l, .bad)
def DoEnd (l : List Pr) (o : OpS) (v : Value) (Γ : List SProp) (M : E.Loc) : Prop := ∃ s s2 : Sl Pr, v = .tuple #[s.val, (doT l o).2.val s2] ∧ Γ = [prsP s, prsP s2] ∧ M = [] ∧ s.l = (doT l o).1 ∧ s2.l = (doT l o).2.l
theorem do_no {l : List Pr} {o : OpS} (h : rises l = false ∨ mayO o = false) : doT l o = (l, .bad) := by
  unfold doT
  rw [if_neg (by rcases h with h | h <;> simp [h])]
theorem do_yes {l : List Pr} {o : OpS} (h1 : rises l = true) (h2 : mayO o = true) : doT l o = (if o.kind = 1 then (withT l ⟨o.key, o.v⟩, hit l o.key)
     else if o.kind = 2 then (if (hit l o.key).ok then l else withT l ⟨o.key, o.v⟩, hit l o.key)
     else if o.kind = 3 then (without l o.key, hit l o.key)
     else if o.kind = 5 then (l, ⟨0, false, ⟨0, 0⟩, ((betw l o.key o.hi).length : Int), betw l o.key o.hi⟩)
     else if o.kind = 6 then (l, ⟨0, false, ⟨0, 0⟩, ((betw l o.key o.hi).length : Int), []⟩)
     else if o.kind = 7 then (l, firstA l.head?)
     else if o.kind = 8 then (l, firstA l.getLast?)
     else (l, hit l o.key)) := by
  unfold doT
  rw [if_pos (by simp [h1, h2])]
theorem idx_get {α : Type} {p : α → Bool} {l : List α} (h : 0 ≤ idxI p l) : ∃ (j : Nat) (x : α), idxI p l = (j : Int) ∧ l[j]? = some x ∧ p x = true ∧ ∀ y ∈ l.take j, p y = false := by
  unfold idxI at h ⊢
  split at h
  · rename_i ha
    rw [if_pos ha]
    obtain ⟨x, hx, hp⟩ := List.any_eq_true.1 ha
    have hl : l.findIdx p < l.length := List.findIdx_lt_length_of_exists ⟨x, hx, hp⟩
    refine ⟨l.findIdx p, l[l.findIdx p], rfl, by simp [hl], List.findIdx_getElem, fun y hy => ?_⟩
    obtain ⟨i, hi, e⟩ := List.mem_take_iff_getElem.1 hy
    subst e
    have := List.not_of_lt_findIdx (p := p) (xs := l) (i := i) (by omega)
    simpa using this
  · omega
theorem idx_neg {α : Type} {p : α → Bool} {l : List α} (h : ¬ 0 ≤ idxI p l) : idxI p l = -1 ∧ ∀ y ∈ l, p y = false := by
  unfold idxI at h ⊢
  split at h
  · omega
  · rename_i ha
    rw [if_neg ha]
    exact ⟨rfl, by simpa using ha⟩
theorem idx_ge {α : Type} (p : α → Bool) (l : List α) : -1 ≤ idxI p l := by unfold idxI; split <;> omega
theorem find_at {α : Type} {p : α → Bool} {l : List α} {j : Nat} {x : α} (hx : l[j]? = some x) (hp : p x = true) (hno : ∀ y ∈ l.take j, p y = false) : l.find? p = some x := by
  induction l generalizing j with
  | nil => simp at hx
  | cons a l ih =>
    cases j with
    | zero => simp at hx; subst hx; simp [hp]
    | succ j =>
      have h1 : p a = false := hno a (by simp)
      rw [List.find?_cons, h1]
      exact ih (j := j) (by simpa using hx) fun y hy => hno y (by simp [hy])
theorem find_no {α : Type} {p : α → Bool} {l : List α} (hno : ∀ y ∈ l, p y = false) : l.find? p = none := List.find?_eq_none.2 fun y hy => by rw [hno y hy]; simp
theorem filt_step {α : Type} {p : α → Bool} {l o : List α} {k : Nat} {x : α} (hx : l[k]? = some x) (h : o = (l.take k).filter p) : (if p x then o ++ [x] else o) = (l.take (k + 1)).filter p := by
  rw [List.take_succ_eq_append_getElem (lt_of_get hx), List.filter_append, ← h, (List.getElem?_eq_some_iff.1 hx).2]
  cases hp : p x <;> simp [hp]
theorem filt_all {α : Type} {p : α → Bool} {l o : List α} {k : Nat} (hk : l.length ≤ k) (h : o = (l.take k).filter p) : o = l.filter p := by rw [h, List.take_of_length_le hk]
theorem with_skip {p : Pr} {a : Pr} {l : List Pr} (h : a.k < p.k) : withT (a :: l) p = a :: withT l p := by
  unfold withT
  simp only [withGo]
  rw [decide_eq_false (by omega), if_neg (show ¬ a.k = p.k by omega)]
  simp
theorem with_at {p : Pr} {l : List Pr} {k : Nat} (h : ∀ y ∈ l.take k, y.k < p.k) : withT l p = l.take k ++ withT (l.drop k) p := by
  induction l generalizing k with
  | nil => simp
  | cons a l ih =>
    cases k with
    | zero => simp
    | succ k =>
      rw [with_skip (h a (by simp)), ih (k := k) fun y hy => h y (by simp [hy])]
      simp
theorem with_rest {p : Pr} {l : List Pr} (hr : rises l = true) (h : ∀ y, l[0]? = some y → p.k ≤ y.k) : withT l p = p :: (match l[0]? with | none => l | some y => if y.k = p.k then l.drop 1 else l) := by
  cases l with
  | nil => rfl
  | cons a l =>
    have ha := h a rfl
    have hkeep : ∀ x ∈ l, x.k ≠ p.k := fun x hx => by
      have := (List.pairwise_cons.1 (rises_pw.1 hr)).1 x hx
      omega
    have hf : (l.filter fun x => decide (x.k ≠ p.k)) = l := List.filter_eq_self.2 fun x hx => decide_eq_true (hkeep x hx)
    show withGo p (a :: l) false = _
    simp only [withGo, Bool.not_false, Bool.true_and, decide_eq_true ha, if_true, Bool.false_or, withGo_done, hf]
    by_cases e : a.k = p.k <;> simp [e]
theorem rises_drop {l : List Pr} (h : rises l = true) (k : Nat) : rises (l.drop k) = true :=
  rises_iff.2 fun j a b ha hb => rises_iff.1 h (k + j) a b (by rw [List.getElem?_drop] at ha; exact ha) (by rw [List.getElem?_drop] at hb; exact hb)
theorem with_cat {p : Pr} {l r : List Pr} {k : Nat} (hr : rises l = true) (h : ∀ y ∈ l.take k, y.k < p.k) (hk : ∀ y, l[k]? = some y → p.k ≤ y.k) (he : r = (match l[k]? with | none => l.drop k | some y => if y.k = p.k then (l.drop k).drop 1 else l.drop k)) :
    l.take k ++ p :: r = withT l p := by
  have e0 : (l.drop k)[0]? = l[k]? := by rw [List.getElem?_drop]; rfl
  rw [with_at h, with_rest (rises_drop hr k) (fun y hy => hk y (by rw [← e0]; exact hy)), e0, he]
theorem cut_cat {l : List Pr} {j : Nat} {x : Pr} {key : Int} (hr : rises l = true) (hx : l[j]? = some x) (hp : isK key x = true) (hno : ∀ y ∈ l.take j, isK key y = false) : l.take j ++ l.drop (j + 1) = without l key := by
  have hj := lt_of_get hx
  have e : l = l.take j ++ x :: l.drop (j + 1) := by
    rw [← (List.getElem?_eq_some_iff.1 hx).2, List.getElem_cons_drop, List.take_append_drop]
  have hxk : x.k = key := of_decide_eq_true hp
  have hpw := rises_pw.1 hr
  rw [e, List.pairwise_append] at hpw
  have h2 := (List.pairwise_cons.1 hpw.2.1).1
  conv => rhs; rw [e]
  unfold without
  rw [List.filter_append, List.filter_cons, hp]
  simp only [Bool.not_true, Bool.false_eq_true, if_false]
  congr 1
  · exact (List.filter_eq_self.2 fun y hy => by rw [hno y hy]; rfl).symm
  · refine (List.filter_eq_self.2 fun y hy => ?_).symm
    have := h2 y hy
    rw [isK, decide_eq_false (by omega)]
    rfl
theorem cut_none {l : List Pr} {key : Int} (hno : ∀ y ∈ l, isK key y = false) : without l key = l := List.filter_eq_self.2 fun y hy => by rw [hno y hy]; rfl
theorem cat_mono {l : List (Sl Pr)} {k : Nat} (h : k ≤ l.length) : (catU l k).length ≤ (catU l l.length).length := by
  unfold catU
  rw [List.take_of_length_le (Nat.le_refl _)]
  conv => rhs; rw [← List.take_append_drop k l]
  rw [List.flatMap_append, List.length_append]
  omega
theorem head_get (l : List Pr) : l.head? = l[0]? := by cases l <;> rfl
theorem last_get9 (l : List Pr) : l.getLast? = l[l.length - 1]? := List.getLast?_eq_getElem? 
theorem without_len (l : List Pr) (k : Int) : (without l k).length ≤ l.length := List.length_filter_le _ _
theorem betw_len (l : List Pr) (a b : Int) : (betw l a b).length ≤ l.length := List.length_filter_le _ _
theorem do_len (l : List Pr) (o : OpS) : (doT l o).1.length ≤ l.length + 1 := by
  have h1 := with_len ⟨o.key, o.v⟩ l
  have h2 := without_len l o.key
  unfold doT
  repeat' split
  all_goals first | omega | (simp only []; split <;> omega) | (simp only []; omega)
theorem take_lt {l : List Pr} {k : Nat} {x : Pr} {K : Int} (hx : l[k]? = some x) (h : x.k < K) (hno : ∀ y ∈ l.take k, y.k < K) : ∀ y ∈ l.take (k + 1), y.k < K := fun y hy => by
  rw [List.take_succ_eq_append_getElem (lt_of_get hx), List.mem_append, (List.getElem?_eq_some_iff.1 hx).2] at hy
  rcases hy with hy | hy
  · exact hno y hy
  · rw [List.mem_singleton.1 hy]; exact h
theorem own_sub0 {T : TypeId} {k c : Nat} {rows : List (List Value)} {a : Option Addr} {M : E.Seg} (h : E.Own T k rows a c M) : subA a c k 0 = a := by
  rcases h.2 with ⟨rfl, rfl, _, _⟩ | ⟨g, cur, rfl, _⟩
  · rfl
  · exact sub0
theorem own_cap {T : TypeId} {k c : Nat} {rows : List (List Value)} {a : Option Addr} {M : E.Seg} (h : E.Own T k rows a c M) : rows.length ≤ c := by
  rcases h.2 with ⟨_, rfl, rfl, _⟩ | ⟨g, cur, _, _, h5, _⟩
  · exact Nat.le_refl _
  · exact h5
def andS (a b : SProp) : SProp := ⟨fun H => a.holds H ∧ b.holds H, fun _ _ h k => ⟨a.mono _ _ h k.1, b.mono _ _ h k.2⟩⟩
theorem allS3 {H : Hp} {x y z : Sl Pr} (hx : (prsP x).holds H) (hy : (prsP y).holds H) (hz : (prsP z).holds H) : (allS [x, y, z]).holds H := fun w hw => by
  simp only [List.mem_cons, List.not_mem_nil, or_false] at hw
  rcases hw with rfl | rfl | rfl
  · exact hx
  · exact hy
  · exact hz
theorem cat3 (x y z : Sl Pr) : catU [x, y, z] 3 = x.l ++ (y.l ++ z.l) := by simp [catU]
/-- What DeleteFunc leaves, so far. -/
def DelInv (p : Pr → Bool) (l ls : List Pr) (i j : Nat) : Prop := ls.length = l.length ∧ i ≤ j ∧ j ≤ l.length ∧ ls.take i = (l.take j).filter (fun x => !p x) ∧ ls.drop j = l.drop j
theorem DelInv.start {p : Pr → Bool} {l : List Pr} {j : Nat} {x : Pr} (hx : l[j]? = some x) (hp : p x = true) (hno : ∀ y ∈ l.take j, p y = false) : DelInv p l l j (j + 1) := by
  have hj := lt_of_get hx
  refine ⟨rfl, by omega, hj, ?_, rfl⟩
  have h1 : (l.take j).filter (fun x => !p x) = l.take j := List.filter_eq_self.2 fun y hy => by rw [hno y hy]; rfl
  have h2 := filt_step (p := fun x => !p x) hx h1.symm
  rw [← h2]
  simp [hp]
theorem DelInv.get {p : Pr → Bool} {l ls : List Pr} {i j : Nat} {x : Pr} (h : DelInv p l ls i j) (hx : ls[j]? = some x) : l[j]? = some x := by
  obtain ⟨_, _, _, _, h5⟩ := h
  have h6 := congrArg (fun q => q[0]?) h5
  simp only [List.getElem?_drop, Nat.add_zero] at h6
  rw [← h6]; exact hx
theorem DelInv.skip {p : Pr → Bool} {l ls : List Pr} {i j : Nat} {x : Pr} (h : DelInv p l ls i j) (hx : ls[j]? = some x) (hp : p x = true) : DelInv p l ls i (j + 1) := by
  have hx' := h.get hx
  obtain ⟨h1, h2, h3, h4, h5⟩ := h
  have hj := lt_of_get hx'
  refine ⟨h1, by omega, hj, ?_, ?_⟩
  · rw [← filt_step (p := fun x => !p x) hx' h4]; simp [hp]
  · rw [← List.drop_drop, ← List.drop_drop, h5]
theorem DelInv.keep {p : Pr → Bool} {l ls : List Pr} {i j : Nat} {x : Pr} (h : DelInv p l ls i j) (hx : ls[j]? = some x) (hp : p x = false) : DelInv p l (ls.set i x) (i + 1) (j + 1) := by
  have hx' := h.get hx
  obtain ⟨h1, h2, h3, h4, h5⟩ := h
  have hj := lt_of_get hx'
  refine ⟨by simp [h1], by omega, hj, ?_, ?_⟩
  · rw [← filt_step (p := fun x => !p x) hx' h4]
    simp only [hp, Bool.not_false, if_true]
    rw [List.take_succ_eq_append_getElem (by rw [List.length_set, h1]; omega), List.take_set_of_le (Nat.le_refl _)]
    simp
  · rw [List.drop_set_of_lt (by omega), ← List.drop_drop, ← List.drop_drop, h5]
theorem DelInv.done {p : Pr → Bool} {l ls : List Pr} {i j : Nat} (h : DelInv p l ls i j) (hj : l.length ≤ j) : ls.take i = l.filter fun x => !p x := by
  obtain ⟨h1, h2, h3, h4, h5⟩ := h
  rw [h4, List.take_of_length_le hj]
end Go.Proofs.Ytmkodknmknfdkaa
set_option linter.unusedVariables false
set_option linter.unusedSimpArgs false
namespace Go.Proofs.Ytmkodknmknfdkaa
open E
set_option maxRecDepth 4000
theorem t77 : tRow Try.prog 77 = some (false, 4, 32, .agg #[.int .i64 0, .int .i64 0, .int .i64 0, .int .i64 0]) := by kernel_rfl
theorem s77 : sRow Try.prog 77 = some [(0, 1, true), (1, 1, true), (2, 1, true), (3, 1, true)] := by kernel_rfl
theorem en120 : Enters Try.prog 120 := Enters.mk' Try.func120 rfl rfl
theorem en121 : Enters Try.prog 121 := Enters.mk' Try.func121 rfl rfl
theorem en124 : Enters Try.prog 124 := Enters.mk' Try.func124 rfl rfl
theorem mayop92 (o : OpS) : Con Try.prog 92 [o.val] [] [] (fun v Γ M => v = .bool (mayO o) ∧ Γ = [] ∧ M = []) := by
  refine Con.body 11 Try.func92 rfl Try.ntmps92 rfl fun X H₀ L₀ => ?_
  refine At.seq ?_
  refine At.region ?_
  refine At.loud (l_box rfl) rfl ?_
  rintro _ _ _ ⟨b1, rfl, rfl, rfl⟩
  refine At.freeze 0 (φ := blk b1 _) rfl (fun _ h => blk_def.2 ⟨_, _, h⟩) ?_
  refine At.skim 1 rfl rfl ?_
  refine At.nil ?_
  refine At.then ?_
  refine At.seq ?_
  refine At.region ?_
  refine At.fld s77 t3 rfl rfl rfl (Rd.blk (.head _) rfl) rfl rfl ?_
  refine At.skim 2 rfl rfl ?_
  refine At.splitP (d := 6) rfl (fun h1 => ?_) (fun h1 => ?_)
  · skip
    refine At.open rfl rfl ?_
    refine At.quiet (q_fieldAddr s77 rfl rfl rfl) rfl ?_
    refine At.open rfl rfl ?_
    refine At.quiet (q_load t3 rfl (Rd.blk (.head _) rfl)) rfl ?_
    refine At.skim 3 rfl rfl ?_
    refine At.nil ?_
    refine At.then ?_
    refine At.ret ?_
    exact At.results (Γr := []) (M := []) rfl (RVals.cons (RVal.tmp rfl) RVals.nil) (.tail _ (.head _)) (fun _ _ => trivial) (.refl _) ⟨congrArg Value.bool (by simp [mayO, h1]), rfl, rfl⟩
  · skip
    refine At.skim 5 rfl rfl ?_
    refine At.nil ?_
    refine At.then ?_
    refine At.ret ?_
    exact At.results (Γr := []) (M := []) rfl (RVals.cons (RVal.tmp rfl) RVals.nil) (.tail _ (.head _)) (fun _ _ => trivial) (.refl _) ⟨congrArg Value.bool (by simp [mayO, h1]), rfl, rfl⟩
theorem upd95 (o : OpS) : Con Try.prog 95 [o.val] [] [] (fun v Γ M => v = .bool (updO o) ∧ Γ = [] ∧ M = []) := by
  refine Con.body 16 Try.func95 rfl Try.ntmps95 rfl fun X H₀ L₀ => ?_
  refine At.seq ?_
  refine At.region ?_
  refine At.loud (l_box rfl) rfl ?_
  rintro _ _ _ ⟨b1, rfl, rfl, rfl⟩
  refine At.freeze 0 (φ := blk b1 _) rfl (fun _ h => blk_def.2 ⟨_, _, h⟩) ?_
  refine At.skim 1 rfl rfl ?_
  refine At.nil ?_
  refine At.then ?_
  refine At.seq ?_
  refine At.region ?_
  refine At.fld s77 t3 rfl rfl rfl (Rd.blk (.head _) rfl) rfl rfl ?_
  refine At.skim 2 rfl rfl ?_
  refine At.splitP (d := 6) rfl (fun h1 => ?_) (fun h1 => ?_)
  · skip
    refine At.skim 10 rfl rfl ?_
    refine At.nil ?_
    refine At.then ?_
    refine At.ret ?_
    exact At.results (Γr := []) (M := []) rfl (RVals.cons (RVal.tmp rfl) RVals.nil) (.tail _ (.head _)) (fun _ _ => trivial) (.refl _) ⟨congrArg Value.bool (by simp [updO, h1]), rfl, rfl⟩
  · skip
    refine At.open rfl rfl ?_
    refine At.quiet (q_fieldAddr s77 rfl rfl rfl) rfl ?_
    refine At.open rfl rfl ?_
    refine At.quiet (q_load t3 rfl (Rd.blk (.head _) rfl)) rfl ?_
    refine At.skim 3 rfl rfl ?_
    refine At.splitP (d := 11) rfl (fun h2 => ?_) (fun h2 => ?_)
    · skip
      refine At.skim 5 rfl rfl ?_
      refine At.nil ?_
      refine At.then ?_
      refine At.ret ?_
      exact At.results (Γr := []) (M := []) rfl (RVals.cons (RVal.tmp rfl) RVals.nil) (.tail _ (.head _)) (fun _ _ => trivial) (.refl _) ⟨congrArg Value.bool (by simp [updO, h1, h2]), rfl, rfl⟩
    · skip
      refine At.open rfl rfl ?_
      refine At.quiet (q_fieldAddr s77 rfl rfl rfl) rfl ?_
      refine At.open rfl rfl ?_
      refine At.quiet (q_load t3 rfl (Rd.blk (.head _) rfl)) rfl ?_
      refine At.skim 3 rfl rfl ?_
      refine At.nil ?_
      refine At.then ?_
      refine At.ret ?_
      exact At.results (Γr := []) (M := []) rfl (RVals.cons (RVal.tmp rfl) RVals.nil) (.tail _ (.head _)) (fun _ _ => trivial) (.refl _) ⟨congrArg Value.bool (by simp [updO, h1, h2]), rfl, rfl⟩
theorem clone72w (l : Sl Pr) (hl : l.l.length ≤ 8796093022208) : Con Try.prog 72 [l.val] [prsP l] [] (fun v Γ M => ∃ s : Sl Pr, v = s.val ∧ s.l = l.l ∧ Γ = [prsP s] ∧ M = []) := by
  refine Con.body 8 Try.func72 rfl Try.ntmps72 rfl fun X H₀ L₀ => ?_
  refine At.seq ?_
  refine At.region ?_
  refine At.skim 1 rfl rfl ?_
  refine At.nil ?_
  refine At.then ?_
  refine At.seq ?_
  refine At.seq ?_
  refine At.region ?_
  refine At.skim 1 rfl rfl ?_
  refine At.quiet (q_eqSliceNil Try.underlying31 rfl rfl) rfl ?_
  refine At.nil ?_
  refine At.then ?_
  refine At.cond rfl (fun hn => ?_) (fun hn => ?_)
  · skip
    refine At.nilOf (hs := (.tail _ (.head _))) (by simpa using hn) fun hnil => ?_
    refine At.know (prsP ⟨none, 0, []⟩) (fun _ _ => sl_nil _ _ _ (Nat.zero_le _)) ?_
    refine At.seq ?_
    refine At.region ?_
    refine At.skim 1 rfl rfl ?_
    refine At.nil ?_
    refine At.then ?_
    refine At.ret ?_
    refine At.thenRet ?_
    exact At.results (Γr := [prsP ⟨none, 0, []⟩]) (M := []) rfl (RVals.cons (RVal.tmp rfl) RVals.nil) (.tail _ (.head _)) (fun _ h => ⟨h.1, trivial⟩) (.refl _) ⟨⟨none, 0, []⟩, rfl, hnil.symm, rfl, rfl⟩
  · skip
    refine At.skip ?_
    refine At.then ?_
    refine At.seq ?_
    refine At.region ?_
    refine At.loud (l_buildSlice0 Try.underlying31 t50) rfl ?_
    rintro _ _ _ ⟨e1, rfl, rfl, rfl⟩
    refine At.skim 1 rfl rfl ?_
    refine At.loud (l_appendNew rfl Try.underlying31 t50 rfl rfl (.tail _ (.head _)) (by simp) rfl (by omega) (by unfold maxLen; omega) rfl) rfl ?_
    rintro _ _ _ ⟨a2, c2, rfl, rfl, rfl⟩
    refine At.skim 1 rfl rfl ?_
    refine At.nil ?_
    refine At.then ?_
    refine At.ret ?_
    exact At.results (Γr := [prsP ⟨a2, c2, l.l⟩]) (M := []) rfl (RVals.cons (RVal.tmp rfl) RVals.nil) (.tail _ (.head _)) (fun _ h => ⟨h.1, trivial⟩) (.refl _) ⟨⟨a2, c2, l.l⟩, rfl, rfl, rfl, rfl⟩
theorem clone72o (l : Sl Pr) (hl : l.l.length ≤ 8796093022208) : Con Try.prog 72 [l.val] [prsP l] [] (fun v Γ M => ∃ (a : Option Addr) (c : Nat) (M1 : Seg), v = .slice a l.l.length c ∧ Γ = [] ∧ M = [M1] ∧ Own 50 2 (l.l.map rowP) a c M1) := by
  refine Con.body 8 Try.func72 rfl Try.ntmps72 rfl fun X H₀ L₀ => ?_
  refine At.seq ?_
  refine At.region ?_
  refine At.skim 1 rfl rfl ?_
  refine At.nil ?_
  refine At.then ?_
  refine At.seq ?_
  refine At.seq ?_
  refine At.region ?_
  refine At.skim 1 rfl rfl ?_
  refine At.quiet (q_eqSliceNil Try.underlying31 rfl rfl) rfl ?_
  refine At.nil ?_
  refine At.then ?_
  refine At.cond rfl (fun hn => ?_) (fun hn => ?_)
  · skip
    refine At.nilOf (hs := (.tail _ (.head _))) (by simpa using hn) fun hnil => ?_
    refine At.nilSeg ?_
    refine At.seq ?_
    refine At.region ?_
    refine At.skim 1 rfl rfl ?_
    refine At.nil ?_
    refine At.then ?_
    refine At.ret ?_
    refine At.thenRet ?_
    exact At.results (Γr := []) (M := [[]]) rfl (RVals.cons (RVal.tmp rfl) RVals.nil) (.head _) (fun _ _ => trivial) (.cons_cons _ (.refl _)) ⟨none, 0, [], by rw [hnil]; rfl, rfl, rfl, by rw [hnil]; exact Own.nil _ _⟩
  · skip
    refine At.skip ?_
    refine At.then ?_
    refine At.seq ?_
    refine At.region ?_
    refine At.loud (l_buildSlice0o Try.underlying31 t50) rfl ?_
    rintro _ _ _ ⟨be, o, rfl, hoe, rfl, rfl⟩
    refine At.skim 1 rfl rfl ?_
    refine At.loud (l_appendSl rfl Try.underlying31 t50 rfl rfl hoe (by simp) (i := 0) rfl (.tail _ (.head _)) (by simp) (one_map (fun _ => rfl) _) rfl rfl (by omega) (by unfold maxLen; omega)) rfl ?_
    rintro _ _ _ ⟨a2, c2, M2, rfl, ow2, rfl, rfl⟩
    refine At.skim 1 rfl rfl ?_
    refine At.nil ?_
    refine At.then ?_
    refine At.ret ?_
    exact At.results (Γr := []) (M := [M2]) rfl (RVals.cons (RVal.tmp rfl) RVals.nil) (.head _) (fun _ _ => trivial) (.cons_cons _ (.refl _)) ⟨a2, c2, M2, by simp [resVal], rfl, rfl, by simpa using ow2⟩
theorem isk124 (key : Int) (x : Pr) (b : Nat) : Con Try.prog 124 [x.val, .pointer (some ⟨b, 0, none⟩)] [blk b #[.int .i64 key]] [] (fun v Γ M => v = .bool (isK key x) ∧ Γ = [] ∧ M = []) := by
  refine Con.body 8 Try.func124 rfl Try.ntmps124 rfl fun X H₀ L₀ => ?_
  refine At.seq ?_
  refine At.region ?_
  refine At.loud (l_box rfl) rfl ?_
  rintro _ _ _ ⟨b1, rfl, rfl, rfl⟩
  refine At.freeze 0 (φ := blk b1 _) rfl (fun _ h => blk_def.2 ⟨_, _, h⟩) ?_
  refine At.skim 1 rfl rfl ?_
  refine At.nil ?_
  refine At.then ?_
  refine At.seq ?_
  refine At.region ?_
  refine At.fld s50 t3 rfl rfl rfl (Rd.blk (.head _) rfl) rfl rfl ?_
  refine At.quiet (q_load t3 rfl (Rd.blk (.tail _ (.tail _ (.head _))) rfl)) rfl ?_
  refine At.skim 2 rfl rfl ?_
  refine At.nil ?_
  refine At.then ?_
  refine At.ret ?_
  exact At.results (Γr := []) (M := []) rfl (RVals.cons (RVal.tmp rfl) RVals.nil) (.tail _ (.head _)) (fun _ _ => trivial) (.refl _) ⟨rfl, rfl, rfl⟩
theorem find122 (l : Sl Pr) (key : Int) : Con Try.prog 122 [l.val, .int .i64 key] [prsP l] [] (fun v Γ M => v = .int .i64 (idxI (isK key) l.l) ∧ Γ = [] ∧ M = []) := by
  refine Con.body 8 Try.func122 rfl Try.ntmps122 rfl fun X H₀ L₀ => ?_
  refine At.seq ?_
  refine At.region ?_
  refine At.loud (l_box rfl) rfl ?_
  rintro _ _ _ ⟨b1, rfl, rfl, rfl⟩
  refine At.freeze 0 (φ := blk b1 _) rfl (fun _ h => blk_def.2 ⟨_, _, h⟩) ?_
  refine At.skim 1 rfl rfl ?_
  refine At.nil ?_
  refine At.then ?_
  refine At.seq ?_
  refine At.region ?_
  refine At.skim 1 rfl rfl ?_
  refine At.quiet (q_makeFunc rfl rfl) rfl ?_
  refine At.call en115 rfl (index115 l 124 [_] (isK key) _ en124 (fun y => isk124 key y b1)) (fun _ h => ⟨h.2.2.1, h.1, trivial⟩) (List.Perm.refl _) rfl ?_
  rintro _ _ _ ⟨rfl, rfl, rfl⟩
  refine At.skim 1 rfl rfl ?_
  refine At.nil ?_
  refine At.then ?_
  refine At.ret ?_
  exact At.results (Γr := []) (M := []) rfl (RVals.cons (RVal.tmp rfl) RVals.nil) (.tail _ (.head _)) (fun _ _ => trivial) (.refl _) ⟨rfl, rfl, rfl⟩
theorem without66 (l : Sl Pr) (key : Int) (hl : l.l.length ≤ 8796093022208) : Con Try.prog 66 [l.val, .int .i64 key] [prsP l] [] (PairsEndF (l.l.filter (fun p => !isK key p))) := by
  refine Con.body 24 Try.func66 rfl Try.ntmps66 rfl fun X H₀ L₀ => ?_
  refine At.lenOf (hs := (.tail _ (.head _))) fun hlen => ?_
  rw [List.length_map] at hlen
  refine At.nilSeg ?_
  refine At.seq ?_
  refine At.region ?_
  refine At.skim 1 rfl rfl ?_
  refine At.nil ?_
  refine At.then ?_
  refine At.seq ?_
  refine At.region ?_
  refine At.skim 1 rfl rfl ?_
  refine At.nil ?_
  refine At.then ?_
  refine At.seq ?_
  refine At.seq ?_
  refine At.region ?_
  refine At.skim 1 rfl rfl ?_
  refine At.quiet (q_len Try.underlying31 rfl) rfl ?_
  refine At.skim 1 rfl rfl ?_
  refine At.nil ?_
  refine At.then ?_
  refine At.block ?_
  refine At.loopK (ι := Nat × Nat × List Pr × Option Addr × Nat × Seg) [5, 7, 10, 11, 12, 13, 14, 15, 16, 17, 18, 19, 20, 21, 22] (fun ⟨k, n0, o, a, c, M⟩ => [(10, .int .i64 (k : Int)), (5, .slice a n0 c)]) (fun ⟨k, n0, o, a, c, M⟩ => []) (fun ⟨k, n0, o, a, c, M⟩ => [M]) _ (fun ⟨k, n0, o, a, c, M⟩ => k ≤ l.l.length ∧ o = (l.l.take k).filter (fun p => !isK key p) ∧ Own 50 2 (o.map rowP) a c M ∧ n0 = o.length ∧ n0 ≤ k) (fun ⟨k, n0, o, a, c, M⟩ => l.l.length - k) (0, 0, [], none, 0, []) ⟨Nat.zero_le _, by simp, Own.nil _ _, rfl, Nat.le_refl _⟩ ⟨rfl, rfl, trivial⟩ (fun _ _ => trivial) (.cons_cons _ (.refl _)) ?_
  intro i0 hI0
  obtain ⟨k, n0, o, a, c, M⟩ := i0
  obtain ⟨hkl, hoe, hO, hn0, hnk⟩ := hI0
  refine At.seq ?_
  refine At.region ?_
  refine At.skim 1 rfl rfl ?_
  refine At.nil ?_
  refine At.then ?_
  refine At.seq ?_
  refine At.if rfl (fun hk => ?_) (fun hk => ?_)
  · skip
    obtain ⟨x, hx⟩ := get_of_lt (l := l.l) (i := k) (by omega)
    have hk1 := lt_of_get hx
    refine At.skip ?_
    refine At.then ?_
    refine At.seq ?_
    refine At.block ?_
    refine At.seq ?_
    refine At.region ?_
    refine At.quiet (q_index Try.underlying31 t50 rfl (.tail _ (.head _)) (by simp) rfl rfl (lt_of_get hx)) rfl ?_
    refine At.quiet (q_loadS t50 rfl (RdS.sl0 (.tail _ (.head _)) (map_get hx)) rfl) rfl ?_
    refine At.loud (l_alloc t50) rfl ?_
    rintro _ _ _ ⟨b1, rfl, rfl, rfl⟩
    refine At.loudN (l_store t50 rfl rfl (i := 0) rfl rfl rfl rfl) ?_
    rintro _ _ _ ⟨rfl, rfl⟩
    refine At.nil ?_
    refine At.then ?_
    refine At.seq ?_
    refine At.region ?_
    refine At.fld s50 t3 rfl rfl rfl (Rd.loc (i := 0) rfl rfl) rfl rfl ?_
    refine At.skim 2 rfl rfl ?_
    refine At.nil ?_
    refine At.then ?_
    refine At.if rfl (fun hp => ?_) (fun hp => ?_)
    · skip
      refine At.region ?_
      refine At.skim 1 rfl rfl ?_
      refine At.quiet (q_loadS t50 rfl (RdS.loc (i := 0) rfl (m := 2) rfl) rfl) rfl ?_
      refine At.loud (l_buildSlice Try.underlying31 t50 rfl rfl rfl rfl rfl) rfl ?_
      rintro _ _ _ ⟨b2, rfl, rfl, rfl⟩
      refine At.loud (l_append rfl Try.underlying31 t50 rfl rfl hO (by simp; omega) (i := 2) rfl rfl (news := [rowP x]) (by simp [rowP]) (RdS.loc (i := 0) rfl (m := 2) rfl) rfl rfl rfl (by omega) (by unfold maxLen; omega)) rfl ?_
      rintro _ _ _ ⟨a2, c2, M2, rfl, ow, rfl, rfl⟩
      refine At.skim 1 rfl rfl ?_
      refine At.nil ?_
      refine At.inNormal ?_
      refine At.then ?_
      refine At.region ?_
      refine At.quiet (q_add rfl rfl (by omega) (by omega)) rfl ?_
      refine At.skim 1 rfl rfl ?_
      refine At.nil ?_
      refine At.front 2 rfl ?_
      refine At.then ?_
      exact At.againK (k + 1, n0 + 1, o ++ [x], a2, c2, M2) ⟨hk1, by have hst := filt_step (p := (fun p => !isK key p)) hx hoe; rw [if_pos (by rw [isK, decide_eq_false (show ¬ x.k = key from hp)]; rfl)] at hst; exact hst, by simpa using ow, by simp; omega, by omega⟩ (by (try dsimp only); omega) (Tells.end 17 ⟨rfl, rfl, trivial⟩ rfl rfl) (fun _ h => h) (.cons_cons _ (.cons _ (.cons _ (.refl _))))
    · skip
      refine At.skip ?_
      refine At.inNormal ?_
      refine At.then ?_
      refine At.region ?_
      refine At.quiet (q_add rfl rfl (by omega) (by omega)) rfl ?_
      refine At.skim 1 rfl rfl ?_
      refine At.nil ?_
      refine At.front 1 rfl ?_
      refine At.then ?_
      exact At.againK (k + 1, n0, o, a, c, M) ⟨hk1, by have hst := filt_step (p := (fun p => !isK key p)) hx hoe; rw [if_neg (by rw [isK, decide_eq_true (show x.k = key by omega)]; simp)] at hst; exact hst, hO, hn0, by omega⟩ (by (try dsimp only); omega) (Tells.end 12 ⟨rfl, rfl, trivial⟩ rfl rfl) (fun _ h => h) (.cons_cons _ (.cons _ (.refl _)))
  · skip
    subst hn0
    refine At.freezeOwn 0 hO rfl ?_
    refine At.exit ?_
    refine At.thenExit ?_
    refine At.thenExit ?_
    refine At.inHere rfl ?_
    refine At.then ?_
    refine At.seq ?_
    refine At.region ?_
    refine At.skim 2 rfl rfl ?_
    refine At.nil ?_
    refine At.then ?_
    refine At.ret ?_
    exact At.results (Γr := [_]) (M := []) rfl (RVals.cons (RVal.tmp rfl) RVals.nil) (.tail _ (.head _)) (fun _ h => ⟨h.1, trivial⟩) (.refl _) ⟨⟨a, c, o⟩, rfl, rfl, rfl, filt_all (by omega) hoe⟩
theorem delete120 (l : List Pr) (a : Option Addr) (c : Nat) (Mo : Seg) (hO0 : Own 50 2 (l.map rowP) a c Mo) (f : FuncId) (cap : List Value) (p : Pr → Bool) (φ : SProp) (hl9 : l.length ≤ 8796093022208) (hen : Enters Try.prog f) (hcon : ∀ x, Con Try.prog f (x.val :: cap) [φ] [] (fun v Γ M => v = .bool (p x) ∧ Γ = [] ∧ M = [])) : Con Try.prog 120 [.slice a l.length c, .func (.func f) #[] cap.toArray] [φ] [Mo] (PairsEndF (l.filter fun x => !p x)) := by
  refine Con.body 42 Try.func120 rfl Try.ntmps120 rfl fun X H₀ L₀ => ?_
  refine At.seq ?_
  refine At.region ?_
  refine At.skim 1 rfl rfl ?_
  refine At.nil ?_
  refine At.then ?_
  refine At.seq ?_
  refine At.region ?_
  refine At.skim 2 rfl rfl ?_
  refine At.callB en115 rfl (index115 ⟨a, c, l⟩ f cap p φ hen hcon) hO0 (i := 0) rfl (fun _ h => ⟨h.1, h.2.2.1, trivial⟩) (List.Perm.refl _) rfl ?_
  rintro _ _ _ ⟨rfl, rfl, rfl⟩
  refine At.skim 1 rfl rfl ?_
  refine At.nil ?_
  refine At.then ?_
  refine At.seq ?_
  refine At.seq ?_
  refine At.region ?_
  refine At.skim 2 rfl rfl ?_
  refine At.nil ?_
  refine At.then ?_
  refine At.if rfl (fun h1 => ?_) (fun h1 => ?_)
  · skip
    have hno : ∀ y ∈ l, p y = false := (idx_neg (p := p) (l := l) (by have h := h1; dsimp only at h; omega)).2
    refine At.freezeOwn 0 hO0 rfl ?_
    refine At.seq ?_
    refine At.region ?_
    refine At.skim 2 rfl rfl ?_
    refine At.nil ?_
    refine At.then ?_
    refine At.ret ?_
    refine At.thenRet ?_
    exact At.results (Γr := [_]) (M := []) rfl (RVals.cons (RVal.tmp rfl) RVals.nil) (.tail _ (.head _)) (fun _ h => ⟨h.1, trivial⟩) (.refl _) ⟨⟨a, c, l⟩, rfl, rfl, rfl, (List.filter_eq_self.2 fun y hy => by rw [hno y hy]; rfl).symm⟩
  · skip
    obtain ⟨j0, x0, hj0, hx0, hp0, hno⟩ := idx_get (p := p) (l := l) (by have h := h1; dsimp only at h; have h2 := idx_ge p l; omega)
    have hjl := lt_of_get hx0
    refine At.say 5 (.int .i64 (j0 : Int)) rfl (congrArg (Value.int .i64) hj0) ?_
    refine At.skip ?_
    refine At.then ?_
    refine At.seq ?_
    refine At.seq ?_
    refine At.region ?_
    refine At.skim 1 rfl rfl ?_
    refine At.quiet (q_add rfl rfl (by omega) (by omega)) rfl ?_
    refine At.skim 1 rfl rfl ?_
    refine At.nil ?_
    refine At.then ?_
    refine At.block ?_
    refine At.loopK (ι := Nat × Nat × List Pr × Seg) [5, 6, 7, 16, 17, 18, 19, 20, 21, 22, 23, 24, 25, 26, 27, 28, 29, 30, 31, 32, 33, 34, 35] (fun ⟨i, j, ls, M⟩ => [(5, .int .i64 (i : Int)), (6, .int .i64 (j : Int))]) (fun ⟨i, j, ls, M⟩ => []) (fun ⟨i, j, ls, M⟩ => [M]) _ (fun ⟨i, j, ls, M⟩ => DelInv p l ls i j ∧ Own 50 2 (ls.map rowP) a c M) (fun ⟨i, j, ls, M⟩ => l.length - j) (j0, j0 + 1, l, Mo) ⟨DelInv.start hx0 hp0 hno, hO0⟩ ⟨rfl, rfl, trivial⟩ (fun _ _ => trivial) (.cons_cons _ (.refl _)) ?_
    intro i0 hI0
    obtain ⟨i, j, ls, M⟩ := i0
    obtain ⟨hD, hO⟩ := hI0
    obtain ⟨hD1, hD2, hD3, hD4, hD5⟩ := id hD
    refine At.seq ?_
    refine At.seq ?_
    refine At.region ?_
    refine At.skim 2 rfl rfl ?_
    refine At.quiet (q_len Try.underlying31 rfl) rfl ?_
    refine At.skim 1 rfl rfl ?_
    refine At.nil ?_
    refine At.then ?_
    refine At.if rfl (fun hj => ?_) (fun hj => ?_)
    · skip
      obtain ⟨x, hx⟩ := get_of_lt (l := ls) (i := j) (by omega)
      obtain ⟨z, hz⟩ := get_of_lt (l := ls) (i := i) (by omega)
      have hjl1 := lt_of_get hx
      have hil1 := lt_of_get hz
      refine At.skip ?_
      refine At.then ?_
      refine At.seq ?_
      refine At.block ?_
      refine At.seq ?_
      refine At.region ?_
      refine At.skim 2 rfl rfl ?_
      refine At.quiet (q_indexOwn Try.underlying31 t50 rfl hO (by simp [hD1]) rfl rfl (by omega)) rfl ?_
      refine At.quiet (q_loadS t50 rfl (RdS.own0 hO (i := 0) rfl (map_get hx)) rfl) rfl ?_
      refine At.loud (l_alloc t50) rfl ?_
      rintro _ _ _ ⟨b1, rfl, rfl, rfl⟩
      refine At.loudN (l_store t50 rfl rfl (i := 0) rfl rfl rfl rfl) ?_
      rintro _ _ _ ⟨rfl, rfl⟩
      refine At.nil ?_
      refine At.then ?_
      refine At.seq ?_
      refine At.region ?_
      refine At.skim 1 rfl rfl ?_
      refine At.quiet (q_loadS t50 rfl (RdS.loc (i := 0) rfl (m := 2) rfl) rfl) rfl ?_
      refine At.callV hen rfl rfl (by simp [Pr.val, rowP]; exact ⟨rfl, rfl⟩) (hcon x) (fun _ h => ⟨h.2.1, trivial⟩) (List.Perm.refl _) rfl ?_
      rintro _ _ _ ⟨rfl, rfl, rfl⟩
      refine At.skim 1 rfl rfl ?_
      refine At.nil ?_
      refine At.then ?_
      refine At.cond rfl (fun hp => ?_) (fun hp => ?_)
      · skip
        refine At.seq ?_
        refine At.region ?_
        refine At.skim 2 rfl rfl ?_
        refine At.quiet (q_loadS t50 rfl (RdS.loc (i := 0) rfl (m := 2) rfl) rfl) rfl ?_
        refine At.quiet (q_indexOwn Try.underlying31 t50 rfl hO (by simp [hD1]) rfl rfl (by omega)) rfl ?_
        refine At.loudN (l_storeOwn0 t50 rfl rfl hO (i := 1) rfl (map_get hz) rfl rfl rfl) ?_
        rintro _ _ _ ⟨Mow1, ow1, rfl, rfl⟩
        refine At.nil ?_
        refine At.then ?_
        refine At.region ?_
        have hO2 : Own 50 2 ((ls.set i x).map rowP) a c Mow1 := by rw [List.map_set]; exact ow1
        refine At.skim 1 rfl rfl ?_
        refine At.quiet (q_add rfl rfl (by omega) (by omega)) rfl ?_
        refine At.skim 1 rfl rfl ?_
        refine At.nil ?_
        refine At.inNormal ?_
        refine At.then ?_
        refine At.region ?_
        refine At.skim 1 rfl rfl ?_
        refine At.quiet (q_add rfl rfl (by omega) (by omega)) rfl ?_
        refine At.skim 1 rfl rfl ?_
        refine At.nil ?_
        refine At.front 1 rfl ?_
        refine At.then ?_
        exact At.againK (i + 1, j + 1, ls.set i x, _) ⟨hD.keep hx (by simpa using hp), hO2⟩ (by (try dsimp only); omega) (Tells.end 25 ⟨rfl, rfl, trivial⟩ rfl rfl) (fun _ h => h) (.cons_cons _ (.cons _ (.refl _)))
      · skip
        refine At.skip ?_
        refine At.inNormal ?_
        refine At.then ?_
        refine At.region ?_
        refine At.skim 1 rfl rfl ?_
        refine At.quiet (q_add rfl rfl (by omega) (by omega)) rfl ?_
        refine At.skim 1 rfl rfl ?_
        refine At.nil ?_
        refine At.front 1 rfl ?_
        refine At.then ?_
        exact At.againK (i, j + 1, ls, M) ⟨hD.skip hx (by simpa using hp), hO⟩ (by (try dsimp only); omega) (Tells.end 18 ⟨rfl, rfl, trivial⟩ rfl rfl) (fun _ h => h) (.cons_cons _ (.cons _ (.refl _)))
    · skip
      have hdone := hD.done (by omega)
      have hcap := own_cap hO
      rw [List.length_map] at hcap
      refine At.exit ?_
      refine At.thenExit ?_
      refine At.thenExit ?_
      refine At.inHere rfl ?_
      refine At.then ?_
      refine At.seq ?_
      refine At.region ?_
      refine At.skim 2 rfl rfl ?_
      refine At.quiet (q_sliceLo Try.underlying31 t50 rfl rfl rfl (by omega)) rfl ?_
      refine At.loudN (l_clear (p := i) rfl Try.underlying31 t50 rfl hO (by simp [hD1]) (by omega) (i := 0) rfl rfl rfl) ?_
      rintro _ _ _ ⟨M5, ow5, rfl, rfl⟩
      refine At.nil ?_
      refine At.then ?_
      refine At.seq ?_
      refine At.region ?_
      refine At.skim 2 rfl rfl ?_
      refine At.quiet (q_sliceHi Try.underlying31 t50 rfl rfl (h := i) rfl (by omega)) rfl ?_
      refine At.freezeOwn 0 (show Own 50 2 ((ls.take i).map rowP) a c M5 by rw [List.map_take]; exact ow5) rfl ?_
      refine At.skim 1 rfl rfl ?_
      refine At.nil ?_
      refine At.then ?_
      refine At.ret ?_
      exact At.results (Γr := [prsP ⟨a, c, ls.take i⟩]) (M := []) rfl (RVals.cons (RVal.tmp rfl) RVals.nil) (.tail _ (.head _)) (fun _ h => ⟨h.1, trivial⟩) (.refl _) ⟨⟨a, c, ls.take i⟩, by simp only [Sl.val, resVal]; rw [own_sub0 ow5, List.length_take, Nat.min_eq_left (show i ≤ ls.length by omega)], rfl, rfl, hdone⟩
theorem out121 (lo hi : Int) (x : Pr) (b1 b2 : Nat) : Con Try.prog 121 [x.val, .pointer (some ⟨b1, 0, none⟩), .pointer (some ⟨b2, 0, none⟩)] [andS (blk b1 #[.int .i64 lo]) (blk b2 #[.int .i64 hi])] [] (fun v Γ M => v = .bool (!inR lo hi x) ∧ Γ = [] ∧ M = []) := by
  refine Con.body 15 Try.func121 rfl Try.ntmps121 rfl fun X H₀ L₀ => ?_
  refine At.know (blk b1 #[.int .i64 lo]) (fun _ h => h.2.1.1) ?_
  refine At.know (blk b2 #[.int .i64 hi]) (fun _ h => h.2.2.1.2) ?_
  refine At.seq ?_
  refine At.region ?_
  refine At.loud (l_box rfl) rfl ?_
  rintro _ _ _ ⟨b1, rfl, rfl, rfl⟩
  refine At.freeze 0 (φ := blk b1 _) rfl (fun _ h => blk_def.2 ⟨_, _, h⟩) ?_
  refine At.skim 1 rfl rfl ?_
  refine At.nil ?_
  refine At.then ?_
  refine At.seq ?_
  refine At.region ?_
  refine At.fld s50 t3 rfl rfl rfl (Rd.blk (.head _) rfl) rfl rfl ?_
  refine At.quiet (q_load t3 rfl (Rd.blk (.tail _ (.tail _ (.head _))) rfl)) rfl ?_
  refine At.skim 2 rfl rfl ?_
  refine At.splitP (d := 9) rfl (fun hlo => ?_) (fun hlo => ?_)
  · skip
    refine At.skim 6 rfl rfl ?_
    refine At.nil ?_
    refine At.then ?_
    refine At.ret ?_
    exact At.results (Γr := []) (M := []) rfl (RVals.cons (RVal.tmp rfl) RVals.nil) (.tail _ (.tail _ (.tail _ (.head _)))) (fun _ _ => trivial) (.refl _) ⟨congrArg Value.bool (by rw [inR, decide_eq_false (show ¬ lo ≤ x.k by omega)]; rfl), rfl, rfl⟩
  · skip
    refine At.open rfl rfl ?_
    refine At.quiet (q_fieldAddr s50 rfl rfl rfl) rfl ?_
    refine At.open rfl rfl ?_
    refine At.quiet (q_load t3 rfl (Rd.blk (.head _) rfl)) rfl ?_
    refine At.open rfl rfl ?_
    refine At.quiet (q_load t3 rfl (Rd.blk (.tail _ (.head _)) rfl)) rfl ?_
    refine At.skim 3 rfl rfl ?_
    refine At.nil ?_
    refine At.then ?_
    refine At.ret ?_
    exact At.results (Γr := []) (M := []) rfl (RVals.cons (RVal.tmp rfl) RVals.nil) (.tail _ (.tail _ (.tail _ (.head _)))) (fun _ _ => trivial) (.refl _) ⟨congrArg Value.bool (by rw [inR, decide_eq_true (show lo ≤ x.k by omega)]; by_cases h : x.k ≤ hi <;> simp [h] <;> omega), rfl, rfl⟩
theorem within118 (l : Sl Pr) (lo hi : Int) (hl : l.l.length ≤ 8796093022208) : Con Try.prog 118 [l.val, .int .i64 lo, .int .i64 hi] [prsP l] [] (PairsEndF (betw l.l lo hi)) := by
  refine Con.body 11 Try.func118 rfl Try.ntmps118 rfl fun X H₀ L₀ => ?_
  refine At.seq ?_
  refine At.region ?_
  refine At.loud (l_box rfl) rfl ?_
  rintro _ _ _ ⟨b1, rfl, rfl, rfl⟩
  refine At.freeze 0 (φ := blk b1 _) rfl (fun _ h => blk_def.2 ⟨_, _, h⟩) ?_
  refine At.loud (l_box rfl) rfl ?_
  rintro _ _ _ ⟨b2, rfl, rfl, rfl⟩
  refine At.freeze 0 (φ := blk b2 _) rfl (fun _ h => blk_def.2 ⟨_, _, h⟩) ?_
  refine At.skim 1 rfl rfl ?_
  refine At.nil ?_
  refine At.then ?_
  refine At.seq ?_
  refine At.region ?_
  refine At.skim 1 rfl rfl ?_
  refine At.call en72 rfl (clone72o l hl) (fun _ h => ⟨h.2.2.2.1, trivial⟩) (List.Perm.refl _) rfl ?_
  rintro _ _ _ ⟨a, c, Mo, rfl, rfl, rfl, hO⟩
  refine At.quiet (q_makeFunc rfl rfl) rfl ?_
  refine At.know (andS (blk b1 #[.int .i64 lo]) (blk b2 #[.int .i64 hi])) (fun _ h => ⟨h.2.1, h.1⟩) ?_
  refine At.call en120 rfl (delete120 l.l a c Mo hO 121 [.pointer (some ⟨b1, 0, none⟩), .pointer (some ⟨b2, 0, none⟩)] (fun y => !inR lo hi y) _ hl en121 (fun y => out121 lo hi y b1 b2)) (fun _ h => ⟨h.1, trivial⟩) (List.Perm.refl _) rfl ?_
  rintro _ _ _ ⟨u, rfl, rfl, rfl, hul⟩
  refine At.skim 1 rfl rfl ?_
  refine At.nil ?_
  refine At.then ?_
  refine At.ret ?_
  exact At.results (Γr := [_]) (M := []) rfl (RVals.cons (RVal.tmp rfl) RVals.nil) (.tail _ (.tail _ (.tail _ (.tail _ (.head _))))) (fun _ h => ⟨h.1, trivial⟩) (.refl _) ⟨u, rfl, rfl, rfl, by rw [hul]; simp [betw]⟩
end Go.Proofs.Ytmkodknmknfdkaa
set_option linter.unusedVariables false
set_option linter.unusedSimpArgs false
namespace Go.Proofs.Ytmkodknmknfdkaa
open E
set_option maxRecDepth 4000
theorem grow109w (m : Nat) (hm : m ≤ 8796093022208) : Con Try.prog 109 [.slice none 0 0, .int .i64 (m : Int)] [] [] (fun v Γ M => ∃ (a : Option Addr) (c : Nat) (M1 : Seg), v = .slice a 0 c ∧ Γ = [] ∧ M = [M1] ∧ Own 50 2 [] a c M1) := by
  refine Con.body 27 Try.func109 rfl Try.ntmps109 rfl fun X H₀ L₀ => ?_
  refine At.seq ?_
  refine At.region ?_
  refine At.skim 1 rfl rfl ?_
  refine At.nil ?_
  refine At.then ?_
  refine At.seq ?_
  refine At.seq ?_
  refine At.region ?_
  refine At.skim 2 rfl rfl ?_
  refine At.nil ?_
  refine At.then ?_
  refine At.say 6 (.bool false) rfl (congrArg Value.bool (decide_eq_false (by omega))) ?_
  refine At.condF rfl ?_
  refine At.skip ?_
  refine At.then ?_
  refine At.seq ?_
  refine At.seq ?_
  refine At.region ?_
  refine At.skim 2 rfl rfl ?_
  refine At.quiet (q_cap Try.underlying31 rfl) rfl ?_
  refine At.skim 1 rfl rfl ?_
  refine At.quiet (q_len Try.underlying31 rfl) rfl ?_
  refine At.quiet (q_sub rfl rfl (by omega) (by omega)) rfl ?_
  refine At.quiet (q_sub rfl rfl (by omega) (by omega)) rfl ?_
  refine At.skim 1 rfl rfl ?_
  refine At.nil ?_
  refine At.then ?_
  refine At.seq ?_
  refine At.region ?_
  refine At.skim 2 rfl rfl ?_
  refine At.nil ?_
  refine At.then ?_
  refine At.if rfl (fun hpos => ?_) (fun hpos => ?_)
  · skip
    refine At.region ?_
    refine At.skim 2 rfl rfl ?_
    refine At.quiet (q_cap Try.underlying31 rfl) rfl ?_
    refine At.quiet (q_sliceHi Try.underlying31 t50 rfl rfl (h := 0) rfl (Nat.le_refl 0)) rfl ?_
    refine At.skim 1 rfl rfl ?_
    refine At.loud (l_appendZeros (m := m) rfl Try.underlying31 Try.underlying3 t50 rfl rfl (by omega) (by omega) rfl rfl (by omega) (by unfold maxLen; omega)) rfl ?_
    rintro _ _ _ ⟨bz, cz, gz, rfl, hOz, hmc, rfl, rfl⟩
    refine At.skim 1 rfl rfl ?_
    refine At.quiet (q_len Try.underlying31 rfl) rfl ?_
    refine At.quiet (q_sliceHi Try.underlying31 t50 rfl rfl (h := 0) rfl (Nat.zero_le _)) rfl ?_
    refine At.say 25 (.slice (some ⟨bz, 0, none⟩) 0 cz) rfl (by rw [sub0]) ?_
    refine At.skim 1 rfl rfl ?_
    refine At.nil ?_
    refine At.then ?_
    refine At.seq ?_
    refine At.region ?_
    refine At.skim 2 rfl rfl ?_
    refine At.nil ?_
    refine At.then ?_
    refine At.ret ?_
    exact At.results (Γr := []) (M := [gz]) rfl (RVals.cons (RVal.tmp rfl) RVals.nil) (.head _) (fun _ _ => trivial) (.cons_cons _ (.refl _)) ⟨some ⟨bz, 0, none⟩, cz, gz, rfl, rfl, rfl, hOz⟩
  · skip
    refine At.nilSeg ?_
    refine At.skip ?_
    refine At.then ?_
    refine At.seq ?_
    refine At.region ?_
    refine At.skim 2 rfl rfl ?_
    refine At.nil ?_
    refine At.then ?_
    refine At.ret ?_
    exact At.results (Γr := []) (M := [[]]) rfl (RVals.cons (RVal.tmp rfl) RVals.nil) (.head _) (fun _ _ => trivial) (.cons_cons _ (.refl _)) ⟨none, 0, [], rfl, rfl, rfl, Own.nil _ _⟩
theorem concat85w2 (x y : Sl Pr) (b : Nat) (hlen : x.l.length + y.l.length ≤ 8796093022208) : Con Try.prog 85 [.slice (some ⟨b, 0, none⟩) 2 2] [prsP x, prsP y] [[(b, .cells #[x.val, y.val] 31 (0, 0))]] (PairsEndF (x.l ++ y.l)) := by
  refine Con.body 36 Try.func85 rfl Try.ntmps85 rfl fun X H₀ L₀ => ?_
  refine At.freeze 0 (φ := slsP (⟨some ⟨b, 0, none⟩, 2, [x, y]⟩ : Sl (Sl Pr))) rfl (fun _ h => sl_of_block h rfl (by simp [rowS]) rfl (show (2 : Nat) ≤ maxLen from by decide)) ?_
  refine At.know (allS [x, y]) (fun _ h => allS2 h.2.2.1 h.2.2.2.1) ?_
  have hc2 : catU [x, y] 2 = x.l ++ y.l := cat2 _ _
  have hln : (catU [x, y] 2).length ≤ 8796093022208 := by rw [hc2]; simp; omega
  have hle : ∀ k, k ≤ 2 → (catU [x, y] k).length ≤ 8796093022208 := fun k hk => Nat.le_trans (cat_mono (l := [x, y]) hk) hln
  have hl2 : [x, y].length = 2 := rfl
  refine At.seq ?_
  refine At.region ?_
  refine At.skim 1 rfl rfl ?_
  refine At.nil ?_
  refine At.then ?_
  refine At.seq ?_
  refine At.region ?_
  refine At.skim 1 rfl rfl ?_
  refine At.nil ?_
  refine At.then ?_
  refine At.seq ?_
  refine At.seq ?_
  refine At.region ?_
  refine At.skim 1 rfl rfl ?_
  refine At.quiet (q_len Try.underlying134 rfl) rfl ?_
  refine At.skim 1 rfl rfl ?_
  refine At.nil ?_
  refine At.then ?_
  refine At.block ?_
  refine At.loopK (ι := Nat) [3, 5, 11, 12, 13, 14, 15, 16, 17, 18, 19, 20, 21, 22] (fun k => [(11, .int .i64 (k : Int)), (3, .int .i64 ((catU [x, y] k).length : Nat))]) (fun k => []) (fun k => []) _ (fun k => k ≤ 2) (fun k => 2 - k) 0 (Nat.zero_le _) ⟨rfl, rfl, trivial⟩ (fun _ _ => trivial) (.refl _) ?_
  intro k hk0
  refine At.seq ?_
  refine At.region ?_
  refine At.skim 1 rfl rfl ?_
  refine At.nil ?_
  refine At.then ?_
  refine At.seq ?_
  refine At.if rfl (fun hk => ?_) (fun hk => ?_)
  · skip
    obtain ⟨z9, hz⟩ := get_of_lt (l := [x, y]) (i := k) (by omega)
    have hst := cat_step hz
    have hlk := hle (k + 1) (by omega)
    rw [hst, List.length_append] at hlk
    have hk1 : k + 1 ≤ 2 := by omega
    refine At.know (prsP z9) (fun _ h => allS_get h.1 hz) ?_
    refine At.skip ?_
    refine At.then ?_
    refine At.seq ?_
    refine At.block ?_
    refine At.seq ?_
    refine At.region ?_
    refine At.quiet (q_index Try.underlying134 t31 rfl (.tail _ (.tail _ (.head _))) (by simp) rfl rfl (lt_of_get hz)) rfl ?_
    refine At.quiet (q_load t31 rfl (Rd.sl0 (.tail _ (.tail _ (.head _))) (map_get hz) rfl)) rfl ?_
    refine At.skim 1 rfl rfl ?_
    refine At.nil ?_
    refine At.then ?_
    refine At.seq ?_
    refine At.region ?_
    refine At.skim 2 rfl rfl ?_
    refine At.quiet (q_len Try.underlying31 rfl) rfl ?_
    refine At.quiet (q_add rfl rfl (by omega) (by omega)) rfl ?_
    refine At.skim 1 rfl rfl ?_
    refine At.nil ?_
    refine At.then ?_
    refine At.seq ?_
    refine At.region ?_
    refine At.skim 2 rfl rfl ?_
    refine At.nil ?_
    refine At.then ?_
    refine At.say 20 (.bool false) rfl (congrArg Value.bool (decide_eq_false (by omega))) ?_
    refine At.condF rfl ?_
    refine At.skip ?_
    refine At.inNormal ?_
    refine At.then ?_
    refine At.region ?_
    refine At.quiet (q_add rfl rfl (by omega) (by omega)) rfl ?_
    refine At.skim 1 rfl rfl ?_
    refine At.nil ?_
    refine At.say 3 (.int .i64 ((catU [x, y] (k + 1)).length : Nat)) rfl (congrArg (Value.int .i64) (by rw [hst, List.length_append]; simp)) ?_
    refine At.then ?_
    exact At.againK (k + 1) hk1 (by (try dsimp only); omega) (Tells.end 17 ⟨rfl, rfl, trivial⟩ rfl rfl) (fun _ h => h.2) (.refl _)
  · skip
    obtain rfl : k = 2 := by omega
    have hl3 := hle 2 (by omega)
    refine At.exit ?_
    refine At.thenExit ?_
    refine At.thenExit ?_
    refine At.inHere rfl ?_
    refine At.then ?_
    refine At.seq ?_
    refine At.region ?_
    refine At.skim 1 rfl rfl ?_
    refine At.call en109 rfl (grow109w _ (by omega)) (fun _ _ => trivial) (List.Perm.refl _) rfl ?_
    rintro _ _ _ ⟨a0, c0, M0, rfl, rfl, rfl, hO0⟩
    refine At.skim 1 rfl rfl ?_
    refine At.nil ?_
    refine At.then ?_
    refine At.seq ?_
    refine At.seq ?_
    refine At.region ?_
    refine At.skim 1 rfl rfl ?_
    refine At.quiet (q_len Try.underlying134 rfl) rfl ?_
    refine At.skim 1 rfl rfl ?_
    refine At.nil ?_
    refine At.then ?_
    refine At.block ?_
    refine At.loopK (ι := Nat × Option Addr × Nat × Seg) [6, 8, 27, 28, 29, 30, 31, 32, 33, 34] (fun ⟨j, a, c, M⟩ => [(27, .int .i64 (j : Int)), (6, .slice a (catU [x, y] j).length c)]) (fun ⟨j, a, c, M⟩ => []) (fun ⟨j, a, c, M⟩ => [M]) _ (fun ⟨j, a, c, M⟩ => j ≤ 2 ∧ Own 50 2 ((catU [x, y] j).map rowP) a c M) (fun ⟨j, a, c, M⟩ => 2 - j) (0, a0, c0, M0) ⟨Nat.zero_le _, hO0⟩ ⟨rfl, rfl, trivial⟩ (fun _ _ => trivial) (.cons_cons _ (.refl _)) ?_
    intro i0 hI0
    obtain ⟨j, a, c, M⟩ := i0
    obtain ⟨hj2, hO⟩ := hI0
    refine At.seq ?_
    refine At.region ?_
    refine At.skim 1 rfl rfl ?_
    refine At.nil ?_
    refine At.then ?_
    refine At.seq ?_
    refine At.if rfl (fun hjk => ?_) (fun hjk => ?_)
    · skip
      obtain ⟨z9, hz⟩ := get_of_lt (l := [x, y]) (i := j) (by omega)
      have hst := cat_step hz
      have hlk := hle (j + 1) (by omega)
      rw [hst, List.length_append] at hlk
      have hj1 : j + 1 ≤ 2 := by omega
      refine At.know (prsP z9) (fun _ h => allS_get h.1 hz) ?_
      refine At.skip ?_
      refine At.then ?_
      refine At.seq ?_
      refine At.block ?_
      refine At.seq ?_
      refine At.region ?_
      refine At.quiet (q_index Try.underlying134 t31 rfl (.tail _ (.tail _ (.head _))) (by simp) rfl rfl (lt_of_get hz)) rfl ?_
      refine At.quiet (q_load t31 rfl (Rd.sl0 (.tail _ (.tail _ (.head _))) (map_get hz) rfl)) rfl ?_
      refine At.skim 1 rfl rfl ?_
      refine At.nil ?_
      refine At.then ?_
      refine At.region ?_
      refine At.skim 2 rfl rfl ?_
      refine At.loud (l_appendSl rfl Try.underlying31 t50 rfl rfl hO (by simp) (i := 0) rfl (.head _) (by simp) (one_map (fun _ => rfl) _) rfl rfl (by omega) (by unfold maxLen; omega)) rfl ?_
      rintro _ _ _ ⟨a2, c2, M2, rfl, ow, rfl, rfl⟩
      refine At.skim 1 rfl rfl ?_
      refine At.nil ?_
      refine At.inNormal ?_
      refine At.then ?_
      refine At.region ?_
      refine At.quiet (q_add rfl rfl (by omega) (by omega)) rfl ?_
      refine At.skim 1 rfl rfl ?_
      refine At.nil ?_
      refine At.say 6 (.slice a2 (catU [x, y] (j + 1)).length c2) rfl (by rw [hst, List.length_append]) ?_
      refine At.then ?_
      exact At.againK (j + 1, a2, c2, M2) ⟨hj1, by rw [hst, List.map_append]; exact ow⟩ (by (try dsimp only); omega) (Tells.end 13 ⟨rfl, rfl, trivial⟩ rfl rfl) (fun _ h => h.2) (.cons_cons _ (.refl _))
    · skip
      obtain rfl : j = 2 := by omega
      refine At.freezeOwn 0 hO rfl ?_
      refine At.exit ?_
      refine At.thenExit ?_
      refine At.thenExit ?_
      refine At.inHere rfl ?_
      refine At.then ?_
      refine At.seq ?_
      refine At.region ?_
      refine At.skim 2 rfl rfl ?_
      refine At.nil ?_
      refine At.then ?_
      refine At.ret ?_
      exact At.results (Γr := [prsP ⟨a, c, catU [x, y] 2⟩]) (M := []) rfl (RVals.cons (RVal.tmp rfl) RVals.nil) (.tail _ (.tail _ (.tail _ (.head _)))) (fun _ h => ⟨h.1, trivial⟩) (.refl _) ⟨⟨a, c, catU [x, y] 2⟩, rfl, rfl, rfl, hc2⟩
theorem concat85w3 (x z : Sl Pr) (p : Pr) (b b2 : Nat) (hlen : x.l.length + z.l.length + 1 ≤ 8796093022208) : Con Try.prog 85 [.slice (some ⟨b, 0, none⟩) 3 3] [prsP x, prsP z] [[(b, .cells #[x.val, .slice (some ⟨b2, 0, none⟩) 1 1, z.val] 31 (0, 0))], [(b2, .cells #[.int .i64 p.k, .int .i64 p.v] 50 (0, 0))]] (PairsEndF (x.l ++ p :: z.l)) := by
  refine Con.body 36 Try.func85 rfl Try.ntmps85 rfl fun X H₀ L₀ => ?_
  refine At.freeze 1 (φ := prsP (⟨some ⟨b2, 0, none⟩, 1, [p]⟩ : Sl Pr)) rfl (fun _ h => sl_of_block h rfl (by simp [rowP]) rfl (show (1 : Nat) ≤ maxLen from by decide)) ?_
  refine At.freeze 0 (φ := slsP (⟨some ⟨b, 0, none⟩, 3, [x, (⟨some ⟨b2, 0, none⟩, 1, [p]⟩ : Sl Pr), z]⟩ : Sl (Sl Pr))) rfl (fun _ h => sl_of_block h rfl (by simp [rowS]) rfl (show (3 : Nat) ≤ maxLen from by decide)) ?_
  refine At.know (allS [x, (⟨some ⟨b2, 0, none⟩, 1, [p]⟩ : Sl Pr), z]) (fun _ h => allS3 h.2.2.2.1 h.2.1 h.2.2.2.2.1) ?_
  have hc2 : catU [x, (⟨some ⟨b2, 0, none⟩, 1, [p]⟩ : Sl Pr), z] 3 = x.l ++ p :: z.l := cat3 _ _ _
  have hln : (catU [x, (⟨some ⟨b2, 0, none⟩, 1, [p]⟩ : Sl Pr), z] 3).length ≤ 8796093022208 := by rw [hc2]; simp; omega
  have hle : ∀ k, k ≤ 3 → (catU [x, (⟨some ⟨b2, 0, none⟩, 1, [p]⟩ : Sl Pr), z] k).length ≤ 8796093022208 := fun k hk => Nat.le_trans (cat_mono (l := [x, (⟨some ⟨b2, 0, none⟩, 1, [p]⟩ : Sl Pr), z]) hk) hln
  have hl2 : [x, (⟨some ⟨b2, 0, none⟩, 1, [p]⟩ : Sl Pr), z].length = 3 := rfl
  refine At.seq ?_
  refine At.region ?_
  refine At.skim 1 rfl rfl ?_
  refine At.nil ?_
  refine At.then ?_
  refine At.seq ?_
  refine At.region ?_
  refine At.skim 1 rfl rfl ?_
  refine At.nil ?_
  refine At.then ?_
  refine At.seq ?_
  refine At.seq ?_
  refine At.region ?_
  refine At.skim 1 rfl rfl ?_
  refine At.quiet (q_len Try.underlying134 rfl) rfl ?_
  refine At.skim 1 rfl rfl ?_
  refine At.nil ?_
  refine At.then ?_
  refine At.block ?_
  refine At.loopK (ι := Nat) [3, 5, 11, 12, 13, 14, 15, 16, 17, 18, 19, 20, 21, 22] (fun k => [(11, .int .i64 (k : Int)), (3, .int .i64 ((catU [x, (⟨some ⟨b2, 0, none⟩, 1, [p]⟩ : Sl Pr), z] k).length : Nat))]) (fun k => []) (fun k => []) _ (fun k => k ≤ 3) (fun k => 3 - k) 0 (Nat.zero_le _) ⟨rfl, rfl, trivial⟩ (fun _ _ => trivial) (.refl _) ?_
  intro k hk0
  refine At.seq ?_
  refine At.region ?_
  refine At.skim 1 rfl rfl ?_
  refine At.nil ?_
  refine At.then ?_
  refine At.seq ?_
  refine At.if rfl (fun hk => ?_) (fun hk => ?_)
  · skip
    obtain ⟨z9, hz⟩ := get_of_lt (l := [x, (⟨some ⟨b2, 0, none⟩, 1, [p]⟩ : Sl Pr), z]) (i := k) (by omega)
    have hst := cat_step hz
    have hlk := hle (k + 1) (by omega)
    rw [hst, List.length_append] at hlk
    have hk1 : k + 1 ≤ 3 := by omega
    refine At.know (prsP z9) (fun _ h => allS_get h.1 hz) ?_
    refine At.skip ?_
    refine At.then ?_
    refine At.seq ?_
    refine At.block ?_
    refine At.seq ?_
    refine At.region ?_
    refine At.quiet (q_index Try.underlying134 t31 rfl (.tail _ (.tail _ (.head _))) (by simp) rfl rfl (lt_of_get hz)) rfl ?_
    refine At.quiet (q_load t31 rfl (Rd.sl0 (.tail _ (.tail _ (.head _))) (map_get hz) rfl)) rfl ?_
    refine At.skim 1 rfl rfl ?_
    refine At.nil ?_
    refine At.then ?_
    refine At.seq ?_
    refine At.region ?_
    refine At.skim 2 rfl rfl ?_
    refine At.quiet (q_len Try.underlying31 rfl) rfl ?_
    refine At.quiet (q_add rfl rfl (by omega) (by omega)) rfl ?_
    refine At.skim 1 rfl rfl ?_
    refine At.nil ?_
    refine At.then ?_
    refine At.seq ?_
    refine At.region ?_
    refine At.skim 2 rfl rfl ?_
    refine At.nil ?_
    refine At.then ?_
    refine At.say 20 (.bool false) rfl (congrArg Value.bool (decide_eq_false (by omega))) ?_
    refine At.condF rfl ?_
    refine At.skip ?_
    refine At.inNormal ?_
    refine At.then ?_
    refine At.region ?_
    refine At.quiet (q_add rfl rfl (by omega) (by omega)) rfl ?_
    refine At.skim 1 rfl rfl ?_
    refine At.nil ?_
    refine At.say 3 (.int .i64 ((catU [x, (⟨some ⟨b2, 0, none⟩, 1, [p]⟩ : Sl Pr), z] (k + 1)).length : Nat)) rfl (congrArg (Value.int .i64) (by rw [hst, List.length_append]; simp)) ?_
    refine At.then ?_
    exact At.againK (k + 1) hk1 (by (try dsimp only); omega) (Tells.end 17 ⟨rfl, rfl, trivial⟩ rfl rfl) (fun _ h => h.2) (.refl _)
  · skip
    obtain rfl : k = 3 := by omega
    have hl3 := hle 3 (by omega)
    refine At.exit ?_
    refine At.thenExit ?_
    refine At.thenExit ?_
    refine At.inHere rfl ?_
    refine At.then ?_
    refine At.seq ?_
    refine At.region ?_
    refine At.skim 1 rfl rfl ?_
    refine At.call en109 rfl (grow109w _ (by omega)) (fun _ _ => trivial) (List.Perm.refl _) rfl ?_
    rintro _ _ _ ⟨a0, c0, M0, rfl, rfl, rfl, hO0⟩
    refine At.skim 1 rfl rfl ?_
    refine At.nil ?_
    refine At.then ?_
    refine At.seq ?_
    refine At.seq ?_
    refine At.region ?_
    refine At.skim 1 rfl rfl ?_
    refine At.quiet (q_len Try.underlying134 rfl) rfl ?_
    refine At.skim 1 rfl rfl ?_
    refine At.nil ?_
    refine At.then ?_
    refine At.block ?_
    refine At.loopK (ι := Nat × Option Addr × Nat × Seg) [6, 8, 27, 28, 29, 30, 31, 32, 33, 34] (fun ⟨j, a, c, M⟩ => [(27, .int .i64 (j : Int)), (6, .slice a (catU [x, (⟨some ⟨b2, 0, none⟩, 1, [p]⟩ : Sl Pr), z] j).length c)]) (fun ⟨j, a, c, M⟩ => []) (fun ⟨j, a, c, M⟩ => [M]) _ (fun ⟨j, a, c, M⟩ => j ≤ 3 ∧ Own 50 2 ((catU [x, (⟨some ⟨b2, 0, none⟩, 1, [p]⟩ : Sl Pr), z] j).map rowP) a c M) (fun ⟨j, a, c, M⟩ => 3 - j) (0, a0, c0, M0) ⟨Nat.zero_le _, hO0⟩ ⟨rfl, rfl, trivial⟩ (fun _ _ => trivial) (.cons_cons _ (.refl _)) ?_
    intro i0 hI0
    obtain ⟨j, a, c, M⟩ := i0
    obtain ⟨hj2, hO⟩ := hI0
    refine At.seq ?_
    refine At.region ?_
    refine At.skim 1 rfl rfl ?_
    refine At.nil ?_
    refine At.then ?_
    refine At.seq ?_
    refine At.if rfl (fun hjk => ?_) (fun hjk => ?_)
    · skip
      obtain ⟨z9, hz⟩ := get_of_lt (l := [x, (⟨some ⟨b2, 0, none⟩, 1, [p]⟩ : Sl Pr), z]) (i := j) (by omega)
      have hst := cat_step hz
      have hlk := hle (j + 1) (by omega)
      rw [hst, List.length_append] at hlk
      have hj1 : j + 1 ≤ 3 := by omega
      refine At.know (prsP z9) (fun _ h => allS_get h.1 hz) ?_
      refine At.skip ?_
      refine At.then ?_
      refine At.seq ?_
      refine At.block ?_
      refine At.seq ?_
      refine At.region ?_
      refine At.quiet (q_index Try.underlying134 t31 rfl (.tail _ (.tail _ (.head _))) (by simp) rfl rfl (lt_of_get hz)) rfl ?_
      refine At.quiet (q_load t31 rfl (Rd.sl0 (.tail _ (.tail _ (.head _))) (map_get hz) rfl)) rfl ?_
      refine At.skim 1 rfl rfl ?_
      refine At.nil ?_
      refine At.then ?_
      refine At.region ?_
      refine At.skim 2 rfl rfl ?_
      refine At.loud (l_appendSl rfl Try.underlying31 t50 rfl rfl hO (by simp) (i := 0) rfl (.head _) (by simp) (one_map (fun _ => rfl) _) rfl rfl (by omega) (by unfold maxLen; omega)) rfl ?_
      rintro _ _ _ ⟨a2, c2, M2, rfl, ow, rfl, rfl⟩
      refine At.skim 1 rfl rfl ?_
      refine At.nil ?_
      refine At.inNormal ?_
      refine At.then ?_
      refine At.region ?_
      refine At.quiet (q_add rfl rfl (by omega) (by omega)) rfl ?_
      refine At.skim 1 rfl rfl ?_
      refine At.nil ?_
      refine At.say 6 (.slice a2 (catU [x, (⟨some ⟨b2, 0, none⟩, 1, [p]⟩ : Sl Pr), z] (j + 1)).length c2) rfl (by rw [hst, List.length_append]) ?_
      refine At.then ?_
      exact At.againK (j + 1, a2, c2, M2) ⟨hj1, by rw [hst, List.map_append]; exact ow⟩ (by (try dsimp only); omega) (Tells.end 13 ⟨rfl, rfl, trivial⟩ rfl rfl) (fun _ h => h.2) (.cons_cons _ (.refl _))
    · skip
      obtain rfl : j = 3 := by omega
      refine At.freezeOwn 0 hO rfl ?_
      refine At.exit ?_
      refine At.thenExit ?_
      refine At.thenExit ?_
      refine At.inHere rfl ?_
      refine At.then ?_
      refine At.seq ?_
      refine At.region ?_
      refine At.skim 2 rfl rfl ?_
      refine At.nil ?_
      refine At.then ?_
      refine At.ret ?_
      exact At.results (Γr := [prsP ⟨a, c, catU [x, (⟨some ⟨b2, 0, none⟩, 1, [p]⟩ : Sl Pr), z] 3⟩]) (M := []) rfl (RVals.cons (RVal.tmp rfl) RVals.nil) (.tail _ (.tail _ (.tail _ (.tail _ (.head _))))) (fun _ h => ⟨h.1, trivial⟩) (.refl _) ⟨⟨a, c, catU [x, (⟨some ⟨b2, 0, none⟩, 1, [p]⟩ : Sl Pr), z] 3⟩, rfl, rfl, rfl, hc2⟩
set_option maxHeartbeats 1000000 in
theorem with123 (l : Sl Pr) (p : Pr) (hr : rises l.l = true) (hl : l.l.length + 1 ≤ 8796093022208) : Con Try.prog 123 [l.val, p.val] [prsP l] [] (PairsEndF (withT l.l p)) := by
  refine Con.body 48 Try.func123 rfl Try.ntmps123 rfl fun X H₀ L₀ => ?_
  refine At.lenOf (hs := (.tail _ (.head _))) fun hlen => ?_
  rw [List.length_map] at hlen
  refine At.seq ?_
  refine At.region ?_
  refine At.loud (l_box rfl) rfl ?_
  rintro _ _ _ ⟨b1, rfl, rfl, rfl⟩
  refine At.freeze 0 (φ := blk b1 _) rfl (fun _ h => blk_def.2 ⟨_, _, h⟩) ?_
  refine At.skim 1 rfl rfl ?_
  refine At.nil ?_
  refine At.then ?_
  refine At.seq ?_
  refine At.region ?_
  refine At.skim 1 rfl rfl ?_
  refine At.nil ?_
  refine At.then ?_
  refine At.seq ?_
  refine At.block ?_
  refine At.loopK (ι := Nat) [5, 7, 8, 9, 10, 11, 12, 13, 14, 15, 16, 17, 18, 19, 20, 21, 22] (fun k => [(5, .int .i64 (k : Int))]) (fun k => []) (fun k => []) _ (fun k => k ≤ l.l.length ∧ ∀ y ∈ l.l.take k, y.k < p.k) (fun k => l.l.length - k) 0 ⟨Nat.zero_le _, by simp⟩ ⟨rfl, trivial⟩ (fun _ _ => trivial) (.refl _) ?_
  intro k hI
  refine At.seq ?_
  refine At.seq ?_
  refine At.draw 12 (.q 0 (.q 1 (.q 2 (.q 3 (.q 4 (.q 5 (.q 6 (.q 7 (.q 8 (.q 9 (.q 10 (.q 11 (.e))))))))))))) _ (List.Sublist.refl _) mixed (by kernel_rfl) rfl ?_
  refine AtO.quiet rfl (q_move rfl) rfl (Calm.then (Calm.then (Calm.then (Calm.inBlock (Calm.then Post.calm))))) ?_
  refine AtO.quiet rfl (q_move rfl) rfl (Calm.then (Calm.then (Calm.then (Calm.inBlock (Calm.then Post.calm))))) ?_
  refine AtO.quiet rfl (q_len Try.underlying31 rfl) rfl (Calm.then (Calm.then (Calm.then (Calm.inBlock (Calm.then Post.calm))))) ?_
  refine AtO.quiet rfl (q_lss rfl rfl) rfl (Calm.then (Calm.then (Calm.then (Calm.inBlock (Calm.then Post.calm))))) ?_
  refine AtO.quiet rfl (q_move rfl) rfl (Calm.then (Calm.then (Calm.then (Calm.inBlock (Calm.then Post.calm))))) ?_
  refine AtO.splitP (d := 11) rfl (fun hk => ?_) (fun hk => ?_)
  · skip
    obtain ⟨hk0, hno⟩ := hI
    obtain ⟨x, hx⟩ := get_of_lt (l := l.l) (i := k) (by omega)
    refine AtO.quietG rfl rfl rfl (q_move rfl) rfl (Calm.then (Calm.then (Calm.then (Calm.inBlock (Calm.then Post.calm))))) ?_
    refine AtO.quietG rfl rfl rfl (q_move rfl) rfl (Calm.then (Calm.then (Calm.then (Calm.inBlock (Calm.then Post.calm))))) ?_
    refine AtO.quietG rfl rfl rfl (q_index Try.underlying31 t50 rfl (.tail _ (.tail _ (.head _))) (by simp) rfl rfl (lt_of_get hx)) rfl (Calm.then (Calm.then (Calm.then (Calm.inBlock (Calm.then Post.calm))))) ?_
    refine AtO.quietG rfl rfl rfl (q_fieldAddr s50 rfl rfl rfl) rfl (Calm.then (Calm.then (Calm.then (Calm.inBlock (Calm.then Post.calm))))) ?_
    refine AtO.quietG rfl rfl rfl (q_load t3 rfl (Rd.sl (.tail _ (.tail _ (.head _))) (map_get hx) rfl)) rfl (Calm.then (Calm.then (Calm.then (Calm.inBlock (Calm.then Post.calm))))) ?_
    refine AtO.quietG rfl rfl rfl (q_fieldAddr s50 rfl rfl rfl) rfl (Calm.then (Calm.then (Calm.then (Calm.inBlock (Calm.then Post.calm))))) ?_
    refine AtO.quietG rfl rfl rfl (q_load t3 rfl (Rd.blk (.head _) rfl)) rfl (Calm.then (Calm.then (Calm.then (Calm.inBlock (Calm.then Post.calm))))) ?_
    refine AtO.done ?_
    refine At.skim 2 rfl rfl ?_
    refine At.nil ?_
    refine At.then ?_
    refine At.if rfl (fun hlt => ?_) (fun hlt => ?_)
    · skip
      refine At.skip ?_
      refine At.then ?_
      refine At.block ?_
      refine At.region ?_
      refine At.skim 1 rfl rfl ?_
      refine At.quiet (q_add rfl rfl (by omega) (by omega)) rfl ?_
      refine At.skim 1 rfl rfl ?_
      refine At.nil ?_
      refine At.inNormal ?_
      refine At.then ?_
      exact At.againK (k + 1) ⟨lt_of_get hx, take_lt hx hlt hno⟩ (by (try dsimp only); omega) (Tells.end 19 ⟨rfl, trivial⟩ rfl rfl) (fun _ h => h) (.refl _)
    · skip
      have hge : ∀ y, l.l[k]? = some y → p.k ≤ y.k := fun y hy => by rw [hx] at hy; cases hy; omega
      have hx0 : (l.l.drop k)[0]? = some x := by rw [List.getElem?_drop]; exact hx
      have hk1 := lt_of_get hx
      refine At.exit ?_
      refine At.thenExit ?_
      refine At.thenExit ?_
      refine At.inHere rfl ?_
      refine At.then ?_
      refine At.seq ?_
      refine At.region ?_
      refine At.lenOf (hs := (.tail _ (.tail _ (.head _)))) fun hlen2 => ?_
      rw [List.length_map] at hlen2
      refine At.capOf (hs := (.tail _ (.tail _ (.head _)))) fun hcap => ?_
      rw [List.length_map] at hcap
      refine At.know (prsP (⟨subA l.a l.c 2 k, l.c - k, l.l.drop k⟩ : Sl Pr)) (fun _ h => prs_drop h.2.2.1 (by omega)) ?_
      refine At.skim 2 rfl rfl ?_
      refine At.quiet (q_sliceLo Try.underlying31 t50 rfl rfl rfl (by omega)) rfl ?_
      refine At.say 25 (Sl.val (⟨subA l.a l.c 2 k, l.c - k, l.l.drop k⟩ : Sl Pr)) rfl (drop_val.symm) ?_
      refine At.skim 1 rfl rfl ?_
      refine At.nil ?_
      refine At.then ?_
      refine At.seq ?_
      refine At.seq ?_
      refine At.draw 10 (.q 0 (.q 1 (.q 2 (.q 3 (.q 4 (.q 5 (.q 6 (.q 7 (.q 8 (.q 9 (.e))))))))))) _ (List.Sublist.refl _) mixed (by kernel_rfl) rfl ?_
      refine AtO.quiet rfl (q_move rfl) rfl (Calm.then (Calm.then Post.calm)) ?_
      refine AtO.quiet rfl (q_len Try.underlying31 rfl) rfl (Calm.then (Calm.then Post.calm)) ?_
      refine AtO.quiet rfl (q_gtr rfl rfl) rfl (Calm.then (Calm.then Post.calm)) ?_
      refine AtO.quiet rfl (q_move rfl) rfl (Calm.then (Calm.then Post.calm)) ?_
      refine AtO.say 29 (.bool true) rfl (congrArg Value.bool (decide_eq_true (by simp; omega))) ?_
      refine AtO.quietG rfl rfl rfl (q_move rfl) rfl (Calm.then (Calm.then Post.calm)) ?_
      refine AtO.quietG rfl rfl rfl (q_index Try.underlying31 t50 rfl (.head _) (by simp) rfl rfl (lt_of_get hx0)) rfl (Calm.then (Calm.then Post.calm)) ?_
      refine AtO.quietG rfl rfl rfl (q_fieldAddr s50 rfl rfl rfl) rfl (Calm.then (Calm.then Post.calm)) ?_
      refine AtO.quietG rfl rfl rfl (q_load t3 rfl (Rd.sl (.head _) (map_get hx0) rfl)) rfl (Calm.then (Calm.then Post.calm)) ?_
      refine AtO.quietG rfl rfl rfl (q_fieldAddr s50 rfl rfl rfl) rfl (Calm.then (Calm.then Post.calm)) ?_
      refine AtO.quietG rfl rfl rfl (q_load t3 rfl (Rd.blk (.tail _ (.head _)) rfl)) rfl (Calm.then (Calm.then Post.calm)) ?_
      refine AtO.done ?_
      refine At.skim 2 rfl rfl ?_
      refine At.nil ?_
      refine At.then ?_
      refine At.if rfl (fun heq => ?_) (fun heq => ?_)
      · skip
        refine At.know (prsP (⟨subA (subA l.a l.c 2 k) (l.c - k) 2 1, l.c - k - 1, (l.l.drop k).drop 1⟩ : Sl Pr)) (fun _ h => prs_drop (s := (⟨subA l.a l.c 2 k, l.c - k, l.l.drop k⟩ : Sl Pr)) h.1 (by simp; omega)) ?_
        refine At.region ?_
        refine At.skim 1 rfl rfl ?_
        refine At.quiet (q_sliceLo Try.underlying31 t50 rfl rfl (l := 1) rfl (by simp; omega)) rfl ?_
        refine At.say 39 (Sl.val (⟨subA (subA l.a l.c 2 k) (l.c - k) 2 1, l.c - k - 1, (l.l.drop k).drop 1⟩ : Sl Pr)) rfl ((drop_val (s := (⟨subA l.a l.c 2 k, l.c - k, l.l.drop k⟩ : Sl Pr))).symm) ?_
        refine At.skim 1 rfl rfl ?_
        refine At.nil ?_
        refine At.then ?_
        refine At.seq ?_
        refine At.know (prsP (⟨subA l.a l.c 2 0, l.c, l.l.take k⟩ : Sl Pr)) (fun _ h => prs_take h.2.2.2.2.1 (by omega)) ?_
        refine At.draw 6 (.q 0 (.q 1 (.q 2 (.q 3 (.q 5 (.o 4 (.e))))))) _ (List.Sublist.refl _) mixed (by kernel_rfl) rfl ?_
        refine AtO.quiet rfl (q_move rfl) rfl (Calm.then Post.calm) ?_
        refine AtO.quiet rfl (q_move rfl) rfl (Calm.then Post.calm) ?_
        refine AtO.quiet rfl (q_sliceHi Try.underlying31 t50 rfl rfl (h := k) rfl (by omega)) rfl (Calm.then Post.calm) ?_
        refine AtO.say 42 (Sl.val (⟨subA l.a l.c 2 0, l.c, l.l.take k⟩ : Sl Pr)) rfl ((take_val (by omega)).symm) ?_
        refine AtO.quiet rfl (q_loadS t50 rfl (RdS.blk (.tail _ (.tail _ (.tail _ (.head _)))) (m := 2) rfl) rfl) rfl (Calm.then Post.calm) ?_
        refine AtO.quiet rfl (q_move rfl) rfl (Calm.then Post.calm) ?_
        refine AtO.loudA rfl (l_buildSlice Try.underlying31 t50 rfl rfl rfl rfl rfl) rfl (by rintro _ _ _ ⟨_, rfl, rfl, rfl⟩; exact ⟨fun _ h => h, .cons _ (.refl _)⟩) ?_
        rintro _ _ _ ⟨b2, rfl, rfl, rfl⟩
        refine AtO.done ?_
        refine At.loud (l_buildSlice Try.underlying134 t31 rfl rfl rfl rfl rfl) rfl ?_
        rintro _ _ _ ⟨b3, rfl, rfl, rfl⟩
        refine At.front 1 rfl ?_
        refine At.front 1 rfl ?_
        refine At.call en85 rfl (concat85w3 (⟨subA l.a l.c 2 0, l.c, l.l.take k⟩ : Sl Pr) (⟨subA (subA l.a l.c 2 k) (l.c - k) 2 1, l.c - k - 1, (l.l.drop k).drop 1⟩ : Sl Pr) p _ _ (by simp; omega)) (fun _ h => ⟨h.1, h.2.1, trivial⟩) (List.Perm.refl _) rfl ?_
        rintro _ _ _ ⟨u, rfl, rfl, rfl, hul⟩
        refine At.skim 1 rfl rfl ?_
        refine At.nil ?_
        refine At.then ?_
        refine At.ret ?_
        exact At.results (Γr := [_]) (M := []) rfl (RVals.cons (RVal.tmp rfl) RVals.nil) (.tail _ (.tail _ (.tail _ (.tail _ (.tail _ (.head _)))))) (fun _ h => ⟨h.1, trivial⟩) (.refl _) ⟨u, rfl, rfl, rfl, by rw [hul]; exact with_cat hr hno hge (by simp only [hx]; rw [if_pos heq])⟩
      · skip
        refine At.skip ?_
        refine At.then ?_
        refine At.seq ?_
        refine At.know (prsP (⟨subA l.a l.c 2 0, l.c, l.l.take k⟩ : Sl Pr)) (fun _ h => prs_take h.2.2.2.1 (by omega)) ?_
        refine At.draw 6 (.q 0 (.q 1 (.q 2 (.q 3 (.q 5 (.o 4 (.e))))))) _ (List.Sublist.refl _) mixed (by kernel_rfl) rfl ?_
        refine AtO.quiet rfl (q_move rfl) rfl (Calm.then Post.calm) ?_
        refine AtO.quiet rfl (q_move rfl) rfl (Calm.then Post.calm) ?_
        refine AtO.quiet rfl (q_sliceHi Try.underlying31 t50 rfl rfl (h := k) rfl (by omega)) rfl (Calm.then Post.calm) ?_
        refine AtO.say 42 (Sl.val (⟨subA l.a l.c 2 0, l.c, l.l.take k⟩ : Sl Pr)) rfl ((take_val (by omega)).symm) ?_
        refine AtO.quiet rfl (q_loadS t50 rfl (RdS.blk (.tail _ (.tail _ (.head _))) (m := 2) rfl) rfl) rfl (Calm.then Post.calm) ?_
        refine AtO.quiet rfl (q_move rfl) rfl (Calm.then Post.calm) ?_
        refine AtO.loudA rfl (l_buildSlice Try.underlying31 t50 rfl rfl rfl rfl rfl) rfl (by rintro _ _ _ ⟨_, rfl, rfl, rfl⟩; exact ⟨fun _ h => h, .cons _ (.refl _)⟩) ?_
        rintro _ _ _ ⟨b4, rfl, rfl, rfl⟩
        refine AtO.done ?_
        refine At.loud (l_buildSlice Try.underlying134 t31 rfl rfl rfl rfl rfl) rfl ?_
        rintro _ _ _ ⟨b5, rfl, rfl, rfl⟩
        refine At.front 1 rfl ?_
        refine At.front 1 rfl ?_
        refine At.call en85 rfl (concat85w3 (⟨subA l.a l.c 2 0, l.c, l.l.take k⟩ : Sl Pr) (⟨subA l.a l.c 2 k, l.c - k, l.l.drop k⟩ : Sl Pr) p _ _ (by simp; omega)) (fun _ h => ⟨h.1, h.2.1, trivial⟩) (List.Perm.refl _) rfl ?_
        rintro _ _ _ ⟨u, rfl, rfl, rfl, hul⟩
        refine At.skim 1 rfl rfl ?_
        refine At.nil ?_
        refine At.then ?_
        refine At.ret ?_
        exact At.results (Γr := [_]) (M := []) rfl (RVals.cons (RVal.tmp rfl) RVals.nil) (.tail _ (.tail _ (.tail _ (.tail _ (.head _))))) (fun _ h => ⟨h.1, trivial⟩) (.refl _) ⟨u, rfl, rfl, rfl, by rw [hul]; exact with_cat hr hno hge (by simp only [hx]; rw [if_neg heq])⟩
  · skip
    obtain ⟨hk0, hno⟩ := hI
    have hkl : k = l.l.length := by omega
    have hge : ∀ y, l.l[k]? = some y → p.k ≤ y.k := fun y hy => by have := lt_of_get hy; omega
    refine AtO.shut rfl rfl rfl rfl (Calm.then (Calm.then (Calm.then (Calm.inBlock (Calm.then Post.calm))))) ?_
    refine AtO.shut rfl rfl rfl rfl (Calm.then (Calm.then (Calm.then (Calm.inBlock (Calm.then Post.calm))))) ?_
    refine AtO.shut rfl rfl rfl rfl (Calm.then (Calm.then (Calm.then (Calm.inBlock (Calm.then Post.calm))))) ?_
    refine AtO.shut rfl rfl rfl rfl (Calm.then (Calm.then (Calm.then (Calm.inBlock (Calm.then Post.calm))))) ?_
    refine AtO.shut rfl rfl rfl rfl (Calm.then (Calm.then (Calm.then (Calm.inBlock (Calm.then Post.calm))))) ?_
    refine AtO.shut rfl rfl rfl rfl (Calm.then (Calm.then (Calm.then (Calm.inBlock (Calm.then Post.calm))))) ?_
    refine AtO.shut rfl rfl rfl rfl (Calm.then (Calm.then (Calm.then (Calm.inBlock (Calm.then Post.calm))))) ?_
    refine AtO.done ?_
    refine At.skim 2 rfl rfl ?_
    refine At.nil ?_
    refine At.then ?_
    refine At.condF rfl ?_
    refine At.exit ?_
    refine At.thenExit ?_
    refine At.thenExit ?_
    refine At.inHere rfl ?_
    refine At.then ?_
    refine At.seq ?_
    refine At.region ?_
    refine At.lenOf (hs := (.tail _ (.tail _ (.head _)))) fun hlen2 => ?_
    rw [List.length_map] at hlen2
    refine At.capOf (hs := (.tail _ (.tail _ (.head _)))) fun hcap => ?_
    rw [List.length_map] at hcap
    refine At.know (prsP (⟨subA l.a l.c 2 k, l.c - k, l.l.drop k⟩ : Sl Pr)) (fun _ h => prs_drop h.2.2.1 (by omega)) ?_
    refine At.skim 2 rfl rfl ?_
    refine At.quiet (q_sliceLo Try.underlying31 t50 rfl rfl rfl (by omega)) rfl ?_
    refine At.say 25 (Sl.val (⟨subA l.a l.c 2 k, l.c - k, l.l.drop k⟩ : Sl Pr)) rfl (drop_val.symm) ?_
    refine At.skim 1 rfl rfl ?_
    refine At.nil ?_
    refine At.then ?_
    refine At.seq ?_
    refine At.seq ?_
    refine At.draw 10 (.q 0 (.q 1 (.q 2 (.q 3 (.q 4 (.q 5 (.q 6 (.q 7 (.q 8 (.q 9 (.e))))))))))) _ (List.Sublist.refl _) mixed (by kernel_rfl) rfl ?_
    refine AtO.quiet rfl (q_move rfl) rfl (Calm.then (Calm.then Post.calm)) ?_
    refine AtO.quiet rfl (q_len Try.underlying31 rfl) rfl (Calm.then (Calm.then Post.calm)) ?_
    refine AtO.quiet rfl (q_gtr rfl rfl) rfl (Calm.then (Calm.then Post.calm)) ?_
    refine AtO.quiet rfl (q_move rfl) rfl (Calm.then (Calm.then Post.calm)) ?_
    refine AtO.say 29 (.bool false) rfl (congrArg Value.bool (decide_eq_false (by simp; omega))) ?_
    refine AtO.shut rfl rfl rfl rfl (Calm.then (Calm.then Post.calm)) ?_
    refine AtO.shut rfl rfl rfl rfl (Calm.then (Calm.then Post.calm)) ?_
    refine AtO.shut rfl rfl rfl rfl (Calm.then (Calm.then Post.calm)) ?_
    refine AtO.shut rfl rfl rfl rfl (Calm.then (Calm.then Post.calm)) ?_
    refine AtO.shut rfl rfl rfl rfl (Calm.then (Calm.then Post.calm)) ?_
    refine AtO.shut rfl rfl rfl rfl (Calm.then (Calm.then Post.calm)) ?_
    refine AtO.done ?_
    refine At.skim 2 rfl rfl ?_
    refine At.nil ?_
    refine At.then ?_
    refine At.condF rfl ?_
    refine At.skip ?_
    refine At.then ?_
    refine At.seq ?_
    refine At.know (prsP (⟨subA l.a l.c 2 0, l.c, l.l.take k⟩ : Sl Pr)) (fun _ h => prs_take h.2.2.2.1 (by omega)) ?_
    refine At.draw 6 (.q 0 (.q 1 (.q 2 (.q 3 (.q 5 (.o 4 (.e))))))) _ (List.Sublist.refl _) mixed (by kernel_rfl) rfl ?_
    refine AtO.quiet rfl (q_move rfl) rfl (Calm.then Post.calm) ?_
    refine AtO.quiet rfl (q_move rfl) rfl (Calm.then Post.calm) ?_
    refine AtO.quiet rfl (q_sliceHi Try.underlying31 t50 rfl rfl (h := k) rfl (by omega)) rfl (Calm.then Post.calm) ?_
    refine AtO.say 42 (Sl.val (⟨subA l.a l.c 2 0, l.c, l.l.take k⟩ : Sl Pr)) rfl ((take_val (by omega)).symm) ?_
    refine AtO.quiet rfl (q_loadS t50 rfl (RdS.blk (.tail _ (.tail _ (.head _))) (m := 2) rfl) rfl) rfl (Calm.then Post.calm) ?_
    refine AtO.quiet rfl (q_move rfl) rfl (Calm.then Post.calm) ?_
    refine AtO.loudA rfl (l_buildSlice Try.underlying31 t50 rfl rfl rfl rfl rfl) rfl (by rintro _ _ _ ⟨_, rfl, rfl, rfl⟩; exact ⟨fun _ h => h, .cons _ (.refl _)⟩) ?_
    rintro _ _ _ ⟨b6, rfl, rfl, rfl⟩
    refine AtO.done ?_
    refine At.loud (l_buildSlice Try.underlying134 t31 rfl rfl rfl rfl rfl) rfl ?_
    rintro _ _ _ ⟨b7, rfl, rfl, rfl⟩
    refine At.front 1 rfl ?_
    refine At.front 1 rfl ?_
    refine At.call en85 rfl (concat85w3 (⟨subA l.a l.c 2 0, l.c, l.l.take k⟩ : Sl Pr) (⟨subA l.a l.c 2 k, l.c - k, l.l.drop k⟩ : Sl Pr) p _ _ (by simp; omega)) (fun _ h => ⟨h.1, h.2.1, trivial⟩) (List.Perm.refl _) rfl ?_
    rintro _ _ _ ⟨u, rfl, rfl, rfl, hul⟩
    refine At.skim 1 rfl rfl ?_
    refine At.nil ?_
    refine At.then ?_
    refine At.ret ?_
    exact At.results (Γr := [_]) (M := []) rfl (RVals.cons (RVal.tmp rfl) RVals.nil) (.tail _ (.tail _ (.tail _ (.tail _ (.head _))))) (fun _ h => ⟨h.1, trivial⟩) (.refl _) ⟨u, rfl, rfl, rfl, by rw [hul]; exact with_cat hr hno hge (by rw [List.getElem?_eq_none (by omega)])⟩
end Go.Proofs.Ytmkodknmknfdkaa
set_option linter.unusedVariables false
set_option linter.unusedSimpArgs false
namespace Go.Proofs.Ytmkodknmknfdkaa
open E
set_option maxRecDepth 4000
theorem t80 : tRow Try.prog 80 = some (false, 6, 64, .agg #[.int .i64 0, .bool false, .int .i64 0, .int .i64 0, .int .i64 0, .slice none 0 0]) := by kernel_rfl
theorem s80 : sRow Try.prog 80 = some [(0, 1, true), (1, 1, true), (2, 2, false), (4, 1, true), (5, 1, true)] := by kernel_rfl
theorem en66 : Enters Try.prog 66 := Enters.mk' Try.func66 rfl rfl
theorem en92 : Enters Try.prog 92 := Enters.mk' Try.func92 rfl rfl
theorem en118 : Enters Try.prog 118 := Enters.mk' Try.func118 rfl rfl
theorem en119 : Enters Try.prog 119 := Enters.mk' Try.func119 rfl rfl
theorem en122 : Enters Try.prog 122 := Enters.mk' Try.func122 rfl rfl
theorem en123 : Enters Try.prog 123 := Enters.mk' Try.func123 rfl rfl
set_option maxHeartbeats 1000000 in
theorem one119 (l : Sl Pr) (o : OpS) (hr : rises l.l = true) (hmo : mayO o = true) (hk : o.kind = 1 ∨ o.kind = 2 ∨ o.kind = 3 ∨ o.kind = 4) (hl : l.l.length + 1 ≤ 8796093022208) : Con Try.prog 119 [l.val, o.val] [prsP l] [] (DoEnd l.l o) := by
  refine Con.body 61 Try.func119 rfl Try.ntmps119 rfl fun X H₀ L₀ => ?_
  refine At.know (prsP ⟨none, 0, []⟩) (fun _ h => sl_nil _ _ _ (Nat.zero_le _)) ?_
  refine At.seq ?_
  refine At.region ?_
  refine At.loud (l_box rfl) rfl ?_
  rintro _ _ _ ⟨b1, rfl, rfl, rfl⟩
  refine At.freeze 0 (φ := blk b1 _) rfl (fun _ h => blk_def.2 ⟨_, _, h⟩) ?_
  refine At.skim 1 rfl rfl ?_
  refine At.loud (l_alloc t80) rfl ?_
  rintro _ _ _ ⟨b2, rfl, rfl, rfl⟩
  refine At.nil ?_
  refine At.then ?_
  refine At.seq ?_
  refine At.region ?_
  refine At.loud (l_alloc t80) rfl ?_
  rintro _ _ _ ⟨b3, rfl, rfl, rfl⟩
  refine At.nil ?_
  refine At.then ?_
  refine At.seq ?_
  refine At.region ?_
  refine At.skim 1 rfl rfl ?_
  refine At.fld s77 t3 rfl rfl rfl (Rd.blk (.head _) rfl) rfl rfl ?_
  refine At.call en122 rfl (find122 _ _) (fun _ h => ⟨h.2.2.2.1, trivial⟩) (List.Perm.refl _) rfl ?_
  rintro _ _ _ ⟨rfl, rfl, rfl⟩
  refine At.skim 1 rfl rfl ?_
  refine At.nil ?_
  refine At.then ?_
  refine At.seq ?_
  refine At.seq ?_
  refine At.region ?_
  refine At.skim 2 rfl rfl ?_
  refine At.nil ?_
  refine At.then ?_
  refine At.if rfl (fun hge => ?_) (fun hge => ?_)
  · skip
    obtain ⟨j, x, hj, hx, hp, hno⟩ := idx_get hge
    have hjl := lt_of_get hx
    have hhit : hit l.l o.key = ⟨0, true, x, 0, []⟩ := by rw [hit, find_at hx hp hno]; rfl
    refine At.say 7 (.int .i64 (j : Int)) rfl (congrArg (Value.int .i64) hj) ?_
    refine At.region ?_
    refine At.skim 2 rfl rfl ?_
    refine At.quiet (q_index Try.underlying31 t50 rfl (.tail _ (.tail _ (.tail _ (.head _)))) (by simp) rfl rfl (lt_of_get hx)) rfl ?_
    refine At.quiet (q_loadS t50 rfl (RdS.sl0 (.tail _ (.tail _ (.tail _ (.head _)))) (map_get hx)) rfl) rfl ?_
    refine At.quiet (q_build t80 s80 rfl rfl) rfl ?_
    refine At.loudN (l_store t80 rfl rfl (i := 0) rfl rfl rfl rfl) ?_
    rintro _ _ _ ⟨rfl, rfl⟩
    refine At.nil ?_
    refine At.then ?_
    refine At.seq ?_
    refine At.block ?_
    refine At.seq ?_
    refine At.region ?_
    refine At.fld s77 t3 rfl rfl rfl (Rd.blk (.head _) rfl) rfl rfl ?_
    refine At.skim 2 rfl rfl ?_
    refine At.splitP (d := 23) rfl (fun h1 => ?_) (fun h1 => ?_)
    · skip
      have hdo : doT l.l o = (withT l.l ⟨o.key, o.v⟩, ⟨0, true, x, 0, []⟩) := by rw [do_yes hr hmo, if_pos h1, hhit]
      refine At.skim 9 rfl rfl ?_
      refine At.nil ?_
      refine At.then ?_
      refine At.condT rfl ?_
      refine At.seq ?_
      refine At.draw 9 (.q 0 (.q 1 (.q 2 (.q 3 (.q 4 (.q 5 (.q 7 (.o 6 (.q 8 (.e)))))))))) _ (List.Sublist.refl _) mixed (by kernel_rfl) rfl ?_
      refine AtO.quiet rfl (q_move rfl) rfl (Calm.then (Calm.inBlock (Calm.then Post.calm))) ?_
      refine AtO.quiet rfl (q_fieldAddr s77 rfl rfl rfl) rfl (Calm.then (Calm.inBlock (Calm.then Post.calm))) ?_
      refine AtO.quiet rfl (q_load t3 rfl (Rd.blk (.head _) rfl)) rfl (Calm.then (Calm.inBlock (Calm.then Post.calm))) ?_
      refine AtO.quiet rfl (q_fieldAddr s77 rfl rfl rfl) rfl (Calm.then (Calm.inBlock (Calm.then Post.calm))) ?_
      refine AtO.quiet rfl (q_load t3 rfl (Rd.blk (.head _) rfl)) rfl (Calm.then (Calm.inBlock (Calm.then Post.calm))) ?_
      refine AtO.quiet rfl (q_build t50 s50 rfl rfl) rfl (Calm.then (Calm.inBlock (Calm.then Post.calm))) ?_
      refine AtO.quiet rfl (q_loadS t80 rfl (RdS.loc (i := 0) rfl (m := 6) rfl) rfl) rfl (Calm.then (Calm.inBlock (Calm.then Post.calm))) ?_
      refine AtO.callA rfl en123 rfl (with123 l ⟨o.key, o.v⟩ hr hl) (fun _ h => ⟨h.2.2.2.1, trivial⟩) (List.Perm.refl _) rfl (.refl _) ?_
      rintro _ _ _ ⟨u, rfl, rfl, rfl, hul⟩
      refine AtO.quiet rfl (q_assign rfl) rfl (Calm.then (Calm.inBlock (Calm.then Post.calm))) ?_
      refine AtO.done ?_
      refine At.loudN (l_store t80 rfl rfl (i := 1) rfl rfl rfl rfl) ?_
      rintro _ _ _ ⟨rfl, rfl⟩
      refine At.nil ?_
      refine At.then ?_
      refine At.ret ?_
      refine At.inRet ?_
      refine At.thenRet ?_
      exact At.results (Γr := [_, _]) (M := []) rfl (RVals.cons (RVal.tmp rfl) (RVals.cons (RVal.cellS rfl t80 (RdS.loc (i := 1) rfl (m := 6) rfl) rfl) RVals.nil)) (.tail _ (.tail _ (.tail _ (.head _)))) (fun _ h => ⟨h.1, h.2.2.1, trivial⟩) (.cons _ (.cons _ (.refl _))) ⟨u, ⟨none, 0, []⟩, by rw [hdo]; first | rfl | (simp only [An.val, resVal, Sl.val]; rfl), rfl, rfl, by rw [hdo] <;> exact hul, by rw [hdo] <;> rfl⟩
    · skip
      refine At.open rfl rfl ?_
      refine At.quiet (q_fieldAddr s77 rfl rfl rfl) rfl ?_
      refine At.open rfl rfl ?_
      refine At.quiet (q_load t3 rfl (Rd.blk (.head _) rfl)) rfl ?_
      refine At.skim 2 rfl rfl ?_
      refine At.splitP (d := 27) rfl (fun h2 => ?_) (fun h2 => ?_)
      · skip
        refine At.skim 5 rfl rfl ?_
        refine At.nil ?_
        refine At.then ?_
        refine At.say 19 (.bool false) rfl (congrArg Value.bool (decide_eq_false (by omega))) ?_
        refine At.condF rfl ?_
        refine At.seq ?_
        refine At.region ?_
        refine At.fld s77 t3 rfl rfl rfl (Rd.blk (.head _) rfl) rfl rfl ?_
        refine At.skim 2 rfl rfl ?_
        refine At.say 44 (.bool false) rfl (congrArg Value.bool (decide_eq_false (by omega))) ?_
        refine At.skim 4 rfl rfl ?_
        refine At.nil ?_
        refine At.then ?_
        refine At.condF rfl ?_
        refine At.skip ?_
        refine At.inNormal ?_
        refine At.then ?_
        refine At.seq ?_
        have hdo : doT l.l o = (l.l, ⟨0, true, x, 0, []⟩) := by rw [do_yes hr hmo, if_neg h1, if_pos h2, hhit] <;> rfl
        refine At.draw 4 (.q 0 (.q 2 (.o 1 (.q 3 (.e))))) _ (List.Sublist.refl _) mixed (by kernel_rfl) rfl ?_
        refine AtO.quiet rfl (q_move rfl) rfl (Calm.then Post.calm) ?_
        refine AtO.quiet rfl (q_loadS t80 rfl (RdS.loc (i := 0) rfl (m := 6) rfl) rfl) rfl (Calm.then Post.calm) ?_
        refine AtO.callA rfl en72 rfl (clone72w l (by omega)) (fun _ h => ⟨h.2.2.2.1, trivial⟩) (List.Perm.refl _) rfl (.refl _) ?_
        rintro _ _ _ ⟨u, rfl, hu, rfl, rfl⟩
        refine AtO.quiet rfl (q_assign rfl) rfl (Calm.then Post.calm) ?_
        refine AtO.done ?_
        refine At.loudN (l_store t80 rfl rfl (i := 1) rfl rfl rfl rfl) ?_
        rintro _ _ _ ⟨rfl, rfl⟩
        refine At.nil ?_
        refine At.then ?_
        refine At.ret ?_
        exact At.results (Γr := [_, _]) (M := []) rfl (RVals.cons (RVal.tmp rfl) (RVals.cons (RVal.cellS rfl t80 (RdS.loc (i := 1) rfl (m := 6) rfl) rfl) RVals.nil)) (.tail _ (.tail _ (.tail _ (.head _)))) (fun _ h => ⟨h.1, h.2.2.1, trivial⟩) (.cons _ (.cons _ (.refl _))) ⟨u, ⟨none, 0, []⟩, by rw [hdo]; first | rfl | (simp only [An.val, resVal, Sl.val]; rfl), rfl, rfl, by rw [hdo] <;> exact hu, by rw [hdo] <;> rfl⟩
      · skip
        refine At.skim 5 rfl rfl ?_
        refine At.nil ?_
        refine At.then ?_
        refine At.condF rfl ?_
        refine At.seq ?_
        refine At.region ?_
        refine At.fld s77 t3 rfl rfl rfl (Rd.blk (.head _) rfl) rfl rfl ?_
        refine At.skim 2 rfl rfl ?_
        refine At.splitP (d := 44) rfl (fun h3 => ?_) (fun h3 => ?_)
        · skip
          refine At.skim 4 rfl rfl ?_
          refine At.nil ?_
          refine At.then ?_
          refine At.say 40 (.bool true) rfl (congrArg Value.bool (decide_eq_true (by omega))) ?_
          refine At.condT rfl ?_
          have hdo : doT l.l o = (without l.l o.key, ⟨0, true, x, 0, []⟩) := by rw [do_yes hr hmo, if_neg h1, if_neg h2, if_pos h3, hhit]
          refine At.seq ?_
          refine At.lenOf (hs := (.tail _ (.tail _ (.tail _ (.head _))))) fun hlen2 => ?_
          rw [List.length_map] at hlen2
          refine At.capOf (hs := (.tail _ (.tail _ (.tail _ (.head _))))) fun hcap => ?_
          rw [List.length_map] at hcap
          refine At.know (prsP (⟨subA l.a l.c 2 0, l.c, l.l.take j⟩ : Sl Pr)) (fun _ h => prs_take h.2.2.2.1 (by omega)) ?_
          refine At.know (prsP (⟨subA l.a l.c 2 (j + 1), l.c - (j + 1), l.l.drop (j + 1)⟩ : Sl Pr)) (fun _ h => prs_drop h.2.2.2.2.1 (by omega)) ?_
          refine At.draw 11 (.q 0 (.q 1 (.q 2 (.q 3 (.q 4 (.q 5 (.q 6 (.q 9 (.o 7 (.o 8 (.q 10 (.e)))))))))))) _ (List.Sublist.refl _) mixed (by kernel_rfl) rfl ?_
          refine AtO.quiet rfl (q_move rfl) rfl (Calm.then (Calm.inBlock (Calm.then Post.calm))) ?_
          refine AtO.quiet rfl (q_move rfl) rfl (Calm.then (Calm.inBlock (Calm.then Post.calm))) ?_
          refine AtO.quiet rfl (q_sliceHi Try.underlying31 t50 rfl rfl (h := j) rfl (by omega)) rfl (Calm.then (Calm.inBlock (Calm.then Post.calm))) ?_
          refine AtO.say 50 (Sl.val (⟨subA l.a l.c 2 0, l.c, l.l.take j⟩ : Sl Pr)) rfl ((take_val (by omega)).symm) ?_
          refine AtO.quiet rfl (q_move rfl) rfl (Calm.then (Calm.inBlock (Calm.then Post.calm))) ?_
          refine AtO.quiet rfl (q_move rfl) rfl (Calm.then (Calm.inBlock (Calm.then Post.calm))) ?_
          refine AtO.quiet rfl (q_add rfl rfl (by omega) (by omega)) rfl (Calm.then (Calm.inBlock (Calm.then Post.calm))) ?_
          refine AtO.quiet rfl (q_sliceLo Try.underlying31 t50 rfl rfl (l := j + 1) (by omega) (by omega)) rfl (Calm.then (Calm.inBlock (Calm.then Post.calm))) ?_
          refine AtO.say 54 (Sl.val (⟨subA l.a l.c 2 (j + 1), l.c - (j + 1), l.l.drop (j + 1)⟩ : Sl Pr)) rfl (drop_val.symm) ?_
          refine AtO.quiet rfl (q_loadS t80 rfl (RdS.loc (i := 0) rfl (m := 6) rfl) rfl) rfl (Calm.then (Calm.inBlock (Calm.then Post.calm))) ?_
          refine AtO.loud rfl (l_buildSlice Try.underlying134 t31 rfl rfl rfl rfl rfl) rfl (by rintro _ _ _ ⟨_, rfl, rfl, rfl⟩; exact ⟨fun _ h => h, .cons _ (.refl _)⟩) ?_
          rintro _ _ _ ⟨b4, rfl, rfl, rfl⟩
          refine AtO.front 0 rfl ?_
          refine AtO.callA rfl en85 rfl (concat85w2 (⟨subA l.a l.c 2 0, l.c, l.l.take j⟩ : Sl Pr) (⟨subA l.a l.c 2 (j + 1), l.c - (j + 1), l.l.drop (j + 1)⟩ : Sl Pr) _ (by simp; omega)) (fun _ h => ⟨h.2.1, h.1, trivial⟩) (List.Perm.refl _) rfl (.refl _) ?_
          rintro _ _ _ ⟨u, rfl, rfl, rfl, hul⟩
          refine AtO.quiet rfl (q_assign rfl) rfl (Calm.then (Calm.inBlock (Calm.then Post.calm))) ?_
          refine AtO.done ?_
          refine At.loudN (l_store t80 rfl rfl (i := 1) rfl rfl rfl rfl) ?_
          rintro _ _ _ ⟨rfl, rfl⟩
          refine At.nil ?_
          refine At.then ?_
          refine At.ret ?_
          refine At.inRet ?_
          refine At.thenRet ?_
          exact At.results (Γr := [_, _]) (M := []) rfl (RVals.cons (RVal.tmp rfl) (RVals.cons (RVal.cellS rfl t80 (RdS.loc (i := 1) rfl (m := 6) rfl) rfl) RVals.nil)) (.tail _ (.tail _ (.tail _ (.tail _ (.tail _ (.head _)))))) (fun _ h => ⟨h.1, h.2.2.2.2.1, trivial⟩) (.cons _ (.cons _ (.refl _))) ⟨u, ⟨none, 0, []⟩, by rw [hdo]; first | rfl | (simp only [An.val, resVal, Sl.val]; rfl), rfl, rfl, by rw [hdo] <;> rw [hul]; exact cut_cat hr hx hp hno, by rw [hdo] <;> rfl⟩
        · skip
          refine At.skim 4 rfl rfl ?_
          refine At.nil ?_
          refine At.then ?_
          refine At.condF rfl ?_
          refine At.skip ?_
          refine At.inNormal ?_
          refine At.then ?_
          refine At.seq ?_
          have hdo : doT l.l o = (l.l, ⟨0, true, x, 0, []⟩) := by rw [do_yes hr hmo, if_neg h1, if_neg h2, if_neg h3, if_neg (show ¬ o.kind = 5 by omega), if_neg (show ¬ o.kind = 6 by omega), if_neg (show ¬ o.kind = 7 by omega), if_neg (show ¬ o.kind = 8 by omega), hhit]
          refine At.draw 4 (.q 0 (.q 2 (.o 1 (.q 3 (.e))))) _ (List.Sublist.refl _) mixed (by kernel_rfl) rfl ?_
          refine AtO.quiet rfl (q_move rfl) rfl (Calm.then Post.calm) ?_
          refine AtO.quiet rfl (q_loadS t80 rfl (RdS.loc (i := 0) rfl (m := 6) rfl) rfl) rfl (Calm.then Post.calm) ?_
          refine AtO.callA rfl en72 rfl (clone72w l (by omega)) (fun _ h => ⟨h.2.2.2.1, trivial⟩) (List.Perm.refl _) rfl (.refl _) ?_
          rintro _ _ _ ⟨u, rfl, hu, rfl, rfl⟩
          refine AtO.quiet rfl (q_assign rfl) rfl (Calm.then Post.calm) ?_
          refine AtO.done ?_
          refine At.loudN (l_store t80 rfl rfl (i := 1) rfl rfl rfl rfl) ?_
          rintro _ _ _ ⟨rfl, rfl⟩
          refine At.nil ?_
          refine At.then ?_
          refine At.ret ?_
          exact At.results (Γr := [_, _]) (M := []) rfl (RVals.cons (RVal.tmp rfl) (RVals.cons (RVal.cellS rfl t80 (RdS.loc (i := 1) rfl (m := 6) rfl) rfl) RVals.nil)) (.tail _ (.tail _ (.tail _ (.head _)))) (fun _ h => ⟨h.1, h.2.2.1, trivial⟩) (.cons _ (.cons _ (.refl _))) ⟨u, ⟨none, 0, []⟩, by rw [hdo]; first | rfl | (simp only [An.val, resVal, Sl.val]; rfl), rfl, rfl, by rw [hdo] <;> exact hu, by rw [hdo] <;> rfl⟩
  · skip
    obtain ⟨hj, hno⟩ := idx_neg hge
    have hhit : hit l.l o.key = ⟨0, false, ⟨0, 0⟩, 0, []⟩ := by rw [hit, find_no hno]; rfl
    refine At.say 7 (.int .i64 (-1)) rfl (congrArg (Value.int .i64) hj) ?_
    refine At.skip ?_
    refine At.then ?_
    refine At.seq ?_
    refine At.block ?_
    refine At.seq ?_
    refine At.region ?_
    refine At.fld s77 t3 rfl rfl rfl (Rd.blk (.head _) rfl) rfl rfl ?_
    refine At.skim 2 rfl rfl ?_
    refine At.splitP (d := 23) rfl (fun h1 => ?_) (fun h1 => ?_)
    · skip
      have hdo : doT l.l o = (withT l.l ⟨o.key, o.v⟩, ⟨0, false, ⟨0, 0⟩, 0, []⟩) := by rw [do_yes hr hmo, if_pos h1, hhit]
      refine At.skim 9 rfl rfl ?_
      refine At.nil ?_
      refine At.then ?_
      refine At.condT rfl ?_
      refine At.seq ?_
      refine At.draw 9 (.q 0 (.q 1 (.q 2 (.q 3 (.q 4 (.q 5 (.q 7 (.o 6 (.q 8 (.e)))))))))) _ (List.Sublist.refl _) mixed (by kernel_rfl) rfl ?_
      refine AtO.quiet rfl (q_move rfl) rfl (Calm.then (Calm.inBlock (Calm.then Post.calm))) ?_
      refine AtO.quiet rfl (q_fieldAddr s77 rfl rfl rfl) rfl (Calm.then (Calm.inBlock (Calm.then Post.calm))) ?_
      refine AtO.quiet rfl (q_load t3 rfl (Rd.blk (.head _) rfl)) rfl (Calm.then (Calm.inBlock (Calm.then Post.calm))) ?_
      refine AtO.quiet rfl (q_fieldAddr s77 rfl rfl rfl) rfl (Calm.then (Calm.inBlock (Calm.then Post.calm))) ?_
      refine AtO.quiet rfl (q_load t3 rfl (Rd.blk (.head _) rfl)) rfl (Calm.then (Calm.inBlock (Calm.then Post.calm))) ?_
      refine AtO.quiet rfl (q_build t50 s50 rfl rfl) rfl (Calm.then (Calm.inBlock (Calm.then Post.calm))) ?_
      refine AtO.quiet rfl (q_loadS t80 rfl (RdS.loc (i := 0) rfl (m := 6) rfl) rfl) rfl (Calm.then (Calm.inBlock (Calm.then Post.calm))) ?_
      refine AtO.callA rfl en123 rfl (with123 l ⟨o.key, o.v⟩ hr hl) (fun _ h => ⟨h.2.2.2.1, trivial⟩) (List.Perm.refl _) rfl (.refl _) ?_
      rintro _ _ _ ⟨u, rfl, rfl, rfl, hul⟩
      refine AtO.quiet rfl (q_assign rfl) rfl (Calm.then (Calm.inBlock (Calm.then Post.calm))) ?_
      refine AtO.done ?_
      refine At.loudN (l_store t80 rfl rfl (i := 1) rfl rfl rfl rfl) ?_
      rintro _ _ _ ⟨rfl, rfl⟩
      refine At.nil ?_
      refine At.then ?_
      refine At.ret ?_
      refine At.inRet ?_
      refine At.thenRet ?_
      exact At.results (Γr := [_, _]) (M := []) rfl (RVals.cons (RVal.tmp rfl) (RVals.cons (RVal.cellS rfl t80 (RdS.loc (i := 1) rfl (m := 6) rfl) rfl) RVals.nil)) (.tail _ (.tail _ (.tail _ (.head _)))) (fun _ h => ⟨h.1, h.2.2.1, trivial⟩) (.cons _ (.cons _ (.refl _))) ⟨u, ⟨none, 0, []⟩, by rw [hdo]; first | rfl | (simp only [An.val, resVal, Sl.val]; rfl), rfl, rfl, by rw [hdo] <;> exact hul, by rw [hdo] <;> rfl⟩
    · skip
      refine At.open rfl rfl ?_
      refine At.quiet (q_fieldAddr s77 rfl rfl rfl) rfl ?_
      refine At.open rfl rfl ?_
      refine At.quiet (q_load t3 rfl (Rd.blk (.head _) rfl)) rfl ?_
      refine At.skim 2 rfl rfl ?_
      refine At.splitP (d := 27) rfl (fun h2 => ?_) (fun h2 => ?_)
      · skip
        refine At.skim 5 rfl rfl ?_
        refine At.nil ?_
        refine At.then ?_
        refine At.say 19 (.bool true) rfl (congrArg Value.bool (decide_eq_true (by omega))) ?_
        refine At.condT rfl ?_
        have hdo : doT l.l o = (withT l.l ⟨o.key, o.v⟩, ⟨0, false, ⟨0, 0⟩, 0, []⟩) := by rw [do_yes hr hmo, if_neg h1, if_pos h2, hhit] <;> rfl
        refine At.seq ?_
        refine At.draw 9 (.q 0 (.q 1 (.q 2 (.q 3 (.q 4 (.q 5 (.q 7 (.o 6 (.q 8 (.e)))))))))) _ (List.Sublist.refl _) mixed (by kernel_rfl) rfl ?_
        refine AtO.quiet rfl (q_move rfl) rfl (Calm.then (Calm.inBlock (Calm.then Post.calm))) ?_
        refine AtO.quiet rfl (q_fieldAddr s77 rfl rfl rfl) rfl (Calm.then (Calm.inBlock (Calm.then Post.calm))) ?_
        refine AtO.quiet rfl (q_load t3 rfl (Rd.blk (.head _) rfl)) rfl (Calm.then (Calm.inBlock (Calm.then Post.calm))) ?_
        refine AtO.quiet rfl (q_fieldAddr s77 rfl rfl rfl) rfl (Calm.then (Calm.inBlock (Calm.then Post.calm))) ?_
        refine AtO.quiet rfl (q_load t3 rfl (Rd.blk (.head _) rfl)) rfl (Calm.then (Calm.inBlock (Calm.then Post.calm))) ?_
        refine AtO.quiet rfl (q_build t50 s50 rfl rfl) rfl (Calm.then (Calm.inBlock (Calm.then Post.calm))) ?_
        refine AtO.quiet rfl (q_loadS t80 rfl (RdS.loc (i := 0) rfl (m := 6) rfl) rfl) rfl (Calm.then (Calm.inBlock (Calm.then Post.calm))) ?_
        refine AtO.callA rfl en123 rfl (with123 l ⟨o.key, o.v⟩ hr hl) (fun _ h => ⟨h.2.2.2.1, trivial⟩) (List.Perm.refl _) rfl (.refl _) ?_
        rintro _ _ _ ⟨u, rfl, rfl, rfl, hul⟩
        refine AtO.quiet rfl (q_assign rfl) rfl (Calm.then (Calm.inBlock (Calm.then Post.calm))) ?_
        refine AtO.done ?_
        refine At.loudN (l_store t80 rfl rfl (i := 1) rfl rfl rfl rfl) ?_
        rintro _ _ _ ⟨rfl, rfl⟩
        refine At.nil ?_
        refine At.then ?_
        refine At.ret ?_
        refine At.inRet ?_
        refine At.thenRet ?_
        exact At.results (Γr := [_, _]) (M := []) rfl (RVals.cons (RVal.tmp rfl) (RVals.cons (RVal.cellS rfl t80 (RdS.loc (i := 1) rfl (m := 6) rfl) rfl) RVals.nil)) (.tail _ (.tail _ (.tail _ (.head _)))) (fun _ h => ⟨h.1, h.2.2.1, trivial⟩) (.cons _ (.cons _ (.refl _))) ⟨u, ⟨none, 0, []⟩, by rw [hdo]; first | rfl | (simp only [An.val, resVal, Sl.val]; rfl), rfl, rfl, by rw [hdo] <;> exact hul, by rw [hdo] <;> rfl⟩
      · skip
        refine At.skim 5 rfl rfl ?_
        refine At.nil ?_
        refine At.then ?_
        refine At.condF rfl ?_
        refine At.seq ?_
        refine At.region ?_
        refine At.fld s77 t3 rfl rfl rfl (Rd.blk (.head _) rfl) rfl rfl ?_
        refine At.skim 2 rfl rfl ?_
        refine At.splitP (d := 44) rfl (fun h3 => ?_) (fun h3 => ?_)
        · skip
          refine At.skim 4 rfl rfl ?_
          refine At.nil ?_
          refine At.then ?_
          refine At.say 40 (.bool false) rfl (congrArg Value.bool (decide_eq_false (by omega))) ?_
          refine At.condF rfl ?_
          refine At.skip ?_
          refine At.inNormal ?_
          refine At.then ?_
          refine At.seq ?_
          have hdo : doT l.l o = (l.l, ⟨0, false, ⟨0, 0⟩, 0, []⟩) := by rw [do_yes hr hmo, if_neg h1, if_neg h2, if_pos h3, hhit, cut_none hno]
          refine At.draw 4 (.q 0 (.q 2 (.o 1 (.q 3 (.e))))) _ (List.Sublist.refl _) mixed (by kernel_rfl) rfl ?_
          refine AtO.quiet rfl (q_move rfl) rfl (Calm.then Post.calm) ?_
          refine AtO.quiet rfl (q_loadS t80 rfl (RdS.loc (i := 0) rfl (m := 6) rfl) rfl) rfl (Calm.then Post.calm) ?_
          refine AtO.callA rfl en72 rfl (clone72w l (by omega)) (fun _ h => ⟨h.2.2.2.1, trivial⟩) (List.Perm.refl _) rfl (.refl _) ?_
          rintro _ _ _ ⟨u, rfl, hu, rfl, rfl⟩
          refine AtO.quiet rfl (q_assign rfl) rfl (Calm.then Post.calm) ?_
          refine AtO.done ?_
          refine At.loudN (l_store t80 rfl rfl (i := 1) rfl rfl rfl rfl) ?_
          rintro _ _ _ ⟨rfl, rfl⟩
          refine At.nil ?_
          refine At.then ?_
          refine At.ret ?_
          exact At.results (Γr := [_, _]) (M := []) rfl (RVals.cons (RVal.tmp rfl) (RVals.cons (RVal.cellS rfl t80 (RdS.loc (i := 1) rfl (m := 6) rfl) rfl) RVals.nil)) (.tail _ (.tail _ (.tail _ (.head _)))) (fun _ h => ⟨h.1, h.2.2.1, trivial⟩) (.cons _ (.cons _ (.refl _))) ⟨u, ⟨none, 0, []⟩, by rw [hdo]; first | rfl | (simp only [An.val, resVal, Sl.val]; rfl), rfl, rfl, by rw [hdo] <;> exact hu, by rw [hdo] <;> rfl⟩
        · skip
          refine At.skim 4 rfl rfl ?_
          refine At.nil ?_
          refine At.then ?_
          refine At.condF rfl ?_
          refine At.skip ?_
          refine At.inNormal ?_
          refine At.then ?_
          refine At.seq ?_
          have hdo : doT l.l o = (l.l, ⟨0, false, ⟨0, 0⟩, 0, []⟩) := by rw [do_yes hr hmo, if_neg h1, if_neg h2, if_neg h3, if_neg (show ¬ o.kind = 5 by omega), if_neg (show ¬ o.kind = 6 by omega), if_neg (show ¬ o.kind = 7 by omega), if_neg (show ¬ o.kind = 8 by omega), hhit]
          refine At.draw 4 (.q 0 (.q 2 (.o 1 (.q 3 (.e))))) _ (List.Sublist.refl _) mixed (by kernel_rfl) rfl ?_
          refine AtO.quiet rfl (q_move rfl) rfl (Calm.then Post.calm) ?_
          refine AtO.quiet rfl (q_loadS t80 rfl (RdS.loc (i := 0) rfl (m := 6) rfl) rfl) rfl (Calm.then Post.calm) ?_
          refine AtO.callA rfl en72 rfl (clone72w l (by omega)) (fun _ h => ⟨h.2.2.2.1, trivial⟩) (List.Perm.refl _) rfl (.refl _) ?_
          rintro _ _ _ ⟨u, rfl, hu, rfl, rfl⟩
          refine AtO.quiet rfl (q_assign rfl) rfl (Calm.then Post.calm) ?_
          refine AtO.done ?_
          refine At.loudN (l_store t80 rfl rfl (i := 1) rfl rfl rfl rfl) ?_
          rintro _ _ _ ⟨rfl, rfl⟩
          refine At.nil ?_
          refine At.then ?_
          refine At.ret ?_
          exact At.results (Γr := [_, _]) (M := []) rfl (RVals.cons (RVal.tmp rfl) (RVals.cons (RVal.cellS rfl t80 (RdS.loc (i := 1) rfl (m := 6) rfl) rfl) RVals.nil)) (.tail _ (.tail _ (.tail _ (.head _)))) (fun _ h => ⟨h.1, h.2.2.1, trivial⟩) (.cons _ (.cons _ (.refl _))) ⟨u, ⟨none, 0, []⟩, by rw [hdo]; first | rfl | (simp only [An.val, resVal, Sl.val]; rfl), rfl, rfl, by rw [hdo] <;> exact hu, by rw [hdo] <;> rfl⟩
set_option maxHeartbeats 1000000 in
theorem do113 (l : Sl Pr) (o : OpS) (hl : l.l.length + 1 ≤ 8796093022208) : Con Try.prog 113 [l.val, o.val] [prsP l] [] (DoEnd l.l o) := by
  refine Con.body 76 Try.func113 rfl Try.ntmps113 rfl fun X H₀ L₀ => ?_
  refine At.know (prsP ⟨none, 0, []⟩) (fun _ h => sl_nil _ _ _ (Nat.zero_le _)) ?_
  refine At.seq ?_
  refine At.region ?_
  refine At.loud (l_box rfl) rfl ?_
  rintro _ _ _ ⟨b1, rfl, rfl, rfl⟩
  refine At.freeze 0 (φ := blk b1 _) rfl (fun _ h => blk_def.2 ⟨_, _, h⟩) ?_
  refine At.skim 1 rfl rfl ?_
  refine At.loud (l_alloc t80) rfl ?_
  rintro _ _ _ ⟨b2, rfl, rfl, rfl⟩
  refine At.nil ?_
  refine At.then ?_
  refine At.seq ?_
  refine At.seq ?_
  refine At.region ?_
  refine At.skim 1 rfl rfl ?_
  refine At.call en71 rfl (may71 _) (fun _ h => ⟨h.2.2.2.1, trivial⟩) (List.Perm.refl _) rfl ?_
  rintro _ _ _ ⟨rfl, rfl, rfl⟩
  refine At.skim 2 rfl rfl ?_
  refine At.split (d := 10) rfl (fun hr0 => ?_) (fun hr0 => ?_)
  · skip
    have hdo : doT l.l o = (l.l, ⟨1, false, ⟨0, 0⟩, 0, []⟩) := do_no (.inl (not_t hr0))
    refine At.skim 4 rfl rfl ?_
    refine At.nil ?_
    refine At.then ?_
    refine At.condT rfl ?_
    refine At.seq ?_
    refine At.region ?_
    refine At.skim 1 rfl rfl ?_
    refine At.call en72 rfl (clone72w l (by omega)) (fun _ h => ⟨h.2.2.2.1, trivial⟩) (List.Perm.refl _) rfl ?_
    rintro _ _ _ ⟨u, rfl, hu, rfl, rfl⟩
    refine At.quiet (q_build t80 s80 rfl rfl) rfl ?_
    refine At.skim 1 rfl rfl ?_
    refine At.loudN (l_store t80 rfl rfl (i := 0) rfl rfl rfl rfl) ?_
    rintro _ _ _ ⟨rfl, rfl⟩
    refine At.nil ?_
    refine At.then ?_
    refine At.ret ?_
    refine At.thenRet ?_
    exact At.results (Γr := [_, _]) (M := []) rfl (RVals.cons (RVal.tmp rfl) (RVals.cons (RVal.cellS rfl t80 (RdS.loc (i := 0) rfl (m := 6) rfl) rfl) RVals.nil)) (.tail _ (.tail _ (.tail _ (.head _)))) (fun _ h => ⟨h.1, h.2.2.1, trivial⟩) (.cons _ (.refl _)) ⟨u, ⟨none, 0, []⟩, by rw [hdo]; first | rfl | (simp only [An.val, resVal, Sl.val]; rfl), rfl, rfl, by rw [hdo] <;> exact hu, by rw [hdo] <;> rfl⟩
  · skip
    have hr : rises l.l = true := not_f hr0
    refine At.open rfl rfl ?_
    refine At.quiet (q_loadS t77 rfl (RdS.blk (.head _) (m := 4) rfl) rfl) rfl ?_
    refine At.open rfl rfl ?_
    refine At.call en92 rfl (mayop92 _) (fun _ _ => trivial) (List.Perm.refl _) rfl ?_
    rintro _ _ _ ⟨rfl, rfl, rfl⟩
    refine At.skim 2 rfl rfl ?_
    refine At.nil ?_
    refine At.then ?_
    refine At.cond rfl (fun hm0 => ?_) (fun hm0 => ?_)
    · skip
      have hdo : doT l.l o = (l.l, ⟨1, false, ⟨0, 0⟩, 0, []⟩) := do_no (.inr (not_t hm0))
      refine At.seq ?_
      refine At.region ?_
      refine At.skim 1 rfl rfl ?_
      refine At.call en72 rfl (clone72w l (by omega)) (fun _ h => ⟨h.2.2.2.1, trivial⟩) (List.Perm.refl _) rfl ?_
      rintro _ _ _ ⟨u, rfl, hu, rfl, rfl⟩
      refine At.quiet (q_build t80 s80 rfl rfl) rfl ?_
      refine At.skim 1 rfl rfl ?_
      refine At.loudN (l_store t80 rfl rfl (i := 0) rfl rfl rfl rfl) ?_
      rintro _ _ _ ⟨rfl, rfl⟩
      refine At.nil ?_
      refine At.then ?_
      refine At.ret ?_
      refine At.thenRet ?_
      exact At.results (Γr := [_, _]) (M := []) rfl (RVals.cons (RVal.tmp rfl) (RVals.cons (RVal.cellS rfl t80 (RdS.loc (i := 0) rfl (m := 6) rfl) rfl) RVals.nil)) (.tail _ (.tail _ (.tail _ (.head _)))) (fun _ h => ⟨h.1, h.2.2.1, trivial⟩) (.cons _ (.refl _)) ⟨u, ⟨none, 0, []⟩, by rw [hdo]; first | rfl | (simp only [An.val, resVal, Sl.val]; rfl), rfl, rfl, by rw [hdo] <;> exact hu, by rw [hdo] <;> rfl⟩
    · skip
      have hmo : mayO o = true := not_f hm0
      have hmk : 1 ≤ o.kind ∧ o.kind ≤ 8 := by simpa [mayO] using hmo
      have hbl := betw_len l.l o.key o.hi
      refine At.skip ?_
      refine At.then ?_
      refine At.seq ?_
      refine At.region ?_
      refine At.loud (l_alloc t80) rfl ?_
      rintro _ _ _ ⟨b3, rfl, rfl, rfl⟩
      refine At.nil ?_
      refine At.then ?_
      refine At.seq ?_
      refine At.seq ?_
      refine At.region ?_
      refine At.fld s77 t3 rfl rfl rfl (Rd.blk (.head _) rfl) rfl rfl ?_
      refine At.nil ?_
      refine At.then ?_
      refine At.block ?_
      refine At.seq ?_
      refine At.region ?_
      refine At.skim 2 rfl rfl ?_
      refine At.nil ?_
      refine At.then ?_
      refine At.if rfl (fun h5 => ?_) (fun h5 => ?_)
      · skip
        have h1 : ¬ o.kind = 1 := by omega
        have h2 : ¬ o.kind = 2 := by omega
        have h3 : ¬ o.kind = 3 := by omega
        refine At.seq ?_
        refine At.region ?_
        refine At.skim 1 rfl rfl ?_
        refine At.fld s77 t3 rfl rfl rfl (Rd.blk (.head _) rfl) rfl rfl ?_
        refine At.fld s77 t3 rfl rfl rfl (Rd.blk (.head _) rfl) rfl rfl ?_
        refine At.call en118 rfl (within118 _ _ _ (by omega)) (fun _ h => ⟨h.2.2.2.1, trivial⟩) (List.Perm.refl _) rfl ?_
        rintro _ _ _ ⟨bw, rfl, rfl, rfl, hbw⟩
        refine At.quiet (q_fieldAddr s80 rfl rfl rfl) rfl ?_
        refine At.loudN (l_store t31 rfl rfl (i := 0) rfl rfl rfl rfl) ?_
        rintro _ _ _ ⟨rfl, rfl⟩
        refine At.nil ?_
        refine At.then ?_
        refine At.region ?_
        refine At.fld s80 t31 rfl rfl rfl (Rd.loc (i := 0) rfl rfl) rfl rfl ?_
        refine At.quiet (q_len Try.underlying31 rfl) rfl ?_
        refine At.quiet (q_fieldAddr s80 rfl rfl rfl) rfl ?_
        refine At.loudN (l_store t3 rfl rfl (i := 0) rfl rfl rfl rfl) ?_
        rintro _ _ _ ⟨rfl, rfl⟩
        refine At.nil ?_
        refine At.inNormal ?_
        refine At.then ?_
        refine At.seq ?_
        have hdo : doT l.l o = (l.l, ⟨0, false, ⟨0, 0⟩, ((betw l.l o.key o.hi).length : Int), betw l.l o.key o.hi⟩) := by rw [do_yes hr hmo, if_neg h1, if_neg h2, if_neg h3, if_pos h5]
        refine At.draw 4 (.q 0 (.q 2 (.o 1 (.q 3 (.e))))) _ (List.Sublist.refl _) mixed (by kernel_rfl) rfl ?_
        refine AtO.quiet rfl (q_move rfl) rfl (Calm.then Post.calm) ?_
        refine AtO.quiet rfl (q_loadS t80 rfl (RdS.loc (i := 0) rfl (m := 6) rfl) rfl) rfl (Calm.then Post.calm) ?_
        refine AtO.callA rfl en72 rfl (clone72w l (by omega)) (fun _ h => ⟨h.2.2.2.2.1, trivial⟩) (List.Perm.refl _) rfl (.refl _) ?_
        rintro _ _ _ ⟨u, rfl, hu, rfl, rfl⟩
        refine AtO.quiet rfl (q_assign rfl) rfl (Calm.then Post.calm) ?_
        refine AtO.done ?_
        refine At.loudN (l_store t80 rfl rfl (i := 1) rfl rfl rfl rfl) ?_
        rintro _ _ _ ⟨rfl, rfl⟩
        refine At.nil ?_
        refine At.then ?_
        refine At.ret ?_
        exact At.results (Γr := [_, _]) (M := []) rfl (RVals.cons (RVal.tmp rfl) (RVals.cons (RVal.cellS rfl t80 (RdS.loc (i := 1) rfl (m := 6) rfl) rfl) RVals.nil)) (.tail _ (.tail _ (.tail _ (.tail _ (.head _))))) (fun _ h => ⟨h.1, h.2.1, trivial⟩) (.cons _ (.cons _ (.refl _))) ⟨u, bw, by rw [hdo]; simp only [An.val, resVal]; rw [← hbw]; rfl, rfl, rfl, by rw [hdo]; exact hu, by rw [hdo]; exact hbw⟩
      · skip
        refine At.seq ?_
        refine At.region ?_
        refine At.skim 2 rfl rfl ?_
        refine At.nil ?_
        refine At.then ?_
        refine At.if rfl (fun h6 => ?_) (fun h6 => ?_)
        · skip
          have h1 : ¬ o.kind = 1 := by omega
          have h2 : ¬ o.kind = 2 := by omega
          have h3 : ¬ o.kind = 3 := by omega
          refine At.region ?_
          refine At.skim 1 rfl rfl ?_
          refine At.fld s77 t3 rfl rfl rfl (Rd.blk (.head _) rfl) rfl rfl ?_
          refine At.fld s77 t3 rfl rfl rfl (Rd.blk (.head _) rfl) rfl rfl ?_
          refine At.call en118 rfl (within118 _ _ _ (by omega)) (fun _ h => ⟨h.2.2.2.1, trivial⟩) (List.Perm.refl _) rfl ?_
          rintro _ _ _ ⟨bw, rfl, rfl, rfl, hbw⟩
          refine At.quiet (q_len Try.underlying31 rfl) rfl ?_
          refine At.quiet (q_fieldAddr s80 rfl rfl rfl) rfl ?_
          refine At.loudN (l_store t3 rfl rfl (i := 0) rfl rfl rfl rfl) ?_
          rintro _ _ _ ⟨rfl, rfl⟩
          refine At.nil ?_
          refine At.inNormal ?_
          refine At.then ?_
          refine At.seq ?_
          have hdo : doT l.l o = (l.l, ⟨0, false, ⟨0, 0⟩, ((betw l.l o.key o.hi).length : Int), []⟩) := by rw [do_yes hr hmo, if_neg h1, if_neg h2, if_neg h3, if_neg h5, if_pos h6]
          refine At.draw 4 (.q 0 (.q 2 (.o 1 (.q 3 (.e))))) _ (List.Sublist.refl _) mixed (by kernel_rfl) rfl ?_
          refine AtO.quiet rfl (q_move rfl) rfl (Calm.then Post.calm) ?_
          refine AtO.quiet rfl (q_loadS t80 rfl (RdS.loc (i := 0) rfl (m := 6) rfl) rfl) rfl (Calm.then Post.calm) ?_
          refine AtO.callA rfl en72 rfl (clone72w l (by omega)) (fun _ h => ⟨h.2.2.2.2.1, trivial⟩) (List.Perm.refl _) rfl (.refl _) ?_
          rintro _ _ _ ⟨u, rfl, hu, rfl, rfl⟩
          refine AtO.quiet rfl (q_assign rfl) rfl (Calm.then Post.calm) ?_
          refine AtO.done ?_
          refine At.loudN (l_store t80 rfl rfl (i := 1) rfl rfl rfl rfl) ?_
          rintro _ _ _ ⟨rfl, rfl⟩
          refine At.nil ?_
          refine At.then ?_
          refine At.ret ?_
          exact At.results (Γr := [_, _]) (M := []) rfl (RVals.cons (RVal.tmp rfl) (RVals.cons (RVal.cellS rfl t80 (RdS.loc (i := 1) rfl (m := 6) rfl) rfl) RVals.nil)) (.tail _ (.tail _ (.tail _ (.tail _ (.head _))))) (fun _ h => ⟨h.1, h.2.2.2.1, trivial⟩) (.cons _ (.cons _ (.refl _))) ⟨u, ⟨none, 0, []⟩, by rw [hdo]; simp only [An.val, resVal]; rw [← hbw]; rfl, rfl, rfl, by rw [hdo]; exact hu, by rw [hdo]⟩
        · skip
          refine At.seq ?_
          refine At.seq ?_
          refine At.region ?_
          refine At.skim 2 rfl rfl ?_
          refine At.nil ?_
          refine At.then ?_
          refine At.if rfl (fun h7 => ?_) (fun h7 => ?_)
          · skip
            have h1 : ¬ o.kind = 1 := by omega
            have h2 : ¬ o.kind = 2 := by omega
            have h3 : ¬ o.kind = 3 := by omega
            refine At.skip ?_
            refine At.then ?_
            refine At.say 48 (.bool true) rfl (congrArg Value.bool (decide_eq_true h7)) ?_
            refine At.condT rfl ?_
            refine At.seq ?_
            refine At.seq ?_
            refine At.region ?_
            refine At.skim 1 rfl rfl ?_
            refine At.quiet (q_len Try.underlying31 rfl) rfl ?_
            refine At.skim 1 rfl rfl ?_
            refine At.nil ?_
            refine At.then ?_
            refine At.if rfl (fun hn => ?_) (fun hn => ?_)
            · skip
              obtain ⟨x, hx⟩ := get_of_lt (l := l.l) (i := 0) (by omega)
              obtain ⟨y, hy⟩ := get_of_lt (l := l.l) (i := l.l.length - 1) (by omega)
              refine At.region ?_
              refine At.skim 1 rfl rfl ?_
              refine At.quiet (q_index Try.underlying31 t50 rfl (.tail _ (.tail _ (.tail _ (.head _)))) (by simp) rfl rfl (lt_of_get hx)) rfl ?_
              refine At.quiet (q_loadS t50 rfl (RdS.sl0 (.tail _ (.tail _ (.tail _ (.head _)))) (map_get hx)) rfl) rfl ?_
              refine At.quiet (q_build t80 s80 rfl rfl) rfl ?_
              refine At.loudN (l_store t80 rfl rfl (i := 0) rfl rfl rfl rfl) ?_
              rintro _ _ _ ⟨rfl, rfl⟩
              refine At.nil ?_
              refine At.then ?_
              refine At.seq ?_
              refine At.region ?_
              refine At.skim 1 rfl rfl ?_
              refine At.quiet (q_len Try.underlying31 rfl) rfl ?_
              refine At.skim 2 rfl rfl ?_
              refine At.say 61 (.bool true) rfl (congrArg Value.bool (decide_eq_true hn)) ?_
              refine At.open rfl rfl ?_
              refine At.quiet (q_fieldAddr s77 rfl rfl rfl) rfl ?_
              refine At.open rfl rfl ?_
              refine At.quiet (q_load t3 rfl (Rd.blk (.head _) rfl)) rfl ?_
              refine At.skim 2 rfl rfl ?_
              refine At.nil ?_
              refine At.then ?_
              refine At.say 65 (.bool false) rfl (congrArg Value.bool (decide_eq_false (by omega))) ?_
              refine At.condF rfl ?_
              refine At.skip ?_
              refine At.inNormal ?_
              refine At.then ?_
              refine At.seq ?_
              have hdo : doT l.l o = (l.l, ⟨0, true, x, 0, []⟩) := by rw [do_yes hr hmo, if_neg h1, if_neg h2, if_neg h3, if_neg h5, if_neg h6, if_pos h7, head_get, hx] <;> rfl
              refine At.draw 4 (.q 0 (.q 2 (.o 1 (.q 3 (.e))))) _ (List.Sublist.refl _) mixed (by kernel_rfl) rfl ?_
              refine AtO.quiet rfl (q_move rfl) rfl (Calm.then Post.calm) ?_
              refine AtO.quiet rfl (q_loadS t80 rfl (RdS.loc (i := 0) rfl (m := 6) rfl) rfl) rfl (Calm.then Post.calm) ?_
              refine AtO.callA rfl en72 rfl (clone72w l (by omega)) (fun _ h => ⟨h.2.2.2.1, trivial⟩) (List.Perm.refl _) rfl (.refl _) ?_
              rintro _ _ _ ⟨u, rfl, hu, rfl, rfl⟩
              refine AtO.quiet rfl (q_assign rfl) rfl (Calm.then Post.calm) ?_
              refine AtO.done ?_
              refine At.loudN (l_store t80 rfl rfl (i := 1) rfl rfl rfl rfl) ?_
              rintro _ _ _ ⟨rfl, rfl⟩
              refine At.nil ?_
              refine At.then ?_
              refine At.ret ?_
              exact At.results (Γr := [_, _]) (M := []) rfl (RVals.cons (RVal.tmp rfl) (RVals.cons (RVal.cellS rfl t80 (RdS.loc (i := 1) rfl (m := 6) rfl) rfl) RVals.nil)) (.tail _ (.tail _ (.tail _ (.head _)))) (fun _ h => ⟨h.1, h.2.2.1, trivial⟩) (.cons _ (.cons _ (.refl _))) ⟨u, ⟨none, 0, []⟩, by rw [hdo]; first | rfl | (simp only [An.val, resVal, Sl.val]; rfl), rfl, rfl, by rw [hdo] <;> exact hu, by rw [hdo] <;> rfl⟩
            · skip
              have hnil : l.l = [] := List.eq_nil_of_length_eq_zero (by omega)
              refine At.skip ?_
              refine At.then ?_
              refine At.seq ?_
              refine At.region ?_
              refine At.skim 1 rfl rfl ?_
              refine At.quiet (q_len Try.underlying31 rfl) rfl ?_
              refine At.skim 2 rfl rfl ?_
              refine At.say 61 (.bool false) rfl (congrArg Value.bool (decide_eq_false hn)) ?_
              refine At.skim 4 rfl rfl ?_
              refine At.nil ?_
              refine At.then ?_
              refine At.condF rfl ?_
              refine At.skip ?_
              refine At.inNormal ?_
              refine At.then ?_
              refine At.seq ?_
              have hdo : doT l.l o = (l.l, ⟨0, false, ⟨0, 0⟩, 0, []⟩) := by rw [do_yes hr hmo, if_neg h1, if_neg h2, if_neg h3, if_neg h5, if_neg h6, if_pos h7, hnil] <;> rfl
              refine At.draw 4 (.q 0 (.q 2 (.o 1 (.q 3 (.e))))) _ (List.Sublist.refl _) mixed (by kernel_rfl) rfl ?_
              refine AtO.quiet rfl (q_move rfl) rfl (Calm.then Post.calm) ?_
              refine AtO.quiet rfl (q_loadS t80 rfl (RdS.loc (i := 0) rfl (m := 6) rfl) rfl) rfl (Calm.then Post.calm) ?_
              refine AtO.callA rfl en72 rfl (clone72w l (by omega)) (fun _ h => ⟨h.2.2.2.1, trivial⟩) (List.Perm.refl _) rfl (.refl _) ?_
              rintro _ _ _ ⟨u, rfl, hu, rfl, rfl⟩
              refine AtO.quiet rfl (q_assign rfl) rfl (Calm.then Post.calm) ?_
              refine AtO.done ?_
              refine At.loudN (l_store t80 rfl rfl (i := 1) rfl rfl rfl rfl) ?_
              rintro _ _ _ ⟨rfl, rfl⟩
              refine At.nil ?_
              refine At.then ?_
              refine At.ret ?_
              exact At.results (Γr := [_, _]) (M := []) rfl (RVals.cons (RVal.tmp rfl) (RVals.cons (RVal.cellS rfl t80 (RdS.loc (i := 1) rfl (m := 6) rfl) rfl) RVals.nil)) (.tail _ (.tail _ (.tail _ (.head _)))) (fun _ h => ⟨h.1, h.2.2.1, trivial⟩) (.cons _ (.cons _ (.refl _))) ⟨u, ⟨none, 0, []⟩, by rw [hdo]; first | rfl | (simp only [An.val, resVal, Sl.val]; rfl), rfl, rfl, by rw [hdo] <;> exact hu, by rw [hdo] <;> rfl⟩
          · skip
            refine At.region ?_
            refine At.skim 2 rfl rfl ?_
            refine At.nil ?_
            refine At.then ?_
            refine At.if rfl (fun h8 => ?_) (fun h8 => ?_)
            · skip
              have h1 : ¬ o.kind = 1 := by omega
              have h2 : ¬ o.kind = 2 := by omega
              have h3 : ¬ o.kind = 3 := by omega
              refine At.seq ?_
              refine At.seq ?_
              refine At.region ?_
              refine At.skim 1 rfl rfl ?_
              refine At.quiet (q_len Try.underlying31 rfl) rfl ?_
              refine At.skim 1 rfl rfl ?_
              refine At.nil ?_
              refine At.then ?_
              refine At.if rfl (fun hn => ?_) (fun hn => ?_)
              · skip
                obtain ⟨x, hx⟩ := get_of_lt (l := l.l) (i := 0) (by omega)
                obtain ⟨y, hy⟩ := get_of_lt (l := l.l) (i := l.l.length - 1) (by omega)
                refine At.region ?_
                refine At.skim 1 rfl rfl ?_
                refine At.quiet (q_index Try.underlying31 t50 rfl (.tail _ (.tail _ (.tail _ (.head _)))) (by simp) rfl rfl (lt_of_get hx)) rfl ?_
                refine At.quiet (q_loadS t50 rfl (RdS.sl0 (.tail _ (.tail _ (.tail _ (.head _)))) (map_get hx)) rfl) rfl ?_
                refine At.quiet (q_build t80 s80 rfl rfl) rfl ?_
                refine At.loudN (l_store t80 rfl rfl (i := 0) rfl rfl rfl rfl) ?_
                rintro _ _ _ ⟨rfl, rfl⟩
                refine At.nil ?_
                refine At.then ?_
                refine At.seq ?_
                refine At.region ?_
                refine At.skim 1 rfl rfl ?_
                refine At.quiet (q_len Try.underlying31 rfl) rfl ?_
                refine At.skim 2 rfl rfl ?_
                refine At.say 61 (.bool true) rfl (congrArg Value.bool (decide_eq_true hn)) ?_
                refine At.open rfl rfl ?_
                refine At.quiet (q_fieldAddr s77 rfl rfl rfl) rfl ?_
                refine At.open rfl rfl ?_
                refine At.quiet (q_load t3 rfl (Rd.blk (.head _) rfl)) rfl ?_
                refine At.skim 2 rfl rfl ?_
                refine At.nil ?_
                refine At.then ?_
                refine At.say 65 (.bool true) rfl (congrArg Value.bool (decide_eq_true h8)) ?_
                refine At.condT rfl ?_
                refine At.region ?_
                refine At.skim 2 rfl rfl ?_
                refine At.quiet (q_len Try.underlying31 rfl) rfl ?_
                refine At.quiet (q_sub rfl rfl (by omega) (by omega)) rfl ?_
                refine At.quiet (q_index Try.underlying31 t50 rfl (.tail _ (.tail _ (.tail _ (.head _)))) (by simp) rfl (by omega) (lt_of_get hy)) rfl ?_
                refine At.quiet (q_loadS t50 rfl (RdS.sl0 (.tail _ (.tail _ (.tail _ (.head _)))) (map_get hy)) rfl) rfl ?_
                refine At.quiet (q_fieldAddr s80 rfl rfl rfl) rfl ?_
                refine At.loudN (l_store t50 rfl rfl (i := 0) rfl rfl rfl rfl) ?_
                rintro _ _ _ ⟨rfl, rfl⟩
                refine At.nil ?_
                refine At.inNormal ?_
                refine At.then ?_
                refine At.seq ?_
                have hdo : doT l.l o = (l.l, ⟨0, true, y, 0, []⟩) := by rw [do_yes hr hmo, if_neg h1, if_neg h2, if_neg h3, if_neg h5, if_neg h6, if_neg h7, if_pos h8, last_get9, hy] <;> rfl
                refine At.draw 4 (.q 0 (.q 2 (.o 1 (.q 3 (.e))))) _ (List.Sublist.refl _) mixed (by kernel_rfl) rfl ?_
                refine AtO.quiet rfl (q_move rfl) rfl (Calm.then Post.calm) ?_
                refine AtO.quiet rfl (q_loadS t80 rfl (RdS.loc (i := 0) rfl (m := 6) rfl) rfl) rfl (Calm.then Post.calm) ?_
                refine AtO.callA rfl en72 rfl (clone72w l (by omega)) (fun _ h => ⟨h.2.2.2.1, trivial⟩) (List.Perm.refl _) rfl (.refl _) ?_
                rintro _ _ _ ⟨u, rfl, hu, rfl, rfl⟩
                refine AtO.quiet rfl (q_assign rfl) rfl (Calm.then Post.calm) ?_
                refine AtO.done ?_
                refine At.loudN (l_store t80 rfl rfl (i := 1) rfl rfl rfl rfl) ?_
                rintro _ _ _ ⟨rfl, rfl⟩
                refine At.nil ?_
                refine At.then ?_
                refine At.ret ?_
                exact At.results (Γr := [_, _]) (M := []) rfl (RVals.cons (RVal.tmp rfl) (RVals.cons (RVal.cellS rfl t80 (RdS.loc (i := 1) rfl (m := 6) rfl) rfl) RVals.nil)) (.tail _ (.tail _ (.tail _ (.head _)))) (fun _ h => ⟨h.1, h.2.2.1, trivial⟩) (.cons _ (.cons _ (.refl _))) ⟨u, ⟨none, 0, []⟩, by rw [hdo]; first | rfl | (simp only [An.val, resVal, Sl.val]; rfl), rfl, rfl, by rw [hdo] <;> exact hu, by rw [hdo] <;> rfl⟩
              · skip
                have hnil : l.l = [] := List.eq_nil_of_length_eq_zero (by omega)
                refine At.skip ?_
                refine At.then ?_
                refine At.seq ?_
                refine At.region ?_
                refine At.skim 1 rfl rfl ?_
                refine At.quiet (q_len Try.underlying31 rfl) rfl ?_
                refine At.skim 2 rfl rfl ?_
                refine At.say 61 (.bool false) rfl (congrArg Value.bool (decide_eq_false hn)) ?_
                refine At.skim 4 rfl rfl ?_
                refine At.nil ?_
                refine At.then ?_
                refine At.condF rfl ?_
                refine At.skip ?_
                refine At.inNormal ?_
                refine At.then ?_
                refine At.seq ?_
                have hdo : doT l.l o = (l.l, ⟨0, false, ⟨0, 0⟩, 0, []⟩) := by rw [do_yes hr hmo, if_neg h1, if_neg h2, if_neg h3, if_neg h5, if_neg h6, if_neg h7, if_pos h8, hnil] <;> rfl
                refine At.draw 4 (.q 0 (.q 2 (.o 1 (.q 3 (.e))))) _ (List.Sublist.refl _) mixed (by kernel_rfl) rfl ?_
                refine AtO.quiet rfl (q_move rfl) rfl (Calm.then Post.calm) ?_
                refine AtO.quiet rfl (q_loadS t80 rfl (RdS.loc (i := 0) rfl (m := 6) rfl) rfl) rfl (Calm.then Post.calm) ?_
                refine AtO.callA rfl en72 rfl (clone72w l (by omega)) (fun _ h => ⟨h.2.2.2.1, trivial⟩) (List.Perm.refl _) rfl (.refl _) ?_
                rintro _ _ _ ⟨u, rfl, hu, rfl, rfl⟩
                refine AtO.quiet rfl (q_assign rfl) rfl (Calm.then Post.calm) ?_
                refine AtO.done ?_
                refine At.loudN (l_store t80 rfl rfl (i := 1) rfl rfl rfl rfl) ?_
                rintro _ _ _ ⟨rfl, rfl⟩
                refine At.nil ?_
                refine At.then ?_
                refine At.ret ?_
                exact At.results (Γr := [_, _]) (M := []) rfl (RVals.cons (RVal.tmp rfl) (RVals.cons (RVal.cellS rfl t80 (RdS.loc (i := 1) rfl (m := 6) rfl) rfl) RVals.nil)) (.tail _ (.tail _ (.tail _ (.head _)))) (fun _ h => ⟨h.1, h.2.2.1, trivial⟩) (.cons _ (.cons _ (.refl _))) ⟨u, ⟨none, 0, []⟩, by rw [hdo]; first | rfl | (simp only [An.val, resVal, Sl.val]; rfl), rfl, rfl, by rw [hdo] <;> exact hu, by rw [hdo] <;> rfl⟩
            · skip
              refine At.seq ?_
              refine At.region ?_
              refine At.skim 1 rfl rfl ?_
              refine At.quiet (q_loadS t77 rfl (RdS.blk (.head _) (m := 4) rfl) rfl) rfl ?_
              refine At.call en119 rfl (one119 l o hr hmo (by omega) hl) (fun _ h => ⟨h.2.2.2.1, trivial⟩) (List.Perm.refl _) rfl ?_
              rintro _ _ _ ⟨s, s2, rfl, rfl, rfl, hs, hs2⟩
              refine At.quiet (q_extract rfl rfl) rfl ?_
              refine At.quiet (q_extract rfl rfl) rfl ?_
              refine At.skim 1 rfl rfl ?_
              refine At.loudN (l_store t80 rfl rfl (i := 1) rfl rfl rfl rfl) ?_
              rintro _ _ _ ⟨rfl, rfl⟩
              refine At.nil ?_
              refine At.then ?_
              refine At.ret ?_
              refine At.inRet ?_
              refine At.thenRet ?_
              exact At.results (Γr := [_, _]) (M := []) rfl (RVals.cons (RVal.tmp rfl) (RVals.cons (RVal.cellS rfl t80 (RdS.loc (i := 1) rfl (m := 6) rfl) rfl) RVals.nil)) (.tail _ (.tail _ (.tail _ (.tail _ (.head _))))) (fun _ h => ⟨h.1, h.2.1, trivial⟩) (.cons _ (.cons _ (.refl _))) ⟨s, s2, rfl, rfl, rfl, hs, hs2⟩
end Go.Proofs.Ytmkodknmknfdkaa
set_option linter.unusedVariables false
set_option linter.unusedSimpArgs false
namespace Go.Proofs.Ytmkodknmknfdkaa
open E
/-- Pairs put into a map, one by one. -/
def putAll (m : List Pr) (l : List Pr) : List Pr := l.foldl (fun m p => (doT m ⟨1, p.k, 0, p.v⟩).1) m
theorem put_step {l : List Pr} {k : Nat} {x : Pr} (h : l[k]? = some x) : putAll [] (l.take (k + 1)) = (doT (putAll [] (l.take k)) ⟨1, x.k, 0, x.v⟩).1 := by
  rw [List.take_succ_eq_append_getElem (lt_of_get h), putAll, List.foldl_append, (List.getElem?_eq_some_iff.1 h).2]
  rfl
theorem put_len (l : List Pr) (k : Nat) : (putAll [] (l.take k)).length ≤ k := by
  induction k with
  | zero => simp [putAll]
  | succ k ih =>
    cases h : l[k]? with
    | none =>
      have h1 : l.length ≤ k := List.getElem?_eq_none_iff.1 h
      rw [List.take_of_length_le (by omega)]
      rw [List.take_of_length_le h1] at ih
      omega
    | some x =>
      have h2 := do_len (putAll [] (l.take k)) ⟨1, x.k, 0, x.v⟩
      rw [put_step h]
      omega
def MapEnd (l : List Pr) (o : OpS) (b : Nat) (v : Value) (Γ : List SProp) (M : E.Loc) : Prop := ∃ s s2 : Sl Pr, v = (doT l o).2.val s2 ∧ Γ = [prsP s, prsP s2] ∧ M = [[(b, .cells #[s.val] 139 (0, 0))]] ∧ s.l = (doT l o).1 ∧ s2.l = (doT l o).2.l
def NewEnd (l : List Pr) (v : Value) (Γ : List SProp) (M : E.Loc) : Prop := ∃ (b : Nat) (s : Sl Pr), v = .pointer (some ⟨b, 0, none⟩) ∧ Γ = [prsP s] ∧ M = [[(b, .cells #[s.val] 139 (0, 0))]] ∧ s.l = putAll [] l
def ixL (l : List Nat) (a : Nat) : Nat := l.findIdx fun x => decide (x = a)
def touchT (t : PT) (o : OpS) : List Nat :=
  if (mayT t).isSome && (mayO o && decide (o.kind < 7)) then
    (if o.kind ≤ 4 then [(findD t o.key).leaf] else if o.hi < o.key then [] else
      ((leavesT t).take (ixL (leavesT t) (findD t o.hi).leaf + 1)).drop (ixL (leavesT t) (findD t o.key).leaf))
  else []
theorem touch_no {t : PT} {o : OpS} (h : (mayT t).isSome = false ∨ mayO o = false ∨ 7 ≤ o.kind) : touchT t o = [] := by
  unfold touchT
  rw [if_neg]
  rcases h with h | h | h
  · simp [h]
  · simp [h]
  · simp; intro _ _; omega
theorem touch_one {t : PT} {o : OpS} (h1 : (mayT t).isSome = true) (h2 : mayO o = true) (h3 : o.kind ≤ 4) : touchT t o = [(findD t o.key).leaf] := by
  unfold touchT
  rw [if_pos (by simp [h1, h2]; omega), if_pos h3]
theorem touch_wrong {t : PT} {o : OpS} (h3 : ¬ o.kind ≤ 4) (h4 : o.hi < o.key) : touchT t o = [] := by
  unfold touchT
  split <;> simp [h3, h4]
theorem touch_many {t : PT} {o : OpS} (h1 : (mayT t).isSome = true) (h2 : mayO o = true) (h3 : ¬ o.kind ≤ 4) (h5 : o.kind < 7) (h4 : ¬ o.hi < o.key) :
    touchT t o = ((leavesT t).take (ixL (leavesT t) (findD t o.hi).leaf + 1)).drop (ixL (leavesT t) (findD t o.key).leaf) := by
  unfold touchT
  rw [if_pos (by simp [h1, h2]; omega), if_neg h3, if_neg h4]
theorem ix_lt {l : List Nat} {a : Nat} (h : a ∈ l) : ixL l a < l.length := List.findIdx_lt_length_of_exists ⟨a, h, by simp⟩
theorem ix_get {l : List Nat} {a : Nat} (h : a ∈ l) : l[ixL l a]? = some a := by
  have hl := ix_lt h
  have h1 := List.findIdx_getElem (p := fun x => decide (x = a)) (xs := l) (w := hl)
  rw [List.getElem?_eq_getElem hl]
  exact congrArg some (of_decide_eq_true h1)
theorem ix_before {l : List Nat} {a : Nat} : ∀ y ∈ l.take (ixL l a), y ≠ a := fun y hy e => by
  obtain ⟨i, hi, e2⟩ := List.mem_take_iff_getElem.1 hy
  have hi' : i < ixL l a := by omega
  have := List.not_of_lt_findIdx (p := fun x => decide (x = a)) (xs := l) (i := i) hi'
  simp [e2, e] at this
theorem ix_idxI {l : List Nat} {a : Nat} (h : a ∈ l) : idxI (fun x => decide (x = (a : Int))) (toI l) = (ixL l a : Int) := by
  refine idx_at (x := (a : Int)) (toI_get (ix_get h)) (by simp) fun y hy => ?_
  unfold toI at hy
  rw [← List.map_take] at hy
  obtain ⟨z, hz, rfl⟩ := List.mem_map.1 hy
  have := ix_before z hz
  exact decide_eq_false (by omega)
theorem ix_app_l {a b : List Nat} {x : Nat} (h : x ∈ a) : ixL (a ++ b) x = ixL a x := by
  unfold ixL
  rw [List.findIdx_append, if_pos (show a.findIdx _ < a.length from ix_lt h)]
theorem ix_app_r {a b : List Nat} {x : Nat} (h : x ∉ a) : ixL (a ++ b) x = a.length + ixL b x := by
  unfold ixL
  rw [List.findIdx_append, if_neg]
  · omega
  · rw [List.findIdx_eq_length_of_false]
    · omega
    · intro y hy
      exact decide_eq_false (fun e => h (e ▸ hy))
/-- A greater key's leaf stands no further left. -/
theorem find_mono {ns : List Nod} {s : Sh} {a b : Int} (hn : s.places.Nodup) (h : a ≤ b) : ixL s.leaves (s.find ns a).leaf ≤ ixL s.leaves (s.find ns b).leaf := by
  induction s with
  | leaf i => exact Nat.le_refl _
  | node i l r h1 h2 =>
    obtain ⟨c1, c2, d1, d2, d3⟩ := nodup_node hn
    have hl : ∀ k, (l.find ns k).leaf ∈ l.leaves := fun k => find_leaf
    have hr : ∀ k, (r.find ns k).leaf ∈ r.leaves := fun k => find_leaf
    have hrl : ∀ k, (r.find ns k).leaf ∉ l.leaves := fun k hk => d3 _ (leaves_places _ hk) (leaves_places _ (hr k))
    simp only [Sh.find, Sh.leaves]
    by_cases ha : a < (ns.getD i default).key
    · rw [if_pos ha]
      by_cases hb : b < (ns.getD i default).key
      · rw [if_pos hb]
        show ixL _ (l.find ns a).leaf ≤ ixL _ (l.find ns b).leaf
        rw [ix_app_l (hl a), ix_app_l (hl b)]
        exact h1 d1
      · rw [if_neg hb]
        show ixL _ (l.find ns a).leaf ≤ ixL _ (r.find ns b).leaf
        rw [ix_app_l (hl a), ix_app_r (hrl b)]
        have := ix_lt (hl a)
        omega
    · rw [if_neg ha, if_neg (show ¬ b < (ns.getD i default).key by omega)]
      show ixL _ (r.find ns a).leaf ≤ ixL _ (r.find ns b).leaf
      rw [ix_app_r (hrl a), ix_app_r (hrl b)]
      have := h2 d2
      omega
theorem findD_mono {t : PT} {s : Sh} {a b : Int} (hs : mayT t = some s) (h : a ≤ b) : ixL (leavesT t) (findD t a).leaf ≤ ixL (leavesT t) (findD t b).leaf := by
  rw [leavesT_eq hs, findD_eq hs, findD_eq hs]
  exact find_mono (good_of hs).nodup h
/-- What the reference has gathered, behind k leaves. -/
def gath (l : List Nat) (a : Nat) (k : Nat) : List Nat := if a ∈ l.take k then (l.take k).drop (ixL l a) else []
end Go.Proofs.Ytmkodknmknfdkaa
set_option linter.unusedVariables false
set_option linter.unusedSimpArgs false
namespace Go.Proofs.Ytmkodknmknfdkaa
open E
set_option maxRecDepth 4000
theorem t139 : tRow Try.prog 139 = some (false, 1, 24, .agg #[.slice none 0 0]) := by kernel_rfl
theorem s139 : sRow Try.prog 139 = some [(0, 1, true)] := by kernel_rfl
theorem en94 : Enters Try.prog 94 := Enters.mk' Try.func94 rfl rfl
theorem en113 : Enters Try.prog 113 := Enters.mk' Try.func113 rfl rfl
set_option maxHeartbeats 1000000 in
theorem next114 (p : Pol) (s w : Int) : Con Try.prog 114 [p.val, .int .i64 s, .int .i64 w] [] [] (fun v Γ M => v = .int .i64 (nextS p s w) ∧ Γ = [] ∧ M = []) := by
  refine Con.body 32 Try.func114 rfl Try.ntmps114 rfl fun X H₀ L₀ => ?_
  refine At.seq ?_
  refine At.region ?_
  refine At.loud (l_box rfl) rfl ?_
  rintro _ _ _ ⟨b1, rfl, rfl, rfl⟩
  refine At.skim 1 rfl rfl ?_
  refine At.nil ?_
  refine At.then ?_
  refine At.seq ?_
  refine At.region ?_
  refine At.quiet (q_loadS t64 rfl (RdS.loc (i := 0) rfl (m := 5) rfl) rfl) rfl ?_
  refine At.call en111 rfl (clamp111 p) (fun _ _ => trivial) (List.Perm.refl _) rfl ?_
  rintro _ _ _ ⟨rfl, rfl, rfl⟩
  refine At.skim 1 rfl rfl ?_
  refine At.call en112 rfl (held112 s) (fun _ _ => trivial) (List.Perm.refl _) rfl ?_
  rintro _ _ _ ⟨rfl, rfl, rfl⟩
  have hcb := p.clamp_bd
  have hsb := heldS_bd s
  refine At.loudN (l_store t64 rfl rfl (i := 0) rfl rfl rfl rfl) ?_
  rintro _ _ _ ⟨rfl, rfl⟩
  refine At.skim 1 rfl rfl ?_
  refine At.nil ?_
  refine At.then ?_
  refine At.seq ?_
  refine At.seq ?_
  refine At.region ?_
  refine At.skim 1 rfl rfl ?_
  refine At.nil ?_
  refine At.then ?_
  refine At.block ?_
  refine At.seq ?_
  refine At.region ?_
  refine At.skim 2 rfl rfl ?_
  refine At.nil ?_
  refine At.then ?_
  refine At.if rfl (fun h1 => ?_) (fun h1 => ?_)
  · skip
    refine At.region ?_
    refine At.skim 1 rfl rfl ?_
    refine At.fld s64 t3 rfl rfl rfl (Rd.loc (i := 0) rfl rfl) rfl rfl ?_
    refine At.quiet (q_add rfl rfl (by omega) (by omega)) rfl ?_
    refine At.skim 1 rfl rfl ?_
    refine At.nil ?_
    refine At.inNormal ?_
    refine At.then ?_
    refine At.seq ?_
    refine At.region ?_
    refine At.skim 1 rfl rfl ?_
    refine At.call en112 rfl (held112 _) (fun _ _ => trivial) (List.Perm.refl _) rfl ?_
    rintro _ _ _ ⟨rfl, rfl, rfl⟩
    refine At.skim 1 rfl rfl ?_
    refine At.nil ?_
    refine At.then ?_
    refine At.ret ?_
    exact At.results (Γr := []) (M := []) rfl (RVals.cons (RVal.tmp rfl) RVals.nil) (.head _) (fun _ _ => trivial) (.cons _ (.refl _)) ⟨by rw [nextS, pushed, if_pos h1]; rfl, rfl, rfl⟩
  · skip
    refine At.seq ?_
    refine At.region ?_
    refine At.skim 2 rfl rfl ?_
    refine At.nil ?_
    refine At.then ?_
    refine At.if rfl (fun h2 => ?_) (fun h2 => ?_)
    · skip
      refine At.region ?_
      refine At.skim 1 rfl rfl ?_
      refine At.fld s64 t3 rfl rfl rfl (Rd.loc (i := 0) rfl rfl) rfl rfl ?_
      refine At.quiet (q_sub rfl rfl (by omega) (by omega)) rfl ?_
      refine At.skim 1 rfl rfl ?_
      refine At.nil ?_
      refine At.inNormal ?_
      refine At.then ?_
      refine At.seq ?_
      refine At.region ?_
      refine At.skim 1 rfl rfl ?_
      refine At.call en112 rfl (held112 _) (fun _ _ => trivial) (List.Perm.refl _) rfl ?_
      rintro _ _ _ ⟨rfl, rfl, rfl⟩
      refine At.skim 1 rfl rfl ?_
      refine At.nil ?_
      refine At.then ?_
      refine At.ret ?_
      exact At.results (Γr := []) (M := []) rfl (RVals.cons (RVal.tmp rfl) RVals.nil) (.head _) (fun _ _ => trivial) (.cons _ (.refl _)) ⟨by rw [nextS, pushed, if_neg h1, if_pos h2]; rfl, rfl, rfl⟩
    · skip
      refine At.seq ?_
      refine At.region ?_
      refine At.skim 2 rfl rfl ?_
      refine At.nil ?_
      refine At.then ?_
      refine At.if rfl (fun h3 => ?_) (fun h3 => ?_)
      · skip
        refine At.region ?_
        refine At.skim 1 rfl rfl ?_
        refine At.fld s64 t3 rfl rfl rfl (Rd.loc (i := 0) rfl rfl) rfl rfl ?_
        refine At.quiet (q_sub rfl rfl (by omega) (by omega)) rfl ?_
        refine At.skim 1 rfl rfl ?_
        refine At.nil ?_
        refine At.inNormal ?_
        refine At.then ?_
        refine At.seq ?_
        refine At.region ?_
        refine At.skim 1 rfl rfl ?_
        refine At.call en112 rfl (held112 _) (fun _ _ => trivial) (List.Perm.refl _) rfl ?_
        rintro _ _ _ ⟨rfl, rfl, rfl⟩
        refine At.skim 1 rfl rfl ?_
        refine At.nil ?_
        refine At.then ?_
        refine At.ret ?_
        exact At.results (Γr := []) (M := []) rfl (RVals.cons (RVal.tmp rfl) RVals.nil) (.head _) (fun _ _ => trivial) (.cons _ (.refl _)) ⟨by rw [nextS, pushed, if_neg h1, if_neg h2, if_pos h3]; rfl, rfl, rfl⟩
      · skip
        refine At.skip ?_
        refine At.inNormal ?_
        refine At.then ?_
        refine At.seq ?_
        refine At.region ?_
        refine At.skim 1 rfl rfl ?_
        refine At.call en112 rfl (held112 _) (fun _ _ => trivial) (List.Perm.refl _) rfl ?_
        rintro _ _ _ ⟨rfl, rfl, rfl⟩
        refine At.skim 1 rfl rfl ?_
        refine At.nil ?_
        refine At.then ?_
        refine At.ret ?_
        exact At.results (Γr := []) (M := []) rfl (RVals.cons (RVal.tmp rfl) RVals.nil) (.head _) (fun _ _ => trivial) (.cons _ (.refl _)) ⟨by rw [nextS, pushed, if_neg h1, if_neg h2, if_neg h3]; rfl, rfl, rfl⟩
theorem map94 (l : Sl Pr) (o : OpS) (b : Nat) (hl : l.l.length + 1 ≤ 8796093022208) : Con Try.prog 94 [.pointer (some ⟨b, 0, none⟩), o.val] [prsP l] [[(b, .cells #[l.val] 139 (0, 0))]] (MapEnd l.l o b) := by
  refine Con.body 22 Try.func94 rfl Try.ntmps94 rfl fun X H₀ L₀ => ?_
  refine At.seq ?_
  refine At.region ?_
  refine At.loud (l_box rfl) rfl ?_
  rintro _ _ _ ⟨b1, rfl, rfl, rfl⟩
  refine At.freeze 0 (φ := blk b1 _) rfl (fun _ h => blk_def.2 ⟨_, _, h⟩) ?_
  refine At.loud (l_alloc t80) rfl ?_
  rintro _ _ _ ⟨b2, rfl, rfl, rfl⟩
  refine At.nil ?_
  refine At.then ?_
  refine At.seq ?_
  refine At.seq ?_
  refine At.region ?_
  refine At.skim 1 rfl rfl ?_
  refine At.quiet (q_eqPtr Try.underlying119 rfl rfl) rfl ?_
  refine At.nil ?_
  refine At.then ?_
  refine At.condF rfl ?_
  refine At.skip ?_
  refine At.then ?_
  refine At.seq ?_
  refine At.region ?_
  refine At.loud (l_alloc t80) rfl ?_
  rintro _ _ _ ⟨b3, rfl, rfl, rfl⟩
  refine At.nil ?_
  refine At.then ?_
  refine At.seq ?_
  refine At.draw 13 (.q 0 (.q 1 (.q 2 (.q 3 (.q 5 (.o 4 (.o 6 (.q 7 (.q 8 (.q 9 (.q 10 (.q 11 (.o 12 (.e)))))))))))))) (_ :: _ :: L₀) (.cons_cons _ (.cons_cons _ (.cons _ (.refl _)))) mixed (by kernel_rfl) rfl ?_
  refine AtO.quiet rfl (q_move rfl) rfl (Calm.then Post.calm) ?_
  refine AtO.quiet rfl (q_move rfl) rfl (Calm.then Post.calm) ?_
  refine AtO.quiet rfl (q_nilCheck rfl) rfl (Calm.then Post.calm) ?_
  refine AtO.quiet rfl (q_fieldAddr s139 rfl rfl rfl) rfl (Calm.then Post.calm) ?_
  refine AtO.quiet rfl (q_loadS t77 rfl (RdS.blk (.head _) (m := 4) rfl) rfl) rfl (Calm.then Post.calm) ?_
  refine AtO.loud rfl (Quiet.loud (q_load t31 rfl (Rd.loc (i := 2) rfl rfl))) rfl (by rintro _ _ _ ⟨rfl, rfl, rfl⟩; exact ⟨fun _ h => h, (.cons_cons _ (.cons_cons _ (.cons _ (.refl _))))⟩) ?_
  rintro _ _ _ ⟨rfl, rfl, rfl⟩
  refine AtO.call rfl en113 rfl (do113 l o hl) (fun _ h => ⟨h.2.2.1, trivial⟩) (List.Perm.refl _) rfl (.cons_cons _ (.cons_cons _ (.cons _ (.refl _)))) ?_
  rintro _ _ _ ⟨s, s2, rfl, rfl, rfl, hs, hs2⟩
  refine AtO.quiet rfl (q_move rfl) rfl (Calm.then Post.calm) ?_
  refine AtO.quiet rfl (q_extract rfl rfl) rfl (Calm.then Post.calm) ?_
  refine AtO.quiet rfl (q_extract rfl rfl) rfl (Calm.then Post.calm) ?_
  refine AtO.quiet rfl (q_nilCheck rfl) rfl (Calm.then Post.calm) ?_
  refine AtO.quiet rfl (q_fieldAddr s139 rfl rfl rfl) rfl (Calm.then Post.calm) ?_
  refine AtO.loudNA rfl (l_store t31 rfl rfl (i := 2) rfl rfl rfl rfl) (by rintro _ _ _ ⟨rfl, rfl⟩; exact ⟨fun _ h => h, (.cons_cons _ (.cons_cons _ (.cons _ (.refl _))))⟩) ?_
  rintro _ _ _ ⟨rfl, rfl⟩
  refine AtO.done ?_
  refine At.loudN (l_store t80 rfl rfl (i := 0) rfl rfl rfl rfl) ?_
  rintro _ _ _ ⟨rfl, rfl⟩
  refine At.nil ?_
  refine At.then ?_
  refine At.seq ?_
  refine At.region ?_
  refine At.quiet (q_loadS t80 rfl (RdS.loc (i := 0) rfl (m := 6) rfl) rfl) rfl ?_
  refine At.loudN (l_store t80 rfl rfl (i := 1) rfl rfl rfl rfl) ?_
  rintro _ _ _ ⟨rfl, rfl⟩
  refine At.nil ?_
  refine At.then ?_
  refine At.ret ?_
  exact At.results (Γr := [_, _]) (M := [[(b, .cells #[s.val] 139 (0, 0))]]) rfl (RVals.cons (RVal.cellS rfl t80 (RdS.loc (i := 1) rfl (m := 6) rfl) rfl) RVals.nil) (.tail _ (.tail _ (.tail _ (.head _)))) (fun _ h => ⟨h.1, h.2.1, trivial⟩) (.cons _ (.cons _ (.cons_cons _ (.refl _)))) ⟨s, s2, rfl, rfl, rfl, hs, hs2⟩
theorem new93 (l : Sl Pr) (hl : l.l.length + 1 ≤ 8796093022208) : Con Try.prog 93 [l.val] [prsP l] [] (NewEnd l.l) := by
  refine Con.body 23 Try.func93 rfl Try.ntmps93 rfl fun X H₀ L₀ => ?_
  refine At.lenOf (hs := (.tail _ (.head _))) fun hlen => ?_
  rw [List.length_map] at hlen
  refine At.know (prsP ⟨none, 0, []⟩) (fun _ h => sl_nil _ _ _ (Nat.zero_le _)) ?_
  refine At.seq ?_
  refine At.region ?_
  refine At.skim 1 rfl rfl ?_
  refine At.nil ?_
  refine At.then ?_
  refine At.seq ?_
  refine At.region ?_
  refine At.quiet (q_build t139 s139 rfl rfl) rfl ?_
  refine At.loud (l_box rfl) rfl ?_
  rintro _ _ _ ⟨b1, rfl, rfl, rfl⟩
  refine At.skim 1 rfl rfl ?_
  refine At.nil ?_
  refine At.then ?_
  refine At.seq ?_
  refine At.seq ?_
  refine At.region ?_
  refine At.skim 1 rfl rfl ?_
  refine At.quiet (q_len Try.underlying31 rfl) rfl ?_
  refine At.skim 1 rfl rfl ?_
  refine At.nil ?_
  refine At.then ?_
  refine At.block ?_
  refine At.loopK (ι := Nat × Sl Pr) [5, 10, 11, 12, 13, 14, 15, 16, 17, 18, 19, 20, 21] (fun ⟨k, s⟩ => [(10, .int .i64 (k : Int))]) (fun ⟨k, s⟩ => [prsP s]) (fun ⟨k, s⟩ => [[(b1, .cells #[s.val] 139 (0, 0))]]) _ (fun ⟨k, s⟩ => k ≤ l.l.length ∧ s.l = putAll [] (l.l.take k)) (fun ⟨k, s⟩ => l.l.length - k) (0, ⟨none, 0, []⟩) ⟨Nat.zero_le _, rfl⟩ ⟨rfl, trivial⟩ (fun _ h => ⟨h.1, trivial⟩) (.cons_cons _ (.refl _)) ?_
  intro i0 hI0
  obtain ⟨k, s⟩ := i0
  obtain ⟨hkl, hs⟩ := hI0
  refine At.seq ?_
  refine At.region ?_
  refine At.skim 1 rfl rfl ?_
  refine At.nil ?_
  refine At.then ?_
  refine At.seq ?_
  refine At.if rfl (fun hk => ?_) (fun hk => ?_)
  · skip
    obtain ⟨x, hx⟩ := get_of_lt (l := l.l) (i := k) (by omega)
    have hk1 := lt_of_get hx
    have hpl := put_len l.l k
    refine At.skip ?_
    refine At.then ?_
    refine At.seq ?_
    refine At.block ?_
    refine At.seq ?_
    refine At.region ?_
    refine At.quiet (q_index Try.underlying31 t50 rfl (.tail _ (.tail _ (.tail _ (.head _)))) (by simp) rfl rfl (lt_of_get hx)) rfl ?_
    refine At.quiet (q_loadS t50 rfl (RdS.sl0 (.tail _ (.tail _ (.tail _ (.head _)))) (map_get hx)) rfl) rfl ?_
    refine At.loud (l_alloc t50) rfl ?_
    rintro _ _ _ ⟨b2, rfl, rfl, rfl⟩
    refine At.loudN (l_store t50 rfl rfl (i := 0) rfl rfl rfl rfl) ?_
    rintro _ _ _ ⟨rfl, rfl⟩
    refine At.nil ?_
    refine At.then ?_
    refine At.region ?_
    refine At.skim 1 rfl rfl ?_
    refine At.fld s50 t3 rfl rfl rfl (Rd.loc (i := 0) rfl rfl) rfl rfl ?_
    refine At.fld s50 t3 rfl rfl rfl (Rd.loc (i := 0) rfl rfl) rfl rfl ?_
    refine At.quiet (q_build t77 s77 rfl rfl) rfl ?_
    refine At.front 1 rfl ?_
    refine At.call en94 rfl (map94 s ⟨1, x.k, 0, x.v⟩ b1 (by rw [hs]; omega)) (fun _ h => ⟨h.1, trivial⟩) (List.Perm.refl _) rfl ?_
    rintro _ _ _ ⟨s3, s4, rfl, rfl, rfl, hs3, hs4⟩
    refine At.nil ?_
    refine At.inNormal ?_
    refine At.then ?_
    refine At.region ?_
    refine At.quiet (q_add rfl rfl (by omega) (by omega)) rfl ?_
    refine At.skim 1 rfl rfl ?_
    refine At.nil ?_
    refine At.then ?_
    exact At.againK (k + 1, s3) ⟨hk1, by rw [hs3, hs, put_step hx]⟩ (by (try dsimp only); omega) (Tells.end 14 ⟨rfl, trivial⟩ rfl rfl) (fun _ h => ⟨h.1, h.2.2.2⟩) (.cons_cons _ (.cons _ (.refl _)))
  · skip
    refine At.exit ?_
    refine At.thenExit ?_
    refine At.thenExit ?_
    refine At.inHere rfl ?_
    refine At.then ?_
    refine At.seq ?_
    refine At.region ?_
    refine At.skim 2 rfl rfl ?_
    refine At.nil ?_
    refine At.then ?_
    refine At.ret ?_
    exact At.results (Γr := [_]) (M := [_]) rfl (RVals.cons (RVal.tmp rfl) RVals.nil) (.tail _ (.tail _ (.head _))) (fun _ h => ⟨h.1, trivial⟩) (.cons_cons _ (.refl _)) ⟨b1, s, rfl, rfl, rfl, by rw [hs, List.take_of_length_le (by omega)]⟩
theorem clone99 (l : Sl Int) (hl : l.l.length ≤ 8796093022208) : Con Try.prog 99 [l.val] [intsP l] [] (fun v Γ M => ∃ s : Sl Int, v = s.val ∧ s.l = l.l ∧ Γ = [intsP s] ∧ M = []) := by
  refine Con.body 8 Try.func99 rfl Try.ntmps99 rfl fun X H₀ L₀ => ?_
  refine At.seq ?_
  refine At.region ?_
  refine At.skim 1 rfl rfl ?_
  refine At.nil ?_
  refine At.then ?_
  refine At.seq ?_
  refine At.seq ?_
  refine At.region ?_
  refine At.skim 1 rfl rfl ?_
  refine At.quiet (q_eqSliceNil Try.underlying37 rfl rfl) rfl ?_
  refine At.nil ?_
  refine At.then ?_
  refine At.cond rfl (fun hn => ?_) (fun hn => ?_)
  · skip
    refine At.nilOf (hs := (.tail _ (.head _))) (by simpa using hn) fun hnil => ?_
    refine At.know (intsP ⟨none, 0, []⟩) (fun _ _ => sl_nil _ _ _ (Nat.zero_le _)) ?_
    refine At.seq ?_
    refine At.region ?_
    refine At.skim 1 rfl rfl ?_
    refine At.nil ?_
    refine At.then ?_
    refine At.ret ?_
    refine At.thenRet ?_
    exact At.results (Γr := [intsP ⟨none, 0, []⟩]) (M := []) rfl (RVals.cons (RVal.tmp rfl) RVals.nil) (.tail _ (.head _)) (fun _ h => ⟨h.1, trivial⟩) (.refl _) ⟨⟨none, 0, []⟩, rfl, hnil.symm, rfl, rfl⟩
  · skip
    refine At.skip ?_
    refine At.then ?_
    refine At.seq ?_
    refine At.region ?_
    refine At.loud (l_buildSlice0 Try.underlying37 t3) rfl ?_
    rintro _ _ _ ⟨e1, rfl, rfl, rfl⟩
    refine At.skim 1 rfl rfl ?_
    refine At.loud (l_appendNew rfl Try.underlying37 t3 rfl rfl (.tail _ (.head _)) (by simp) rfl (by omega) (by unfold maxLen; omega) rfl) rfl ?_
    rintro _ _ _ ⟨a2, c2, rfl, rfl, rfl⟩
    refine At.skim 1 rfl rfl ?_
    refine At.nil ?_
    refine At.then ?_
    refine At.ret ?_
    exact At.results (Γr := [intsP ⟨a2, c2, l.l⟩]) (M := []) rfl (RVals.cons (RVal.tmp rfl) RVals.nil) (.tail _ (.head _)) (fun _ h => ⟨h.1, trivial⟩) (.refl _) ⟨⟨a2, c2, l.l⟩, rfl, rfl, rfl, rfl⟩
theorem index100 (l : Sl Int) (x : Int) : Con Try.prog 100 [l.val, .int .i64 x] [intsP l] [] (fun v Γ M => v = .int .i64 (idxI (fun y => decide (y = x)) l.l) ∧ Γ = [] ∧ M = []) := by
  refine Con.body 19 Try.func100 rfl Try.ntmps100 rfl fun X H₀ L₀ => ?_
  refine At.lenOf (hs := (.tail _ (.head _))) fun hlen => ?_
  rw [List.length_map] at hlen
  refine At.seq ?_
  refine At.region ?_
  refine At.skim 1 rfl rfl ?_
  refine At.nil ?_
  refine At.then ?_
  refine At.seq ?_
  refine At.seq ?_
  refine At.region ?_
  refine At.skim 1 rfl rfl ?_
  refine At.quiet (q_len Try.underlying37 rfl) rfl ?_
  refine At.skim 1 rfl rfl ?_
  refine At.nil ?_
  refine At.then ?_
  refine At.block ?_
  refine At.loopK (ι := Nat) [4, 5, 8, 9, 10, 11, 12, 13, 14, 15, 16, 17, 18] (fun k => [(8, .int .i64 (k : Int))]) (fun k => []) (fun k => []) _ (fun k => k ≤ l.l.length ∧ ∀ y ∈ l.l.take k, decide (y = x) = false) (fun k => l.l.length - k) 0 ⟨Nat.zero_le _, by simp⟩ ⟨rfl, trivial⟩ (fun _ _ => trivial) (.refl _) ?_
  intro k hI
  refine At.seq ?_
  refine At.region ?_
  refine At.skim 1 rfl rfl ?_
  refine At.nil ?_
  refine At.then ?_
  refine At.seq ?_
  refine At.if rfl (fun hk => ?_) (fun hk => ?_)
  · skip
    obtain ⟨y, hy⟩ := get_of_lt (l := l.l) (i := k) (by omega)
    have hk1 := lt_of_get hy
    refine At.skip ?_
    refine At.then ?_
    refine At.seq ?_
    refine At.block ?_
    refine At.seq ?_
    refine At.region ?_
    refine At.skim 2 rfl rfl ?_
    refine At.nil ?_
    refine At.then ?_
    refine At.seq ?_
    refine At.region ?_
    refine At.skim 3 rfl rfl ?_
    refine At.quiet (q_index Try.underlying37 t3 rfl (.tail _ (.head _)) (by simp) rfl rfl (lt_of_get hy)) rfl ?_
    refine At.quiet (q_load t3 rfl (Rd.sl0 (.tail _ (.head _)) (map_get hy) rfl)) rfl ?_
    refine At.skim 1 rfl rfl ?_
    refine At.nil ?_
    refine At.then ?_
    refine At.if rfl (fun hp => ?_) (fun hp => ?_)
    · skip
      refine At.seq ?_
      refine At.region ?_
      refine At.skim 2 rfl rfl ?_
      refine At.nil ?_
      refine At.then ?_
      refine At.ret ?_
      refine At.inRet ?_
      refine At.thenRet ?_
      refine At.thenRet ?_
      refine At.inRet ?_
      refine At.thenRet ?_
      exact At.results (Γr := []) (M := []) rfl (RVals.cons (RVal.tmp rfl) RVals.nil) (.head _) (fun _ _ => trivial) (.refl _) ⟨congrArg (Value.int .i64) (idx_at hy (decide_eq_true (by omega)) hI.2).symm, rfl, rfl⟩
    · skip
      refine At.skip ?_
      refine At.inNormal ?_
      refine At.then ?_
      refine At.region ?_
      refine At.quiet (q_add rfl rfl (by omega) (by omega)) rfl ?_
      refine At.skim 1 rfl rfl ?_
      refine At.nil ?_
      refine At.then ?_
      exact At.againK (k + 1) ⟨hk1, idx_step hy (decide_eq_false (by omega)) hI.2⟩ (by (try dsimp only); omega) (Tells.end 12 ⟨rfl, trivial⟩ rfl rfl) (fun _ h => h) (.refl _)
  · skip
    refine At.exit ?_
    refine At.thenExit ?_
    refine At.thenExit ?_
    refine At.inHere rfl ?_
    refine At.then ?_
    refine At.seq ?_
    refine At.region ?_
    refine At.skim 1 rfl rfl ?_
    refine At.nil ?_
    refine At.then ?_
    refine At.ret ?_
    exact At.results (Γr := []) (M := []) rfl (RVals.cons (RVal.tmp rfl) RVals.nil) (.head _) (fun _ _ => trivial) (.refl _) ⟨congrArg (Value.int .i64) (idx_no (by have h := hI.2; rwa [List.take_of_length_le (by omega)] at h)).symm, rfl, rfl⟩
end Go.Proofs.Ytmkodknmknfdkaa
set_option linter.unusedVariables false
set_option linter.unusedSimpArgs false
namespace Go.Proofs.Ytmkodknmknfdkaa
open E
theorem ints_sub {H : Hp} {s : Sl Int} {lo hi : Nat} (h : (intsP s).holds H) (hl : lo ≤ hi) (hh : hi ≤ s.l.length) : (intsP ⟨subA s.a s.c 1 lo, s.c - lo, (s.l.take hi).drop lo⟩).holds H := by
  have h1 := sl_sub (l := lo) (h := hi) h hl (by simpa using hh)
  have e : ((s.l.take hi).drop lo).map rowI = ((s.l.map rowI).drop lo).take (hi - lo) := by
    rw [List.drop_take, List.map_take, List.map_drop]
  simp only [intsP]
  rw [e]
  exact h1
theorem ints_sub_val {s : Sl Int} {lo hi : Nat} (hl : lo ≤ hi) (hh : hi ≤ s.l.length) : Sl.val (⟨subA s.a s.c 1 lo, s.c - lo, (s.l.take hi).drop lo⟩ : Sl Int) = .slice (subA s.a s.c 1 lo) (hi - lo) (s.c - lo) := by
  simp only [Sl.val, List.length_drop, List.length_take]
  rw [Nat.min_eq_left hh]
theorem toI_take (l : List Nat) (k : Nat) : toI (l.take k) = (toI l).take k := List.map_take
theorem toI_drop (l : List Nat) (k : Nat) : toI (l.drop k) = (toI l).drop k := List.map_drop
end Go.Proofs.Ytmkodknmknfdkaa
set_option linter.unusedVariables false
set_option linter.unusedSimpArgs false
namespace Go.Proofs.Ytmkodknmknfdkaa
open E
set_option maxRecDepth 4000
theorem en99 : Enters Try.prog 99 := Enters.mk' Try.func99 rfl rfl
theorem en100 : Enters Try.prog 100 := Enters.mk' Try.func100 rfl rfl
set_option maxHeartbeats 1000000 in
theorem touched61 (t : Tr) (o : OpS) : Con Try.prog 61 [t.val, o.val] [ndsP t.ns, psP t.ns.l] [] (IntsEndF (toI (touchT t.p o))) := by
  refine Con.body 74 Try.func61 rfl Try.ntmps61 rfl fun X H₀ L₀ => ?_
  refine At.know (intsP ⟨none, 0, []⟩) (fun _ h => sl_nil _ _ _ (Nat.zero_le _)) ?_
  refine At.lenOf (hs := (.tail _ (.tail _ (.head _)))) fun hlen => ?_
  rw [List.length_map] at hlen
  refine At.seq ?_
  refine At.region ?_
  refine At.loud (l_box rfl) rfl ?_
  rintro _ _ _ ⟨b1, rfl, rfl, rfl⟩
  refine At.freeze 0 (φ := blk b1 _) rfl (fun _ h => blk_def.2 ⟨_, _, h⟩) ?_
  refine At.loud (l_box rfl) rfl ?_
  rintro _ _ _ ⟨b2, rfl, rfl, rfl⟩
  refine At.freeze 0 (φ := blk b2 _) rfl (fun _ h => blk_def.2 ⟨_, _, h⟩) ?_
  refine At.skim 1 rfl rfl ?_
  refine At.nil ?_
  refine At.then ?_
  refine At.seq ?_
  refine At.region ?_
  refine At.quiet (q_loadS t24 rfl (RdS.blk (.tail _ (.head _)) (m := 2) rfl) rfl) rfl ?_
  refine At.fld s77 t3 rfl rfl rfl (Rd.blk (.head _) rfl) rfl rfl ?_
  refine At.call en26 rfl (find26 _ _) (fun _ h => ⟨h.2.2.2.2.1, h.2.2.2.2.2.1, trivial⟩) (List.Perm.refl _) rfl ?_
  rintro _ _ _ ⟨us8, rs8, rfl, rfl, rfl, hus8, hrs8⟩
  refine At.skim 1 rfl rfl ?_
  refine At.quiet (q_extract rfl rfl) rfl ?_
  refine At.quiet (q_extract rfl rfl) rfl ?_
  refine At.loud (l_alloc t40) rfl ?_
  rintro _ _ _ ⟨b3, rfl, rfl, rfl⟩
  refine At.loudN (l_store t40 rfl rfl (i := 0) rfl rfl rfl rfl) ?_
  rintro _ _ _ ⟨rfl, rfl⟩
  refine At.skim 1 rfl rfl ?_
  refine At.nil ?_
  refine At.then ?_
  refine At.seq ?_
  refine At.block ?_
  refine At.seq ?_
  refine At.region ?_
  refine At.skim 3 rfl rfl ?_
  refine At.split (d := 20) rfl (fun hm => ?_) (fun hm => ?_)
  · skip
    refine At.skim 15 rfl rfl ?_
    refine At.nil ?_
    refine At.then ?_
    refine At.condT rfl ?_
    refine At.seq ?_
    refine At.region ?_
    refine At.skim 1 rfl rfl ?_
    refine At.nil ?_
    refine At.then ?_
    refine At.ret ?_
    refine At.inRet ?_
    refine At.thenRet ?_
    exact At.results (Γr := [_]) (M := []) rfl (RVals.cons (RVal.tmp rfl) RVals.nil) (.tail _ (.tail _ (.tail _ (.tail _ (.tail _ (.head _)))))) (fun _ h => ⟨h.2.2.2.2.1, trivial⟩) (.cons _ (.refl _)) ⟨⟨none, 0, []⟩, rfl, rfl, rfl, by rw [touch_no (.inl (not_t hm))]; rfl⟩
  · skip
    have hmt : (mayT t.p).isSome = true := not_f hm
    obtain ⟨s, hs⟩ := Option.isSome_iff_exists.1 hmt
    have hfa := find_mem hs o.key
    have hfb := find_mem hs o.hi
    refine At.open rfl rfl ?_
    refine At.quiet (q_loadS t77 rfl (RdS.blk (.tail _ (.tail _ (.head _))) (m := 4) rfl) rfl) rfl ?_
    refine At.open rfl rfl ?_
    refine At.call en92 rfl (mayop92 _) (fun _ _ => trivial) (List.Perm.refl _) rfl ?_
    rintro _ _ _ ⟨rfl, rfl, rfl⟩
    refine At.skim 3 rfl rfl ?_
    refine At.split (d := 25) rfl (fun ho => ?_) (fun ho => ?_)
    · skip
      refine At.skim 10 rfl rfl ?_
      refine At.nil ?_
      refine At.then ?_
      refine At.condT rfl ?_
      refine At.seq ?_
      refine At.region ?_
      refine At.skim 1 rfl rfl ?_
      refine At.nil ?_
      refine At.then ?_
      refine At.ret ?_
      refine At.inRet ?_
      refine At.thenRet ?_
      exact At.results (Γr := [_]) (M := []) rfl (RVals.cons (RVal.tmp rfl) RVals.nil) (.tail _ (.tail _ (.tail _ (.tail _ (.tail _ (.head _)))))) (fun _ h => ⟨h.2.2.2.2.1, trivial⟩) (.cons _ (.refl _)) ⟨⟨none, 0, []⟩, rfl, rfl, rfl, by rw [touch_no (.inr (.inl (not_t ho)))]; rfl⟩
    · skip
      have hmo : mayO o = true := not_f ho
      have hmk : 1 ≤ o.kind ∧ o.kind ≤ 8 := by simpa [mayO] using hmo
      refine At.open rfl rfl ?_
      refine At.quiet (q_fieldAddr s77 rfl rfl rfl) rfl ?_
      refine At.open rfl rfl ?_
      refine At.quiet (q_load t3 rfl (Rd.blk (.tail _ (.tail _ (.head _))) rfl)) rfl ?_
      refine At.skim 3 rfl rfl ?_
      refine At.splitP (d := 30) rfl (fun h7 => ?_) (fun h7 => ?_)
      · skip
        refine At.skim 5 rfl rfl ?_
        refine At.nil ?_
        refine At.then ?_
        refine At.condT rfl ?_
        refine At.seq ?_
        refine At.region ?_
        refine At.skim 1 rfl rfl ?_
        refine At.nil ?_
        refine At.then ?_
        refine At.ret ?_
        refine At.inRet ?_
        refine At.thenRet ?_
        exact At.results (Γr := [_]) (M := []) rfl (RVals.cons (RVal.tmp rfl) RVals.nil) (.tail _ (.tail _ (.tail _ (.tail _ (.tail _ (.head _)))))) (fun _ h => ⟨h.2.2.2.2.1, trivial⟩) (.cons _ (.refl _)) ⟨⟨none, 0, []⟩, rfl, rfl, rfl, by rw [touch_no (.inr (.inr (by omega)))]; rfl⟩
      · skip
        refine At.open rfl rfl ?_
        refine At.quiet (q_fieldAddr s77 rfl rfl rfl) rfl ?_
        refine At.open rfl rfl ?_
        refine At.quiet (q_load t3 rfl (Rd.blk (.tail _ (.tail _ (.head _))) rfl)) rfl ?_
        refine At.skim 3 rfl rfl ?_
        refine At.nil ?_
        refine At.then ?_
        refine At.if rfl (fun h8 => ?_) (fun h8 => ?_)
        · skip
          refine At.seq ?_
          refine At.region ?_
          refine At.skim 1 rfl rfl ?_
          refine At.nil ?_
          refine At.then ?_
          refine At.ret ?_
          refine At.inRet ?_
          refine At.thenRet ?_
          exact At.results (Γr := [_]) (M := []) rfl (RVals.cons (RVal.tmp rfl) RVals.nil) (.tail _ (.tail _ (.tail _ (.tail _ (.tail _ (.head _)))))) (fun _ h => ⟨h.2.2.2.2.1, trivial⟩) (.cons _ (.refl _)) ⟨⟨none, 0, []⟩, rfl, rfl, rfl, by rw [touch_no (.inr (.inr (by omega)))]; rfl⟩
        · skip
          refine At.seq ?_
          refine At.region ?_
          refine At.fld s77 t3 rfl rfl rfl (Rd.blk (.tail _ (.tail _ (.head _))) rfl) rfl rfl ?_
          refine At.skim 2 rfl rfl ?_
          refine At.splitP (d := 39) rfl (fun h5 => ?_) (fun h5 => ?_)
          · skip
            refine At.open rfl rfl ?_
            refine At.quiet (q_fieldAddr s77 rfl rfl rfl) rfl ?_
            refine At.open rfl rfl ?_
            refine At.quiet (q_load t3 rfl (Rd.blk (.tail _ (.tail _ (.head _))) rfl)) rfl ?_
            refine At.skim 3 rfl rfl ?_
            refine At.nil ?_
            refine At.then ?_
            refine At.if rfl (fun h6 => ?_) (fun h6 => ?_)
            · skip
              refine At.seq ?_
              refine At.region ?_
              refine At.fld s40 t3 rfl rfl rfl (Rd.loc (i := 0) rfl rfl) rfl rfl ?_
              refine At.loud (l_buildSlice Try.underlying37 t3 rfl rfl rfl rfl rfl) rfl ?_
              rintro _ _ _ ⟨b4, rfl, rfl, rfl⟩
              refine At.freeze 0 (φ := intsP ⟨some ⟨b4, 0, none⟩, 1, [((findD t.p o.key).leaf : Int)]⟩) rfl (fun _ h => sl_of_block h rfl (by simp [rowI]) rfl (show (1 : Nat) ≤ maxLen from by decide)) ?_
              refine At.skim 1 rfl rfl ?_
              refine At.nil ?_
              refine At.then ?_
              refine At.ret ?_
              refine At.inRet ?_
              refine At.thenRet ?_
              exact At.results (Γr := [_]) (M := []) rfl (RVals.cons (RVal.tmp rfl) RVals.nil) (.tail _ (.tail _ (.tail _ (.tail _ (.tail _ (.tail _ (.head _))))))) (fun _ h => ⟨h.1, trivial⟩) (.cons _ (.refl _)) ⟨⟨some ⟨_, 0, none⟩, 1, [((findD t.p o.key).leaf : Int)]⟩, rfl, rfl, rfl, by rw [touch_one hmt hmo (by omega)]; rfl⟩
            · skip
              refine At.seq ?_
              refine At.region ?_
              refine At.fld s77 t3 rfl rfl rfl (Rd.blk (.tail _ (.tail _ (.head _))) rfl) rfl rfl ?_
              refine At.fld s77 t3 rfl rfl rfl (Rd.blk (.tail _ (.tail _ (.head _))) rfl) rfl rfl ?_
              refine At.skim 2 rfl rfl ?_
              refine At.nil ?_
              refine At.then ?_
              refine At.if rfl (fun hhk => ?_) (fun hhk => ?_)
              · skip
                refine At.seq ?_
                refine At.region ?_
                refine At.skim 1 rfl rfl ?_
                refine At.nil ?_
                refine At.then ?_
                refine At.ret ?_
                refine At.inRet ?_
                refine At.thenRet ?_
                exact At.results (Γr := [_]) (M := []) rfl (RVals.cons (RVal.tmp rfl) RVals.nil) (.tail _ (.tail _ (.tail _ (.tail _ (.tail _ (.head _)))))) (fun _ h => ⟨h.2.2.2.2.1, trivial⟩) (.cons _ (.refl _)) ⟨⟨none, 0, []⟩, rfl, rfl, rfl, by rw [touch_wrong (by omega) hhk]; rfl⟩
              · skip
                refine At.skip ?_
                refine At.inNormal ?_
                refine At.then ?_
                refine At.seq ?_
                refine At.region ?_
                refine At.quiet (q_loadS t24 rfl (RdS.blk (.tail _ (.tail _ (.tail _ (.head _)))) (m := 2) rfl) rfl) rfl ?_
                refine At.fld s77 t3 rfl rfl rfl (Rd.blk (.tail _ (.tail _ (.head _))) rfl) rfl rfl ?_
                refine At.call en26 rfl (find26 _ _) (fun _ h => ⟨h.2.2.2.2.2.2.1, h.2.2.2.2.2.2.2.1, trivial⟩) (List.Perm.refl _) rfl ?_
                rintro _ _ _ ⟨us9, rs9, rfl, rfl, rfl, hus9, hrs9⟩
                refine At.skim 1 rfl rfl ?_
                refine At.quiet (q_extract rfl rfl) rfl ?_
                refine At.quiet (q_extract rfl rfl) rfl ?_
                refine At.loud (l_alloc t40) rfl ?_
                rintro _ _ _ ⟨b5, rfl, rfl, rfl⟩
                refine At.loudN (l_store t40 rfl rfl (i := 0) rfl rfl rfl rfl) ?_
                rintro _ _ _ ⟨rfl, rfl⟩
                refine At.skim 1 rfl rfl ?_
                refine At.nil ?_
                refine At.then ?_
                refine At.seq ?_
                refine At.region ?_
                refine At.quiet (q_loadS t24 rfl (RdS.blk (.tail _ (.tail _ (.tail _ (.tail _ (.tail _ (.head _)))))) (m := 2) rfl) rfl) rfl ?_
                refine At.call en28 rfl (leaves28f _) (fun _ h => ⟨h.2.2.2.2.2.2.2.2.1, h.2.2.2.2.2.2.2.2.2.1, trivial⟩) (List.Perm.refl _) rfl ?_
                rintro _ _ _ ⟨lv, rfl, rfl, rfl, hplv⟩
                refine At.skim 1 rfl rfl ?_
                refine At.nil ?_
                refine At.then ?_
                refine At.seq ?_
                have hab := findD_mono hs (show o.key ≤ o.hi by omega)
                have hll : lv.l.length = (leavesT t.p).length := by rw [hplv, toI_length]
                have hia := ix_lt hfa
                have hib := ix_lt hfb
                have hle := leavesT_len t.p
                have hfew := (good_of hs).few
                refine At.capOf (hs := (.head _)) fun hcap => ?_
                rw [List.length_map] at hcap
                refine At.know (intsP (⟨subA lv.a lv.c 1 (ixL (leavesT t.p) (findD t.p o.key).leaf), lv.c - ixL (leavesT t.p) (findD t.p o.key).leaf, (lv.l.take (ixL (leavesT t.p) (findD t.p o.hi).leaf + 1)).drop (ixL (leavesT t.p) (findD t.p o.key).leaf)⟩ : Sl Int)) (fun _ h => ints_sub h.1 (by omega) (by omega)) ?_
                refine At.draw 10 (.q 0 (.q 1 (.q 2 (.q 3 (.q 5 (.q 6 (.q 7 (.o 4 (.o 8 (.q 9 (.e))))))))))) _ (List.Sublist.refl _) mixed (by kernel_rfl) rfl ?_
                refine AtO.quiet rfl (q_move rfl) rfl (Calm.then Post.calm) ?_
                refine AtO.quiet rfl (q_move rfl) rfl (Calm.then Post.calm) ?_
                refine AtO.quiet rfl (q_fieldAddr s40 rfl rfl rfl) rfl (Calm.then Post.calm) ?_
                refine AtO.quiet rfl (q_load t3 rfl (Rd.loc (i := 1) rfl rfl)) rfl (Calm.then Post.calm) ?_
                refine AtO.quiet rfl (q_move rfl) rfl (Calm.then Post.calm) ?_
                refine AtO.quiet rfl (q_fieldAddr s40 rfl rfl rfl) rfl (Calm.then Post.calm) ?_
                refine AtO.quiet rfl (q_load t3 rfl (Rd.loc (i := 0) rfl rfl)) rfl (Calm.then Post.calm) ?_
                refine AtO.callA rfl en100 rfl (index100 lv _) (fun _ h => ⟨h.2.1, trivial⟩) (List.Perm.refl _) rfl (.refl _) ?_
                rintro _ _ _ ⟨rfl, rfl, rfl⟩
                refine AtO.say 66 (.int .i64 ((ixL (leavesT t.p) (findD t.p o.key).leaf : Nat) : Int)) rfl (congrArg (Value.int .i64) (by rw [hplv]; exact ix_idxI hfa)) ?_
                refine AtO.callA rfl en100 rfl (index100 lv _) (fun _ h => ⟨h.2.1, trivial⟩) (List.Perm.refl _) rfl (.refl _) ?_
                rintro _ _ _ ⟨rfl, rfl, rfl⟩
                refine AtO.say 70 (.int .i64 ((ixL (leavesT t.p) (findD t.p o.hi).leaf : Nat) : Int)) rfl (congrArg (Value.int .i64) (by rw [hplv]; exact ix_idxI hfb)) ?_
                refine AtO.quiet rfl (q_add rfl rfl (by omega) (by omega)) rfl (Calm.then Post.calm) ?_
                refine AtO.done ?_
                refine At.quiet (q_slice Try.underlying37 t3 rfl rfl rfl (l := (ixL (leavesT t.p) (findD t.p o.key).leaf : Nat)) (h := (ixL (leavesT t.p) (findD t.p o.hi).leaf : Nat) + 1) rfl rfl (by omega) (by omega)) rfl ?_
                refine At.say 72 (Sl.val (⟨subA lv.a lv.c 1 (ixL (leavesT t.p) (findD t.p o.key).leaf), lv.c - ixL (leavesT t.p) (findD t.p o.key).leaf, (lv.l.take (ixL (leavesT t.p) (findD t.p o.hi).leaf + 1)).drop (ixL (leavesT t.p) (findD t.p o.key).leaf)⟩ : Sl Int)) rfl ((ints_sub_val (by omega) (by omega)).symm) ?_
                refine At.call en99 rfl (clone99 (⟨subA lv.a lv.c 1 (ixL (leavesT t.p) (findD t.p o.key).leaf), lv.c - ixL (leavesT t.p) (findD t.p o.key).leaf, (lv.l.take (ixL (leavesT t.p) (findD t.p o.hi).leaf + 1)).drop (ixL (leavesT t.p) (findD t.p o.key).leaf)⟩ : Sl Int) (by simp; omega)) (fun _ h => ⟨h.1, trivial⟩) (List.Perm.refl _) rfl ?_
                rintro _ _ _ ⟨u, rfl, hu, rfl, rfl⟩
                refine At.skim 1 rfl rfl ?_
                refine At.nil ?_
                refine At.then ?_
                refine At.ret ?_
                exact At.results (Γr := [_]) (M := []) rfl (RVals.cons (RVal.tmp rfl) RVals.nil) (.tail _ (.tail _ (.tail _ (.tail _ (.tail _ (.tail _ (.tail _ (.tail _ (.tail _ (.tail _ (.head _))))))))))) (fun _ h => ⟨h.1, trivial⟩) (.cons _ (.cons _ (.refl _))) ⟨u, rfl, rfl, rfl, by rw [hu, touch_many hmt hmo (by omega) (by omega) hhk, toI_drop, toI_take, ← hplv]⟩
          · skip
            refine At.skim 5 rfl rfl ?_
            refine At.nil ?_
            refine At.then ?_
            refine At.condF rfl ?_
            refine At.seq ?_
            refine At.region ?_
            refine At.fld s77 t3 rfl rfl rfl (Rd.blk (.tail _ (.tail _ (.head _))) rfl) rfl rfl ?_
            refine At.fld s77 t3 rfl rfl rfl (Rd.blk (.tail _ (.tail _ (.head _))) rfl) rfl rfl ?_
            refine At.skim 2 rfl rfl ?_
            refine At.nil ?_
            refine At.then ?_
            refine At.if rfl (fun hhk => ?_) (fun hhk => ?_)
            · skip
              refine At.seq ?_
              refine At.region ?_
              refine At.skim 1 rfl rfl ?_
              refine At.nil ?_
              refine At.then ?_
              refine At.ret ?_
              refine At.inRet ?_
              refine At.thenRet ?_
              exact At.results (Γr := [_]) (M := []) rfl (RVals.cons (RVal.tmp rfl) RVals.nil) (.tail _ (.tail _ (.tail _ (.tail _ (.tail _ (.head _)))))) (fun _ h => ⟨h.2.2.2.2.1, trivial⟩) (.cons _ (.refl _)) ⟨⟨none, 0, []⟩, rfl, rfl, rfl, by rw [touch_wrong (by omega) hhk]; rfl⟩
            · skip
              refine At.skip ?_
              refine At.inNormal ?_
              refine At.then ?_
              refine At.seq ?_
              refine At.region ?_
              refine At.quiet (q_loadS t24 rfl (RdS.blk (.tail _ (.tail _ (.tail _ (.head _)))) (m := 2) rfl) rfl) rfl ?_
              refine At.fld s77 t3 rfl rfl rfl (Rd.blk (.tail _ (.tail _ (.head _))) rfl) rfl rfl ?_
              refine At.call en26 rfl (find26 _ _) (fun _ h => ⟨h.2.2.2.2.2.2.1, h.2.2.2.2.2.2.2.1, trivial⟩) (List.Perm.refl _) rfl ?_
              rintro _ _ _ ⟨us9, rs9, rfl, rfl, rfl, hus9, hrs9⟩
              refine At.skim 1 rfl rfl ?_
              refine At.quiet (q_extract rfl rfl) rfl ?_
              refine At.quiet (q_extract rfl rfl) rfl ?_
              refine At.loud (l_alloc t40) rfl ?_
              rintro _ _ _ ⟨b6, rfl, rfl, rfl⟩
              refine At.loudN (l_store t40 rfl rfl (i := 0) rfl rfl rfl rfl) ?_
              rintro _ _ _ ⟨rfl, rfl⟩
              refine At.skim 1 rfl rfl ?_
              refine At.nil ?_
              refine At.then ?_
              refine At.seq ?_
              refine At.region ?_
              refine At.quiet (q_loadS t24 rfl (RdS.blk (.tail _ (.tail _ (.tail _ (.tail _ (.tail _ (.head _)))))) (m := 2) rfl) rfl) rfl ?_
              refine At.call en28 rfl (leaves28f _) (fun _ h => ⟨h.2.2.2.2.2.2.2.2.1, h.2.2.2.2.2.2.2.2.2.1, trivial⟩) (List.Perm.refl _) rfl ?_
              rintro _ _ _ ⟨lv, rfl, rfl, rfl, hplv⟩
              refine At.skim 1 rfl rfl ?_
              refine At.nil ?_
              refine At.then ?_
              refine At.seq ?_
              have hab := findD_mono hs (show o.key ≤ o.hi by omega)
              have hll : lv.l.length = (leavesT t.p).length := by rw [hplv, toI_length]
              have hia := ix_lt hfa
              have hib := ix_lt hfb
              have hle := leavesT_len t.p
              have hfew := (good_of hs).few
              refine At.capOf (hs := (.head _)) fun hcap => ?_
              rw [List.length_map] at hcap
              refine At.know (intsP (⟨subA lv.a lv.c 1 (ixL (leavesT t.p) (findD t.p o.key).leaf), lv.c - ixL (leavesT t.p) (findD t.p o.key).leaf, (lv.l.take (ixL (leavesT t.p) (findD t.p o.hi).leaf + 1)).drop (ixL (leavesT t.p) (findD t.p o.key).leaf)⟩ : Sl Int)) (fun _ h => ints_sub h.1 (by omega) (by omega)) ?_
              refine At.draw 10 (.q 0 (.q 1 (.q 2 (.q 3 (.q 5 (.q 6 (.q 7 (.o 4 (.o 8 (.q 9 (.e))))))))))) _ (List.Sublist.refl _) mixed (by kernel_rfl) rfl ?_
              refine AtO.quiet rfl (q_move rfl) rfl (Calm.then Post.calm) ?_
              refine AtO.quiet rfl (q_move rfl) rfl (Calm.then Post.calm) ?_
              refine AtO.quiet rfl (q_fieldAddr s40 rfl rfl rfl) rfl (Calm.then Post.calm) ?_
              refine AtO.quiet rfl (q_load t3 rfl (Rd.loc (i := 1) rfl rfl)) rfl (Calm.then Post.calm) ?_
              refine AtO.quiet rfl (q_move rfl) rfl (Calm.then Post.calm) ?_
              refine AtO.quiet rfl (q_fieldAddr s40 rfl rfl rfl) rfl (Calm.then Post.calm) ?_
              refine AtO.quiet rfl (q_load t3 rfl (Rd.loc (i := 0) rfl rfl)) rfl (Calm.then Post.calm) ?_
              refine AtO.callA rfl en100 rfl (index100 lv _) (fun _ h => ⟨h.2.1, trivial⟩) (List.Perm.refl _) rfl (.refl _) ?_
              rintro _ _ _ ⟨rfl, rfl, rfl⟩
              refine AtO.say 66 (.int .i64 ((ixL (leavesT t.p) (findD t.p o.key).leaf : Nat) : Int)) rfl (congrArg (Value.int .i64) (by rw [hplv]; exact ix_idxI hfa)) ?_
              refine AtO.callA rfl en100 rfl (index100 lv _) (fun _ h => ⟨h.2.1, trivial⟩) (List.Perm.refl _) rfl (.refl _) ?_
              rintro _ _ _ ⟨rfl, rfl, rfl⟩
              refine AtO.say 70 (.int .i64 ((ixL (leavesT t.p) (findD t.p o.hi).leaf : Nat) : Int)) rfl (congrArg (Value.int .i64) (by rw [hplv]; exact ix_idxI hfb)) ?_
              refine AtO.quiet rfl (q_add rfl rfl (by omega) (by omega)) rfl (Calm.then Post.calm) ?_
              refine AtO.done ?_
              refine At.quiet (q_slice Try.underlying37 t3 rfl rfl rfl (l := (ixL (leavesT t.p) (findD t.p o.key).leaf : Nat)) (h := (ixL (leavesT t.p) (findD t.p o.hi).leaf : Nat) + 1) rfl rfl (by omega) (by omega)) rfl ?_
              refine At.say 72 (Sl.val (⟨subA lv.a lv.c 1 (ixL (leavesT t.p) (findD t.p o.key).leaf), lv.c - ixL (leavesT t.p) (findD t.p o.key).leaf, (lv.l.take (ixL (leavesT t.p) (findD t.p o.hi).leaf + 1)).drop (ixL (leavesT t.p) (findD t.p o.key).leaf)⟩ : Sl Int)) rfl ((ints_sub_val (by omega) (by omega)).symm) ?_
              refine At.call en99 rfl (clone99 (⟨subA lv.a lv.c 1 (ixL (leavesT t.p) (findD t.p o.key).leaf), lv.c - ixL (leavesT t.p) (findD t.p o.key).leaf, (lv.l.take (ixL (leavesT t.p) (findD t.p o.hi).leaf + 1)).drop (ixL (leavesT t.p) (findD t.p o.key).leaf)⟩ : Sl Int) (by simp; omega)) (fun _ h => ⟨h.1, trivial⟩) (List.Perm.refl _) rfl ?_
              rintro _ _ _ ⟨u, rfl, hu, rfl, rfl⟩
              refine At.skim 1 rfl rfl ?_
              refine At.nil ?_
              refine At.then ?_
              refine At.ret ?_
              exact At.results (Γr := [_]) (M := []) rfl (RVals.cons (RVal.tmp rfl) RVals.nil) (.tail _ (.tail _ (.tail _ (.tail _ (.tail _ (.tail _ (.tail _ (.tail _ (.tail _ (.tail _ (.head _))))))))))) (fun _ h => ⟨h.1, trivial⟩) (.cons _ (.cons _ (.refl _))) ⟨u, rfl, rfl, rfl, by rw [hu, touch_many hmt hmo (by omega) (by omega) hhk, toI_drop, toI_take, ← hplv]⟩
end Go.Proofs.Ytmkodknmknfdkaa
set_option linter.unusedVariables false
set_option linter.unusedSimpArgs false
namespace Go.Proofs.Ytmkodknmknfdkaa
open E
theorem with_left {A B : List Pr} {p : Pr} (hB : ∀ b ∈ B, p.k < b.k) : withT (A ++ B) p = withT A p ++ B := by
  induction A with
  | nil =>
    cases B with
    | nil => simp
    | cons b B =>
      have hb := hB b (by simp)
      have hf : (B.filter fun x => decide (x.k ≠ p.k)) = B := List.filter_eq_self.2 fun x hx => decide_eq_true (by have := hB x (by simp [hx]); omega)
      show withGo p (b :: B) false = withGo p [] false ++ (b :: B)
      simp only [withGo, Bool.not_false, Bool.true_and, decide_eq_true (show p.k ≤ b.k by omega), if_true, Bool.false_or, withGo_done, hf, if_neg (show ¬ b.k = p.k by omega)]
      rfl
  | cons a A ih =>
    unfold withT at ih ⊢
    simp only [List.cons_append, withGo, Bool.not_false, Bool.true_and, Bool.false_or]
    by_cases h : p.k ≤ a.k
    · have hf : (B.filter fun x => decide (x.k ≠ p.k)) = B := List.filter_eq_self.2 fun x hx => decide_eq_true (by have := hB x hx; omega)
      simp only [decide_eq_true h, withGo_done, List.filter_append, hf, List.append_assoc]
    · simp only [decide_eq_false h, ih, List.append_assoc]
theorem with_right {A B : List Pr} {p : Pr} (hA : ∀ a ∈ A, a.k < p.k) : withT (A ++ B) p = A ++ withT B p := by
  induction A with
  | nil => rfl
  | cons a A ih =>
    rw [List.cons_append, with_skip (hA a (by simp)), ih fun x hx => hA x (by simp [hx])]
    rfl
theorem with_mid {A B C : List Pr} {p : Pr} (hA : ∀ a ∈ A, a.k < p.k) (hB : ∀ b ∈ B, p.k < b.k) : withT (A ++ (C ++ B)) p = A ++ (withT C p ++ B) := by
  rw [with_right hA, with_left hB]
theorem without_mid {A B C : List Pr} {k : Int} (hA : ∀ a ∈ A, a.k < k) (hB : ∀ b ∈ B, k < b.k) : without (A ++ (C ++ B)) k = A ++ (without C k ++ B) := by
  unfold without
  rw [List.filter_append, List.filter_append]
  congr 1
  · exact List.filter_eq_self.2 fun x hx => by have := hA x hx; rw [isK, decide_eq_false (by omega)]; rfl
  · congr 1
    exact List.filter_eq_self.2 fun x hx => by have := hB x hx; rw [isK, decide_eq_false (by omega)]; rfl
theorem hit_mid {A B C : List Pr} {k : Int} (hA : ∀ a ∈ A, a.k < k) (hB : ∀ b ∈ B, k < b.k) : hit (A ++ (C ++ B)) k = hit C k := by
  unfold hit
  rw [List.find?_append, List.find?_append, find_no fun y hy => by have := hA y hy; exact decide_eq_false (by omega), find_no (l := B) fun y hy => by have := hB y hy; exact decide_eq_false (by omega)]
  simp
theorem do_upd {l : List Pr} {o : OpS} (hr : rises l = true) (hm : mayO o = true) (hu : updO o = true) : doT l o = (if o.kind = 1 then withT l ⟨o.key, o.v⟩ else if o.kind = 2 then (if (hit l o.key).ok then l else withT l ⟨o.key, o.v⟩) else without l o.key, hit l o.key) := by
  rw [do_yes hr hm]
  simp only [updO, Bool.or_eq_true, decide_eq_true_eq] at hu
  rcases hu with h | h | h
  · simp [h]
  · simp [h]
  · simp [h]
theorem do_read {l : List Pr} {o : OpS} (hu : updO o = false) : (doT l o).1 = l := by
  simp only [updO, Bool.or_eq_false_iff, decide_eq_false_iff_not] at hu
  obtain ⟨h1, h2, h3⟩ := hu
  unfold doT
  rw [if_neg h1, if_neg h2, if_neg h3]
  repeat' split
  all_goals rfl
theorem do_mid {A B C : List Pr} {o : OpS} (hr : rises (A ++ (C ++ B)) = true) (hrC : rises C = true) (hm : mayO o = true) (hu : updO o = true) (hA : ∀ a ∈ A, a.k < o.key) (hB : ∀ b ∈ B, o.key < b.k) :
    (doT (A ++ (C ++ B)) o).1 = A ++ ((doT C o).1 ++ B) ∧ (doT (A ++ (C ++ B)) o).2 = (doT C o).2 := by
  rw [do_upd hr hm hu, do_upd hrC hm hu, hit_mid hA hB, with_mid (p := ⟨o.key, o.v⟩) hA hB, without_mid hA hB]
  refine ⟨?_, rfl⟩
  simp only []
  repeat' split
  all_goals rfl
theorem do_rises {l : List Pr} {o : OpS} (hr : rises l = true) : rises (doT l o).1 = true := by
  unfold doT
  have hw := rises_pw.2 (with_pw (p := ⟨o.key, o.v⟩) (rises_pw.1 hr))
  have hc : rises (without l o.key) = true := rises_pw.2 ((rises_pw.1 hr).filter _)
  repeat' split
  all_goals first | exact hr | exact hw | exact hc | skip
  all_goals (simp only []; split <;> assumption)
theorem do_keys {l : List Pr} {o : OpS} {x : Pr} (hx : x ∈ (doT l o).1) : x.k = o.key ∨ x ∈ l := by
  have hw : ∀ x ∈ withT l ⟨o.key, o.v⟩, x.k = o.key ∨ x ∈ l := fun x hx => by
    rcases mem_with.1 hx with rfl | ⟨h, _⟩
    · exact .inl rfl
    · exact .inr h
  have hc : ∀ x ∈ without l o.key, x.k = o.key ∨ x ∈ l := fun x hx => .inr (List.mem_filter.1 hx).1
  have key : ∀ q, (doT l o).1 = q → (q = withT l ⟨o.key, o.v⟩ ∨ q = without l o.key ∨ q = l) := by
    intro q hq
    subst hq
    unfold doT
    repeat' split
    all_goals first | exact .inl rfl | exact .inr (.inl rfl) | exact .inr (.inr rfl) | skip
    all_goals (simp only []; split <;> first | exact .inl rfl | exact .inr (.inr rfl))
  rcases key _ rfl with e | e | e
  · rw [e] at hx; exact hw x hx
  · rw [e] at hx; exact hc x hx
  · rw [e] at hx; exact .inr hx
/-- Pairs whose keys rise, put into a map one by one. -/
theorem put_all {l : List Pr} (h : rises l = true) : putAll [] l = l := by
  have hp := rises_pw.1 h
  have : ∀ (l m : List Pr), (m ++ l).Pairwise (fun a b => a.k < b.k) → putAll m l = m ++ l := by
    intro l
    induction l with
    | nil => intro m _; simp [putAll]
    | cons x l ih =>
      intro m hm
      have hm2 : (m ++ [x] ++ l).Pairwise (fun a b => a.k < b.k) := by simpa using hm
      have hmm : m.Pairwise (fun a b => a.k < b.k) := (List.pairwise_append.1 hm).1
      have hlt : ∀ a ∈ m, a.k < x.k := fun a ha => (List.pairwise_append.1 hm).2.2 a ha x (by simp)
      have e : (doT m ⟨1, x.k, 0, x.v⟩).1 = m ++ [x] := by
        rw [do_yes (rises_pw.2 hmm) rfl, if_pos rfl]
        have := with_right (A := m) (B := []) (p := ⟨x.k, x.v⟩) hlt
        rw [List.append_nil] at this
        exact this
      show putAll (doT m ⟨1, x.k, 0, x.v⟩).1 l = _
      rw [e, ih _ hm2]
      simp
  exact this l [] hp
def flatS (ns : List Nod) (s : Sh) : List Pr := s.leaves.flatMap fun i => (ns.getD i default).l
theorem flat_out {ns : List Nod} {s : Sh} {i : Nat} {n : Nod} (h : i ∉ s.leaves) : flatS (ns.set i n) s = flatS ns s := flat_congr fun p hp => by
  rw [List.getD_eq_getElem?_getD, List.getD_eq_getElem?_getD, List.getElem?_set_ne (fun e => h (by rw [e]; exact hp))]
theorem flat_mid {ns : List Nod} {s : Sh} {a : Int} {k : Kb} (key : Int) (h : Fits ns s a k) (hn : s.places.Nodup) : ∃ A B : List Pr, flatS ns s = A ++ ((ns.getD (s.find ns key).leaf default).l ++ B) ∧ (∀ x ∈ A, x.k < key) ∧ (∀ x ∈ B, key < x.k) ∧
    ∀ n', flatS (ns.set (s.find ns key).leaf n') s = A ++ (n'.l ++ B) := by
  induction s generalizing a k with
  | leaf i =>
    refine ⟨[], [], by simp [flatS, Sh.leaves, Sh.find], by simp, by simp, fun n' => ?_⟩
    obtain ⟨_, x, hx, _⟩ := h
    have e : (ns.set i n').getD i default = n' := getD_of (List.getElem?_set_self (lt_of_get hx))
    simp only [flatS, Sh.leaves, Sh.find, List.flatMap_cons, List.flatMap_nil, e, List.nil_append]
  | node i l r h1 h2 =>
    obtain ⟨rfl, x, hx, hxr, hk, hl, hr⟩ := h
    obtain ⟨c1, c2, d1, d2, d3⟩ := nodup_node hn
    obtain ⟨_, _, hh, _⟩ := routeOk_parts hk
    have bl := (fits_rise hl).2
    have br := (fits_rise hr).2
    have hfl : ∀ ns', flatS ns' (Sh.node i l r) = flatS ns' l ++ flatS ns' r := fun ns' => by simp [flatS, Sh.leaves]
    simp only [Sh.find, getD_of hx]
    by_cases hlt : key < x.key
    · rw [if_pos hlt]
      obtain ⟨A, B, e1, e2, e3, e4⟩ := h1 hl d1
      refine ⟨A, B ++ flatS ns r, ?_, e2, fun y hy => ?_, fun n' => ?_⟩
      · rw [hfl, e1]; simp
      · rcases List.mem_append.1 hy with hy | hy
        · exact e3 y hy
        · have h9 := ((has_rights hh).1 (br y hy)).2; omega
      · rw [hfl]
        show flatS (ns.set (l.find ns key).leaf n') l ++ flatS (ns.set (l.find ns key).leaf n') r = _
        rw [e4, flat_out fun h9 => d3 _ (leaves_places _ find_leaf) (leaves_places _ h9)]
        simp
    · rw [if_neg hlt]
      obtain ⟨A, B, e1, e2, e3, e4⟩ := h2 hr d2
      refine ⟨flatS ns l ++ A, B, ?_, fun y hy => ?_, e3, fun n' => ?_⟩
      · rw [hfl, e1]; simp
      · rcases List.mem_append.1 hy with hy | hy
        · have h9 := ((has_lefts hh).1 (bl y hy)).2; omega
        · exact e2 y hy
      · rw [hfl]
        show flatS (ns.set (r.find ns key).leaf n') l ++ flatS (ns.set (r.find ns key).leaf n') r = _
        rw [e4, flat_out fun h9 => d3 _ (leaves_places _ h9) (leaves_places _ find_leaf)]
        simp
def updT (t : PT) (p : Pol) (o : OpS) : PT := (bendT (setD t ((findD t o.key).leaf : Int) (doT (t.ns.getD (findD t o.key).leaf default).l o).1 (nextS p (t.ns.getD (findD t o.key).leaf default).stat 2)) p ((findD t o.key).leaf : Int)).1
def setSt (p : Pol) (t : PT) (a : Nat) : PT := setD t (a : Int) (t.ns.getD a default).l (nextS p (t.ns.getD a default).stat 3)
def sevT (t : PT) (p : Pol) (l : List Nat) : PT := (bendT (l.foldl (setSt p) t) p ((l.headD 0 : Nat) : Int)).1
def treeT (t : PT) (p : Pol) (o : OpS) : PT := if updO o then updT t p o else if 1 < (touchT t o).length then sevT t p (touchT t o) else t
def soloT (t : PT) (p : Pol) (o : OpS) : PT × An :=
  if (mayT t).isSome then (if mayO o then (treeT (plainD t) p o, (doT (allT t) o).2) else (plainD t, .bad)) else (⟨0, []⟩, .bad)
theorem next_bd (p : Pol) (s w : Int) : -1000000 ≤ nextS p s w ∧ nextS p s w ≤ 1000000 := heldS_bd _
theorem upd_set {t : PT} {s : Sh} {o : OpS} {i : Nat} {n : Nod} {st : Int} (hs : mayT t = some s) (hm : mayO o = true) (hu : updO o = true) (hi : i = (findD t o.key).leaf) (hn : t.ns[i]? = some n) (h1 : -1000000 ≤ st) (h2 : st ≤ 1000000) :
    setT t (i : Int) (doT n.l o).1 st = some ⟨t.root, t.ns.set i { n with l := (doT n.l o).1, stat := st }⟩ ∧ mayT ⟨t.root, t.ns.set i { n with l := (doT n.l o).1, stat := st }⟩ = some s ∧
    leavesT ⟨t.root, t.ns.set i { n with l := (doT n.l o).1, stat := st }⟩ = leavesT t ∧ allT ⟨t.root, t.ns.set i { n with l := (doT n.l o).1, stat := st }⟩ = (doT (allT t) o).1 ∧ (doT (allT t) o).2 = (doT n.l o).2 ∧ n.route = false ∧ i ∈ leavesT t := by
  have hi0 : i ∈ leavesT t := by rw [hi]; exact find_mem hs o.key
  have hi1 := hi0
  rw [leavesT_eq hs] at hi1
  obtain ⟨m, hmn, hr, hok⟩ := fits_leaf (may_fits hs) (good_of hs).nodup hi1
  rw [hn] at hmn
  cases hmn
  obtain ⟨a1, a2, a3, a4, a5, a6, a7⟩ := leafOk_parts.1 hok
  have hk : (s.bd t.ns Kb.all i).has o.key = true := (find_iff (may_fits hs) (good_of hs).nodup hi1 rfl).1 (by rw [hi, findD_eq hs])
  have hok2 : leafOk { n with l := (doT n.l o).1, stat := st } (s.bd t.ns Kb.all i) = true := leafOk_parts.2 ⟨a1, a2, a3, do_rises a4, h1, h2, fun x hx => by
    rcases do_keys hx with e | e
    · rw [e]; exact hk
    · exact a7 x e⟩
  have hms : mayT ⟨t.root, t.ns.set i { n with l := (doT n.l o).1, stat := st }⟩ = some s := by
    rw [may_set (n' := { n with l := (doT n.l o).1, stat := st }) hs hi0 hr, hok2]; rfl
  obtain ⟨A, B, e1, e2, e3, e4⟩ := flat_mid o.key (may_fits hs) (good_of hs).nodup
  have hfi : (s.find t.ns o.key).leaf = i := by rw [hi, findD_eq hs]
  rw [hfi] at e1 e4
  rw [getD_of hn] at e1
  have hall : allT t = A ++ (n.l ++ B) := by rw [← e1]; simp only [allT, leavesT_eq hs, flatS]
  have hall2 : allT ⟨t.root, t.ns.set i { n with l := (doT n.l o).1, stat := st }⟩ = A ++ ((doT n.l o).1 ++ B) := by rw [← e4 { n with l := (doT n.l o).1, stat := st }]; simp only [allT, leavesT_eq hms, flatS]
  have hrs := all_rise t
  rw [hall] at hrs
  obtain ⟨q1, q2⟩ := do_mid hrs a4 hm hu e2 e3
  exact ⟨by rw [setT_leaf hs hi0 hn, hok2]; rfl, hms, by rw [leavesT_eq hms, leavesT_eq hs], by rw [hall2, hall, q1], by rw [hall, q2], hr, hi0⟩
theorem sev_step {t : PT} {s : Sh} {p : Pol} {a : Nat} (hs : mayT t = some s) (ha : a ∈ leavesT t) : ∃ n, t.ns[a]? = some n ∧ n.route = false ∧ setT t (a : Int) n.l (nextS p n.stat 3) = some (setSt p t a) ∧ setSt p t a = ⟨t.root, t.ns.set a { n with stat := nextS p n.stat 3 }⟩ ∧ mayT (setSt p t a) = some s ∧ leavesT (setSt p t a) = leavesT t ∧ allT (setSt p t a) = allT t := by
  have ha1 := ha
  rw [leavesT_eq hs] at ha1
  obtain ⟨n, hn, hr, _⟩ := fits_leaf (may_fits hs) (good_of hs).nodup ha1
  obtain ⟨h1, h2, h3, h4⟩ := set_stat hs ha hn (next_bd p n.stat 3).1 (next_bd p n.stat 3).2
  have e : setSt p t a = ⟨t.root, t.ns.set a { n with l := n.l, stat := nextS p n.stat 3 }⟩ := by
    unfold setSt setD
    rw [getD_of hn, h1]; rfl
  exact ⟨n, hn, hr, by rw [e, h1], e, by rw [e]; exact h2, by rw [e]; exact h3, by rw [e]; exact h4⟩
theorem sev_fold {t : PT} {s : Sh} {p : Pol} {l : List Nat} (hs : mayT t = some s) (hl : ∀ a ∈ l, a ∈ leavesT t) : mayT (l.foldl (setSt p) t) = some s ∧ leavesT (l.foldl (setSt p) t) = leavesT t ∧ allT (l.foldl (setSt p) t) = allT t := by
  induction l generalizing t with
  | nil => exact ⟨hs, rfl, rfl⟩
  | cons a l ih =>
    obtain ⟨n, _, _, _, _, h1, h2, h3⟩ := sev_step (p := p) hs (hl a (by simp))
    obtain ⟨k1, k2, k3⟩ := ih h1 fun b hb => by rw [h2]; exact hl b (by simp [hb])
    exact ⟨k1, k2.trans h2, k3.trans h3⟩
theorem touch_sub {t : PT} {o : OpS} {s : Sh} (hs : mayT t = some s) : ∀ a ∈ touchT t o, a ∈ leavesT t := fun a ha => by
  unfold touchT at ha
  split at ha
  · split at ha
    · rw [List.mem_singleton.1 ha]; exact find_mem hs _
    · split at ha
      · cases ha
      · exact List.mem_of_mem_take (List.mem_of_mem_drop ha)
  · cases ha
theorem sev_keeps {t : PT} {s : Sh} {p : Pol} {l : List Nat} (hs : mayT t = some s) (hl : ∀ a ∈ l, a ∈ leavesT t) (h0 : l ≠ []) : (mayT (sevT t p l)).isSome = true ∧ allT (sevT t p l) = allT t := by
  obtain ⟨h1, h2, h3⟩ := sev_fold (p := p) hs hl
  have hm : l.headD 0 ∈ leavesT (l.foldl (setSt p) t) := by
    rw [h2]
    cases l with
    | nil => exact absurd rfl h0
    | cons a l => exact hl a (by simp)
  obtain ⟨n, hn⟩ := get_of_lt (leavesT_lt hm)
  obtain ⟨k1, _, k3⟩ := bend_keeps (p := p) h1 hm hn
  exact ⟨k1, k3.trans h3⟩
theorem upd_keeps {t : PT} {s : Sh} {p : Pol} {o : OpS} (hs : mayT t = some s) (hm : mayO o = true) (hu : updO o = true) : (mayT (updT t p o)).isSome = true ∧ allT (updT t p o) = (doT (allT t) o).1 := by
  obtain ⟨n, hn⟩ := get_of_lt (find_lt hs o.key)
  obtain ⟨h1, h2, h3, h4, h5, h6, h7⟩ := upd_set (st := nextS p n.stat 2) hs hm hu rfl hn (next_bd p n.stat 2).1 (next_bd p n.stat 2).2
  unfold updT setD
  rw [getD_of hn, h1]
  have e : (⟨t.root, t.ns.set (findD t o.key).leaf { n with l := (doT n.l o).1, stat := nextS p n.stat 2 }⟩ : PT).ns[(findD t o.key).leaf]? = some { n with l := (doT n.l o).1, stat := nextS p n.stat 2 } := List.getElem?_set_self (lt_of_get hn)
  obtain ⟨k1, _, k3⟩ := bend_keeps (p := p) h2 (by rw [h3]; exact h7) e
  exact ⟨k1, k3.trans h4⟩
theorem tree_keeps {t : PT} {s : Sh} {p : Pol} {o : OpS} (hs : mayT t = some s) (hm : mayO o = true) : (mayT (treeT t p o)).isSome = true ∧ allT (treeT t p o) = (doT (allT t) o).1 := by
  unfold treeT
  split
  · exact upd_keeps hs hm (by assumption)
  · rename_i hu
    have hr := do_read (l := allT t) (o := o) (by simpa using hu)
    split
    · rename_i h1
      obtain ⟨k1, k2⟩ := sev_keeps (p := p) hs (touch_sub hs) (fun e => by rw [e] at h1; simp at h1)
      exact ⟨k1, by rw [k2, hr]⟩
    · exact ⟨by rw [hs]; rfl, hr.symm⟩
/-- What a call leaves, and tells. -/
theorem solo_keeps {t : PT} {p : Pol} {o : OpS} (h : (mayT t).isSome = true) : (mayT (soloT t p o).1).isSome = true ∧ allT (soloT t p o).1 = (doT (allT t) o).1 ∧ (soloT t p o).2 = (doT (allT t) o).2 := by
  obtain ⟨p1, _, p3, _⟩ := plain_keeps h
  obtain ⟨s, hs⟩ := Option.isSome_iff_exists.1 p1
  unfold soloT
  rw [if_pos h]
  cases hm : mayO o
  · rw [if_neg (by simp)]
    have e := do_no (l := allT t) (o := o) (.inr hm)
    exact ⟨p1, by rw [e, p3], by rw [e]⟩
  · rw [if_pos rfl]
    obtain ⟨k1, k2⟩ := tree_keeps (p := p) hs hm
    exact ⟨k1, by rw [k2, p3], rfl⟩
theorem solo_no {t : PT} {p : Pol} {o : OpS} (h : (mayT t).isSome = false) : soloT t p o = (⟨0, []⟩, .bad) := by
  unfold soloT
  rw [if_neg (by simp [h])]
end Go.Proofs.Ytmkodknmknfdkaa
set_option linter.unusedVariables false
set_option linter.unusedSimpArgs false
namespace Go.Proofs.Ytmkodknmknfdkaa
open E
def TreeEnd (X : PT) (v : Value) (Γ : List SProp) (M : E.Loc) : Prop := ∃ u : Tr, v = u.val ∧ Γ = [ndsP u.ns, psP u.ns.l] ∧ M = [] ∧ u.p = X
theorem leaf_le {t : Tr} {s : Sh} {i : Nat} {x : Nd} (hs : mayT t.p = some s) (hm : (mayT t.p).isSome = true) (hx : t.ns.l[i]? = some x) : x.ps.l.length ≤ (allT t.p).length := by
  have h1 := all_pairs hs
  have h2 : x.p ∈ t.p.ns := List.mem_map.2 ⟨x, List.mem_of_getElem? hx, rfl⟩
  have h3 : x.p.l.length ≤ (t.p.ns.map fun n => n.l.length).sum := le_sum (List.mem_map.2 ⟨x.p, h2, rfl⟩)
  have h4 : x.p.l.length = x.ps.l.length := rfl
  rw [h1]
  simp only [pairsUpto] at *
  rw [List.take_of_length_le (by simp)]
  omega
structure AnS where
  err : Int
  ok : Bool
  p : Pr
  n : Int
  ps : Sl Pr
def AnS.a (a : AnS) : An := ⟨a.err, a.ok, a.p, a.n, a.ps.l⟩
def AnS.of (a : An) (s : Sl Pr) : AnS := ⟨a.err, a.ok, a.p, a.n, s⟩
theorem AnS.of_a {a : An} {s : Sl Pr} (h : s.l = a.l) : (AnS.of a s).a = a := by simp [AnS.of, AnS.a, h]
def rowA (a : AnS) : List Value := [.int .i64 a.err, .bool a.ok, .int .i64 a.p.k, .int .i64 a.p.v, .int .i64 a.n, a.ps.val]
def rowO (o : OpS) : List Value := [.int .i64 o.kind, .int .i64 o.key, .int .i64 o.hi, .int .i64 o.v]
def opsP (s : Sl OpS) : SProp := sl s.a s.c 4 (s.l.map rowO)
def ansP (s : Sl AnS) : SProp := sl s.a s.c 6 (s.l.map rowA)
def apsP (l : List AnS) : SProp := ⟨fun H => ∀ n ∈ l, (prsP n.ps).holds H, fun _ _ h k n hn => (prsP n.ps).mono _ _ h (k n hn)⟩
theorem apsP_nil {H : Hp} : (apsP []).holds H := fun n hn => by cases hn
theorem apsP_snoc {H : Hp} {l : List AnS} {n : AnS} (h : (apsP l).holds H) (hn : (prsP n.ps).holds H) : (apsP (l ++ [n])).holds H := fun m hm => by
  rcases List.mem_append.1 hm with h' | h'
  · exact h m h'
  · rw [List.mem_singleton.1 h']; exact hn
def SoloEnd (t : PT) (p : Pol) (o : OpS) (v : Value) (Γ : List SProp) (M : E.Loc) : Prop := ∃ (u : Tr) (s2 : Sl Pr), v = .tuple #[u.val, (soloT t p o).2.val s2] ∧ Γ = [ndsP u.ns, psP u.ns.l, prsP s2] ∧ M = [] ∧ u.p = (soloT t p o).1 ∧ s2.l = (soloT t p o).2.l
def run2 (p : Pol) (t : PT) (l : List OpS) : PT × List An := l.foldl (fun q o => ((soloT q.1 p o).1, q.2 ++ [(soloT q.1 p o).2])) (t, [])
def runT (t : PT) (p : Pol) (l : List OpS) : PT × List An := if (mayT t).isSome then run2 p (plainD t) l else (⟨0, []⟩, [])
theorem run_step {p : Pol} {t : PT} {l : List OpS} {k : Nat} {o : OpS} (h : l[k]? = some o) : run2 p t (l.take (k + 1)) = ((soloT (run2 p t (l.take k)).1 p o).1, (run2 p t (l.take k)).2 ++ [(soloT (run2 p t (l.take k)).1 p o).2]) := by
  unfold run2
  rw [List.take_succ_eq_append_getElem (lt_of_get h), List.foldl_append, (List.getElem?_eq_some_iff.1 h).2]
  rfl
theorem run_keeps {p : Pol} {t : PT} {l : List OpS} (h : (mayT t).isSome = true) (k : Nat) : (mayT (run2 p t (l.take k)).1).isSome = true ∧ (allT (run2 p t (l.take k)).1).length ≤ (allT t).length + k ∧ (run2 p t (l.take k)).2.length = min k l.length := by
  induction k with
  | zero => simp [run2, h]
  | succ k ih =>
    obtain ⟨h1, h2, h3⟩ := ih
    cases ho : l[k]? with
    | none =>
      have h4 : l.length ≤ k := List.getElem?_eq_none_iff.1 ho
      rw [List.take_of_length_le h4] at h1 h2 h3
      rw [List.take_of_length_le (by omega)]
      exact ⟨h1, by omega, by omega⟩
    | some o =>
      have h5 := lt_of_get ho
      obtain ⟨k1, k2, k3⟩ := solo_keeps (p := p) (o := o) h1
      have h6 := do_len (allT (run2 p t (l.take k)).1) o
      rw [run_step ho]
      refine ⟨k1, ?_, ?_⟩
      · show (allT (soloT _ p o).1).length ≤ _
        rw [k2]; omega
      · simp only [List.length_append, List.length_singleton]; omega
def RunEnd (t : PT) (p : Pol) (l : List OpS) (v : Value) (Γ : List SProp) (M : E.Loc) : Prop :=
  ∃ (u : Tr) (r : Sl AnS), v = .tuple #[u.val, r.val] ∧ Γ = [ndsP u.ns, psP u.ns.l, ansP r, apsP r.l] ∧ M = [] ∧ u.p = (runT t p l).1 ∧ r.l.map AnS.a = (runT t p l).2
theorem solo_plain {t : PT} {p : Pol} {o : OpS} (h : (mayT t).isSome = true) (hm : mayO o = true) : soloT t p o = (treeT (plainD t) p o, (doT (allT t) o).2) := by
  unfold soloT
  rw [if_pos h, if_pos hm]
theorem solo_badop {t : PT} {p : Pol} {o : OpS} (h : (mayT t).isSome = true) (hm : mayO o = false) : soloT t p o = (plainD t, .bad) := by
  unfold soloT
  rw [if_pos h, if_neg (by simp [hm])]
theorem tree_upd {t : PT} {p : Pol} {o : OpS} (h : updO o = true) : treeT t p o = updT t p o := by unfold treeT; rw [if_pos h]
theorem tree_sev {t : PT} {p : Pol} {o : OpS} (h : updO o = false) (h1 : 1 < (touchT t o).length) : treeT t p o = sevT t p (touchT t o) := by unfold treeT; rw [if_neg (by simp [h]), if_pos h1]
theorem tree_same {t : PT} {p : Pol} {o : OpS} (h : updO o = false) (h1 : ¬ 1 < (touchT t o).length) : treeT t p o = t := by unfold treeT; rw [if_neg (by simp [h]), if_neg h1]
theorem touch_get {t : PT} {o : OpS} (h : o.kind = 4) : ¬ 1 < (touchT t o).length := by
  unfold touchT
  split
  · rw [if_pos (by omega)]; simp
  · simp
end Go.Proofs.Ytmkodknmknfdkaa
