/- Policies and stats, as plain functions; a leaf bent. -/
import Derived.Test.YtmkodknmknfdkaaP18
import Derived.Test.YtmkodknmknfdkaaE14
set_option linter.unusedVariables false
set_option linter.unusedSimpArgs false
namespace Go.Proofs.Ytmkodknmknfdkaa
open E

def hold (n lo hi : Int) : Int := min (max n lo) hi
theorem hold_other (n lo hi : Int) (h : lo ≤ hi) : max lo (min n hi) = hold n lo hi := by unfold hold; omega
structure Pol where
  high : Int
  low : Int
  cont : Int
  uncont : Int
  multi : Int
  deriving DecidableEq
def Pol.val (p : Pol) : Value := .agg #[.int .i64 p.high, .int .i64 p.low, .int .i64 p.cont, .int .i64 p.uncont, .int .i64 p.multi]
def Pol.clamp (p : Pol) : Pol := ⟨hold p.high 1 100000, hold p.low (-100000) 0, hold p.cont (-100000) 100000, hold p.uncont (-100000) 100000, hold p.multi (-100000) 100000⟩
def Pol.off : Pol := ⟨100000, -100000, 0, 0, 0⟩
def Pol.eager : Pol := ⟨1, -1, 2, -1, 3⟩
theorem Pol.clamp_bd (p : Pol) : 1 ≤ p.clamp.high ∧ p.clamp.high ≤ 100000 ∧ -100000 ≤ p.clamp.low ∧ p.clamp.low ≤ 0 ∧ -100000 ≤ p.clamp.cont ∧ p.clamp.cont ≤ 100000 ∧
    -100000 ≤ p.clamp.uncont ∧ p.clamp.uncont ≤ 100000 ∧ -100000 ≤ p.clamp.multi ∧ p.clamp.multi ≤ 100000 := by
  simp only [Pol.clamp, hold]; omega
def heldS (n : Int) : Int := hold n (-1000000) 1000000
theorem heldS_bd (n : Int) : -1000000 ≤ heldS n ∧ heldS n ≤ 1000000 := by unfold heldS hold; omega
def pushed (p : Pol) (s w : Int) : Int := if w = 1 then heldS s + p.clamp.cont else if w = 2 then heldS s - p.clamp.uncont else if w = 3 then heldS s - p.clamp.multi else heldS s
def nextS (p : Pol) (s w : Int) : Int := heldS (pushed p s w)
def decideS (p : Pol) (s : Int) : Int := if p.clamp.high < heldS s then 1 else if heldS s < p.clamp.low then 2 else 0
theorem decideS_cases (p : Pol) (s : Int) : decideS p s = 0 ∨ decideS p s = 1 ∨ decideS p s = 2 := by
  unfold decideS
  split
  · exact .inr (.inl rfl)
  · split
    · exact .inr (.inr rfl)
    · exact .inl rfl
/-- A leaf, bent as its stat says. -/
def bendT (t : PT) (p : Pol) (a : Int) : PT × Int := if leafT t a then (match t.ns[a.toNat]? with
  | none => (⟨0, []⟩, 0)
  | some n => if decideS p n.stat = 1 ∧ (splitT t a).isSome = true then (optD (splitT t a), 1) else if decideS p n.stat = 2 ∧ (joinT t a).isSome = true then (optD (joinT t a), 2) else (plainD t, 0)) else (⟨0, []⟩, 0)
theorem bend_no {t : PT} {p : Pol} {a : Int} (h : leafT t a = false) : bendT t p a = (⟨0, []⟩, 0) := by simp [bendT, h]
theorem bend_eq {t : PT} {p : Pol} {i : Nat} {n : Nod} (h : leafT t (i : Int) = true) (hn : t.ns[i]? = some n) :
    bendT t p (i : Int) = if decideS p n.stat = 1 ∧ (splitT t (i : Int)).isSome = true then (optD (splitT t (i : Int)), 1) else if decideS p n.stat = 2 ∧ (joinT t (i : Int)).isSome = true then (optD (joinT t (i : Int)), 2) else (plainD t, 0) := by
  unfold bendT
  rw [if_pos h]
  simp only [Int.toNat_natCast, hn]
def BendEnd (x : PT × Int) (v : Value) (Γ : List SProp) (M : E.Loc) : Prop := ∃ u : Tr, v = .tuple #[u.val, .int .i64 x.2] ∧ Γ = [ndsP u.ns, psP u.ns.l] ∧ M = [] ∧ u.p = x.1
/-- Two pairs can be split. -/
theorem split_can {t : PT} {s : Sh} {i : Nat} {n : Nod} (hs : mayT t = some s) (hi : i ∈ leavesT t) (hn : t.ns[i]? = some n) (hN : t.ns.length + 2 ≤ 2000) : (splitT t (i : Int)).isSome = decide (2 ≤ n.l.length) := by
  have hl := leaf_of_leaves hi
  by_cases h2 : 2 ≤ n.l.length
  · rw [decide_eq_true h2, split_raw hl hn (by omega) (by omega), plainT_some]
    rw [leavesT_eq hs] at hi
    obtain ⟨g1, g2, g3, g4, g5, g6, _⟩ := split_fits (may_fits hs) (good_of hs).nodup hi hn h2
    have hm : mayT (splitRaw t i n) = some (s.split i t.ns.length) := by
      rw [splitRaw_eq]
      refine may_of_fits (by simp [spNs]; omega) g1 g6 fun p hp => ?_
      rw [g5]
      simp [spNs] at hp
      rcases Nat.lt_or_ge p t.ns.length with h3 | h3
      · exact .inl ((good_of hs).all p h3)
      · omega
    rw [hm]
    rfl
  · rw [decide_eq_false h2, split_few hn (by omega)]
    rfl
/-- A leaf's stat anew. -/
theorem set_stat {t : PT} {s : Sh} {i : Nat} {n : Nod} {st : Int} (hs : mayT t = some s) (hi : i ∈ leavesT t) (hn : t.ns[i]? = some n) (h1 : -1000000 ≤ st) (h2 : st ≤ 1000000) :
    setT t (i : Int) n.l st = some ⟨t.root, t.ns.set i { n with l := n.l, stat := st }⟩ ∧ mayT ⟨t.root, t.ns.set i { n with l := n.l, stat := st }⟩ = some s ∧ leavesT ⟨t.root, t.ns.set i { n with l := n.l, stat := st }⟩ = leavesT t ∧ allT ⟨t.root, t.ns.set i { n with l := n.l, stat := st }⟩ = allT t := by
  have hi0 := hi
  rw [leavesT_eq hs] at hi
  obtain ⟨m, hmn, hr, hok⟩ := fits_leaf (may_fits hs) (good_of hs).nodup hi
  rw [hn] at hmn
  cases hmn
  obtain ⟨o1, o2, o3, o4, o5, o6, o7⟩ := leafOk_parts.1 hok
  have hok2 : leafOk { n with l := n.l, stat := st } (s.bd t.ns Kb.all i) = true := leafOk_parts.2 ⟨o1, o2, o3, o4, h1, h2, o7⟩
  have hm : mayT ⟨t.root, t.ns.set i { n with l := n.l, stat := st }⟩ = some s := by
    rw [may_set (n' := { n with l := n.l, stat := st }) hs hi0 hr, hok2]; rfl
  have hlv : leavesT ⟨t.root, t.ns.set i { n with l := n.l, stat := st }⟩ = leavesT t := by rw [leavesT_eq hm, leavesT_eq hs]
  refine ⟨by rw [setT_leaf hs hi0 hn, hok2]; rfl, hm, hlv, ?_⟩
  unfold allT
  rw [hlv]
  refine flat_congr fun p hp => ?_
  by_cases hpi : i = p
  · subst hpi
    have e : (t.ns.set i { n with l := n.l, stat := st })[i]? = some { n with l := n.l, stat := st } := List.getElem?_set_self (lt_of_get hn)
    rw [getD_of e, getD_of hn]
  · rw [List.getD_eq_getElem?_getD, List.getD_eq_getElem?_getD, List.getElem?_set_ne hpi]
theorem plain_keeps {t : PT} (h : (mayT t).isSome = true) : (mayT (plainD t)).isSome = true ∧ (leavesT (plainD t)).length = (leavesT t).length ∧ allT (plainD t) = allT t ∧ plainD (plainD t) = plainD t := by
  obtain ⟨s, hs⟩ := Option.isSome_iff_exists.1 h
  obtain ⟨p1, p2, p3⟩ := plain_may hs
  exact ⟨by rw [p2]; rfl, by rw [leavesT_eq p2, straight_leaves, leavesT_eq hs], by rw [all_plain, p3, ← all_plain], p3⟩
/-- By how many leaves there are more. -/
def byT (d : Int) : Int := if d = 1 then 1 else if d = 2 then -1 else 0
theorem bend_keeps {t : PT} {s : Sh} {p : Pol} {i : Nat} {n : Nod} (hs : mayT t = some s) (hi : i ∈ leavesT t) (hn : t.ns[i]? = some n) :
    (mayT (bendT t p (i : Int)).1).isSome = true ∧ (((leavesT (bendT t p (i : Int)).1).length : Nat) : Int) = (leavesT t).length + byT (bendT t p (i : Int)).2 ∧ allT (bendT t p (i : Int)).1 = allT t := by
  rw [bend_eq (leaf_of_leaves hi) hn]
  split
  · rename_i h
    obtain ⟨k1, k2, k3, _⟩ := split_opt rfl h.2
    exact ⟨k1, by rw [k2]; simp [byT], k3⟩
  · split
    · rename_i h
      obtain ⟨k1, k2, k3, _⟩ := join_opt rfl h.2
      exact ⟨k1, by simp [byT]; omega, k3⟩
    · obtain ⟨k1, k2, k3, _⟩ := plain_keeps (t := t) (by rw [hs]; rfl)
      exact ⟨k1, by rw [k2]; simp [byT], k3⟩
theorem by_look {w d : Int} (h : w = d) : ((mupd (mupd (mupd (fun _ => none) 0 0) 1 1) 2 (-1)) w).getD 0 = byT d := by
  subst h
  unfold mupd byT
  by_cases h2 : w = 2
  · subst h2; rfl
  · by_cases h1 : w = 1
    · subst h1; rfl
    · rw [if_neg h2, if_neg h1, if_neg h1, if_neg h2]
      split <;> rfl
theorem byT_bd (d : Int) : -1 ≤ byT d ∧ byT d ≤ 1 := by
  unfold byT
  split
  · omega
  · split <;> omega
theorem hundred (a : Int) : ∃ c : Nat, c < 100 ∧ IntKind.i64.wrap (Int.tmod (IntKind.u64.wrap a) 100) = (c : Int) := by
  obtain ⟨A, hA⟩ := Int.eq_ofNat_of_zero_le (show 0 ≤ IntKind.u64.wrap a by rw [wrapU]; omega)
  refine ⟨A % 100, Nat.mod_lt _ (by decide), ?_⟩
  rw [hA]
  have e2 : Int.tmod (A : Int) (100 : Int) = ((A % 100 : Nat) : Int) := rfl
  rw [e2]
  have : A % 100 < 100 := Nat.mod_lt _ (by decide)
  exact wrapI (by omega) (by omega)
/-- What is done to a leaf. -/
theorem bend_what {t : PT} {s : Sh} {p : Pol} {i : Nat} {n : Nod} (hs : mayT t = some s) (hi : i ∈ leavesT t) (hn : t.ns[i]? = some n) (hN : t.ns.length + 2 ≤ 2000) {w d : Int} {k len : Nat} (hw : w = decideS p n.stat) (hd : d = (bendT t p (i : Int)).2) (hk : k = n.l.length) (hlen : len = (leavesT t).length) :
    (w = 0 ∧ d = 0) ∨ (w = 1 ∧ k < 2 ∧ d = 0) ∨ (w = 1 ∧ 2 ≤ k ∧ d = 1) ∨ (w = 2 ∧ len = 1 ∧ d = 0) ∨ (w = 2 ∧ 1 < len ∧ d = 2) := by
  subst hw hd hk hlen
  have h1 := split_can hs hi hn hN
  have h2 := join_iff hs hi
  have h3 := leavesT_pos hs
  rw [bend_eq (leaf_of_leaves hi) hn]
  rcases decideS_cases p n.stat with h | h | h
  · rw [h, if_neg (fun e => absurd e.1 (by decide)), if_neg (fun e => absurd e.1 (by decide))]
    exact .inl ⟨rfl, rfl⟩
  · by_cases hk : 2 ≤ n.l.length
    · rw [decide_eq_true hk] at h1
      rw [if_pos ⟨h, h1⟩]
      exact .inr (.inr (.inl ⟨h, hk, rfl⟩))
    · rw [decide_eq_false hk] at h1
      rw [if_neg (fun e => by rw [h1] at e; exact absurd e.2 (by decide)), if_neg (fun e => by rw [h] at e; exact absurd e.1 (by decide))]
      exact .inr (.inl ⟨h, by omega, rfl⟩)
  · rw [if_neg (fun e => by rw [h] at e; exact absurd e.1 (by decide))]
    by_cases hk : 1 < (leavesT t).length
    · rw [decide_eq_true hk] at h2
      rw [if_pos ⟨h, h2⟩]
      exact .inr (.inr (.inr (.inr ⟨h, hk, rfl⟩)))
    · rw [decide_eq_false hk] at h2
      rw [if_neg (fun e => by rw [h2] at e; exact absurd e.2 (by decide))]
      exact .inr (.inr (.inr (.inl ⟨h, by omega, rfl⟩)))
end Go.Proofs.Ytmkodknmknfdkaa
