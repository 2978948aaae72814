/- Plain laws: trees split and joined. -/
import Derived.Test.YtmkodknmknfdkaaP12
import Derived.Test.YtmkodknmknfdkaaE13
set_option linter.unusedVariables false
set_option linter.unusedSimpArgs false
namespace Go.Proofs.Ytmkodknmknfdkaa
open E

/-! ### Split -/
def splitRaw (t : PT) (i : Nat) (n : Nod) : PT :=
  ⟨t.root, t.ns.set i ⟨true, (n.l.getD (n.l.length / 2) default).k, (t.ns.length : Int), (t.ns.length : Int) + 1, [], 0⟩ ++ [⟨false, 0, 0, 0, n.l.take (n.l.length / 2), 0⟩, ⟨false, 0, 0, 0, n.l.drop (n.l.length / 2), 0⟩]⟩
def splitT (t : PT) (a : Int) : Option PT := if leafT t a then (match t.ns[a.toNat]? with
  | none => none
  | some n => if n.l.length < 2 then none else if 2000 < t.ns.length + 2 then none else plainT (splitRaw t a.toNat n)) else none
def optD (o : Option PT) : PT := o.getD ⟨0, []⟩
theorem split_no {t : PT} {a : Int} (h : leafT t a = false) : splitT t a = none := by simp [splitT, h]
theorem split_few {t : PT} {i : Nat} {n : Nod} (hn : t.ns[i]? = some n) (h : n.l.length < 2) : splitT t (i : Int) = none := by
  unfold splitT
  split
  · simp only [Int.toNat_natCast, hn, if_pos h]
  · rfl
theorem split_big {t : PT} {i : Nat} (h : 2000 < t.ns.length + 2) : splitT t (i : Int) = none := by
  unfold splitT
  split
  · split
    · rfl
    · split
      · rfl
      · first | rfl | rw [if_pos h]
  · rfl
theorem split_raw {t : PT} {i : Nat} {n : Nod} (hl : leafT t (i : Int) = true) (hn : t.ns[i]? = some n) (h1 : ¬ n.l.length < 2) (h2 : ¬ 2000 < t.ns.length + 2) : splitT t (i : Int) = plainT (splitRaw t i n) := by
  unfold splitT
  rw [if_pos hl]
  simp only [Int.toNat_natCast, hn, if_neg h1, if_neg h2]
def SplitEnd (o : Option PT) (v : Value) (Γ : List SProp) (M : E.Loc) : Prop := ∃ u : Tr, v = .tuple #[u.val, .bool o.isSome] ∧ Γ = [ndsP u.ns, psP u.ns.l] ∧ M = [] ∧ u.p = optD o
theorem plainT_some (t : PT) : (plainT t).isSome = (mayT t).isSome := by unfold plainT; cases mayT t <;> rfl
theorem prs_take {H : Hp} {s : Sl Pr} {m : Nat} (h : (prsP s).holds H) (hm : m ≤ s.l.length) : (prsP ⟨subA s.a s.c 2 0, s.c, s.l.take m⟩).holds H := by
  have h1 := sl_sub (l := 0) (h := m) h (Nat.zero_le _) (by simpa using hm)
  simpa [prsP, List.map_take] using h1
theorem prs_drop {H : Hp} {s : Sl Pr} {m : Nat} (h : (prsP s).holds H) (hm : m ≤ s.l.length) : (prsP ⟨subA s.a s.c 2 m, s.c - m, s.l.drop m⟩).holds H := by
  have h1 := sl_sub (l := m) (h := s.l.length) h hm (by simp)
  have e : ((s.l.map rowP).drop m).take (s.l.length - m) = (s.l.drop m).map rowP := by
    rw [← List.map_drop, List.take_of_length_le (by simp)]
  rw [e] at h1
  exact h1
theorem half_wrap (n : Nat) (h : n ≤ 1000000) : IntKind.i64.wrap (Int.tdiv (n : Int) 2) = ((n / 2 : Nat) : Int) := by
  have e : Int.tdiv (n : Int) 2 = ((n / 2 : Nat) : Int) := rfl
  rw [e]
  exact wrapI (by omega) (by omega)
theorem app2_val (r : Int) (a : Option Addr) (c : Nat) (l : List Nd) (i : Nat) (m x y : Nd) : Tr.val ⟨r, ⟨a, c, l.set i m ++ [x, y]⟩⟩ = .agg #[.int .i64 r, .slice a (l.length + 2) c] := by simp [Tr.val, Sl.val]
theorem take_val {s : Sl Pr} {m : Nat} (h : m ≤ s.l.length) : Sl.val (⟨subA s.a s.c 2 0, s.c, s.l.take m⟩ : Sl Pr) = .slice (subA s.a s.c 2 0) m s.c := by
  simp [Sl.val]; omega
theorem drop_val {s : Sl Pr} {m : Nat} : Sl.val (⟨subA s.a s.c 2 m, s.c - m, s.l.drop m⟩ : Sl Pr) = .slice (subA s.a s.c 2 m) (s.l.length - m) (s.c - m) := by simp [Sl.val]

theorem split_small {l : List Nd} {i : Nat} {y : Nd} {k : Int} {N1 N2 : Int} {a1 a2 : Option Addr} {c1 c2 m : Nat} (h : smallP l) (hy : y.ps.l.length ≤ 1000000) :
    smallP (l.set i (⟨true, k, N1, N2, ⟨none, 0, []⟩, 0⟩ : Nd) ++ [(⟨false, 0, 0, 0, ⟨a1, c1, y.ps.l.take m⟩, 0⟩ : Nd), (⟨false, 0, 0, 0, ⟨a2, c2, y.ps.l.drop m⟩, 0⟩ : Nd)]) := fun n hn => by
  rcases List.mem_append.1 hn with hn | hn
  · exact small_set h (by simp) n hn
  · rcases List.mem_cons.1 hn with rfl | hn
    · simp; omega
    · rw [List.mem_singleton.1 hn]; simp; omega
theorem split_p {u : Tr} {t : PT} {i : Nat} {n : Nod} {y : Nd} {a a1 a2 : Option Addr} {c c1 c2 : Nat} (h : u.p = t) (hy : y.ps.l = n.l) (hl : u.ns.l.length = t.ns.length) :
    (⟨u.root, ⟨a, c, u.ns.l.set i (⟨true, (y.ps.l.getD (y.ps.l.length / 2) default).k, (u.ns.l.length : Int), (u.ns.l.length : Int) + 1, ⟨none, 0, []⟩, 0⟩ : Nd) ++
      [(⟨false, 0, 0, 0, ⟨a1, c1, y.ps.l.take (y.ps.l.length / 2)⟩, 0⟩ : Nd), (⟨false, 0, 0, 0, ⟨a2, c2, y.ps.l.drop (y.ps.l.length / 2)⟩, 0⟩ : Nd)]⟩⟩ : Tr).p = splitRaw t i n := by
  subst h
  rw [hl, hy]
  simp [Tr.p, Nd.p, splitRaw, List.map_set]
/-! ### Rows of pairs, one behind the other -/
def rowS (z : Sl Pr) : List Value := [z.val]
def slsP (s : Sl (Sl Pr)) : SProp := sl s.a s.c 1 (s.l.map rowS)
def allS (l : List (Sl Pr)) : SProp := ⟨fun H => ∀ z ∈ l, (prsP z).holds H, fun _ _ h k z hz => (prsP z).mono _ _ h (k z hz)⟩
theorem allS2 {H : Hp} {x y : Sl Pr} (hx : (prsP x).holds H) (hy : (prsP y).holds H) : (allS [x, y]).holds H := fun z hz => by
  rcases List.mem_cons.1 hz with rfl | hz
  · exact hx
  · rw [List.mem_singleton.1 hz]; exact hy
theorem allS_get {H : Hp} {l : List (Sl Pr)} {k : Nat} {z : Sl Pr} (h : (allS l).holds H) (hz : l[k]? = some z) : (prsP z).holds H := h z (List.mem_of_getElem? hz)
def catU (l : List (Sl Pr)) (k : Nat) : List Pr := (l.take k).flatMap (·.l)
theorem cat_step {l : List (Sl Pr)} {k : Nat} {z : Sl Pr} (h : l[k]? = some z) : catU l (k + 1) = catU l k ++ z.l := by
  rw [catU, catU, List.take_succ_eq_append_getElem (lt_of_get h), List.flatMap_append, (List.getElem?_eq_some_iff.1 h).2]
  simp
theorem cat_le {l : List (Sl Pr)} (h : ∀ z ∈ l, z.l.length ≤ 1000000) : ∀ k, k ≤ l.length → (catU l k).length ≤ k * 1000000
  | 0, _ => by simp [catU]
  | k + 1, hk => by
    obtain ⟨z, hz⟩ := get_of_lt (l := l) (i := k) (by omega)
    have h1 := cat_le h k (by omega)
    have h2 := h z (List.mem_of_getElem? hz)
    rw [cat_step hz, List.length_append, Nat.succ_mul]
    omega
theorem cat2 (x y : Sl Pr) : catU [x, y] 2 = x.l ++ y.l := by simp [catU]

/-! ### Laid anew -/
def outBox (b : Nat) (a : Option Addr) (n c : Nat) : E.Seg := [(b, .cells #[.int .i64 0, .slice a n c] 24 (0, 0))]
def Lay110End (t : Tr) (s : Sh) (b : Nat) (o : List Nd) (v : Value) (Γ : List SProp) (M : E.Loc) : Prop :=
  ∃ (o' : List Nd) (a' : Option Addr) (c' : Nat) (M' : E.Seg), v = .int .i64 (o.length : Int) ∧ Γ = [psP o'] ∧ M = [outBox b a' (o ++ o').length c', M'] ∧ E.Own 33 6 ((o ++ o').map rowN) a' c' M' ∧ o'.map Nd.p = s.lay t.p.ns o.length
def Lay110 (t : Tr) (s : Sh) : Prop := ∀ (at_ : Int), Hangs t.p.ns s at_ → ∀ (b : Nat) (o : List Nd) (a : Option Addr) (c : Nat) (Mo : E.Seg), E.Own 33 6 (o.map rowN) a c Mo → o.length + s.size ≤ 1000000 →
  Con Try.prog 110 [t.val, .int .i64 at_, .pointer (some ⟨b, 0, none⟩)] [ndsP t.ns, psP t.ns.l] [outBox b a o.length c, Mo] (Lay110End t s b o)
theorem E.At.piece0 {X : Cx} {n : Nat} {K : Act → World → Prop} {env : E.Env} {Γ : List SProp} {L : E.Loc} {S : E.Seg} (S' : E.Seg) (h : S = S') (k : E.At X n K env Γ (S' :: L)) : E.At X n K env Γ (S :: L) := h ▸ k
theorem lay110_end {t : Tr} {i : Nat} {x n : Nd} {l r : Sh} {b : Nat} {o o1 o2 : List Nd} {a : Option Addr} {c : Nat} {M : E.Seg} {q : List Nd} {N : Nat} (hO : E.Own 33 6 (((o ++ n :: o1) ++ o2).map rowN) a c M) (hg : t.p.ns.getD i default = x.p) (hl1 : o1.length = l.size)
    (he1 : o1.map Nd.p = l.lay t.p.ns (o ++ q).length) (he2 : o2.map Nd.p = r.lay t.p.ns (o ++ n :: o1).length) (hq : q.length = 1) (hN : N = ((o ++ n :: o1) ++ o2).length)
    (hn : n = { x with left := ((o.length + 1 : Nat) : Int), right := ((o.length + 1 + o1.length : Nat) : Int) }) : Lay110End t (.node i l r) b o (.int .i64 (o.length : Int)) [psP (n :: (o1 ++ o2))] [outBox b a N c, M] := by
  subst hN
  refine ⟨n :: (o1 ++ o2), a, c, M, rfl, rfl, by simp, by simpa using hO, ?_⟩
  simp only [Sh.lay, hg, List.map_cons, List.map_append]
  rw [he1, he2, hn]
  simp only [Nd.p, List.length_append, List.length_cons, hq, hl1]
  rw [show o.length + (l.size + 1) = o.length + 1 + l.size by omega]
def LaidEnd (s : Sh) (ns : List Nod) (v : Value) (Γ : List SProp) (M : E.Loc) : Prop :=
  ∃ (u : Tr) (M' : E.Seg), v = u.val ∧ Γ = [psP u.ns.l] ∧ M = [M'] ∧ E.Own 33 6 (u.ns.l.map rowN) u.ns.a u.ns.c M' ∧ u.p = ⟨0, s.lay ns 0⟩

/-! ### Joined -/
def Sh.cut (i : Nat) : Sh → Sh
  | .leaf j => .leaf j
  | .node j l r => if l = .leaf i then r else if r = .leaf i then l else .node j (l.cut i) (r.cut i)
def Sh.re (q : Nat) : Sh → Sh
  | .leaf _ => .leaf q
  | .node _ l r => .node q l r
def Sh.cutR (i : Nat) : Sh → Sh
  | .leaf j => .leaf j
  | .node j l r => if l = .leaf i then r.re j else if r = .leaf i then l.re j else .node j (l.cutR i) (r.cutR i)
def joinN (ns : List Nod) (i m : Nat) (side : Bool) : Nod := ⟨false, 0, 0, 0, if side then (ns.getD m default).l ++ (ns.getD i default).l else (ns.getD i default).l ++ (ns.getD m default).l, 0⟩
def joinT (t : PT) (a : Int) : Option PT := if leafT t a then (match mayT t with
  | none => none
  | some s => match s.nb a.toNat with
    | none => none
    | some (_, side, m) => some ⟨0, (s.cut a.toNat).lay (t.ns.set m (joinN t.ns a.toNat m side)) 0⟩) else none
theorem join_next {t : PT} {a : Int} : (joinT t a).isSome = (nextT t a).isSome := by
  unfold joinT nextT
  split
  · cases mayT t with
    | none => rfl
    | some s =>
      simp only []
      cases s.nb a.toNat with
      | none => rfl
      | some x => rfl
  · rfl
theorem join_no {t : PT} {a : Int} (h : (nextT t a).isSome = false) : joinT t a = none := none_of (by rw [join_next]; exact h)
theorem join_eq {t : PT} {s : Sh} {i q m : Nat} {side : Bool} (hs : mayT t = some s) (hl : leafT t (i : Int) = true) (h : s.nb i = some (q, side, m)) : joinT t (i : Int) = some ⟨0, (s.cut i).lay (t.ns.set m (joinN t.ns i m side)) 0⟩ := by
  simp [joinT, hl, hs, h]
theorem hangs_congr {ns ns' : List Nod} {s : Sh} {a : Int} (h : Hangs ns s a) (he : ∀ p ∈ s.places, ns'[p]? = ns[p]?) : Hangs ns' s a := by
  induction s generalizing a with
  | leaf i =>
    obtain ⟨rfl, n, hn, hr⟩ := h
    exact ⟨rfl, n, by rw [he i (by simp [Sh.places])]; exact hn, hr⟩
  | node i l r h1 h2 =>
    obtain ⟨rfl, n, hn, hr, hl, hr'⟩ := h
    exact ⟨rfl, n, by rw [he i (by simp [Sh.places])]; exact hn, hr, h1 hl fun p hp => he p (by simp [Sh.places, hp]), h2 hr' fun p hp => he p (by simp [Sh.places, hp])⟩
theorem lay_congr {ns ns' : List Nod} {s : Sh} (he : ∀ p ∈ s.places, ns'[p]? = ns[p]?) (b : Nat) : s.lay ns' b = s.lay ns b := by
  induction s generalizing b with
  | leaf i => simp only [Sh.lay, List.getD_eq_getElem?_getD, he i (by simp [Sh.places])]
  | node i l r h1 h2 =>
    simp only [Sh.lay, List.getD_eq_getElem?_getD, he i (by simp [Sh.places])]
    rw [h1 fun p hp => he p (by simp [Sh.places, hp]), h2 fun p hp => he p (by simp [Sh.places, hp])]
theorem hangs_leafset {ns : List Nod} {s : Sh} {a : Int} {m : Nat} {n n' : Nod} (h : Hangs ns s a) (hn : ns[m]? = some n) (hr : n.route = false) (hr' : n'.route = false) : Hangs (ns.set m n') s a := by
  have key : ∀ (j : Nat) (x : Nod), ns[j]? = some x → ∃ y, (ns.set m n')[j]? = some y ∧ y.route = x.route ∧ (x.route = true → y = x) := by
    intro j x hx
    by_cases hij : m = j
    · subst hij
      rw [hn] at hx
      cases hx
      exact ⟨n', by rw [List.getElem?_set]; simp [lt_of_get hn], by rw [hr, hr'], fun h => by rw [hr] at h; cases h⟩
    · exact ⟨x, by rw [List.getElem?_set_ne hij]; exact hx, rfl, fun _ => rfl⟩
  induction s generalizing a with
  | leaf j =>
    obtain ⟨rfl, x, hx, hxr⟩ := h
    obtain ⟨y, hy, hyr, _⟩ := key j x hx
    exact ⟨rfl, y, hy, by rw [hyr, hxr]⟩
  | node j l r h1 h2 =>
    obtain ⟨rfl, x, hx, hxr, hl, hrr⟩ := h
    obtain ⟨y, hy, hyr, hyx⟩ := key j x hx
    have hyx := hyx hxr
    subst hyx
    exact ⟨rfl, y, hy, hxr, h1 hl, h2 hrr⟩
/-- What hangs on the other side, put in its route's place. -/
theorem re_hangs {ns : List Nod} {r : Sh} {b : Int} {j : Nat} {z : Nod} (h : Hangs ns r b) (hj : j ∉ r.places) (hjl : j < ns.length) (hz : ns[r.at_]? = some z) : Hangs (ns.set j z) (r.re j) (j : Int) ∧ ∀ c, (r.re j).lay (ns.set j z) c = r.lay ns c := by
  have hset : (ns.set j z)[j]? = some z := by rw [List.getElem?_set]; simp [hjl]
  have hoff : ∀ p, p ∈ r.places → (ns.set j z)[p]? = ns[p]? := fun p hp => List.getElem?_set_ne (fun e => hj (by rw [e]; exact hp))
  cases r with
  | leaf i =>
    obtain ⟨_, n, hn, hr⟩ := h
    have hn' : ns[i]? = some z := hz
    rw [hn] at hn'
    obtain rfl := Option.some.inj hn'
    exact ⟨⟨rfl, _, hset, hr⟩, fun c => by simp only [Sh.re, Sh.lay, getD_of hset, getD_of hn]⟩
  | node i l r =>
    obtain ⟨_, n, hn, hr, hl, hr'⟩ := h
    have hn' : ns[i]? = some z := hz
    rw [hn] at hn'
    obtain rfl := Option.some.inj hn'
    have e1 : ∀ p ∈ l.places, (ns.set j n)[p]? = ns[p]? := fun p hp => hoff p (by simp [Sh.places, hp])
    have e2 : ∀ p ∈ r.places, (ns.set j n)[p]? = ns[p]? := fun p hp => hoff p (by simp [Sh.places, hp])
    refine ⟨⟨rfl, _, hset, hr, hangs_congr hl e1, hangs_congr hr' e2⟩, fun c => ?_⟩
    simp only [Sh.re, Sh.lay, getD_of hset, getD_of hn]
    rw [lay_congr e1, lay_congr e2]
/-- Without a leaf: its route holds what was on the other side. -/
theorem cutR_hangs {ns : List Nod} {s : Sh} {a : Int} {i q m : Nat} {side : Bool} {n z : Nod} (h : Hangs ns s a) (hnd : s.places.Nodup) (hnb : s.nb i = some (q, side, m)) (hq : ns[q]? = some n) (hz : ns[(kidN n (!side)).toNat]? = some z) :
    Hangs (ns.set q z) (s.cutR i) a ∧ ∀ c, (s.cutR i).lay (ns.set q z) c = (s.cut i).lay ns c := by
  induction s generalizing a with
  | leaf j => cases hnb
  | node j l r h1 h2 =>
    obtain ⟨rfl, x, hx, hxr, hl, hrr⟩ := h
    obtain ⟨c1, c2, d1, d2, d3⟩ := nodup_node hnd
    simp only [Sh.nb] at hnb
    simp only [Sh.cutR, Sh.cut]
    split at hnb
    · rename_i e
      cases hnb
      obtain rfl : n = x := by rw [hq] at hx; exact Option.some.inj hx
      rw [if_pos e, if_pos e]
      have e2 : (kidN n (!false)).toNat = r.at_ := by
        have : kidN n true = n.right := rfl
        rw [Bool.not_false, this, hrr.at0]; simp
      rw [e2] at hz
      exact re_hangs hrr c2 (lt_of_get hq) hz
    · rename_i e
      split at hnb
      · rename_i e'
        cases hnb
        obtain rfl : n = x := by rw [hq] at hx; exact Option.some.inj hx
        rw [if_neg e, if_pos e', if_neg e, if_pos e']
        have e2 : (kidN n (!true)).toNat = l.at_ := by
          have : kidN n false = n.left := rfl
          rw [Bool.not_true, this, hl.at0]; simp
        rw [e2] at hz
        exact re_hangs hl c1 (lt_of_get hq) hz
      · rename_i e'
        rw [if_neg e, if_neg e', if_neg e, if_neg e']
        have qin : ∀ {s' : Sh}, s'.nb i = some (q, side, m) → q ∈ s'.places := by
          intro s'
          induction s' with
          | leaf k => intro h; cases h
          | node k l' r' g1 g2 =>
            intro h
            simp only [Sh.nb] at h
            simp only [Sh.places, List.mem_cons, List.mem_append]
            split at h
            · cases h; exact .inl rfl
            · split at h
              · cases h; exact .inl rfl
              · split at h
                · rename_i y hy; cases h; exact .inr (.inl (g1 hy))
                · exact .inr (.inr (g2 h))
        -- the side on which the leaf does not hang stays as it is
        have cutNo : ∀ {s' : Sh}, i ∉ s'.places → s'.cutR i = s' ∧ s'.cut i = s' := by
          intro s'
          induction s' with
          | leaf k => intro _; exact ⟨rfl, rfl⟩
          | node k l' r' g1 g2 =>
            intro hi
            simp only [Sh.places, List.mem_cons, List.mem_append, not_or] at hi
            have n1 : l' ≠ .leaf i := fun e => hi.2.1 (by rw [e]; simp [Sh.places])
            have n2 : r' ≠ .leaf i := fun e => hi.2.2 (by rw [e]; simp [Sh.places])
            obtain ⟨a1, a2⟩ := g1 hi.2.1
            obtain ⟨b1, b2⟩ := g2 hi.2.2
            simp only [Sh.cutR, Sh.cut, if_neg n1, if_neg n2, a1, a2, b1, b2, and_self]
        split at hnb
        · rename_i y hy
          cases hnb
          have hqj : q ≠ j := fun e3 => c1 (e3 ▸ qin hy)
          have hqr : q ∉ r.places := d3 q (qin hy)
          obtain ⟨g1, g2⟩ := h1 hl d1 hy
          have hir : i ∉ r.places := d3 i (leaves_places i (nb_mem hy))
          obtain ⟨k1, k2⟩ := cutNo hir
          have er : ∀ p ∈ r.places, (ns.set q z)[p]? = ns[p]? := fun p hp => List.getElem?_set_ne (fun e3 => hqr (by rw [e3]; exact hp))
          have ej : (ns.set q z)[j]? = some x := by rw [List.getElem?_set_ne hqj]; exact hx
          have hsz : (l.cutR i).size = (l.cut i).size := by rw [← Sh.lay_length (ns.set q z) (l.cutR i) 0, g2 0, Sh.lay_length]
          rw [k1, k2]
          refine ⟨⟨rfl, x, ej, hxr, g1, hangs_congr hrr er⟩, fun c => ?_⟩
          simp only [Sh.lay, getD_of ej, getD_of hx, hsz]
          rw [g2, lay_congr er]
        · rename_i hno
          have hqj : q ≠ j := fun e3 => c2 (e3 ▸ qin hnb)
          have hql : q ∉ l.places := fun h3 => d3 q h3 (qin hnb)
          obtain ⟨g1, g2⟩ := h2 hrr d2 hnb
          have hil : i ∉ l.places := fun h3 => d3 i h3 (leaves_places i (nb_mem hnb))
          obtain ⟨k1, k2⟩ := cutNo hil
          have el : ∀ p ∈ l.places, (ns.set q z)[p]? = ns[p]? := fun p hp => List.getElem?_set_ne (fun e3 => hql (by rw [e3]; exact hp))
          have ej : (ns.set q z)[j]? = some x := by rw [List.getElem?_set_ne hqj]; exact hx
          rw [k1, k2]
          refine ⟨⟨rfl, x, ej, hxr, hangs_congr hl el, g1⟩, fun c => ?_⟩
          simp only [Sh.lay, getD_of ej, getD_of hx]
          rw [g2, lay_congr el]
theorem nb_leafs {s : Sh} {i q m : Nat} {side : Bool} (h : s.nb i = some (q, side, m)) : m ∈ s.leaves := by
  obtain ⟨A, B, e⟩ := nb_beside h
  rw [e]
  cases side <;> simp
theorem re_size (j : Nat) (s : Sh) : (s.re j).size = s.size := by cases s <;> rfl
theorem cutR_size (i : Nat) (s : Sh) : (s.cutR i).size ≤ s.size := by
  induction s with
  | leaf j => exact Nat.le_refl _
  | node j l r h1 h2 =>
    simp only [Sh.cutR]
    split
    · rw [re_size]; simp only [Sh.size]; omega
    · split
      · rw [re_size]; simp only [Sh.size]; omega
      · simp only [Sh.size]; omega
end Go.Proofs.Ytmkodknmknfdkaa
