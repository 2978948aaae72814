/- Plain laws: the reference's way to split and join. -/
import Derived.Test.YtmkodknmknfdkaaP19
set_option linter.unusedVariables false
set_option linter.unusedSimpArgs false
namespace Go.Proofs.Ytmkodknmknfdkaa
open E

theorem raw_order (t : PT) (i : Nat) (m a b : Nod) (h : i < t.ns.length) : (t.ns ++ [a, b]).set i m = t.ns.set i m ++ [a, b] := by
  rw [List.set_append_left _ _ h]
theorem split_p2 {u : Tr} {t : PT} {i : Nat} {n : Nod} {y : Nd} {s1 s2 : Sl Pr} {a : Option Addr} {c : Nat} (h : u.p = t) (hy : y.ps.l = n.l) (hl : u.ns.l.length = t.ns.length) (hi : i < t.ns.length) (h1 : s1.l = y.ps.l.take (y.ps.l.length / 2)) (h2 : s2.l = y.ps.l.drop (y.ps.l.length / 2)) :
    (⟨u.root, ⟨a, c, (u.ns.l ++ [(⟨false, 0, 0, 0, s1, 0⟩ : Nd), (⟨false, 0, 0, 0, s2, 0⟩ : Nd)]).set i (⟨true, (y.ps.l.getD (y.ps.l.length / 2) default).k, (u.ns.l.length : Int), (u.ns.l.length : Int) + 1, ⟨none, 0, []⟩, 0⟩ : Nd)⟩⟩ : Tr).p = splitRaw t i n := by
  rw [List.set_append_left _ _ (by rw [hl]; exact hi)]
  subst h
  rw [hl, hy]
  simp [Tr.p, Nd.p, splitRaw, List.map_set, h1, h2, hy]
theorem split_small2 {l : List Nd} {i : Nat} {y : Nd} {s1 s2 : Sl Pr} {m : Nat} {k N1 N2 : Int} (h : smallP l) (hy : y.ps.l.length ≤ 1000000) (h1 : s1.l = y.ps.l.take m) (h2 : s2.l = y.ps.l.drop m) :
    smallP ((l ++ [(⟨false, 0, 0, 0, s1, 0⟩ : Nd), (⟨false, 0, 0, 0, s2, 0⟩ : Nd)]).set i (⟨true, k, N1, N2, ⟨none, 0, []⟩, 0⟩ : Nd)) := by
  refine small_set (fun n hn => ?_) (by simp)
  rcases List.mem_append.1 hn with hn | hn
  · exact h n hn
  · rcases List.mem_cons.1 hn with rfl | hn
    · show s1.l.length ≤ _; rw [h1]; simp; omega
    · rw [List.mem_singleton.1 hn]; show s2.l.length ≤ _; rw [h2]; simp; omega
theorem setapp_val (r : Int) (a : Option Addr) (c : Nat) (l : List Nd) (i : Nat) (m x y : Nd) : Tr.val ⟨r, ⟨a, c, (l ++ [x, y]).set i m⟩⟩ = .agg #[.int .i64 r, .slice a (l.length + 2) c] := by simp [Tr.val, Sl.val]
/-! ### Who is above -/
def UpEnd (t : PT) (a : Int) (v : Value) (Γ : List SProp) (M : E.Loc) : Prop :=
  Γ = [] ∧ M = [] ∧ ((v = .tuple #[.int .i64 (-1), .bool false] ∧ ∀ (j : Nat) (n : Nod), t.ns[j]? = some n → n.route = true → n.left ≠ a ∧ n.right ≠ a) ∨
    ∃ (k : Nat) (n : Nod), v = .tuple #[.int .i64 (k : Int), .bool (decide (n.right = a))] ∧ t.ns[k]? = some n ∧ n.route = true ∧ (n.left = a ∨ n.right = a))
theorem up_step {ns : List Nod} {k : Nat} {x : Nod} {a : Int} (h : ∀ (j : Nat) (n : Nod), j < k → ns[j]? = some n → n.route = true → n.left ≠ a ∧ n.right ≠ a) (hx : ns[k]? = some x) (hr : x.route = true → x.left ≠ a ∧ x.right ≠ a) :
    ∀ (j : Nat) (n : Nod), j < k + 1 → ns[j]? = some n → n.route = true → n.left ≠ a ∧ n.right ≠ a := fun j n hj hn hnr => by
  by_cases e : j = k
  · subst e; rw [hx] at hn; cases hn; exact hr hnr
  · exact h j n (by omega) hn hnr
theorem up_all {t : Tr} {j k : Nat} {n : Nod} (h : t.p.ns[j]? = some n) (hk : t.ns.l.length ≤ k) : j < k := by
  have h1 := lt_of_get h
  have h2 : t.p.ns.length = t.ns.l.length := by simp [Tr.p]
  omega
theorem near_size {t : PT} {s l : Sh} {b : Int} (hs : mayT t = some s) (hl : Hangs t.ns l b) : l.size ≤ 1000000 := by
  -- what hangs in the tree is no larger than the tree
  have key : ∀ {s' : Sh} {b : Int}, Hangs t.ns s' b → ∀ {s0 : Sh} {a0 : Int}, Hangs t.ns s0 a0 → a0 = b → s' = s0 := by
    intro s'
    induction s' with
    | leaf i =>
      rintro b ⟨rfl, n, hn, hr⟩ s0 a0 h0 e
      rw [e] at h0
      exact (hangs_leaf h0 hn hr).symm
    | node i l r h1 h2 =>
      rintro b ⟨rfl, n, hn, hr, hl, hrr⟩ s0 a0 h0 e
      rw [e] at h0
      cases s0 with
      | leaf j =>
        obtain ⟨e3, m, hm, hmr⟩ := h0
        have : i = j := by omega
        subst this
        rw [hn] at hm; cases hm; rw [hr] at hmr; cases hmr
      | node j l' r' =>
        obtain ⟨e3, m, hm, hmr, hl', hr'⟩ := h0
        have : i = j := by omega
        subst this
        rw [hn] at hm; cases hm
        rw [h1 hl hl' rfl, h2 hrr hr' rfl]
  have hg := good_of hs
  have sub : ∀ {s0 : Sh} {a0 : Int}, Hangs t.ns s0 a0 → ∀ p ∈ s0.places, ∃ s1 : Sh, Hangs t.ns s1 (p : Int) ∧ s1.size ≤ s0.size := by
    intro s0
    induction s0 with
    | leaf i =>
      intro a0 h0 p hp
      have h0' := h0
      obtain ⟨e, _⟩ := h0
      simp [Sh.places] at hp
      subst hp
      exact ⟨_, by rw [← e]; exact h0', Nat.le_refl _⟩
    | node i l r h1 h2 =>
      intro a0 h0 p hp
      have h0' := h0
      obtain ⟨e, n, hn, hr, hl, hrr⟩ := h0
      simp only [Sh.places, List.mem_cons, List.mem_append] at hp
      rcases hp with rfl | hp | hp
      · exact ⟨_, by rw [← e]; exact h0', Nat.le_refl _⟩
      · obtain ⟨s1, g1, g2⟩ := h1 hl p hp; exact ⟨s1, g1, by simp only [Sh.size]; omega⟩
      · obtain ⟨s1, g1, g2⟩ := h2 hrr p hp; exact ⟨s1, g1, by simp only [Sh.size]; omega⟩
  obtain ⟨n, hn⟩ := hl.get l.at_ (at_mem l)
  obtain ⟨s1, g1, g2⟩ := sub hg.hangs l.at_ (hg.all l.at_ (lt_of_get hn))
  have e := key hl g1 hl.at0.symm
  have h1 := hg.size
  have h2 := hg.few
  rw [e]
  omega
def nbI (o : Option Nat) : Int := match o with
  | none => -1
  | some m => (m : Int)
theorem nbI_some {o : Option Nat} : decide (0 ≤ nbI o) = o.isSome := by
  cases o with
  | none => rfl
  | some m => exact decide_eq_true (by simp [nbI])
theorem nbI_getD {o : Option Nat} (h : o.isSome = true) : nbI o = ((o.getD 0 : Nat) : Int) := by
  cases o with
  | none => cases h
  | some m => rfl
/-- A leaf without a parent stands alone. -/
theorem alone {t : PT} {s : Sh} {i : Nat} {x : Nod} (hs : mayT t = some s) (hx : t.ns[i]? = some x) (hr : x.route = false) (h : ∀ (j : Nat) (n : Nod), t.ns[j]? = some n → n.route = true → n.left ≠ (i : Int) ∧ n.right ≠ (i : Int)) : s.nb i = none := by
  obtain ⟨u, b, hw, _⟩ := way_of hs (lt_of_get hx)
  rcases way_nb hs hx hr hw with ⟨_, _, e⟩ | ⟨_, _, q, n, side, _, _, _, _, hn, hnr, he, _⟩
  · exact e
  · have := h q n hn hnr
    cases side
    · exact absurd he this.1
    · exact absurd he this.2
theorem up_nb {t : PT} {s : Sh} {i q : Nat} {x n : Nod} (hs : mayT t = some s) (hx : t.ns[i]? = some x) (hr : x.route = false) (hq : t.ns[q]? = some n) (hqr : n.route = true) (he : n.left = (i : Int) ∨ n.right = (i : Int)) :
    ∃ l r, Hangs t.ns l n.left ∧ Hangs t.ns r n.right ∧ s.nb i = some (q, decide (n.right = (i : Int)), if decide (n.right = (i : Int)) then l.last else r.first) := by
  have hg := good_of hs
  refine nb_spec hg.hangs hg.nodup (hg.all q (lt_of_get hq)) hq hqr ?_ hx hr
  by_cases h : n.right = (i : Int)
  · rw [decide_eq_true h]; exact h
  · rw [decide_eq_false h]
    rcases he with he | he
    · exact he
    · exact absurd he h
theorem last_get2 (s : Sh) : (toI s.leaves)[(toI s.leaves).length - 1]? = some (s.last : Int) := by
  obtain ⟨l, h⟩ := last_leaves s
  rw [h, toI_length]
  have : (toI (l ++ [s.last]))[l.length]? = some (s.last : Int) := toI_get (by simp)
  simpa using this
theorem first_get2 (s : Sh) : (toI s.leaves)[0]? = some (s.first : Int) := by
  obtain ⟨l, h⟩ := first_leaves s
  rw [h]
  rfl
/-! ### Copied but for a route -/
def HangsS (ns : List Nod) (g o : Int) : Sh → Int → Prop
  | .leaf i, a => (if a = g then o else a) = (i : Int) ∧ ∃ n, ns[i]? = some n ∧ n.route = false
  | .node i l r, a => (if a = g then o else a) = (i : Int) ∧ ∃ n, ns[i]? = some n ∧ n.route = true ∧ HangsS ns g o l n.left ∧ HangsS ns g o r n.right
theorem HangsS.at {t : Tr} {g o : Int} {s : Sh} {a : Int} (h : HangsS t.p.ns g o s a) : ∃ (i : Nat) (x : Nd), (if a = g then o else a) = (i : Int) ∧ t.ns.l[i]? = some x ∧ t.p.ns.getD i default = x.p ∧
    ((x.route = false ∧ s = .leaf i) ∨ (x.route = true ∧ ∃ l r, s = .node i l r ∧ HangsS t.p.ns g o l x.left ∧ HangsS t.p.ns g o r x.right)) := by
  cases s with
  | leaf i =>
    obtain ⟨h0, n, hn, hr⟩ := h
    obtain ⟨x, hx, hxn⟩ := p_get (u := t) rfl hn
    subst hxn
    exact ⟨i, x, h0, hx, getD_of hn, .inl ⟨hr, rfl⟩⟩
  | node i l r =>
    obtain ⟨h0, n, hn, hr, hl, hr'⟩ := h
    obtain ⟨x, hx, hxn⟩ := p_get (u := t) rfl hn
    subst hxn
    exact ⟨i, x, h0, hx, getD_of hn, .inr ⟨hr, l, r, rfl, hl, hr'⟩⟩
theorem hangsS_of {ns : List Nod} {s : Sh} {a : Int} {g : Nat} {o : Int} (h : Hangs ns s a) (hg : g ∉ s.places) : HangsS ns (g : Int) o s a := by
  have ha := h.at0
  have hne : a ≠ (g : Int) := fun e => hg (by have : g = s.at_ := by omega
                                              rw [this]; exact at_mem s)
  induction s generalizing a with
  | leaf i =>
    obtain ⟨e, n, hn, hr⟩ := h
    exact ⟨by rw [if_neg hne]; exact e, n, hn, hr⟩
  | node i l r h1 h2 =>
    obtain ⟨e, n, hn, hr, hl, hr'⟩ := h
    simp only [Sh.places, List.mem_cons, List.mem_append, not_or] at hg
    refine ⟨by rw [if_neg hne]; exact e, n, hn, hr, h1 hl hg.2.1 hl.at0 (fun e => hg.2.1 ?_), h2 hr' hg.2.2 hr'.at0 (fun e => hg.2.2 ?_)⟩
    · have := hl.at0; have h3 : g = l.at_ := by omega
      rw [h3]; exact at_mem l
    · have := hr'.at0; have h3 : g = r.at_ := by omega
      rw [h3]; exact at_mem r
/-- Without a leaf and its route. -/
theorem cut_hangsS {ns : List Nod} {s : Sh} {a : Int} {i q m : Nat} {side : Bool} {n : Nod} (h : Hangs ns s a) (hnd : s.places.Nodup) (hnb : s.nb i = some (q, side, m)) (hq : ns[q]? = some n) : HangsS ns (q : Int) (kidN n (!side)) (s.cut i) a := by
  induction s generalizing a with
  | leaf j => cases hnb
  | node j l r h1 h2 =>
    obtain ⟨rfl, x, hx, hxr, hl, hrr⟩ := h
    obtain ⟨c1, c2, d1, d2, d3⟩ := nodup_node hnd
    have redirect : ∀ {s' : Sh} {b : Int}, HangsS ns (q : Int) b s' b → b ≠ (q : Int) → HangsS ns (q : Int) b s' (q : Int) := by
      intro s' b hs' hb
      cases s' with
      | leaf k => obtain ⟨e, rest⟩ := hs'; rw [if_neg hb] at e; exact ⟨by rw [if_pos rfl]; exact e, rest⟩
      | node k a1 a2 => obtain ⟨e, rest⟩ := hs'; rw [if_neg hb] at e; exact ⟨by rw [if_pos rfl]; exact e, rest⟩
    simp only [Sh.nb] at hnb
    simp only [Sh.cut]
    split at hnb
    · rename_i e
      cases hnb
      obtain rfl : n = x := by rw [hq] at hx; exact Option.some.inj hx
      rw [if_pos e]
      have e3 : kidN n (!false) = n.right := rfl
      rw [e3]
      exact redirect (hangsS_of hrr c2) (fun e => c2 (by have := hrr.at0; have h3 : q = r.at_ := by omega
                                                         rw [h3]; exact at_mem r))
    · rename_i e
      split at hnb
      · rename_i e'
        cases hnb
        obtain rfl : n = x := by rw [hq] at hx; exact Option.some.inj hx
        rw [if_neg e, if_pos e']
        have e3 : kidN n (!true) = n.left := rfl
        rw [e3]
        exact redirect (hangsS_of hl c1) (fun e => c1 (by have := hl.at0; have h3 : q = l.at_ := by omega
                                                          rw [h3]; exact at_mem l))
      · rename_i e'
        rw [if_neg e, if_neg e']
        have qin : ∀ {s' : Sh}, s'.nb i = some (q, side, m) → q ∈ s'.places := by
          intro s'
          induction s' with
          | leaf k => intro h; cases h
          | node k l' r' g1 g2 =>
            intro h
            simp only [Sh.nb] at h
            simp only [Sh.places, List.mem_cons, List.mem_append]
            split at h
            · cases h; exact .inl rfl
            · split at h
              · cases h; exact .inl rfl
              · split at h
                · rename_i y hy; cases h; exact .inr (.inl (g1 hy))
                · exact .inr (.inr (g2 h))
        split at hnb
        · rename_i y hy
          cases hnb
          have hqj : (j : Int) ≠ (q : Int) := fun e3 => c1 (by have : j = q := by omega
                                                               rw [this]; exact qin hy)
          have hir : i ∉ r.places := d3 i (leaves_places i (nb_mem hy))
          rw [cut_out hir]
          exact ⟨by rw [if_neg hqj], x, hx, hxr, h1 hl d1 hy, hangsS_of hrr (d3 q (qin hy))⟩
        · rename_i hno
          have hqj : (j : Int) ≠ (q : Int) := fun e3 => c2 (by have : j = q := by omega
                                                               rw [this]; exact qin hnb)
          have hil : i ∉ l.places := fun h3 => d3 i h3 (leaves_places i (nb_mem hnb))
          rw [cut_out hil]
          exact ⟨by rw [if_neg hqj], x, hx, hxr, hangsS_of hl (fun h3 => d3 q h3 (qin hnb)), h2 hrr d2 hnb⟩
theorem cut_size (i : Nat) (s : Sh) : (s.cut i).size ≤ s.size := by
  induction s with
  | leaf j => exact Nat.le_refl _
  | node j l r h1 h2 =>
    simp only [Sh.cut]
    split
    · simp only [Sh.size]; omega
    · split
      · simp only [Sh.size]; omega
      · simp only [Sh.size]; omega
def InEnd (t : Tr) (s : Sh) (q : List Nd) (v : Value) (Γ : List SProp) (M : E.Loc) : Prop :=
  ∃ (o' : List Nd) (a' : Option Addr) (c' : Nat) (M' : E.Seg), v = .tuple #[.slice a' (q ++ o').length c', .int .i64 (q.length : Int)] ∧ Γ = [psP o'] ∧ M = [M'] ∧ E.Own 33 6 ((q ++ o').map rowN) a' c' M' ∧ o'.map Nd.p = s.lay t.p.ns q.length
def CopyIn (t : Tr) (g o : Int) (s : Sh) : Prop := ∀ (at_ : Int), HangsS t.p.ns g o s at_ → ∀ (q : List Nd) (a : Option Addr) (c : Nat) (Mo : E.Seg), E.Own 33 6 (q.map rowN) a c Mo → q.length + s.size ≤ 1000000 →
  Con Try.prog 88 [t.val, .int .i64 at_, .int .i64 g, .int .i64 o, .slice a q.length c] [ndsP t.ns, psP t.ns.l] [Mo] (InEnd t s q)
theorem in_node {t : Tr} {i : Nat} {x n : Nd} {l r : Sh} {q o1 o2 : List Nd} {a : Option Addr} {c : Nat} {M : E.Seg} {N : Nat} {n0 : Nd} (hO : E.Own 33 6 ((q ++ n :: (o1 ++ o2)).map rowN) a c M) (hg : t.p.ns.getD i default = x.p)
    (he1 : o1.map Nd.p = l.lay t.p.ns (q ++ [n0]).length) (he2 : o2.map Nd.p = r.lay t.p.ns ((q ++ [n0]) ++ o1).length) (hN : N = (((q ++ [n0]) ++ o1) ++ o2).length)
    (hn : n.p = { x.p with left := ((q.length + 1 : Nat) : Int), right := ((q.length + 1 + o1.length : Nat) : Int) }) : InEnd t (.node i l r) q (.tuple #[.slice a N c, .int .i64 (q.length : Int)]) [psP (n :: (o1 ++ o2))] [M] := by
  subst hN
  have hl1 : o1.length = l.size := by have := congrArg List.length he1; rwa [List.length_map, Sh.lay_length] at this
  refine ⟨n :: (o1 ++ o2), a, c, M, by simp, rfl, rfl, hO, ?_⟩
  simp only [Sh.lay, hg, List.map_cons, List.map_append]
  rw [he1, he2, hn]
  simp only [List.length_append, List.length_singleton, hl1]
/-! ### A copy of which one row of pairs is one's own -/
def psX (m : Nat) (l : List Nd) : SProp := ⟨fun H => ∀ (j : Nat) (n : Nd), l[j]? = some n → j ≠ m → (prsP n.ps).holds H, fun _ _ h k j n hn hj => (prsP n.ps).mono _ _ h (k j n hn hj)⟩
def OwnAt (m : Nat) (o : List Nd) (mp : E.Seg) : Prop := (o.length ≤ m ∧ mp = []) ∨ ∃ y, o[m]? = some y ∧ E.Own 50 2 (y.ps.l.map rowP) y.ps.a y.ps.c mp
theorem psX_nil {H : Hp} (m : Nat) : (psX m []).holds H := fun j n h => by simp at h
theorem psX_snoc {H : Hp} {m : Nat} {l : List Nd} {n : Nd} (h : (psX m l).holds H) (hn : l.length ≠ m → (prsP n.ps).holds H) : (psX m (l ++ [n])).holds H := fun j k hk hj => by
  by_cases e : j < l.length
  · rw [List.getElem?_append_left e] at hk; exact h j k hk hj
  · rw [List.getElem?_append_right (by omega)] at hk
    have : j - l.length = 0 := by
      have := lt_of_get hk
      simp at this
      omega
    rw [this] at hk
    simp at hk
    subst hk
    exact hn (by omega)
theorem OwnAt.here {m : Nat} {o : List Nd} {n : Nd} {mp M : E.Seg} (h : OwnAt m o mp) (hm : o.length = m) (hO : E.Own 50 2 (n.ps.l.map rowP) n.ps.a n.ps.c M) : OwnAt m (o ++ [n]) M := .inr ⟨n, by rw [← hm]; simp, hO⟩
theorem OwnAt.there {m : Nat} {o : List Nd} {n : Nd} {mp : E.Seg} (h : OwnAt m o mp) (hm : o.length ≠ m) : OwnAt m (o ++ [n]) mp := by
  rcases h with ⟨h1, h2⟩ | ⟨y, hy, hO⟩
  · exact .inl ⟨by simp; omega, h2⟩
  · exact .inr ⟨y, by rw [List.getElem?_append_left (lt_of_get hy)]; exact hy, hO⟩
def CopyXEnd (t : Tr) (m : Nat) (v : Value) (Γ : List SProp) (M : E.Loc) : Prop :=
  ∃ (u : Tr) (M' mp : E.Seg), v = u.val ∧ Γ = [psX m u.ns.l] ∧ M = [M', mp] ∧ E.Own 33 6 (u.ns.l.map rowN) u.ns.a u.ns.c M' ∧ OwnAt m u.ns.l mp ∧ u.p = t.p
theorem psP_ofX {H : Hp} {m : Nat} {l : List Nd} {n : Nd} (h : (psX m l).holds H) (hn : (prsP n.ps).holds H) : (psP (l.set m n)).holds H := fun k hk => by
  obtain ⟨j, hj⟩ := List.mem_iff_getElem?.1 hk
  by_cases e : m = j
  · subst e
    rw [List.getElem?_set] at hj
    split at hj
    · split at hj
      · cases hj; exact hn
      · cases hj
    · exact absurd rfl (by assumption)
  · rw [List.getElem?_set_ne e] at hj
    exact h j k hj (Ne.symm e)
end Go.Proofs.Ytmkodknmknfdkaa
