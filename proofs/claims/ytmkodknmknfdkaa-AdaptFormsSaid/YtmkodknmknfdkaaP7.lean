/- Plain laws of whole trees: how they fit; sums and counts over their places. -/
import Derived.Test.YtmkodknmknfdkaaP6
set_option linter.unusedVariables false
set_option linter.unusedSimpArgs false
namespace Go.Proofs.Ytmkodknmknfdkaa
open E

theorem may_of_size {t : PT} {s : Sh} (hl : t.ns.length ≤ 2000) (hs : shape t.ns (t.ns.length + 1) [] t.root Kb.all = some s) (hz : s.size = t.ns.length) : mayT t = some s := by
  unfold mayT
  rw [if_neg (by omega), hs]
  simp only []
  rw [if_pos]
  rw [List.all_eq_true]
  intro i hi
  have h6 := shape_places hs
  by_cases hi' : i ∈ s.places
  · simpa using hi'
  · have := nodup_len (N := t.ns.length) (l := i :: s.places) (List.nodup_cons.2 ⟨hi', h6.1⟩) (fun j hj => by
      rcases List.mem_cons.1 hj with h | h
      · subst h; exact List.mem_range.1 hi
      · exact (h6.2 j h).1)
    rw [List.length_cons, Sh.size_places, hz] at this
    omega
/-! ### The reference's plan, at its end -/
theorem plan_bad {t : PT} {P : Sh → Prop} {bad : Bool} (h : ∀ s, shape t.ns (t.ns.length + 1) [] t.root Kb.all = some s → bad = false ∧ P s) (hb : bad = true) : (mayT t).isSome = false := may_none (by
  cases hs : shape t.ns (t.ns.length + 1) [] t.root Kb.all with
  | none => rfl
  | some s => have := (h s hs).1; rw [hb] at this; cases this)
theorem plan_some {t : PT} {bad : Bool} (h : shape t.ns (t.ns.length + 1) [] t.root Kb.all = none → bad = true) (hb : bad = false) : ∃ s, shape t.ns (t.ns.length + 1) [] t.root Kb.all = some s := by
  cases hs : shape t.ns (t.ns.length + 1) [] t.root Kb.all with
  | none => have := h hs; rw [hb] at this; cases this
  | some s => exact ⟨s, rfl⟩
theorem plan_len {t : PT} {s : Sh} {q : List Nod} (h : shape t.ns (t.ns.length + 1) [] t.root Kb.all = some s) (hq : q = s.lay t.ns 0) (hl : q.length ≠ t.ns.length) : (mayT t).isSome = false := by
  cases hm : mayT t with
  | none => rfl
  | some s' =>
    have h1 := (may_hangs hm).2.1
    rw [h] at h1
    cases h1
    have h2 := (good_of hm).size
    rw [hq, Sh.lay_length] at hl
    exact absurd h2 hl
theorem plan_ok {t : PT} {s : Sh} {q : List Nod} (hN : t.ns.length ≤ 2000) (h : shape t.ns (t.ns.length + 1) [] t.root Kb.all = some s) (hq : q = s.lay t.ns 0) (hl : q.length = t.ns.length) : mayT t = some s :=
  may_of_size hN h (by rw [hq, Sh.lay_length] at hl; exact hl)
def leafT (t : PT) (a : Int) : Bool := (mayT t).isSome && (decide (0 ≤ a) && (match t.ns[a.toNat]? with | none => false | some n => !n.route))

theorem leaf_no {t : PT} {a : Int} (h : (mayT t).isSome = false) : leafT t a = false := by simp [leafT, none_of h]
theorem leaf_neg {t : PT} {a : Int} (h : a < 0) : leafT t a = false := by
  have : ¬ (0 ≤ a) := by omega
  simp [leafT, this]
theorem leaf_out {t : PT} {i : Nat} (h : t.ns.length ≤ i) : leafT t (i : Int) = false := by
  have : t.ns[i]? = none := List.getElem?_eq_none h
  simp [leafT, this]
theorem leaf_at {t : PT} {i : Nat} {n : Nod} (h : (mayT t).isSome = true) (hn : t.ns[i]? = some n) : leafT t (i : Int) = !n.route := by
  simp [leafT, h, hn]
theorem leaf_yes {t : PT} {a : Int} (h : leafT t a = true) : ∃ (s : Sh) (i : Nat) (n : Nod), mayT t = some s ∧ a = (i : Int) ∧ t.ns[i]? = some n ∧ n.route = false := by
  simp only [leafT, Bool.and_eq_true, decide_eq_true_eq] at h
  obtain ⟨h1, h2, h3⟩ := h
  obtain ⟨s, hs⟩ := Option.isSome_iff_exists.1 h1
  cases hn : t.ns[a.toNat]? with
  | none => rw [hn] at h3; cases h3
  | some n => rw [hn] at h3; exact ⟨s, a.toNat, n, hs, by omega, hn, by simpa using h3⟩
theorem set_leaf {t : PT} {a : Int} {l : List Pr} {stat : Int} (h : leafT t a = false) : setT t a l stat = none := by
  unfold setT
  split
  · rfl
  rename_i h1
  split
  · rfl
  rename_i h2
  split
  · rfl
  rename_i n hn
  have h3 : (mayT t).isSome = true := by cases hm : mayT t <;> simp_all
  have h4 : decide (0 ≤ a) = true := decide_eq_true (by omega)
  simp only [leafT, h3, h4, hn, Bool.true_and] at h
  rw [if_pos (by simpa using h)]
theorem row_set (l : List Nd) (i : Nat) (m : Nd) : (l.set i m).map rowN = (l.map rowN).set i (rowN m) := List.map_set
theorem get_set {l : List Nd} {i : Nat} {m : Nd} (hi : i < l.length) : ((l.set i m).map rowN)[i]? = some (rowN m) := by simp [hi]
theorem set_val (r : Int) (a : Option Addr) (c : Nat) (l : List Nd) (i : Nat) (m : Nd) : Tr.val ⟨r, ⟨a, c, l.set i m⟩⟩ = .agg #[.int .i64 r, .slice a l.length c] := by simp [Tr.val, Sl.val]
theorem small_p {l l' : List Nd} (h : l'.map Nd.p = l.map Nd.p) (hs : smallP l) : smallP l' := fun n hn => by
  have h1 : n.p ∈ l.map Nd.p := h ▸ List.mem_map.2 ⟨n, hn, rfl⟩
  obtain ⟨m, hm, e⟩ := List.mem_map.1 h1
  have h2 := hs m hm
  have h3 : m.p.l = n.p.l := by rw [e]
  have h4 : m.ps.l = n.ps.l := h3
  rw [← h4]
  exact h2
theorem small_set {l : List Nd} {i : Nat} {m : Nd} (hs : smallP l) (hm : m.ps.l.length ≤ 1000000) : smallP (l.set i m) := fun n hn => by
  rcases List.mem_or_eq_of_mem_set hn with h | h
  · exact hs n h
  · rw [h]; exact hm
def PathEnd (t : Tr) (key : Int) (v : Value) (Γ : List SProp) (M : E.Loc) : Prop :=
  ∃ (us : Sl Int) (rs : Sl Bool), v = .tuple #[.int .i64 ((findD t.p key).leaf : Int), us.val, rs.val] ∧ Γ = [intsP us, boolsP rs] ∧ M = [] ∧ us.l = toI (findD t.p key).ups ∧ rs.l = (findD t.p key).rights
def SetEndF (t : Tr) (a : Int) (l : Sl Pr) (stat : Int) (v : Value) (Γ : List SProp) (M : E.Loc) : Prop :=
  ∃ u : Tr, v = .tuple #[u.val, .bool (setT t.p a l.l stat).isSome] ∧ Γ = [ndsP u.ns, psP u.ns.l] ∧ M = [] ∧ u.p = setD t.p a l.l stat
/-- The tree that awake knows. -/
def awT : PT := ⟨2, [⟨false, 0, 0, 0, [⟨1, 0⟩], 0⟩, ⟨false, 0, 0, 0, [⟨5, 0⟩], 0⟩, ⟨true, 3, 0, 1, [], 0⟩]⟩
theorem aw_may : (mayT awT).isSome = true := by decide +kernel
theorem aw_find : findD awT 4 = ⟨1, [2], [true]⟩ := by decide +kernel
theorem aw_plain : plainD awT = ⟨0, [⟨true, 3, 1, 2, [], 0⟩, ⟨false, 0, 0, 0, [⟨1, 0⟩], 0⟩, ⟨false, 0, 0, 0, [⟨5, 0⟩], 0⟩]⟩ := by decide +kernel
theorem aw1 : decide (((findD awT 4).leaf : Int) = 1) = true := by rw [aw_find]; rfl
theorem aw2 : (findD awT 4).rights.getLast?.getD false = true := by rw [aw_find]; rfl
theorem aw3 : (!decide (toI (findD awT 4).ups = [])) = true := by rw [aw_find]; rfl
theorem aw4 {u : Tr} (h : u.p = plainD awT) : u.root = 0 ∧ u.ns.l.length = 3 ∧ ∃ x, u.ns.l[0]? = some x ∧ x.left = 1 := by
  rw [aw_plain] at h
  have h1 : u.ns.l.map Nd.p = _ := congrArg PT.ns h
  have h2 := congrArg List.length h1
  rw [List.length_map] at h2
  obtain ⟨x, hx⟩ := get_of_lt (l := u.ns.l) (i := 0) (by rw [h2]; decide)
  have h3 : (u.ns.l.map Nd.p)[0]? = some x.p := map_get hx
  rw [h1] at h3
  refine ⟨congrArg PT.root h, h2, x, hx, ?_⟩
  have h4 := congrArg Nod.left (Option.some.inj h3)
  exact h4.symm
theorem aw_leaves : leavesT awT = [0, 1] := by decide +kernel
theorem aw5 {l : List Int} (h : l = toI (leavesT awT)) : decide ((l.length : Int) = 2) = true := by rw [h, aw_leaves]; rfl

/-! ### Fits -/
def Fits (ns : List Nod) : Sh → Int → Kb → Prop
  | .leaf i, a, k => a = (i : Int) ∧ ∃ n, ns[i]? = some n ∧ n.route = false ∧ leafOk n k = true
  | .node i l r, a, k => a = (i : Int) ∧ ∃ n, ns[i]? = some n ∧ n.route = true ∧ routeOk n k = true ∧ Fits ns l n.left (k.lefts n.key) ∧ Fits ns r n.right (k.rights n.key)
theorem fits_of : ∀ {f : Nat} {ns : List Nod} {met : List Nat} {at_ : Int} {k : Kb} {s : Sh}, shape ns f met at_ k = some s → Fits ns s at_ k
  | 0, _, _, _, _, _, h => by simp [shape] at h
  | f + 1, ns, met, at_, k, s, h => by
    obtain ⟨i, n, rfl, hn, _, hc⟩ := shape_some h
    rcases hc with ⟨hr, hk, rfl⟩ | ⟨hr, hk, l, r, rfl, hl, hr'⟩
    · exact ⟨rfl, n, hn, hr, hk⟩
    · exact ⟨rfl, n, hn, hr, hk, fits_of hl, fits_of hr'⟩
theorem Fits.lt {ns : List Nod} {s : Sh} {a : Int} {k : Kb} (h : Fits ns s a k) : ∀ i ∈ s.places, i < ns.length := by
  induction s generalizing a k with
  | leaf j =>
    obtain ⟨_, n, hn, _⟩ := h
    intro i hi
    simp [Sh.places] at hi
    subst hi
    exact lt_of_get hn
  | node j l r h1 h2 =>
    obtain ⟨_, n, hn, _, _, hl, hr⟩ := h
    intro i hi
    simp only [Sh.places, List.mem_cons, List.mem_append] at hi
    rcases hi with rfl | hi | hi
    · exact lt_of_get hn
    · exact h1 hl i hi
    · exact h2 hr i hi
theorem Fits.hangs {ns : List Nod} {s : Sh} {a : Int} {k : Kb} (h : Fits ns s a k) : Hangs ns s a := by
  induction s generalizing a k with
  | leaf j => obtain ⟨h0, n, hn, hr, _⟩ := h; exact ⟨h0, n, hn, hr⟩
  | node j l r h1 h2 => obtain ⟨h0, n, hn, hr, _, hl, hr'⟩ := h; exact ⟨h0, n, hn, hr, h1 hl, h2 hr'⟩
theorem shape_of_fits {ns : List Nod} {s : Sh} {a : Int} {k : Kb} (h : Fits ns s a k) : ∀ {f : Nat} {met : List Nat}, s.places.Nodup → (∀ i ∈ s.places, i ∉ met) → s.size ≤ f → shape ns f met a k = some s := by
  induction s generalizing a k with
  | leaf j =>
    obtain ⟨rfl, n, hn, hr, hk⟩ := h
    intro f met _ hm hf
    cases f with
    | zero => simp [Sh.size] at hf
    | succ f =>
      have : met.contains j = false := by simpa using hm j (by simp [Sh.places])
      rw [sh_leaf hn this hr, hk]
      rfl
  | node j l r h1 h2 =>
    obtain ⟨rfl, n, hn, hr, hk, hl, hr'⟩ := h
    intro f met hnd hm hf
    cases f with
    | zero => simp only [Sh.size] at hf; omega
    | succ f =>
      simp only [Sh.size] at hf
      simp only [Sh.places, List.nodup_cons, List.mem_append, List.nodup_append] at hnd
      obtain ⟨hj, hn1, hn2, hd⟩ := hnd
      have hmj : met.contains j = false := by simpa using hm j (by simp [Sh.places])
      have e1 : shape ns f (j :: met) n.left (k.lefts n.key) = some l := h1 hl hn1 (fun i hi => by
        rw [List.mem_cons]
        rintro (h | h)
        · subst h; exact hj (.inl hi)
        · exact hm i (by simp [Sh.places, hi]) h) (by omega)
      have e2 : shape ns f (l.places ++ j :: met) n.right (k.rights n.key) = some r := h2 hr' hn2 (fun i hi => by
        rw [List.mem_append, List.mem_cons]
        rintro (h | h | h)
        · exact hd i h i hi rfl
        · subst h; exact hj (.inr hi)
        · exact hm i (by simp [Sh.places, hi]) h) (by omega)
      rw [sh_right hn hmj hr hk e1, e2]
      rfl
theorem may_fits {t : PT} {s : Sh} (h : mayT t = some s) : Fits t.ns s t.root Kb.all := fits_of (may_hangs h).2.1
theorem may_of_fits {t : PT} {s : Sh} (hN : t.ns.length ≤ 2000) (hf : Fits t.ns s t.root Kb.all) (hn : s.places.Nodup) (ha : ∀ i, i < t.ns.length → i ∈ s.places) : mayT t = some s := by
  have h1 := nodup_len hn hf.lt
  rw [Sh.size_places] at h1
  have hs := shape_of_fits hf (f := t.ns.length + 1) (met := []) hn (fun _ _ => by simp) (by omega)
  unfold mayT
  rw [if_neg (by omega), hs]
  simp only []
  rw [if_pos]
  rw [List.all_eq_true]
  intro i hi
  simpa using ha i (List.mem_range.1 hi)

/-! ### All places -/
theorem Good.perm {t : PT} {s : Sh} (h : Good t s) : s.places.Perm (List.range t.ns.length) := by
  rw [List.perm_ext_iff_of_nodup h.nodup List.nodup_range]
  intro i
  rw [List.mem_range]
  exact ⟨h.lt i, h.all i⟩
theorem range_get {ns : List Nod} : (List.range ns.length).map (fun i => ns.getD i default) = ns := by
  apply List.ext_getElem?
  intro j
  by_cases hj : j < ns.length
  · rw [List.getElem?_map, List.getElem?_range hj]
    simp [List.getElem?_eq_getElem hj]
  · rw [List.getElem?_eq_none (by simp; omega), List.getElem?_eq_none (by omega)]
theorem Good.nodes {t : PT} {s : Sh} (h : Good t s) : (s.places.map fun i => t.ns.getD i default).Perm t.ns := by
  have := h.perm.map (fun i => t.ns.getD i default)
  rwa [range_get] at this
def sumZ : List Int → Int
  | [] => 0
  | a :: l => a + sumZ l
theorem sumZ_app (a b : List Int) : sumZ (a ++ b) = sumZ a + sumZ b := by
  induction a with
  | nil => simp [sumZ]
  | cons x a ih => simp only [List.cons_append, sumZ, ih]; omega
theorem sumZ_perm {a b : List Int} (h : a.Perm b) : sumZ a = sumZ b := by
  induction h with
  | nil => rfl
  | cons x _ ih => simp only [sumZ, ih]
  | swap x y l => simp only [sumZ]; omega
  | trans _ _ h1 h2 => exact h1.trans h2
def kids (n : Nod) : Int := if n.route then n.left + n.right else 0
theorem hang_sum {ns : List Nod} {s : Sh} {a : Int} (h : Hangs ns s a) : a + sumZ (s.places.map fun i => kids (ns.getD i default)) = sumZ (toI s.places) := by
  induction s generalizing a with
  | leaf i =>
    obtain ⟨rfl, n, hn, hr⟩ := h
    have hg : ns.getD i default = n := by rw [List.getD_eq_getElem?_getD, hn]; rfl
    simp only [Sh.places, List.map_cons, List.map_nil, sumZ, toI, hg, kids, hr]
    simp
  | node i l r h1 h2 =>
    obtain ⟨rfl, n, hn, hr, hl, hr'⟩ := h
    have hg : ns.getD i default = n := by rw [List.getD_eq_getElem?_getD, hn]; rfl
    have e1 := h1 hl
    have e2 := h2 hr'
    simp only [toI] at e1 e2 ⊢
    simp only [Sh.places, List.map_cons, List.map_append, sumZ, sumZ_app, hg]
    have : kids n = n.left + n.right := by simp [kids, hr]
    omega
theorem Good.sum {t : PT} {s : Sh} (h : Good t s) : t.root + sumZ (t.ns.map kids) = sumZ (toI (List.range t.ns.length)) := by
  have h1 := hang_sum h.hangs
  have h2 := sumZ_perm (h.perm.map (fun i : Nat => (i : Int)))
  have h3 := sumZ_perm (h.nodes.map kids)
  rw [List.map_map] at h3
  have h1' : t.root + sumZ (s.places.map (kids ∘ fun i => t.ns.getD i default)) = sumZ (s.places.map fun i : Nat => (i : Int)) := h1
  rw [h3, h2] at h1'
  exact h1'
theorem sum_set {l : List Nod} {i : Nat} {x y : Nod} (h : l[i]? = some x) : sumZ ((l.set i y).map kids) + kids x = sumZ (l.map kids) + kids y := by
  induction l generalizing i with
  | nil => simp at h
  | cons a l ih =>
    cases i with
    | zero => simp at h; subst h; simp only [List.set_cons_zero, List.map_cons, sumZ]; omega
    | succ i => have := ih (i := i) (by simpa using h); simp only [List.set_cons_succ, List.map_cons, sumZ]; omega
/-- A node more, on which nothing hangs. -/
theorem spoilt_more {t : PT} {s : Sh} {n : Nod} (h : mayT t = some s) (hn : n.route = false) : (mayT ⟨t.root, t.ns ++ [n]⟩).isSome = false := by
  cases hm : mayT ⟨t.root, t.ns ++ [n]⟩ with
  | none => rfl
  | some s' =>
    have h1 := (good_of h).sum
    have h2 := (good_of hm).sum
    simp only [List.length_append, List.length_singleton, List.map_append, List.map_cons, List.map_nil, sumZ_app, List.range_succ, toI_app, sumZ] at h2
    have h3 : kids n = 0 := by simp [kids, hn]
    have h4 : sumZ (toI [t.ns.length]) = (t.ns.length : Int) := by simp [toI, sumZ]
    have h5 : 0 < t.ns.length := by
      rw [← (good_of h).size]
      cases s <;> simp [Sh.size] <;> omega
    omega
/-- A route that leads elsewhere. -/
theorem spoilt_left {t : PT} {s : Sh} {i : Nat} {n : Nod} {to : Int} (h : mayT t = some s) (hi : t.ns[i]? = some n) (hr : n.route = true) (hto : to ≠ n.left) : (mayT ⟨t.root, t.ns.set i { n with left := to }⟩).isSome = false := by
  cases hm : mayT ⟨t.root, t.ns.set i { n with left := to }⟩ with
  | none => rfl
  | some s' =>
    have h1 := (good_of h).sum
    have h2 := (good_of hm).sum
    simp only [List.length_set] at h2
    have h3 := sum_set (y := { n with left := to }) hi
    have h4 : kids n = n.left + n.right := by simp [kids, hr]
    have h5 : kids { n with left := to } = to + n.right := by simp [kids, hr]
    omega

/-! ### Counts -/
theorem leaves_count {ns : List Nod} {s : Sh} {a : Int} (h : Hangs ns s a) : s.leaves.length = (s.places.map fun i => ns.getD i default).countP (·.route) + 1 := by
  induction s generalizing a with
  | leaf i =>
    obtain ⟨rfl, n, hn, hr⟩ := h
    have hg : ns.getD i default = n := by rw [List.getD_eq_getElem?_getD, hn]; rfl
    simp only [Sh.leaves, Sh.places, List.map_cons, List.map_nil, hg]
    simp [hr]
  | node i l r h1 h2 =>
    obtain ⟨rfl, n, hn, hr, hl, hr'⟩ := h
    have hg : ns.getD i default = n := by rw [List.getD_eq_getElem?_getD, hn]; rfl
    have e1 := h1 hl
    have e2 := h2 hr'
    simp only [Sh.leaves, Sh.places, List.map_cons, List.map_append, List.length_append, List.countP_append, List.countP_cons, hg, hr, if_true]
    omega
def routesUpto (l : List Nod) (k : Nat) : Nat := (l.take k).countP (·.route)
theorem routes_step {l : List Nod} {k : Nat} {n : Nod} (h : l[k]? = some n) : routesUpto l (k + 1) = routesUpto l k + (if n.route then 1 else 0) := by
  rw [routesUpto, routesUpto, List.take_succ_eq_append_getElem (lt_of_get h), List.countP_append, (List.getElem?_eq_some_iff.1 h).2]
  simp [List.countP_cons]
theorem routes_le (l : List Nod) (k : Nat) : routesUpto l k ≤ k := by
  have h1 := List.countP_le_length (p := fun n : Nod => n.route) (l := l.take k)
  have h2 := List.length_take_le k l
  exact Nat.le_trans h1 h2
theorem leaves_routes {t : PT} {s : Sh} (h : mayT t = some s) : (leavesT t).length = routesUpto t.ns t.ns.length + 1 := by
  have h1 := leaves_count (good_of h).hangs
  rw [(good_of h).nodes.countP_eq] at h1
  rw [leavesT, h, routesUpto, List.take_of_length_le (Nat.le_refl _)]
  exact h1
theorem leaves_pairs {ns : List Nod} {s : Sh} {a : Int} {k : Kb} (h : Fits ns s a k) : (s.leaves.flatMap fun i => (ns.getD i default).l).length = ((s.places.map fun i => ns.getD i default).map fun n => n.l.length).sum := by
  induction s generalizing a k with
  | leaf i => simp [Sh.leaves, Sh.places]
  | node i l r h1 h2 =>
    obtain ⟨rfl, n, hn, hr, hk, hl, hr'⟩ := h
    have hg : ns.getD i default = n := by rw [List.getD_eq_getElem?_getD, hn]; rfl
    have e1 := h1 hl
    have e2 := h2 hr'
    have e3 : n.l.length = 0 := by rw [(route_pure hk).1]; rfl
    simp only [Sh.leaves, Sh.places, List.flatMap_append, List.map_cons, List.map_append, List.length_append, List.sum_cons, List.sum_append, hg, e1, e2, e3]
    omega
theorem sum_perm {a b : List Nat} (h : a.Perm b) : a.sum = b.sum := by
  induction h with
  | nil => rfl
  | cons x _ ih => simp only [List.sum_cons, ih]
  | swap x y l => simp only [List.sum_cons]; omega
  | trans _ _ h1 h2 => exact h1.trans h2
theorem all_pairs {t : PT} {s : Sh} (h : mayT t = some s) : (allT t).length = pairsUpto t.ns t.ns.length := by
  have h1 := leaves_pairs (may_fits h)
  rw [sum_perm ((good_of h).nodes.map _)] at h1
  rw [allT, leavesT, h, pairsUpto, List.take_of_length_le (Nat.le_refl _)]
  exact h1

/-! ### Keys rise -/
theorem rises_pw {l : List Pr} : rises l = true ↔ l.Pairwise fun a b => a.k < b.k := by
  rw [List.pairwise_iff_getElem]
  constructor
  · intro h i j hi hj hij
    exact rises_lt h i j _ _ hij (List.getElem?_eq_getElem hi) (List.getElem?_eq_getElem hj)
  · intro h
    exact rises_iff.2 fun j a b ha hb => by
      obtain ⟨h1, rfl⟩ := List.getElem?_eq_some_iff.1 ha
      obtain ⟨h2, rfl⟩ := List.getElem?_eq_some_iff.1 hb
      exact h j (j + 1) h1 h2 (by omega)
theorem leafOk_parts {n : Nod} {k : Kb} : leafOk n k = true ↔ n.key = 0 ∧ n.left = 0 ∧ n.right = 0 ∧ rises n.l = true ∧ -1000000 ≤ n.stat ∧ n.stat ≤ 1000000 ∧ ∀ p ∈ n.l, k.has p.k = true := by
  simp [leafOk]
theorem routeOk_parts {n : Nod} {k : Kb} (h : routeOk n k = true) : n.l = [] ∧ n.stat = 0 ∧ k.has n.key = true ∧ ¬ (k.isLeast = true ∧ n.key = k.least) := by
  simp only [routeOk, Bool.and_eq_true, decide_eq_true_eq, List.isEmpty_iff, Bool.not_eq_true', Bool.and_eq_false_iff, decide_eq_false_iff_not] at h
  obtain ⟨h1, h2, h3, h4⟩ := h
  refine ⟨h1, h2, h3, ?_⟩
  rintro ⟨h5, h6⟩
  rcases h4 with h4 | h4
  · rw [h5] at h4; cases h4
  · exact h4 h6
theorem has_iff {k : Kb} {x : Int} : k.has x = true ↔ (k.isLeast = true → k.least ≤ x) ∧ (k.isMost = true → x < k.most) := by
  unfold Kb.has
  cases k.isLeast <;> cases k.isMost <;> simp
theorem has_lefts {k : Kb} {key x : Int} (hk : k.has key = true) : (k.lefts key).has x = true ↔ k.has x = true ∧ x < key := by
  rw [has_iff] at hk
  rw [has_iff, has_iff]
  simp only [Kb.lefts, forall_const]
  constructor
  · rintro ⟨h1, h2⟩; exact ⟨⟨h1, fun h => by have := hk.2 h; omega⟩, h2⟩
  · rintro ⟨⟨h1, h2⟩, h3⟩; exact ⟨h1, h3⟩
theorem has_rights {k : Kb} {key x : Int} (hk : k.has key = true) : (k.rights key).has x = true ↔ k.has x = true ∧ key ≤ x := by
  rw [has_iff] at hk
  rw [has_iff, has_iff]
  simp only [Kb.rights, forall_const]
  constructor
  · rintro ⟨h1, h2⟩; exact ⟨⟨fun h => by have := hk.1 h; omega, h2⟩, h1⟩
  · rintro ⟨⟨h1, h2⟩, h3⟩; exact ⟨h3, h2⟩
theorem fits_rise {ns : List Nod} {s : Sh} {a : Int} {k : Kb} (h : Fits ns s a k) : (s.leaves.flatMap fun i => (ns.getD i default).l).Pairwise (fun x y => x.k < y.k) ∧ ∀ p ∈ s.leaves.flatMap fun i => (ns.getD i default).l, k.has p.k = true := by
  induction s generalizing a k with
  | leaf i =>
    obtain ⟨rfl, n, hn, hr, hk⟩ := h
    have hg : ns.getD i default = n := by rw [List.getD_eq_getElem?_getD, hn]; rfl
    obtain ⟨_, _, _, h4, _, _, h7⟩ := leafOk_parts.1 hk
    have e : (Sh.leaf i).leaves.flatMap (fun i => (ns.getD i default).l) = n.l := by
      simp only [Sh.leaves, List.flatMap_cons, List.flatMap_nil, List.append_nil, hg]
    rw [e]
    exact ⟨rises_pw.1 h4, h7⟩
  | node i l r h1 h2 =>
    obtain ⟨rfl, n, hn, hr, hk, hl, hr'⟩ := h
    obtain ⟨a1, a2⟩ := h1 hl
    obtain ⟨b1, b2⟩ := h2 hr'
    obtain ⟨_, _, hh, _⟩ := routeOk_parts hk
    simp only [Sh.leaves, List.flatMap_append]
    refine ⟨List.pairwise_append.2 ⟨a1, b1, fun x hx y hy => ?_⟩, fun p hp => ?_⟩
    · have h3 := ((has_lefts hh).1 (a2 x hx)).2
      have h4 := ((has_rights hh).1 (b2 y hy)).2
      omega
    · rcases List.mem_append.1 hp with h5 | h5
      · exact ((has_lefts hh).1 (a2 p h5)).1
      · exact ((has_rights hh).1 (b2 p h5)).1
theorem all_rise (t : PT) : rises (allT t) = true := by
  unfold allT leavesT
  cases h : mayT t with
  | none => rfl
  | some s => exact rises_pw.2 (fits_rise (may_fits h)).1
/-- Where there is a route, a way has a place. -/
theorem ups_of_route {t : PT} {s : Sh} {j : Nat} {n : Nod} (h : mayT t = some s) (hj : t.ns[j]? = some n) (hr : n.route = true) (key : Int) : (findD t key).ups ≠ [] := by
  have hd : findD t key = s.find t.ns key := by simp [findD, findT, h]
  rw [hd]
  cases s with
  | leaf i =>
    obtain ⟨_, m, hm, hmr, _⟩ := may_fits h
    have := (good_of h).all j (lt_of_get hj)
    simp [Sh.places] at this
    subst this
    rw [hj] at hm
    cases hm
    rw [hr] at hmr
    cases hmr
  | node i l r => simp only [Sh.find]; split <;> simp
/-! ### One leaf -/
theorem one_may (l : List Pr) : mayT (oneT l) = some (.leaf 0) := by
  refine may_of_fits (by simp [oneT]) ⟨rfl, _, rfl, rfl, ?_⟩ (by simp [Sh.places]) (fun i hi => by simp [oneT] at hi; simp [Sh.places, hi])
  rw [leafOk_parts]
  refine ⟨rfl, rfl, rfl, ?_, by show (-1000000 : Int) ≤ 0; decide, by show (0 : Int) ≤ 1000000; decide, fun p _ => rfl⟩
  show rises (if rises l then l else []) = true
  cases h : rises l
  · rfl
  · exact h
theorem one_find (l : List Pr) (key : Int) : findD (oneT l) key = ⟨0, [], []⟩ := by simp [findD, findT, one_may, Sh.find]
theorem one_leaves (l : List Pr) : leavesT (oneT l) = [0] := by simp [leavesT, one_may, Sh.leaves]
theorem one_all (l : List Pr) : allT (oneT l) = if rises l then l else [] := by
  simp only [allT, one_leaves, List.flatMap_cons, List.flatMap_nil, List.append_nil]
  rfl
end Go.Proofs.Ytmkodknmknfdkaa
