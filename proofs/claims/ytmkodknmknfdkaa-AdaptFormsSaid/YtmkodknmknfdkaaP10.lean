/- Plain laws: what the laws of trees need beyond. -/
import Derived.Test.YtmkodknmknfdkaaP9
set_option linter.unusedVariables false
set_option linter.unusedSimpArgs false
namespace Go.Proofs.Ytmkodknmknfdkaa
open E Go

theorem E.Quiet.loud {P : Program} {op : Op} {ty : TypeId} {n : Nat} {env : E.Env} {Γ : List SProp} {L : E.Loc} {v : Value} (h : E.Quiet P op ty n env Γ L v) : E.Loud P op ty n env Γ L (fun v' Γ' L' => v' = v ∧ Γ' = Γ ∧ L' = L) :=
  E.Loud.ofRun fun X d pos aft g a w H h1 h2 h3 => ⟨v, w, H, Γ, L, h X d pos aft g a w H h1 h2 h3, ⟨rfl, rfl, rfl⟩, Hp.le_refl H, h2, h3⟩
theorem wrapU (n : Int) : IntKind.u64.wrap n = n % 18446744073709551616 := by simp [IntKind.wrap, IntKind.bits, IntKind.signed]
/-- One of so many places. -/
theorem pick {a : Int} {n : Nat} (h0 : 0 < n) (h1 : n ≤ 4611686018427387904) : ∃ i : Nat, i < n ∧ IntKind.i64.wrap (Int.tmod (IntKind.u64.wrap a) (IntKind.u64.wrap (n : Int))) = (i : Int) ∧ IntKind.u64.wrap (n : Int) ≠ 0 := by
  have e1 : IntKind.u64.wrap (n : Int) = (n : Int) := by rw [wrapU]; omega
  obtain ⟨A, hA⟩ := Int.eq_ofNat_of_zero_le (show 0 ≤ IntKind.u64.wrap a by rw [wrapU]; omega)
  have h2 : A % n < n := Nat.mod_lt _ h0
  refine ⟨A % n, h2, ?_, by rw [e1]; omega⟩
  rw [e1, hA]
  have e2 : Int.tmod (A : Int) (n : Int) = ((A % n : Nat) : Int) := rfl
  rw [e2]
  exact wrapI (by omega) (by omega)
theorem light_yes {b : Bool} (h : ¬ (0 : Int) < (if b then 0 else 1)) : b = true := by
  cases b
  · exact absurd (by decide) h
  · rfl
theorem may_pos {t : Tr} {s : Sh} (h : mayT t.p = some s) : 0 < t.ns.l.length := by
  have h1 := (good_of h).size
  have h2 : t.p.ns.length = t.ns.l.length := by simp [Tr.p]
  have h3 : 0 < s.size := by cases s <;> simp only [Sh.size] <;> omega
  omega
theorem app_val (r : Int) (a : Option Addr) (c : Nat) (l : List Nd) (m : Nd) : Tr.val ⟨r, ⟨a, c, l ++ [m]⟩⟩ = .agg #[.int .i64 r, .slice a (l.length + 1) c] := by simp [Tr.val, Sl.val]
def zeroN : Nd := ⟨false, 0, 0, 0, ⟨none, 0, []⟩, 0⟩
theorem p_app {u : Tr} {t : PT} {a : Option Addr} {c : Nat} {m : Nd} (h : u.p = t) : (⟨u.root, ⟨a, c, u.ns.l ++ [m]⟩⟩ : Tr).p = ⟨t.root, t.ns ++ [m.p]⟩ := by
  subst h
  simp [Tr.p]
theorem p_set {u : Tr} {t : PT} {a : Option Addr} {c : Nat} {i : Nat} {m : Nd} (h : u.p = t) : (⟨u.root, ⟨a, c, u.ns.l.set i m⟩⟩ : Tr).p = ⟨t.root, t.ns.set i m.p⟩ := by
  subst h
  simp [Tr.p, List.map_set]
theorem p_get {u : Tr} {t : PT} {i : Nat} {n : Nod} (h : u.p = t) (hn : t.ns[i]? = some n) : ∃ y, u.ns.l[i]? = some y ∧ y.p = n := by
  subst h
  have hn' : (u.ns.l.map Nd.p)[i]? = some n := hn
  rw [List.getElem?_map] at hn'
  cases hy : u.ns.l[i]? with
  | none => rw [hy] at hn'; cases hn'
  | some y => rw [hy] at hn'; exact ⟨y, rfl, Option.some.inj hn'⟩
theorem p_len {u : Tr} {t : PT} (h : u.p = t) : u.ns.l.length = t.ns.length := by subst h; simp [Tr.p]
theorem small_of_p {u t : Tr} (h : u.p = t.p) (hs : smallP t.ns.l) : smallP u.ns.l := small_p (congrArg PT.ns h) hs
theorem plain_none {t : PT} (h : (mayT t).isSome = false) : plainD t = ⟨0, []⟩ := by simp [plainD, plainT, none_of h]
theorem plain_none_len {u : Tr} {t : PT} (h : (mayT t).isSome = false) (hu : u.p = plainD t) : u.ns.l.length = 0 := by
  rw [plain_none h] at hu
  exact p_len hu
theorem small_one {u : Tr} {l : List Pr} (h : u.p = oneT l) (hl : l.length ≤ 1000000) : smallP u.ns.l := fun n hn => by
  have h1 : n.p ∈ (oneT l).ns := by rw [← h]; exact List.mem_map.2 ⟨n, hn, rfl⟩
  simp only [oneT, List.mem_singleton] at h1
  have h2 : n.ps.l = if rises l then l else [] := congrArg Nod.l h1
  rw [h2]
  split
  · exact hl
  · simp
theorem pairs_mono (l : List Nod) : ∀ k, pairsUpto l k ≤ pairsUpto l l.length := fun k => by
  unfold pairsUpto
  rw [List.take_of_length_le (Nat.le_refl _)]
  conv => rhs; rw [← List.take_append_drop k l]
  rw [List.map_append, List.sum_append]
  omega
theorem toI_ne {l : List Nat} (h : l ≠ []) : toI l ≠ [] := fun e => h (List.map_eq_nil_iff.1 e)
theorem leaves_pos (s : Sh) : 0 < s.leaves.length := by
  induction s with
  | leaf i => simp [Sh.leaves]
  | node i l r h1 h2 => simp only [Sh.leaves, List.length_append]; omega
theorem leavesT_pos {t : PT} {s : Sh} (h : mayT t = some s) : 0 < (leavesT t).length := by rw [leavesT_eq h]; exact leaves_pos s
theorem find_mem {t : PT} {s : Sh} (h : mayT t = some s) (key : Int) : (findD t key).leaf ∈ leavesT t := by rw [findD_eq h, leavesT_eq h]; exact find_leaf
theorem find_lt {t : PT} {s : Sh} (h : mayT t = some s) (key : Int) : (findD t key).leaf < t.ns.length := leavesT_lt (find_mem h key)
/-! ### Slices that turn no more -/
def PairsEndF (l : List Pr) (v : Value) (Γ : List SProp) (M : E.Loc) : Prop := ∃ u : Sl Pr, v = u.val ∧ Γ = [prsP u] ∧ M = [] ∧ u.l = l
def IntsEndF (l : List Int) (v : Value) (Γ : List SProp) (M : E.Loc) : Prop := ∃ u : Sl Int, v = u.val ∧ Γ = [intsP u] ∧ M = [] ∧ u.l = l
theorem light01 (b : Bool) : 0 ≤ (if b then (0 : Int) else 1) ∧ (if b then (0 : Int) else 1) ≤ 1 := by cases b <;> decide
theorem light_both {a b : Bool} (h : ¬ (0 : Int) < (if a then 0 else 1) + (if b then 0 else 1)) : a = true ∧ b = true := by
  cases a <;> cases b <;> simp at h ⊢
/-- Where the turned tree's nodes lie, as far as they are laid. -/
def Turn (p : Tr) (k : Nat) (o : List Nd) (i : Nat) : Prop := o.length = p.ns.l.length ∧ ∀ (j : Nat) (y : Nd), j < i → p.ns.l[j]? = some y → (o.map Nd.p)[(j + k) % p.ns.l.length]? = some (turnN p.ns.l.length k y.p)
theorem Turn.step {p : Tr} {k i : Nat} {o : List Nd} {y m : Nd} (h : Turn p k o i) (hy : p.ns.l[i]? = some y) (hm : m.p = turnN p.ns.l.length k y.p) : Turn p k (o.set ((i + k) % p.ns.l.length) m) (i + 1) := by
  obtain ⟨h1, h2⟩ := h
  have hi := lt_of_get hy
  have hlt : (i + k) % p.ns.l.length < o.length := by rw [h1]; exact Nat.mod_lt _ (by omega)
  refine ⟨by simpa using h1, fun j z hj hz => ?_⟩
  rw [List.map_set]
  by_cases hji : j = i
  · subst hji
    rw [hy] at hz
    cases hz
    rw [List.getElem?_set_self (by simpa using hlt), hm]
  · rw [List.getElem?_set_ne (fun e => hji (turn_inj (lt_of_get hz) hi e.symm))]
    exact h2 j z (by omega) hz
theorem Turn.done {p u : Tr} {t : PT} {k : Nat} {s : Sh} (hs : mayT t = some s) (hp : p.p = plainD t) (h : Turn p k u.ns.l p.ns.l.length) (hr : u.root = ((k % p.ns.l.length : Nat) : Int)) : (mayT u.p).isSome = true ∧ plainD u.p = plainD t := by
  have hl : (plainD t).ns.length = p.ns.l.length := (p_len hp).symm
  refine turned hs (by rw [hl]; show (u.ns.l.map Nd.p).length = _; rw [List.length_map]; exact h.1) (by rw [hl]; exact hr) fun i x hx => ?_
  rw [hl]
  have hx' : p.p.ns[i]? = some x := by rw [hp]; exact hx
  have hx2 : (p.ns.l.map Nd.p)[i]? = some x := hx'
  rw [List.getElem?_map] at hx2
  cases hy : p.ns.l[i]? with
  | none => rw [hy] at hx2; cases hx2
  | some y =>
    rw [hy] at hx2
    cases hx2
    exact h.2 i y (lt_of_get hy) hy
theorem plain_kids {p : Tr} {t : PT} {s : Sh} {i : Nat} {y : Nd} (hs : mayT t = some s) (hp : p.p = plainD t) (hy : p.ns.l[i]? = some y) (hr : y.route = true) : 0 ≤ y.left ∧ y.left < (p.ns.l.length : Int) ∧ 0 ≤ y.right ∧ y.right < (p.ns.l.length : Int) := by
  have hm := (plain_may hs).2.1
  rw [← hp] at hm
  have hyp : p.p.ns[i]? = some y.p := map_get hy
  have := fits_kids (may_fits hm) i ((good_of hm).all i (lt_of_get hyp)) y.p hyp hr
  have hl : p.p.ns.length = p.ns.l.length := by simp [Tr.p]
  rw [hl] at this
  exact this
theorem tmod_nat (a b : Nat) : Int.tmod (a : Int) (b : Int) = ((a % b : Nat) : Int) := rfl
theorem tmod_nonneg {a : Int} (h : 0 ≤ a) (k n : Nat) : Int.tmod (a + (k : Int)) (n : Int) = (a + (k : Int)) % (n : Int) := Int.tmod_eq_emod_of_nonneg (by omega)
theorem turnN_route {n k : Nat} {y : Nd} (hr : y.route = true) (h1 : 0 ≤ y.left) (h2 : 0 ≤ y.right) : ({ y with left := Int.tmod (y.left + (k : Int)) (n : Int), right := Int.tmod (y.right + (k : Int)) (n : Int) } : Nd).p = turnN n k y.p := by
  rw [tmod_nonneg h1, tmod_nonneg h2]
  simp [turnN, Nd.p, hr]
theorem turnN_leaf {n k : Nat} {y : Nd} (hr : y.route = false) : y.p = turnN n k y.p := by simp [turnN, Nd.p, hr]
theorem zero_rows (n : Nat) : List.replicate n (rowN zeroN) = (List.replicate n zeroN).map rowN := by simp
theorem turn_zero (p : Tr) (k : Nat) : Turn p k (List.replicate p.ns.l.length zeroN) 0 := ⟨by simp, fun j y h => absurd h (Nat.not_lt_zero _)⟩
theorem small_zero (n : Nat) : smallP (List.replicate n zeroN) := fun m hm => by
  rw [List.eq_of_mem_replicate hm]
  simp [zeroN]
theorem psP_zero {H : Hp} (n : Nat) : (psP (List.replicate n zeroN)).holds H := fun m hm => by
  rw [List.eq_of_mem_replicate hm]
  exact sl_nil _ _ _ (Nat.zero_le _)
theorem plain_len {p : Tr} {t : Tr} {s : Sh} (hs : mayT t.p = some s) (hp : p.p = plainD t.p) : p.ns.l.length = t.ns.l.length := by
  have h1 := p_len hp
  rw [(plain_may hs).1] at h1
  rw [h1]
  show (s.lay t.p.ns 0).length = _
  rw [Sh.lay_length, (good_of hs).size]
  simp [Tr.p]
theorem lay_small {ns : List Nod} {s : Sh} {a : Int} {k : Kb} (h : Fits ns s a k) (b : Nat) : ∀ n ∈ s.lay ns b, ∃ m ∈ ns, n.l = m.l := by
  induction s generalizing a k b with
  | leaf i =>
    obtain ⟨rfl, m, hm, _⟩ := h
    intro n hn
    simp only [Sh.lay, getD_of hm, List.mem_singleton] at hn
    subst hn
    exact ⟨n, List.mem_of_getElem? hm, rfl⟩
  | node i l r h1 h2 =>
    obtain ⟨rfl, m, hm, hr, hk, hl, hr'⟩ := h
    intro n hn
    simp only [Sh.lay, getD_of hm, List.mem_cons, List.mem_append] at hn
    rcases hn with rfl | hn | hn
    · exact ⟨m, List.mem_of_getElem? hm, rfl⟩
    · exact h1 hl (b + 1) n hn
    · exact h2 hr' (b + 1 + l.size) n hn
theorem small_plain {p t : Tr} {s : Sh} (hs : mayT t.p = some s) (hp : p.p = plainD t.p) (h : smallP t.ns.l) : smallP p.ns.l := fun n hn => by
  have h1 : n.p ∈ (plainD t.p).ns := by rw [← hp]; exact List.mem_map.2 ⟨n, hn, rfl⟩
  rw [(plain_may hs).1] at h1
  obtain ⟨m, hm, e⟩ := lay_small (may_fits hs) 0 n.p h1
  obtain ⟨y, hy, rfl⟩ := List.mem_map.1 hm
  have h2 := h y hy
  have h3 : n.ps.l = y.ps.l := e
  rw [h3]
  exact h2
theorem only_end {t : Tr} {s : Sh} {i : Nat} {x : Nd} {p : Pr} {l : List Pr} (hl : l = withT x.ps.l p) (h : mayT t.p = some s) (hi : i ∈ leavesT t.p) (hn : t.p.ns[i]? = some x.p) :
    ((setT t.p (i : Int) l 0).isSome == decide ((i : Int) = ((findD t.p p.k).leaf : Int))) = true := by
  subst hl
  have e := only_set (p := p) h hi hn
  have e' : x.p.l = x.ps.l := rfl
  rw [e'] at e
  rw [e]
  simp
theorem turn_val {r : Int} {a : Option Addr} {c n : Nat} {o : List Nd} (h : o.length = n) : Tr.val ⟨r, ⟨a, c, o⟩⟩ = .agg #[.int .i64 r, .slice a n c] := by subst h; rfl
theorem same_true {a b : PT} (h1 : (mayT a).isSome = true) (h2 : (mayT b).isSome = true) (h : plainD b = plainD a) : sameT a b = true := by
  unfold sameT
  rw [h1, h2, h]
  simp
end Go.Proofs.Ytmkodknmknfdkaa
