/- Pairs, nodes, trees: how they lie in memory; the plain functions of trees. -/
import Derived.Test.YtmkodknmknfdkaaE12
import Derived.Test.YtmkodknmknfdkaaRows
set_option linter.unusedVariables false
set_option linter.unusedSimpArgs false
namespace Go.Proofs.Ytmkodknmknfdkaa
open E

/-! ### Values -/
structure Pr where
  k : Int
  v : Int
  deriving DecidableEq, Inhabited
def rowP (p : Pr) : List Value := [.int .i64 p.k, .int .i64 p.v]
def Pr.val (p : Pr) : Value := .agg #[.int .i64 p.k, .int .i64 p.v]
def rowB (b : Bool) : List Value := [.bool b]
def prsP (s : Sl Pr) : SProp := sl s.a s.c 2 (s.l.map rowP)
def boolsP (s : Sl Bool) : SProp := sl s.a s.c 1 (s.l.map rowB)
theorem one_map {α : Type} {row : α → List Value} (h : ∀ x, (row x).all Value.oneCell' = true) (l : List α) : ∀ r ∈ l.map row, r.all Value.oneCell' = true := by
  intro r hr
  obtain ⟨x, _, rfl⟩ := List.mem_map.1 hr
  exact h x

/-- A node, with where its pairs lie. -/
structure Nd where
  route : Bool
  key : Int
  left : Int
  right : Int
  ps : Sl Pr
  stat : Int
def rowN (n : Nd) : List Value := [.bool n.route, .int .i64 n.key, .int .i64 n.left, .int .i64 n.right, n.ps.val, .int .i64 n.stat]
def Nd.val (n : Nd) : Value := .agg #[.bool n.route, .int .i64 n.key, .int .i64 n.left, .int .i64 n.right, n.ps.val, .int .i64 n.stat]
def ndsP (s : Sl Nd) : SProp := sl s.a s.c 6 (s.l.map rowN)
/-- The nodes' pairs. -/
def psP (l : List Nd) : SProp := ⟨fun H => ∀ n ∈ l, (prsP n.ps).holds H, fun _ _ h k n hn => (prsP n.ps).mono _ _ h (k n hn)⟩
structure Tr where
  root : Int
  ns : Sl Nd
def Tr.val (t : Tr) : Value := .agg #[.int .i64 t.root, t.ns.val]
theorem psP_get {l : List Nd} {H : Hp} {i : Nat} {n : Nd} (h : (psP l).holds H) (hn : l[i]? = some n) : (prsP n.ps).holds H := h n (List.mem_of_getElem? hn)
theorem psP_nil {H : Hp} : (psP []).holds H := fun _ h => by simp at h
theorem psP_cons {H : Hp} {l : List Nd} {n : Nd} (hn : (prsP n.ps).holds H) (h : (psP l).holds H) : (psP (n :: l)).holds H := fun m hm => by
  rcases List.mem_cons.1 hm with h' | h'
  · rw [h']; exact hn
  · exact h m h'
theorem psP_snoc {H : Hp} {l : List Nd} {n : Nd} (h : (psP l).holds H) (hn : (prsP n.ps).holds H) : (psP (l ++ [n])).holds H := fun m hm => by
  rcases List.mem_append.1 hm with h' | h'
  · exact h m h'
  · rw [List.mem_singleton.1 h']; exact hn
theorem psP_app {H : Hp} {l m : List Nd} (h : (psP l).holds H) (hm : (psP m).holds H) : (psP (l ++ m)).holds H := fun n hn => by
  rcases List.mem_append.1 hn with h' | h'
  · exact h n h'
  · exact hm n h'
theorem psP_set {H : Hp} {l : List Nd} {n : Nd} {i : Nat} (h : (psP l).holds H) (hn : (prsP n.ps).holds H) : (psP (l.set i n)).holds H := fun m hm => by
  rcases List.mem_or_eq_of_mem_set hm with h' | h'
  · exact h m h'
  · subst h'; exact hn

/-- A node by itself. -/
structure Nod where
  route : Bool
  key : Int
  left : Int
  right : Int
  l : List Pr
  stat : Int
  deriving DecidableEq, Inhabited
def Nd.p (n : Nd) : Nod := ⟨n.route, n.key, n.left, n.right, n.ps.l, n.stat⟩
structure PT where
  root : Int
  ns : List Nod
  deriving DecidableEq, Inhabited
def Tr.p (t : Tr) : PT := ⟨t.root, t.ns.l.map Nd.p⟩

/-- A way from the root to a leaf, in memory. -/
structure PathS where
  leaf : Int
  ups : Sl Int
  rights : Sl Bool
def PathS.val (p : PathS) : Value := .agg #[.int .i64 p.leaf, p.ups.val, p.rights.val]
theorem len_ne {α : Type} {a b : List α} (h : ¬ ((a.length : Int) = (b.length : Int))) : a ≠ b := fun e => h (by rw [e])
theorem sl_none {c k : Nat} {rows : List (List Value)} {H : Hp} (h : (sl none c k rows).holds H) : rows = [] := by
  obtain ⟨_, _, _, h4⟩ := sl_def.1 h
  rcases h4 with h4 | ⟨_, h5, _⟩
  · exact h4
  · cases h5
theorem At.nilOf {X : Cx} {n : Nat} {K : Act → World → Prop} {env : Env} {Γ : List SProp} {L : E.Loc} {α : Type} {s : Sl α} {k : Nat} {row : α → List Value} (hs : sl s.a s.c k (s.l.map row) ∈ Γ) (ha : s.a = none) (h : s.l = [] → At X n K env Γ L) : At X n K env Γ L :=
  At.have _ (fun _ hH => by
    have h1 := hH.mem hs
    rw [ha] at h1
    simpa using sl_none h1) h

/-! ### Pairs that rise -/
def rises : List Pr → Bool
  | a :: b :: l => decide (a.k < b.k) && rises (b :: l)
  | _ => true
theorem rises_iff : ∀ {l : List Pr}, rises l = true ↔ ∀ (j : Nat) (a b : Pr), l[j]? = some a → l[j + 1]? = some b → a.k < b.k
  | [] => by simp [rises]
  | [a] => by simp [rises]
  | a :: b :: l => by
    simp only [rises, Bool.and_eq_true, decide_eq_true_eq]
    rw [rises_iff (l := b :: l)]
    constructor
    · rintro ⟨h1, h2⟩ j x y hx hy
      cases j with
      | zero => simp at hx hy; subst hx; subst hy; exact h1
      | succ j => exact h2 j x y (by simpa using hx) (by simpa using hy)
    · intro h
      exact ⟨h 0 a b (by simp) (by simp), fun j x y hx hy => h (j + 1) x y (by simpa using hx) (by simpa using hy)⟩
theorem rises_no {l : List Pr} {j : Nat} {a b : Pr} (ha : l[j]? = some a) (hb : l[j + 1]? = some b) (h : b.k ≤ a.k) : rises l = false := by
  cases hr : rises l
  · rfl
  · have := rises_iff.1 hr j a b ha hb; omega
theorem rises_lt {l : List Pr} (h : rises l = true) : ∀ (i j : Nat) (a b : Pr), i < j → l[i]? = some a → l[j]? = some b → a.k < b.k := by
  intro i j
  induction j with
  | zero => intro a b hij; omega
  | succ j ih =>
    intro a b hij ha hb
    rcases Nat.lt_or_ge i j with h1 | h1
    · have hj : j < l.length := by have := lt_of_get hb; omega
      obtain ⟨c, hc⟩ := get_of_lt hj
      have h2 := ih a c h1 ha hc
      have h3 := rises_iff.1 h j c b hc hb
      omega
    · obtain rfl : i = j := by omega
      exact rises_iff.1 h i a b ha hb

theorem stepRise {l : List Pr} {j : Nat} {x y : Pr} (hI : ∀ (i : Nat) (a b : Pr), i + 1 < j + 1 → l[i]? = some a → l[i + 1]? = some b → a.k < b.k) (hx : l[j]? = some x) (hy : l[j + 1]? = some y) (h : x.k < y.k) :
    ∀ (i : Nat) (a b : Pr), i + 1 < j + 1 + 1 → l[i]? = some a → l[i + 1]? = some b → a.k < b.k := fun i a b hi ha hb => by
  rcases Nat.lt_or_ge (i + 1) (j + 1) with h1 | h1
  · exact hI i a b h1 ha hb
  · obtain rfl : i = j := by omega
    rw [hx] at ha; rw [hy] at hb; cases ha; cases hb; exact h

/-! ### Alike, place by place -/
theorem take_step {α : Type} {a b : List α} {k : Nat} {x : α} (hx : a[k]? = some x) (hy : b[k]? = some x) (h : a.take k = b.take k) : a.take (k + 1) = b.take (k + 1) := by
  rw [List.take_succ_eq_append_getElem (lt_of_get hx), List.take_succ_eq_append_getElem (lt_of_get hy), h, (List.getElem?_eq_some_iff.1 hx).2, (List.getElem?_eq_some_iff.1 hy).2]
theorem ne_at {α : Type} {a b : List α} {k : Nat} {x y : α} (hx : a[k]? = some x) (hy : b[k]? = some y) (h : x ≠ y) : a ≠ b := fun e => by
  subst e; rw [hx] at hy; exact h (Option.some.inj hy)
theorem eq_of_takes {α : Type} {a b : List α} {k : Nat} (hl : a.length = b.length) (hk : a.length ≤ k) (h : a.take k = b.take k) : a = b := by
  rwa [List.take_of_length_le hk, List.take_of_length_le (by omega)] at h
theorem Pr.eq_iff {x y : Pr} : [x.k, x.v] = [y.k, y.v] ↔ x = y := by cases x; cases y; simp

/-! ### The first place -/
def idxI {α : Type} (p : α → Bool) (l : List α) : Int := if l.any p then (l.findIdx p : Int) else -1
theorem idx_at {α : Type} {p : α → Bool} {l : List α} {k : Nat} {x : α} (hx : l[k]? = some x) (hp : p x = true) (hno : ∀ y ∈ l.take k, p y = false) : idxI p l = (k : Int) := by
  have hm : x ∈ l := List.mem_of_getElem? hx
  have ha : l.any p = true := List.any_eq_true.2 ⟨x, hm, hp⟩
  have hk := lt_of_get hx
  have : l.findIdx p = k := by
    refine (List.findIdx_eq hk).2 ⟨?_, fun j hj => ?_⟩
    · rw [(List.getElem?_eq_some_iff.1 hx).2]; exact hp
    · have := hno l[j] (List.mem_take_iff_getElem.2 ⟨j, by omega, rfl⟩)
      simpa using this
  simp [idxI, ha, this]
theorem idx_step {α : Type} {p : α → Bool} {l : List α} {k : Nat} {x : α} (hx : l[k]? = some x) (hp : p x = false) (hno : ∀ y ∈ l.take k, p y = false) : ∀ y ∈ l.take (k + 1), p y = false := by
  intro y hy
  have hk := lt_of_get hx
  rw [List.take_succ_eq_append_getElem hk] at hy
  rcases List.mem_append.1 hy with h | h
  · exact hno y h
  · rw [List.mem_singleton.1 h, (List.getElem?_eq_some_iff.1 hx).2]; exact hp
theorem idx_no {α : Type} {p : α → Bool} {l : List α} (h : ∀ y ∈ l, p y = false) : idxI p l = -1 := by
  have : l.any p = false := by simpa using h
  simp [idxI, this]
theorem idx_any {α : Type} (p : α → Bool) (l : List α) : decide (0 ≤ idxI p l) = l.any p := by
  unfold idxI
  cases l.any p <;> simp <;> omega

theorem any_not {α : Type} (l : List α) (f : α → Bool) : (l.any fun p => !f p) = !(l.all f) := by induction l with
  | nil => rfl
  | cons x l ih => simp only [List.any_cons, List.all_cons, ih, Bool.not_and]
/-! ### Which keys may stand somewhere -/
structure Kb where
  least : Int
  most : Int
  isLeast : Bool
  isMost : Bool
  deriving DecidableEq
def Kb.val (k : Kb) : Value := .agg #[.int .i64 k.least, .int .i64 k.most, .bool k.isLeast, .bool k.isMost]
def Kb.has (k : Kb) (key : Int) : Bool := (!k.isLeast || decide (k.least ≤ key)) && (!k.isMost || decide (key < k.most))
def Kb.all : Kb := ⟨0, 0, false, false⟩

/-! ### Trees -/
inductive Sh where
  | leaf (at_ : Nat)
  | node (at_ : Nat) (l r : Sh)
  deriving DecidableEq, Inhabited
def Sh.at_ : Sh → Nat
  | .leaf i => i
  | .node i _ _ => i
def Sh.places : Sh → List Nat
  | .leaf i => [i]
  | .node i l r => i :: (l.places ++ r.places)
def Sh.size : Sh → Nat
  | .leaf _ => 1
  | .node _ l r => 1 + l.size + r.size
theorem Sh.size_places (s : Sh) : s.places.length = s.size := by
  induction s with
  | leaf i => rfl
  | node i l r h1 h2 => simp [Sh.places, Sh.size, h1, h2]; omega
def leafOk (n : Nod) (k : Kb) : Bool := decide (n.key = 0) && (decide (n.left = 0) && (decide (n.right = 0) && (rises n.l && (decide (-1000000 ≤ n.stat) && (decide (n.stat ≤ 1000000) && n.l.all (fun p => k.has p.k))))))
def routeOk (n : Nod) (k : Kb) : Bool := n.l.isEmpty && (decide (n.stat = 0) && (k.has n.key && !(k.isLeast && decide (n.key = k.least))))
def Kb.lefts (k : Kb) (key : Int) : Kb := ⟨k.least, key, k.isLeast, true⟩
def Kb.rights (k : Kb) (key : Int) : Kb := ⟨key, k.most, true, k.isMost⟩
/-- What hangs on a place, if it may be; met: the places that were come to before. -/
def shape (ns : List Nod) : Nat → List Nat → Int → Kb → Option Sh
  | 0, _, _, _ => none
  | f + 1, met, at_, k =>
    if at_ < 0 then none else
    match ns[at_.toNat]? with
    | none => none
    | some n =>
      if met.contains at_.toNat then none else
      if n.route then
        if routeOk n k then
          match shape ns f (at_.toNat :: met) n.left (k.lefts n.key) with
          | none => none
          | some l => match shape ns f (l.places ++ at_.toNat :: met) n.right (k.rights n.key) with
            | none => none
            | some r => some (.node at_.toNat l r)
        else none
      else if leafOk n k then some (.leaf at_.toNat) else none
/-- A tree that may be: how it hangs together. -/
def mayT (t : PT) : Option Sh :=
  if 2000 < t.ns.length then none else
  match shape t.ns (t.ns.length + 1) [] t.root Kb.all with
  | none => none
  | some s => if (List.range t.ns.length).all (s.places.contains ·) then some s else none
/-- The nodes of what hangs together, in plain order, from a place on. -/
def Sh.lay (ns : List Nod) : Sh → Nat → List Nod
  | .leaf i, _ => [ns.getD i default]
  | .node i l r, b =>
    let n := ns.getD i default
    { n with left := ((b + 1 : Nat) : Int), right := ((b + 1 + l.size : Nat) : Int) } :: (l.lay ns (b + 1) ++ r.lay ns (b + 1 + l.size))
def plainT (t : PT) : Option PT := (mayT t).map fun s => ⟨0, s.lay t.ns 0⟩
def Sh.leaves : Sh → List Nat
  | .leaf i => [i]
  | .node _ l r => l.leaves ++ r.leaves
def leavesT (t : PT) : List Nat := match mayT t with | none => [] | some s => s.leaves
def allT (t : PT) : List Pr := (leavesT t).flatMap fun i => (t.ns.getD i default).l
structure PathP where
  leaf : Nat
  ups : List Nat
  rights : List Bool
  deriving DecidableEq
def Sh.find (ns : List Nod) (key : Int) : Sh → PathP
  | .leaf i => ⟨i, [], []⟩
  | .node i l r => if key < (ns.getD i default).key then let p := l.find ns key; ⟨p.leaf, i :: p.ups, false :: p.rights⟩ else let p := r.find ns key; ⟨p.leaf, i :: p.ups, true :: p.rights⟩
def findT (t : PT) (key : Int) : Option PathP := (mayT t).map fun s => s.find t.ns key
def setT (t : PT) (at_ : Int) (l : List Pr) (stat : Int) : Option PT :=
  if (mayT t).isNone then none else if at_ < 0 then none else
  match t.ns[at_.toNat]? with
  | none => none
  | some n => if n.route then none else
    let u : PT := ⟨t.root, t.ns.set at_.toNat { n with l := l, stat := stat }⟩
    if (mayT u).isNone then none else some u

/-! ### Marks -/
def bits (N : Nat) (met : List Nat) : List Bool := (List.range N).map (met.contains ·)
theorem bits_length (N : Nat) (met : List Nat) : (bits N met).length = N := by simp [bits]
theorem bits_get {N i : Nat} {met : List Nat} (h : i < N) : (bits N met)[i]? = some (met.contains i) := by simp [bits, h]
theorem bits_set {N i : Nat} {met : List Nat} : (bits N met).set i true = bits N (i :: met) := by
  apply List.ext_getElem?
  intro j
  rw [List.getElem?_set]
  by_cases hj : j < N
  · rw [bits_get hj, bits_get hj]
    by_cases hij : i = j
    · subst hij; simp [bits_length, hj]
    · simp only [hij, if_false, List.contains_cons]
      have : (j == i) = false := by simpa using (Ne.symm hij)
      simp [this]
  · have h1 : (bits N met)[j]? = none := List.getElem?_eq_none (by rw [bits_length]; omega)
    have h2 : (bits N (i :: met))[j]? = none := List.getElem?_eq_none (by rw [bits_length]; omega)
    rw [h1, h2]
    split
    · rename_i h; subst h; rw [if_neg (by rw [bits_length]; exact hj)]
    · rfl
theorem count_set {bs : List Bool} {i : Nat} (h : bs[i]? = some false) : (bs.set i true).count false + 1 = bs.count false ∧ (bs.set i true).count true = bs.count true + 1 := by
  induction bs generalizing i with
  | nil => simp at h
  | cons b bs ih =>
    cases i with
    | zero => simp at h; subst h; simp
    | succ i =>
      have := ih (by simpa using h)
      cases b <;> simp <;> omega
theorem count_bits_le {N : Nat} {met met' : List Nat} (h : ∀ i ∈ met, i ∈ met') : (bits N met').count false ≤ (bits N met).count false := by
  unfold bits
  induction List.range N with
  | nil => simp
  | cons i l ih =>
    simp only [List.map_cons, List.count_cons]
    have : (met.contains i = true → met'.contains i = true) := by simpa using h i
    cases h1 : met.contains i <;> cases h2 : met'.contains i <;> simp_all <;> omega
theorem count_full {N : Nat} {met : List Nat} : (bits N met).count true = N ↔ (List.range N).all (met.contains ·) = true := by
  have : ∀ l : List Nat, (l.map (met.contains ·)).count true = l.length ↔ l.all (met.contains ·) = true := by
    intro l
    induction l with
    | nil => simp
    | cons i l ih =>
      have hle := List.count_le_length (a := true) (l := l.map (met.contains ·))
      simp only [List.length_map] at hle
      simp only [List.map_cons, List.count_cons, List.length_cons, List.all_cons, Bool.and_eq_true]
      rw [← ih]
      generalize (l.map (met.contains ·)).count true = c at hle ⊢
      cases met.contains i <;> simp <;> omega
  have h := this (List.range N)
  simp only [List.length_range] at h
  exact h
theorem count_all (bs : List Bool) : bs.count false + bs.count true = bs.length := by
  induction bs with
  | nil => rfl
  | cons b bs ih => cases b <;> simp <;> omega

theorem pt_eq {a b : PT} (h1 : a.root = b.root) (h2 : a.ns = b.ns) : a = b := by cases a; cases b; simp_all
/-! ### Steps of 'shape' -/
section
variable {ns : List Nod} {f i : Nat} {met : List Nat} {at_ : Int} {k : Kb} {n : Nod}
theorem sh_neg (h : at_ < 0) : shape ns (f + 1) met at_ k = none := by simp [shape, h]
theorem sh_out (h : ns.length ≤ i) : shape ns (f + 1) met (i : Int) k = none := by
  have : ns[i]? = none := List.getElem?_eq_none h
  simp [shape, this]
theorem sh_met (h : met.contains i = true) : shape ns (f + 1) met (i : Int) k = none := by
  simp only [shape, Int.toNat_natCast, h, if_true]
  split
  · rfl
  · split <;> rfl
theorem sh_leaf (hn : ns[i]? = some n) (hm : met.contains i = false) (hr : n.route = false) : shape ns (f + 1) met (i : Int) k = if leafOk n k then some (.leaf i) else none := by
  have h0 : ¬ ((i : Int) < 0) := by omega
  simp only [shape, h0, if_false, Int.toNat_natCast, hn, hm, hr, Bool.false_eq_true]
theorem sh_bad (hn : ns[i]? = some n) (hr : n.route = true) (hb : routeOk n k = false) : shape ns (f + 1) met (i : Int) k = none := by
  have h0 : ¬ ((i : Int) < 0) := by omega
  simp [shape, h0, hn, hr, hb]
theorem sh_left (hn : ns[i]? = some n) (hr : n.route = true) (hb : routeOk n k = true) (hl : shape ns f (i :: met) n.left (k.lefts n.key) = none) : shape ns (f + 1) met (i : Int) k = none := by
  have h0 : ¬ ((i : Int) < 0) := by omega
  simp [shape, h0, hn, hr, hb, hl]
theorem sh_right {l : Sh} (hn : ns[i]? = some n) (hm : met.contains i = false) (hr : n.route = true) (hb : routeOk n k = true) (hl : shape ns f (i :: met) n.left (k.lefts n.key) = some l) :
    shape ns (f + 1) met (i : Int) k = (shape ns f (l.places ++ i :: met) n.right (k.rights n.key)).map (.node i l) := by
  have h0 : ¬ ((i : Int) < 0) := by omega
  simp only [shape, h0, if_false, Int.toNat_natCast, hn, hm, hr, hb, hl, if_true, Bool.false_eq_true]
  cases shape ns f (l.places ++ i :: met) n.right (k.rights n.key) <;> rfl
end
theorem not_t {b : Bool} (h : (!b) = true) : b = false := by simpa using h
theorem not_f {b : Bool} (h : (!b) = false) : b = true := by simpa using h
theorem none_of {α : Type} {o : Option α} (h : o.isSome = false) : o = none := by cases o <;> simp_all
theorem isSome_ite {α : Type} {b : Bool} {x : α} : (if b then some x else none : Option α).isSome = b := by cases b <;> rfl
theorem bits_row (N i : Nat) (met : List Nat) (x : Bool) : ((bits N met).map rowB).set i (spl [.bool x] 0 [.bool true]) = (bits N (i :: met)).map rowB := by
  rw [← bits_set, List.map_set]; rfl
theorem bits_mem {N : Nat} {met met' : List Nat} (h : ∀ i, met.contains i = met'.contains i) : bits N met = bits N met' := by
  have : (fun i => met.contains i) = (fun i => met'.contains i) := funext h
  unfold bits
  rw [this]
theorem count_step {N i : Nat} {met : List Nat} (hi : i < N) (hm : met.contains i = false) : (bits N (i :: met)).count false + 1 = (bits N met).count false ∧ (bits N (i :: met)).count true = (bits N met).count true + 1 := by
  rw [← bits_set]
  exact count_set (by rw [bits_get hi, hm])
theorem count_le (N : Nat) (met : List Nat) : (bits N met).count true ≤ N := by
  have := count_all (bits N met)
  rw [bits_length] at this
  omega
theorem count_more (N : Nat) (a b : List Nat) : (bits N (a ++ b)).count false ≤ (bits N b).count false := count_bits_le fun _ h => List.mem_append_right _ h
theorem isSome_map {α β : Type} (o : Option α) (f : α → β) : (o.map f).isSome = o.isSome := by cases o <;> rfl
/-- How 'may' leaves things. -/
def MayEnd (t : Tr) (f : Nat) (met : List Nat) (at_ : Int) (k : Kb) (n' : Nat) (a : Option Addr) (c : Nat) (Mm : E.Seg) : Prop :=
  ∀ s, shape t.p.ns f met at_ k = some s → n' = (bits t.ns.l.length (s.places ++ met)).count true ∧ E.Own 4 1 ((bits t.ns.l.length (s.places ++ met)).map rowB) a c Mm
theorem MayEnd.no {t : Tr} {f : Nat} {met : List Nat} {at_ : Int} {k : Kb} {n' : Nat} {a : Option Addr} {c : Nat} {Mm : E.Seg} (h : shape t.p.ns f met at_ k = Option.none) : MayEnd t f met at_ k n' a c Mm := fun s hs => by rw [h] at hs; cases hs
theorem MayEnd.leaf {t : Tr} {f i : Nat} {met : List Nat} {k : Kb} {a : Option Addr} {c : Nat} {Mm : E.Seg} {b : Bool} (h : shape t.p.ns f met (i : Int) k = if b then some (.leaf i) else none)
    (hO : E.Own 4 1 ((bits t.ns.l.length (i :: met)).map rowB) a c Mm) : MayEnd t f met (i : Int) k ((bits t.ns.l.length (i :: met)).count true) a c Mm := fun s hs => by
  rw [h] at hs
  cases b
  · cases hs
  · cases hs; exact ⟨rfl, hO⟩
theorem MayEnd.node {t : Tr} {f i n' : Nat} {met : List Nat} {at_ : Int} {k k' : Kb} {a : Option Addr} {c : Nat} {Mm : E.Seg} {l : Sh} (h : shape t.p.ns (f + 1) met (i : Int) k = (shape t.p.ns f (l.places ++ i :: met) at_ k').map (.node i l))
    (he : MayEnd t f (l.places ++ i :: met) at_ k' n' a c Mm) : MayEnd t (f + 1) met (i : Int) k n' a c Mm := fun s hs => by
  rw [h] at hs
  cases hr : shape t.p.ns f (l.places ++ i :: met) at_ k' with
  | none => rw [hr] at hs; cases hs
  | some r =>
    rw [hr] at hs
    cases hs
    have e : bits t.ns.l.length ((Sh.node i l r).places ++ met) = bits t.ns.l.length (r.places ++ (l.places ++ i :: met)) := bits_mem fun j => by
      simp only [Sh.places, List.contains_eq_mem, List.mem_append, List.mem_cons, List.cons_append, List.append_assoc]
      congr 1
      simp only [eq_iff_iff]
      constructor <;> (intro h; rcases h with h | h | h | h <;> simp [h])
    rw [e]
    exact he r hr
def May68 (t : Tr) (f : Nat) : Prop := ∀ (met : List Nat) (at_ : Int) (k : Kb) (b : Nat) (a : Option Addr) (c : Nat) (Mm : E.Seg), (bits t.ns.l.length met).count false < f → E.Own 4 1 ((bits t.ns.l.length met).map rowB) a c Mm →
  Con Try.prog 68 [.pointer (some ⟨b, 0, none⟩), .int .i64 at_, k.val] [ndsP t.ns, psP t.ns.l] [[(b, .cells #[.int .i64 t.root, t.ns.val, .slice a t.ns.l.length c, .int .i64 ((bits t.ns.l.length met).count true)] 97 (0, 0))], Mm]
    (fun v Γ M => ∃ (n' : Nat) (Mm' : E.Seg), v = .bool (shape t.p.ns f met at_ k).isSome ∧ Γ = [] ∧ M = [[(b, .cells #[.int .i64 t.root, t.ns.val, .slice a t.ns.l.length c, .int .i64 n'] 97 (0, 0))], Mm'] ∧ MayEnd t f met at_ k n' a c Mm')
theorem bits_nil (N : Nat) : (bits N []).map rowB = List.replicate N [Value.bool false] := by
  apply List.ext_getElem?
  intro j
  by_cases hj : j < N
  · rw [List.getElem?_map, bits_get hj]; simp [rowB, hj]
  · rw [List.getElem?_eq_none (by simp [bits_length]; omega), List.getElem?_eq_none (by simp; omega)]
theorem may_big {t : PT} (h : 2000 < t.ns.length) : (mayT t).isSome = false := by simp [mayT, h]
theorem may_none {t : PT} (h : (shape t.ns (t.ns.length + 1) [] t.root Kb.all).isSome = false) : (mayT t).isSome = false := by
  unfold mayT
  rw [none_of h]
  split <;> rfl
theorem may_some {t : PT} {s : Sh} (hl : ¬ 2000 < t.ns.length) (hs : shape t.ns (t.ns.length + 1) [] t.root Kb.all = some s) : (mayT t).isSome = decide (((bits t.ns.length (s.places ++ [])).count true : Int) = (t.ns.length : Int)) := by
  have e : ((bits t.ns.length (s.places ++ [])).count true : Int) = (t.ns.length : Int) ↔ (List.range t.ns.length).all (s.places.contains ·) = true := by
    rw [List.append_nil, ← count_full]; omega
  unfold mayT
  rw [if_neg hl, hs]
  simp only []
  cases h : (List.range t.ns.length).all (s.places.contains ·)
  · simp only [Bool.false_eq_true, if_false, Option.isSome_none]
    exact (decide_eq_false (fun h' => by rw [e.1 h'] at h; cases h)).symm
  · simp only [if_true, Option.isSome_some]
    exact (decide_eq_true (e.2 h)).symm

/-! ### How it hangs together -/
def Hangs (ns : List Nod) : Sh → Int → Prop
  | .leaf i, a => a = (i : Int) ∧ ∃ n, ns[i]? = some n ∧ n.route = false
  | .node i l r, a => a = (i : Int) ∧ ∃ n, ns[i]? = some n ∧ n.route = true ∧ Hangs ns l n.left ∧ Hangs ns r n.right
/-- What 'shape' tells of a place. -/
theorem shape_some {ns : List Nod} {f : Nat} {met : List Nat} {at_ : Int} {k : Kb} {s : Sh} (h : shape ns (f + 1) met at_ k = some s) :
    ∃ (i : Nat) (n : Nod), at_ = (i : Int) ∧ ns[i]? = some n ∧ met.contains i = false ∧ ((n.route = false ∧ leafOk n k = true ∧ s = .leaf i) ∨
      (n.route = true ∧ routeOk n k = true ∧ ∃ l r, s = .node i l r ∧ shape ns f (i :: met) n.left (k.lefts n.key) = some l ∧ shape ns f (l.places ++ i :: met) n.right (k.rights n.key) = some r)) := by
  unfold shape at h
  split at h
  · cases h
  rename_i h0
  split at h
  · cases h
  rename_i n hn
  split at h
  · cases h
  rename_i hm
  refine ⟨at_.toNat, n, by omega, hn, by simpa using hm, ?_⟩
  split at h
  · rename_i hr
    split at h
    · rename_i hb
      split at h
      · cases h
      rename_i l hl
      split at h
      · cases h
      rename_i r hr'
      exact .inr ⟨hr, hb, l, r, (Option.some.inj h).symm, hl, hr'⟩
    · cases h
  · rename_i hr
    split at h
    · rename_i hb
      exact .inl ⟨by simpa using hr, hb, (Option.some.inj h).symm⟩
    · cases h
theorem hangs_of : ∀ {f : Nat} {ns : List Nod} {met : List Nat} {at_ : Int} {k : Kb} {s : Sh}, shape ns f met at_ k = some s → Hangs ns s at_
  | 0, _, _, _, _, _, h => by simp [shape] at h
  | f + 1, ns, met, at_, k, s, h => by
    obtain ⟨i, n, rfl, hn, _, hc⟩ := shape_some h
    rcases hc with ⟨hr, _, rfl⟩ | ⟨hr, _, l, r, rfl, hl, hr'⟩
    · exact ⟨rfl, n, hn, hr⟩
    · exact ⟨rfl, n, hn, hr, hangs_of hl, hangs_of hr'⟩
theorem may_hangs {t : PT} {s : Sh} (h : mayT t = some s) : t.ns.length ≤ 2000 ∧ shape t.ns (t.ns.length + 1) [] t.root Kb.all = some s ∧ Hangs t.ns s t.root ∧ (List.range t.ns.length).all (s.places.contains ·) = true := by
  unfold mayT at h
  split at h
  · cases h
  split at h
  · cases h
  rename_i s' hs
  split at h
  · rename_i hc
    cases h
    exact ⟨by omega, hs, hangs_of hs, hc⟩
  · cases h
theorem Hangs.at {t : Tr} {s : Sh} {a : Int} (h : Hangs t.p.ns s a) : ∃ (i : Nat) (x : Nd), a = (i : Int) ∧ t.ns.l[i]? = some x ∧ t.p.ns.getD i default = x.p ∧
    ((x.route = false ∧ s = .leaf i) ∨ (x.route = true ∧ ∃ l r, s = .node i l r ∧ Hangs t.p.ns l x.left ∧ Hangs t.p.ns r x.right)) := by
  have key : ∀ {i : Nat} {n : Nod}, t.p.ns[i]? = some n → ∃ x, t.ns.l[i]? = some x ∧ x.p = n ∧ t.p.ns.getD i default = n := by
    intro i n hn
    have hn' : (t.ns.l.map Nd.p)[i]? = some n := hn
    rw [List.getElem?_map] at hn'
    cases hx : t.ns.l[i]? with
    | none => rw [hx] at hn'; cases hn'
    | some x => rw [hx] at hn'; exact ⟨x, rfl, Option.some.inj hn', by rw [List.getD_eq_getElem?_getD, hn]; rfl⟩
  cases s with
  | leaf i =>
    obtain ⟨rfl, n, hn, hr⟩ := h
    obtain ⟨x, hx, rfl, hg⟩ := key hn
    exact ⟨i, x, rfl, hx, hg, .inl ⟨hr, rfl⟩⟩
  | node i l r =>
    obtain ⟨rfl, n, hn, hr, hl, hr'⟩ := h
    obtain ⟨x, hx, rfl, hg⟩ := key hn
    exact ⟨i, x, rfl, hx, hg, .inr ⟨hr, l, r, rfl, hl, hr'⟩⟩
theorem get_mid (o r : List Nd) (n : Nd) : ((o ++ n :: r).map rowN)[o.length]? = some (rowN n) := by simp
theorem set_mid (o r : List Nd) (n m : Nd) : ((o ++ n :: r).map rowN).set o.length (rowN m) = (o ++ m :: r).map rowN := by
  rw [← List.map_set]; simp
def smallP (l : List Nd) : Prop := ∀ n ∈ l, n.ps.l.length ≤ 1000000
def LayEnd (t : Tr) (s : Sh) (o : List Nd) (v : Value) (Γ : List SProp) (M : E.Loc) : Prop :=
  ∃ (o' : List Nd) (a' : Option Addr) (c' : Nat) (M' : E.Seg), v = .slice a' (o ++ o').length c' ∧ Γ = [psP o'] ∧ M = [M'] ∧ E.Own 33 6 ((o ++ o').map rowN) a' c' M' ∧ o'.map Nd.p = s.lay t.p.ns o.length
def Lay69 (t : Tr) (s : Sh) : Prop := ∀ (at_ : Int), Hangs t.p.ns s at_ → ∀ (o : List Nd) (a : Option Addr) (c : Nat) (Mo : E.Seg), E.Own 33 6 (o.map rowN) a c Mo → o.length + s.size ≤ 1000000 →
  Con Try.prog 69 [t.val, .int .i64 at_, .slice a o.length c] [ndsP t.ns, psP t.ns.l] [Mo] (LayEnd t s o)
theorem Sh.lay_length (ns : List Nod) (s : Sh) (b : Nat) : (s.lay ns b).length = s.size := by
  induction s generalizing b with
  | leaf i => rfl
  | node i l r h1 h2 => simp [Sh.lay, Sh.size, h1, h2]; omega
theorem lay_node {t : Tr} {i : Nat} {x n : Nd} {s0 : Sl Pr} {l r : Sh} {o o1 o2 : List Nd} {a : Option Addr} {c : Nat} {M : E.Seg} {q : List Nd} (hO : E.Own 33 6 (((o ++ n :: o1) ++ o2).map rowN) a c M) (hg : t.p.ns.getD i default = x.p) (hl1 : o1.length = l.size)
    (hs0 : s0.l = x.ps.l) (he1 : o1.map Nd.p = l.lay t.p.ns (o ++ q).length) (he2 : o2.map Nd.p = r.lay t.p.ns (o ++ n :: o1).length) (hq : q.length = 1)
    (hn : n = { x with ps := s0, left := ((o.length + 1 : Nat) : Int), right := ((o.length + 1 + o1.length : Nat) : Int) }) : LayEnd t (.node i l r) o (.slice a ((o ++ n :: o1) ++ o2).length c) [psP (n :: (o1 ++ o2))] [M] := by
  refine ⟨n :: (o1 ++ o2), a, c, M, by simp, rfl, rfl, by simpa using hO, ?_⟩
  simp only [Sh.lay, hg, List.map_cons, List.map_append]
  rw [he1, he2, hn]
  simp only [Nd.p, hs0, List.length_append, List.length_cons, hq, hl1]
  rw [show o.length + (l.size + 1) = o.length + 1 + l.size by omega]

/-! ### Places: each once -/
theorem shape_places : ∀ {f : Nat} {ns : List Nod} {met : List Nat} {at_ : Int} {k : Kb} {s : Sh}, shape ns f met at_ k = some s → s.places.Nodup ∧ ∀ i ∈ s.places, i < ns.length ∧ i ∉ met
  | 0, _, _, _, _, _, h => by simp [shape] at h
  | f + 1, ns, met, at_, k, s, h => by
    obtain ⟨i, n, rfl, hn, hm, hc⟩ := shape_some h
    have hm' : i ∉ met := by simpa using hm
    have hi := lt_of_get hn
    rcases hc with ⟨_, _, rfl⟩ | ⟨_, _, l, r, rfl, hl, hr⟩
    · exact ⟨by simp [Sh.places], fun j hj => by simp [Sh.places] at hj; subst hj; exact ⟨hi, hm'⟩⟩
    · obtain ⟨a1, a2⟩ := shape_places hl
      obtain ⟨b1, b2⟩ := shape_places hr
      refine ⟨?_, ?_⟩
      · simp only [Sh.places, List.nodup_cons, List.mem_append, List.nodup_append]
        refine ⟨?_, a1, b1, ?_⟩
        · rintro (h1 | h1)
          · exact (a2 i h1).2 (by simp)
          · exact (b2 i h1).2 (by simp)
        · intro x hx y hy e
          subst e
          exact (b2 x hy).2 (by simp [hx])
      · intro j hj
        simp only [Sh.places, List.mem_cons, List.mem_append] at hj
        rcases hj with rfl | h1 | h1
        · exact ⟨hi, hm'⟩
        · exact ⟨(a2 j h1).1, fun h2 => (a2 j h1).2 (by simp [h2])⟩
        · exact ⟨(b2 j h1).1, fun h2 => (b2 j h1).2 (by simp [h2])⟩
theorem nodup_len : ∀ {N : Nat} {l : List Nat}, l.Nodup → (∀ i ∈ l, i < N) → l.length ≤ N
  | 0, l, _, h => by
    cases l with
    | nil => simp
    | cons a l => exact absurd (h a (by simp)) (Nat.not_lt_zero _)
  | N + 1, l, hn, h => by
    have h1 : (l.erase N).Nodup := hn.erase N
    have h2 := nodup_len (N := N) h1 fun i hi => by
      have h3 := h i (List.mem_of_mem_erase hi)
      have h4 : i ≠ N := fun e => by subst e; exact (List.Nodup.not_mem_erase hn) hi
      omega
    have h3 := List.length_erase (a := N) (l := l)
    split at h3 <;> omega
theorem nodup_sub {α : Type} [DecidableEq α] : ∀ {a b : List α}, a.Nodup → (∀ i ∈ a, i ∈ b) → a.length ≤ b.length
  | [], b, _, _ => Nat.zero_le _
  | x :: a, b, hn, h => by
    obtain ⟨h1, h2⟩ := List.nodup_cons.1 hn
    have hx : x ∈ b := h x (by simp)
    have := nodup_sub (b := b.erase x) h2 fun i hi => (List.mem_erase_of_ne (fun e => by subst e; exact h1 hi)).2 (h i (by simp [hi]))
    rw [List.length_erase_of_mem hx] at this
    have := List.length_pos_of_mem hx
    simp
    omega
structure Good (t : PT) (s : Sh) : Prop where
  may : mayT t = some s
  few : t.ns.length ≤ 2000
  hangs : Hangs t.ns s t.root
  nodup : s.places.Nodup
  lt : ∀ i ∈ s.places, i < t.ns.length
  all : ∀ i, i < t.ns.length → i ∈ s.places
  size : s.size = t.ns.length
theorem good_of {t : PT} {s : Sh} (h : mayT t = some s) : Good t s := by
  obtain ⟨h1, h2, h3, h4⟩ := may_hangs h
  obtain ⟨h5, h6⟩ := shape_places h2
  have h7 : ∀ i, i < t.ns.length → i ∈ s.places := fun i hi => by
    have := List.all_eq_true.1 h4 i (List.mem_range.2 hi)
    simpa using this
  refine ⟨h, h1, h3, h5, fun i hi => (h6 i hi).1, h7, ?_⟩
  have a := nodup_len h5 fun i hi => (h6 i hi).1
  have b : (List.range t.ns.length).length ≤ s.places.length := nodup_sub List.nodup_range fun i hi => h7 i (List.mem_range.1 hi)
  rw [Sh.size_places] at a b
  simp at b
  omega
theorem leaves_places {s : Sh} : ∀ i ∈ s.leaves, i ∈ s.places := by
  induction s with
  | leaf j => intro i h; simpa [Sh.leaves, Sh.places] using h
  | node j l r h1 h2 =>
    intro i h
    simp only [Sh.leaves, List.mem_append] at h
    simp only [Sh.places, List.mem_cons, List.mem_append]
    rcases h with h | h
    · exact .inr (.inl (h1 i h))
    · exact .inr (.inr (h2 i h))
theorem leaves_len (s : Sh) : s.leaves.length ≤ s.size := by
  induction s with
  | leaf j => simp [Sh.leaves, Sh.size]
  | node j l r h1 h2 => simp [Sh.leaves, Sh.size]; omega
theorem decide_len_zero {α : Type} [DecidableEq α] (l : List α) : decide ((l.length : Int) = 0) = decide (l = []) := by
  cases l with
  | nil => rfl
  | cons a l => rw [decide_eq_false (by simp; omega), decide_eq_false (by simp)]
theorem last_get {l : List Bool} {j : Nat} {x : Bool} (h : l.length = j + 1) (hx : l[j]? = some x) : x = l.getLast?.getD false := by
  rw [List.getLast?_eq_getElem?, h]
  simp [hx]
def plainD (t : PT) : PT := (plainT t).getD ⟨0, []⟩
def findD (t : PT) (key : Int) : PathP := (findT t key).getD ⟨0, [], []⟩
def PlainEnd (t : Tr) (v : Value) (Γ : List SProp) (M : E.Loc) : Prop :=
  ∃ (u : Tr) (M' : E.Seg), v = .tuple #[u.val, .bool (mayT t.p).isSome] ∧ Γ = [psP u.ns.l] ∧ M = [M'] ∧ E.Own 33 6 (u.ns.l.map rowN) u.ns.a u.ns.c M' ∧ u.p = plainD t.p
def toI (l : List Nat) : List Int := l.map fun (i : Nat) => (i : Int)
theorem toI_app (a b : List Nat) : toI (a ++ b) = toI a ++ toI b := List.map_append
def LvEnd (s : Sh) (o : List Int) (v : Value) (Γ : List SProp) (M : E.Loc) : Prop :=
  ∃ (a' : Option Addr) (c' : Nat) (M' : E.Seg), v = .slice a' (o ++ toI s.leaves).length c' ∧ Γ = [] ∧ M = [M'] ∧ E.Own 3 1 ((o ++ toI s.leaves).map rowI) a' c' M'
def Lv (F : Nat) (t : Tr) (s : Sh) : Prop := ∀ (at_ : Int), Hangs t.p.ns s at_ → ∀ (o : List Int) (a : Option Addr) (c : Nat) (Mo : E.Seg), E.Own 3 1 (o.map rowI) a c Mo → o.length + s.size ≤ 1000000 →
  Con Try.prog F [t.val, .int .i64 at_, .slice a o.length c] [ndsP t.ns, psP t.ns.l] [Mo] (LvEnd s o)
def IntsEnd (l : List Int) (v : Value) (Γ : List SProp) (M : E.Loc) : Prop := ∃ (u : Sl Int) (M' : E.Seg), v = u.val ∧ Γ = [] ∧ M = [M'] ∧ E.Own 3 1 (u.l.map rowI) u.a u.c M' ∧ u.l = l
def PairsEnd (l : List Pr) (v : Value) (Γ : List SProp) (M : E.Loc) : Prop := ∃ (u : Sl Pr) (M' : E.Seg), v = u.val ∧ Γ = [] ∧ M = [M'] ∧ E.Own 50 2 (u.l.map rowP) u.a u.c M' ∧ u.l = l

theorem Tr.get {t : Tr} {i : Nat} (h : i < t.p.ns.length) : ∃ x, t.ns.l[i]? = some x ∧ t.p.ns[i]? = some x.p ∧ t.p.ns.getD i default = x.p := by
  have h' : i < t.ns.l.length := by simpa [Tr.p] using h
  obtain ⟨x, hx⟩ := get_of_lt h'
  have hp : t.p.ns[i]? = some x.p := map_get hx
  exact ⟨x, hx, hp, by rw [List.getD_eq_getElem?_getD, hp]; rfl⟩
theorem leavesT_lt {t : PT} {i : Nat} (h : i ∈ leavesT t) : i < t.ns.length := by
  unfold leavesT at h
  split at h
  · simp at h
  · rename_i s hs; exact (good_of hs).lt i (leaves_places i h)
theorem leavesT_len (t : PT) : (leavesT t).length ≤ 2000 := by
  unfold leavesT
  split
  · simp
  · rename_i s hs
    have h1 := (good_of hs).size
    have h2 := (good_of hs).few
    have := leaves_len s
    omega
/-- The pairs of the first leaves. -/
def outs (t : PT) (k : Nat) : List Pr := ((leavesT t).take k).flatMap fun i => (t.ns.getD i default).l
theorem outs_all {t : PT} {k : Nat} (h : (leavesT t).length ≤ k) : outs t k = allT t := by rw [outs, allT, List.take_of_length_le h]
theorem outs_step {t : PT} {k i : Nat} {n : Nod} (hi : (leavesT t)[k]? = some i) (hn : t.ns.getD i default = n) : outs t (k + 1) = outs t k ++ n.l := by
  rw [outs, outs, List.take_succ_eq_append_getElem (lt_of_get hi), List.flatMap_append, (List.getElem?_eq_some_iff.1 hi).2]
  simp only [List.flatMap_cons, List.flatMap_nil, List.append_nil, hn]
theorem toI_get {l : List Nat} {k i : Nat} (h : l[k]? = some i) : (toI l)[k]? = some (i : Int) := map_get h
theorem toI_length (l : List Nat) : (toI l).length = l.length := List.length_map ..
theorem plain_some {t : Tr} {s : Sh} {o : List Nd} {a : Option Addr} {c : Nat} (hs : mayT t.p = some s) (he : o.map Nd.p = s.lay t.p.ns 0) : (⟨0, ⟨a, c, o⟩⟩ : Tr).p = plainD t.p := by
  simp only [plainD, plainT, hs, Option.map_some, Option.getD_some]
  show (⟨0, o.map Nd.p⟩ : PT) = _
  rw [he]
/-- A way, in memory. -/
def WayEnd (t : Tr) (key : Int) (v : Value) (Γ : List SProp) (M : E.Loc) : Prop :=
  ∃ (us : Sl Int) (rs : Sl Bool), v = .tuple #[PathS.val ⟨((findD t.p key).leaf : Int), us, rs⟩, .bool (mayT t.p).isSome] ∧ Γ = [intsP us, boolsP rs] ∧ M = [] ∧ us.l = toI (findD t.p key).ups ∧ rs.l = (findD t.p key).rights
/-- How far a search has come. -/
structure Way (t : Tr) (key : Int) (s : Sh) (at_ : Int) (us : List Int) (rs : List Bool) : Prop where
  hangs : Hangs t.p.ns s at_
  leaf : (findD t.p key).leaf = (s.find t.p.ns key).leaf
  ups : toI (findD t.p key).ups = us ++ toI (s.find t.p.ns key).ups
  rights : (findD t.p key).rights = rs ++ (s.find t.p.ns key).rights
theorem Way.start {t : Tr} {s : Sh} (key : Int) (h : mayT t.p = some s) : Way t key s t.root [] [] := by
  have e : findD t.p key = s.find t.p.ns key := by simp [findD, findT, h]
  exact ⟨(good_of h).hangs, by rw [e], by rw [e]; rfl, by rw [e]; rfl⟩
theorem Way.step {t : Tr} {key : Int} {i : Nat} {l r : Sh} {us : List Int} {rs : List Bool} {x : Nd} (h : Way t key (.node i l r) (i : Int) us rs) (hx : t.p.ns.getD i default = x.p) (hl : Hangs t.p.ns l x.left) (hr : Hangs t.p.ns r x.right) :
    (key < x.key → Way t key l x.left (us ++ [(i : Int)]) (rs ++ [false])) ∧ (x.key ≤ key → Way t key r x.right (us ++ [(i : Int)]) (rs ++ [true])) := by
  have h1 := h.leaf
  have h2 := h.ups
  have h3 := h.rights
  simp only [Sh.find, hx] at h1 h2 h3
  constructor
  · intro hk
    rw [if_pos (show key < x.p.key from hk)] at h1 h2 h3
    exact ⟨hl, h1, by rw [h2]; simp [toI], by rw [h3]; simp⟩
  · intro hk
    rw [if_neg (show ¬ key < x.p.key by show ¬ key < x.key; omega)] at h1 h2 h3
    exact ⟨hr, h1, by rw [h2]; simp [toI], by rw [h3]; simp⟩
theorem Way.done {t : Tr} {key : Int} {i : Nat} {us : List Int} {rs : List Bool} (h : Way t key (.leaf i) (i : Int) us rs) : (findD t.p key).leaf = i ∧ us = toI (findD t.p key).ups ∧ rs = (findD t.p key).rights :=
  ⟨h.leaf, by rw [h.ups]; simp [Sh.find, toI], by rw [h.rights]; simp [Sh.find]⟩

theorem plainD_root (t : PT) : (plainD t).root = 0 := by
  unfold plainD plainT
  cases mayT t <;> rfl
theorem same_ns {u v : Tr} {a b : PT} (h1 : u.p = plainD a) (h2 : v.p = plainD b) : decide (u.ns.l.map Nd.p = v.ns.l.map Nd.p) = decide (plainD a = plainD b) := by
  have e1 : u.ns.l.map Nd.p = (plainD a).ns := congrArg PT.ns h1
  have e2 : v.ns.l.map Nd.p = (plainD b).ns := congrArg PT.ns h2
  rw [e1, e2]
  have : (plainD a).ns = (plainD b).ns ↔ plainD a = plainD b := ⟨fun h => pt_eq ((plainD_root a).trans (plainD_root b).symm) h, fun h => congrArg PT.ns h⟩
  by_cases h : plainD a = plainD b
  · rw [decide_eq_true h, decide_eq_true (this.2 h)]
  · rw [decide_eq_false h, decide_eq_false (fun h' => h (this.1 h'))]
def sameT (a b : PT) : Bool := (mayT a).isSome && ((mayT b).isSome && decide (plainD a = plainD b))
def oneT (l : List Pr) : PT := ⟨0, [⟨false, 0, 0, 0, if rises l then l else [], 0⟩]⟩
def OneEnd (l : List Pr) (v : Value) (Γ : List SProp) (M : E.Loc) : Prop := ∃ u : Tr, v = u.val ∧ Γ = [ndsP u.ns, psP u.ns.l] ∧ M = [] ∧ u.p = oneT l
/-- How many pairs the first nodes have. -/
def pairsUpto (l : List Nod) (k : Nat) : Nat := ((l.take k).map fun n => n.l.length).sum
theorem pairs_step {l : List Nod} {k : Nat} {n : Nod} (h : l[k]? = some n) : pairsUpto l (k + 1) = pairsUpto l k + n.l.length := by
  rw [pairsUpto, pairsUpto, List.take_succ_eq_append_getElem (lt_of_get h), List.map_append, List.sum_append, (List.getElem?_eq_some_iff.1 h).2]
  simp
def lightT (t : PT) : Bool := decide (t.ns.length ≤ 450) && decide (pairsUpto t.ns t.ns.length ≤ 2000)
theorem pairs_le {l : List Nod} {b : Nat} (h : ∀ n ∈ l, n.l.length ≤ b) : ∀ k, k ≤ l.length → pairsUpto l k ≤ k * b
  | 0, _ => by simp [pairsUpto]
  | k + 1, hk => by
    obtain ⟨n, hn⟩ := get_of_lt (l := l) (i := k) (by omega)
    have h1 := pairs_le h k (by omega)
    have h2 := h n (List.mem_of_getElem? hn)
    rw [pairs_step hn, Nat.succ_mul]
    omega
theorem wrap_add (a b : Int) : IntKind.i64.wrap (IntKind.i64.wrap a + b) = IntKind.i64.wrap (a + b) := by
  simp only [IntKind.wrap_i64]
  omega
theorem le_sum : ∀ {l : List Nat} {x : Nat}, x ∈ l → x ≤ l.sum
  | y :: l, x, h => by
    rw [List.sum_cons]
    rcases List.mem_cons.1 h with rfl | h
    · omega
    · have := le_sum h; omega
theorem small_of_light {t : Tr} (h : lightT t.p = true) : t.ns.l.length ≤ 450 ∧ smallP t.ns.l ∧ pairsUpto t.p.ns t.p.ns.length ≤ 2000 := by
  simp only [lightT, Bool.and_eq_true, decide_eq_true_eq] at h
  refine ⟨by simpa [Tr.p] using h.1, fun n hn => ?_, h.2⟩
  have : n.p ∈ t.p.ns := List.mem_map.2 ⟨n, hn, rfl⟩
  have h2 : n.p.l.length ≤ (t.p.ns.map fun n => n.l.length).sum := le_sum (List.mem_map.2 ⟨n.p, this, rfl⟩)
  have h3 := h.2
  rw [pairsUpto, List.take_of_length_le (Nat.le_refl _)] at h3
  show n.p.l.length ≤ _
  omega
def setD (t : PT) (a : Int) (l : List Pr) (stat : Int) : PT := (setT t a l stat).getD ⟨0, []⟩
def SetEnd (t : Tr) (a : Int) (l : Sl Pr) (stat : Int) (v : Value) (Γ : List SProp) (M : E.Loc) : Prop :=
  ∃ (u : Tr) (M' : E.Seg), v = .tuple #[u.val, .bool (setT t.p a l.l stat).isSome] ∧ Γ = [psP u.ns.l] ∧ M = [M'] ∧ E.Own 33 6 (u.ns.l.map rowN) u.ns.a u.ns.c M' ∧ u.p = setD t.p a l.l stat

end Go.Proofs.Ytmkodknmknfdkaa
