/- Plain laws of trees: the plain form; the same tree with its nodes at other places. -/
import Derived.Test.YtmkodknmknfdkaaP8
set_option linter.unusedVariables false
set_option linter.unusedSimpArgs false
namespace Go.Proofs.Ytmkodknmknfdkaa
open E

/-! ### The plain form -/
def Sh.straight : Sh → Nat → Sh
  | .leaf _, b => .leaf b
  | .node _ l r, b => .node b (l.straight (b + 1)) (r.straight (b + 1 + l.size))
theorem straight_size (s : Sh) (b : Nat) : (s.straight b).size = s.size := by
  induction s generalizing b with
  | leaf i => rfl
  | node i l r h1 h2 => simp [Sh.straight, Sh.size, h1, h2]
theorem straight_places (s : Sh) (b : Nat) : (s.straight b).places = List.range' b s.size := by
  induction s generalizing b with
  | leaf i => rfl
  | node i l r h1 h2 =>
    simp only [Sh.straight, Sh.places, Sh.size, h1, h2]
    rw [show 1 + l.size + r.size = (l.size + r.size) + 1 by omega, List.range'_succ, ← List.range'_append_1]
theorem fits_lay {ns : List Nod} {s : Sh} {a : Int} {k : Kb} (h : Fits ns s a k) : ∀ (b : Nat) (pre post : List Nod), pre.length = b → Fits (pre ++ s.lay ns b ++ post) (s.straight b) (b : Int) k := by
  induction s generalizing a k with
  | leaf i =>
    obtain ⟨rfl, n, hn, hr, hk⟩ := h
    rintro b pre post rfl
    refine ⟨rfl, n, ?_, hr, hk⟩
    simp only [Sh.lay, getD_of hn]
    simp
  | node i l r h1 h2 =>
    obtain ⟨rfl, n, hn, hr, hk, hl, hr'⟩ := h
    rintro b pre post rfl
    simp only [Sh.lay, getD_of hn, Sh.straight]
    refine ⟨rfl, { n with left := ((pre.length + 1 : Nat) : Int), right := ((pre.length + 1 + l.size : Nat) : Int) }, by simp, hr, hk, ?_, ?_⟩
    · have := h1 hl (pre.length + 1) (pre ++ [{ n with left := ((pre.length + 1 : Nat) : Int), right := ((pre.length + 1 + l.size : Nat) : Int) }]) (r.lay ns (pre.length + 1 + l.size) ++ post) (by simp)
      simpa [List.append_assoc] using this
    · have := h2 hr' (pre.length + 1 + l.size) (pre ++ { n with left := ((pre.length + 1 : Nat) : Int), right := ((pre.length + 1 + l.size : Nat) : Int) } :: l.lay ns (pre.length + 1)) post (by simp [Sh.lay_length]; omega)
      simpa [List.append_assoc] using this
theorem lay_lay {ns : List Nod} {s : Sh} {a : Int} {k : Kb} (h : Fits ns s a k) : ∀ (b : Nat) (pre post : List Nod), pre.length = b → (s.straight b).lay (pre ++ s.lay ns b ++ post) b = s.lay ns b := by
  induction s generalizing a k with
  | leaf i =>
    rintro b pre post rfl
    simp [Sh.straight, Sh.lay]
  | node i l r h1 h2 =>
    obtain ⟨rfl, n, hn, hr, hk, hl, hr'⟩ := h
    rintro b pre post rfl
    have e1 := h1 hl (pre.length + 1) (pre ++ [{ n with left := ((pre.length + 1 : Nat) : Int), right := ((pre.length + 1 + l.size : Nat) : Int) }]) (r.lay ns (pre.length + 1 + l.size) ++ post) (by simp)
    have e2 := h2 hr' (pre.length + 1 + l.size) (pre ++ { n with left := ((pre.length + 1 : Nat) : Int), right := ((pre.length + 1 + l.size : Nat) : Int) } :: l.lay ns (pre.length + 1)) post (by simp [Sh.lay_length]; omega)
    simp only [List.append_assoc, List.cons_append, List.nil_append] at e1 e2
    simp only [Sh.lay, getD_of hn, Sh.straight, straight_size, List.append_assoc, List.cons_append]
    rw [e1, e2]
    simp [List.getD_eq_getElem?_getD]
theorem plain_may {t : PT} {s : Sh} (h : mayT t = some s) : plainD t = ⟨0, s.lay t.ns 0⟩ ∧ mayT (plainD t) = some (s.straight 0) ∧ plainD (plainD t) = plainD t := by
  have hg := good_of h
  have hp : plainD t = ⟨0, s.lay t.ns 0⟩ := by simp [plainD, plainT, h]
  have hf := fits_lay (may_fits h) 0 [] [] rfl
  have hl := lay_lay (may_fits h) 0 [] [] rfl
  simp only [List.nil_append, List.append_nil] at hf hl
  have hm : mayT ⟨0, s.lay t.ns 0⟩ = some (s.straight 0) := by
    refine may_of_fits (by rw [Sh.lay_length, hg.size]; exact hg.few) hf ?_ fun i hi => ?_
    · rw [straight_places]; exact List.nodup_range'
    · rw [straight_places, List.mem_range'_1]
      rw [Sh.lay_length] at hi
      omega
  refine ⟨hp, by rw [hp]; exact hm, ?_⟩
  rw [hp]
  simp [plainD, plainT, hm, hl]
/-- All pairs, from the plain form. -/
theorem lay_pairs {ns : List Nod} {s : Sh} {a : Int} {k : Kb} (h : Fits ns s a k) (b : Nat) : (s.leaves.flatMap fun i => (ns.getD i default).l) = (s.lay ns b).flatMap (·.l) := by
  induction s generalizing a k b with
  | leaf i => simp [Sh.leaves, Sh.lay]
  | node i l r h1 h2 =>
    obtain ⟨rfl, n, hn, hr, hk, hl, hr'⟩ := h
    simp only [Sh.leaves, Sh.lay, List.flatMap_append, List.flatMap_cons, getD_of hn]
    rw [(route_pure hk).1, h1 hl (b + 1), h2 hr' (b + 1 + l.size)]
    simp
theorem all_plain (t : PT) : allT t = (plainD t).ns.flatMap (·.l) := by
  unfold allT leavesT
  cases h : mayT t with
  | none => simp [plainD, plainT, h]
  | some s => rw [(plain_may h).1]; exact lay_pairs (may_fits h) 0

/-! ### Other places -/
def Sh.ren (σ : Nat → Nat) : Sh → Sh
  | .leaf i => .leaf (σ i)
  | .node i l r => .node (σ i) (l.ren σ) (r.ren σ)
def renN (σ : Nat → Nat) (n : Nod) : Nod := if n.route then { n with left := (σ n.left.toNat : Int), right := (σ n.right.toNat : Int) } else n
theorem ren_places (σ : Nat → Nat) (s : Sh) : (s.ren σ).places = s.places.map σ := by
  induction s with
  | leaf i => rfl
  | node i l r h1 h2 => simp [Sh.ren, Sh.places, h1, h2]
theorem ren_size (σ : Nat → Nat) (s : Sh) : (s.ren σ).size = s.size := by rw [← Sh.size_places, ren_places, List.length_map, Sh.size_places]
theorem Fits.at0 {ns : List Nod} {s : Sh} {a : Int} {k : Kb} (h : Fits ns s a k) : a = (s.at_ : Int) := by
  cases s with
  | leaf i => exact h.1
  | node i l r => exact h.1
theorem fits_ren {ns ns' : List Nod} {σ : Nat → Nat} {s : Sh} {a : Int} {k : Kb} (h : Fits ns s a k) (hns : ∀ (i : Nat) (n : Nod), ns[i]? = some n → ns'[σ i]? = some (renN σ n)) : Fits ns' (s.ren σ) (σ a.toNat : Int) k ∧ ∀ b, (s.ren σ).lay ns' b = s.lay ns b := by
  induction s generalizing a k with
  | leaf i =>
    obtain ⟨rfl, n, hn, hr, hk⟩ := h
    have hx := hns i n hn
    have e : renN σ n = n := by simp [renN, hr]
    rw [e] at hx
    exact ⟨⟨rfl, n, hx, hr, hk⟩, fun b => by simp only [Sh.ren, Sh.lay, getD_of hx, getD_of hn]⟩
  | node i l r h1 h2 =>
    obtain ⟨rfl, n, hn, hr, hk, hl, hr'⟩ := h
    have hx := hns i n hn
    have e : renN σ n = { n with left := (σ n.left.toNat : Int), right := (σ n.right.toNat : Int) } := by simp [renN, hr]
    rw [e] at hx
    obtain ⟨a1, a2⟩ := h1 hl
    obtain ⟨b1, b2⟩ := h2 hr'
    refine ⟨⟨rfl, _, hx, hr, hk, a1, b1⟩, fun b => ?_⟩
    simp only [Sh.ren, Sh.lay, getD_of hx, getD_of hn, ren_size, a2, b2]
theorem ren_may {t u : PT} {σ : Nat → Nat} {s : Sh} (h : mayT t = some s) (hN : u.ns.length = t.ns.length) (hroot : u.root = (σ t.root.toNat : Int)) (hns : ∀ (i : Nat) (n : Nod), t.ns[i]? = some n → u.ns[σ i]? = some (renN σ n))
    (hinj : ∀ i j, i < t.ns.length → j < t.ns.length → σ i = σ j → i = j) : mayT u = some (s.ren σ) ∧ plainD u = plainD t := by
  have hg := good_of h
  obtain ⟨hf, hl⟩ := fits_ren (may_fits h) hns
  have hnd : (s.ren σ).places.Nodup := by
    rw [ren_places]
    have : ∀ l : List Nat, l.Nodup → (∀ i ∈ l, i < t.ns.length) → (l.map σ).Nodup := by
      intro l
      induction l with
      | nil => simp
      | cons x l ih =>
        intro h1 h2
        obtain ⟨h3, h4⟩ := List.nodup_cons.1 h1
        rw [List.map_cons, List.nodup_cons]
        refine ⟨fun hm => ?_, ih h4 fun i hi => h2 i (List.mem_cons_of_mem _ hi)⟩
        obtain ⟨y, hy, e⟩ := List.mem_map.1 hm
        have := hinj y x (h2 y (List.mem_cons_of_mem _ hy)) (h2 x (by simp)) e
        subst this
        exact h3 hy
    exact this _ hg.nodup hg.lt
  have hm : mayT u = some (s.ren σ) := by
    refine may_of_fits (by rw [hN]; exact hg.few) (by rw [hroot]; exact hf) hnd fun i hi => ?_
    by_cases hi' : i ∈ (s.ren σ).places
    · exact hi'
    · have := nodup_len (N := u.ns.length) (l := i :: (s.ren σ).places) (List.nodup_cons.2 ⟨hi', hnd⟩) (fun j hj => by
        rcases List.mem_cons.1 hj with h | h
        · subst h; exact hi
        · exact hf.lt j h)
      rw [List.length_cons, Sh.size_places, ren_size, hg.size] at this
      omega
  refine ⟨hm, ?_⟩
  rw [(plain_may h).1]
  simp [plainD, plainT, hm, hl]
/-! ### Turned -/
theorem turn_inj {n k i j : Nat} (hi : i < n) (hj : j < n) (h : (i + k) % n = (j + k) % n) : i = j := by
  have h1 := Nat.div_add_mod (i + k) n
  have h2 := Nat.div_add_mod (j + k) n
  rw [h] at h1
  rcases Nat.lt_trichotomy ((i + k) / n) ((j + k) / n) with h3 | h3 | h3
  · have : n * ((i + k) / n) + n ≤ n * ((j + k) / n) := by rw [← Nat.mul_succ]; exact Nat.mul_le_mul_left n h3
    omega
  · rw [h3] at h1; omega
  · have : n * ((j + k) / n) + n ≤ n * ((i + k) / n) := by rw [← Nat.mul_succ]; exact Nat.mul_le_mul_left n h3
    omega
theorem fits_kids {ns : List Nod} {s : Sh} {a : Int} {k : Kb} (h : Fits ns s a k) : ∀ i ∈ s.places, ∀ n, ns[i]? = some n → n.route = true → 0 ≤ n.left ∧ n.left < (ns.length : Int) ∧ 0 ≤ n.right ∧ n.right < (ns.length : Int) := by
  induction s generalizing a k with
  | leaf j =>
    obtain ⟨rfl, m, hm, hr, _⟩ := h
    intro i hi n hn hr'
    simp [Sh.places] at hi
    subst hi
    rw [hn] at hm
    cases hm
    rw [hr] at hr'
    cases hr'
  | node j l r h1 h2 =>
    obtain ⟨rfl, m, hm, hr, hk, hl, hrr⟩ := h
    intro i hi n hn hr'
    simp only [Sh.places, List.mem_cons, List.mem_append] at hi
    rcases hi with rfl | hi | hi
    · rw [hn] at hm
      cases hm
      have e1 := hl.at0
      have e2 := hrr.at0
      have l1 := hl.lt l.at_ (by cases l <;> simp [Sh.places, Sh.at_])
      have l2 := hrr.lt r.at_ (by cases r <;> simp [Sh.places, Sh.at_])
      omega
    · exact h1 hl i hi n hn hr'
    · exact h2 hrr i hi n hn hr'
def turnN (n k : Nat) (x : Nod) : Nod := if x.route then { x with left := (x.left + (k : Int)) % (n : Int), right := (x.right + (k : Int)) % (n : Int) } else x
theorem turn_cast {a : Int} (h : 0 ≤ a) {k n : Nat} : (a + (k : Int)) % (n : Int) = (((a.toNat + k) % n : Nat) : Int) := by
  obtain ⟨m, rfl⟩ := Int.eq_ofNat_of_zero_le h
  simp
/-- The plain tree, its nodes at other places. -/
theorem turned {t u : PT} {s : Sh} {k : Nat} (h : mayT t = some s) (hN : u.ns.length = (plainD t).ns.length) (hroot : u.root = ((k % (plainD t).ns.length : Nat) : Int))
    (hns : ∀ (i : Nat) (x : Nod), (plainD t).ns[i]? = some x → u.ns[(i + k) % (plainD t).ns.length]? = some (turnN (plainD t).ns.length k x)) : (mayT u).isSome = true ∧ plainD u = plainD t := by
  obtain ⟨hp, hm, hpp⟩ := plain_may h
  have hr0 : (plainD t).root = 0 := plainD_root t
  have key := ren_may (σ := fun i => (i + k) % (plainD t).ns.length) hm hN (by rw [hroot, hr0]; simp) (fun i x hx => by
    rw [hns i x hx]
    congr 1
    unfold turnN renN
    cases hr : x.route
    · rfl
    · have hi := (good_of hm).all i (lt_of_get hx)
      obtain ⟨k1, k2, k3, k4⟩ := fits_kids (may_fits hm) i hi x hx hr
      simp only [if_true]
      rw [turn_cast k1, turn_cast k3]) (fun i j hi hj h => turn_inj hi hj h)
  refine ⟨by rw [key.1]; rfl, ?_⟩
  rw [key.2, hpp]
end Go.Proofs.Ytmkodknmknfdkaa
