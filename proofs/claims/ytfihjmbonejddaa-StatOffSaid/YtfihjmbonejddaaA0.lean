/- Policies and stats: the plain functions. -/
import Derived.Test.YtfihjmbonejddaaE11
import Derived.Test.YtfihjmbonejddaaRows
namespace Go.Proofs.Ytfihjmbonejddaa
open E

def hold (n lo hi : Int) : Int := min (max n lo) hi
theorem hold_bd (n lo hi : Int) (h : lo ≤ hi) : lo ≤ hold n lo hi ∧ hold n lo hi ≤ hi := by unfold hold; omega
theorem hold_other (n lo hi : Int) (h : lo ≤ hi) : max lo (min n hi) = hold n lo hi := by unfold hold; omega
theorem hold_id (n lo hi : Int) (h1 : lo ≤ n) (h2 : n ≤ hi) : hold n lo hi = n := by unfold hold; omega
theorem hold_mono (n m lo hi : Int) (h : n ≤ m) : hold n lo hi ≤ hold m lo hi := by unfold hold; omega

structure Pol where
  high : Int
  low : Int
  cont : Int
  uncont : Int
  multi : Int
  deriving DecidableEq
def Pol.val (p : Pol) : Value := .agg #[.int .i64 p.high, .int .i64 p.low, .int .i64 p.cont, .int .i64 p.uncont, .int .i64 p.multi]
def Pol.clamp (p : Pol) : Pol := ⟨hold p.high 1 100000, hold p.low (-100000) 0, hold p.cont (-100000) 100000, hold p.uncont (-100000) 100000, hold p.multi (-100000) 100000⟩
def Pol.off : Pol := ⟨100000, -100000, 0, 0, 0⟩
def Pol.eager : Pol := ⟨1, -1, 2, -1, 3⟩
theorem Pol.list_eq {p q : Pol} : ([p.high, p.low, p.cont, p.uncont, p.multi] = [q.high, q.low, q.cont, q.uncont, q.multi]) ↔ p = q := by
  cases p; cases q; simp
theorem Pol.clamp_bd (p : Pol) : 1 ≤ p.clamp.high ∧ p.clamp.high ≤ 100000 ∧ -100000 ≤ p.clamp.low ∧ p.clamp.low ≤ 0 ∧ -100000 ≤ p.clamp.cont ∧ p.clamp.cont ≤ 100000 ∧
    -100000 ≤ p.clamp.uncont ∧ p.clamp.uncont ≤ 100000 ∧ -100000 ≤ p.clamp.multi ∧ p.clamp.multi ≤ 100000 := by
  simp only [Pol.clamp, hold]; omega
theorem Pol.clamp_clamp (p : Pol) : p.clamp.clamp = p.clamp := by
  simp only [Pol.clamp, hold, Pol.mk.injEq]; omega
theorem Pol.clamp_off : Pol.off.clamp = Pol.off := by decide
theorem Pol.clamp_eager : Pol.eager.clamp = Pol.eager := by decide

def heldS (n : Int) : Int := hold n (-1000000) 1000000
theorem heldS_bd (n : Int) : -1000000 ≤ heldS n ∧ heldS n ≤ 1000000 := hold_bd _ _ _ (by omega)
theorem heldS_id (n : Int) (h1 : -1000000 ≤ n) (h2 : n ≤ 1000000) : heldS n = n := hold_id _ _ _ h1 h2
/-- What befell, laid upon a stat. -/
def pushed (p : Pol) (s w : Int) : Int := if w = 1 then heldS s + p.clamp.cont else if w = 2 then heldS s - p.clamp.uncont else if w = 3 then heldS s - p.clamp.multi else heldS s
def nextS (p : Pol) (s w : Int) : Int := heldS (pushed p s w)
def decideS (p : Pol) (s : Int) : Int := if p.clamp.high < heldS s then 1 else if heldS s < p.clamp.low then 2 else 0
def afterS (p : Pol) (s : Int) (l : List Int) : Int := l.foldl (nextS p) (heldS s)
theorem nextS_bd (p : Pol) (s w : Int) : -1000000 ≤ nextS p s w ∧ nextS p s w ≤ 1000000 := heldS_bd _
theorem heldS_next (p : Pol) (s w : Int) : heldS (nextS p s w) = nextS p s w := heldS_id _ (nextS_bd p s w).1 (nextS_bd p s w).2
theorem pushed_held (p : Pol) (s w : Int) : pushed p (heldS s) w = pushed p s w := by
  have : heldS (heldS s) = heldS s := heldS_id _ (heldS_bd s).1 (heldS_bd s).2
  simp only [pushed, this]
theorem afterS_snoc (p : Pol) (s : Int) (l : List Int) (x : Int) : afterS p s (l ++ [x]) = nextS p (afterS p s l) x := by simp [afterS]

/-! ### The plain laws -/
theorem snocRec {α : Type} {p : List α → Prop} (h0 : p []) (h : ∀ l x, p l → p (l ++ [x])) (l : List α) : p l := by
  have key : ∀ m : List α, p m.reverse := by
    intro m
    induction m with
    | nil => exact h0
    | cons x m ih => rw [List.reverse_cons]; exact h _ _ ih
  simpa using key l.reverse
theorem u64_rem (n : Int) (m : Int) (hm : 0 < m) : 0 ≤ (IntKind.u64.wrap n).tmod m ∧ (IntKind.u64.wrap n).tmod m < m := by
  have h : 0 ≤ IntKind.u64.wrap n := by
    unfold IntKind.wrap
    simp only [IntKind.bits, IntKind.signed]
    simp
    exact Int.emod_nonneg _ (by decide)
  rw [Int.tmod_eq_emod_of_nonneg h]
  exact ⟨Int.emod_nonneg _ (by omega), Int.emod_lt_of_pos _ hm⟩
theorem nextS_mono (p : Pol) (a b w : Int) (h : a ≤ b) : nextS p a w ≤ nextS p b w := by
  have h1 : heldS a ≤ heldS b := hold_mono _ _ _ _ h
  refine hold_mono _ _ _ _ ?_
  unfold pushed
  split
  · omega
  split
  · omega
  split <;> omega
theorem decideS_mono (p : Pol) (a b : Int) (h : a ≤ b) : (decideS p a = 1 → decideS p b = 1) ∧ (decideS p b = 2 → decideS p a = 2) := by
  have h1 : heldS a ≤ heldS b := hold_mono _ _ _ _ h
  have h2 := p.clamp_bd
  unfold decideS
  constructor
  · intro h3
    split at h3
    · rw [if_pos (by omega)]
    · split at h3 <;> omega
  · intro h3
    split at h3
    · omega
    · rename_i h4
      split at h3
      · rw [if_neg (by omega), if_pos (by omega)]
      · omega
theorem decideS_bd (p : Pol) (s : Int) : 0 ≤ decideS p s ∧ decideS p s ≤ 2 := by unfold decideS; split <;> (try split) <;> omega
theorem afterS_bd (p : Pol) (s : Int) (l : List Int) : -1000000 ≤ afterS p s l ∧ afterS p s l ≤ 1000000 := by
  refine snocRec (p := fun l => -1000000 ≤ afterS p s l ∧ afterS p s l ≤ 1000000) (heldS_bd s) (fun l x _ => ?_) l
  rw [afterS_snoc]
  exact nextS_bd _ _ _
theorem afterS_held (p : Pol) (s : Int) (l : List Int) : afterS p (heldS s) l = afterS p s l := by
  have : heldS (heldS s) = heldS s := heldS_id _ (heldS_bd s).1 (heldS_bd s).2
  simp only [afterS, this]
theorem afterS_append (p : Pol) (s : Int) (l m : List Int) : afterS p (afterS p s l) m = afterS p s (l ++ m) := by
  have h := afterS_bd p s l
  have e : heldS (afterS p s l) = afterS p s l := heldS_id _ h.1 h.2
  unfold afterS
  rw [List.foldl_append]
  congr 1
theorem afterS_off (l : List Int) : afterS Pol.off 0 l = 0 := by
  refine snocRec (p := fun l => afterS Pol.off 0 l = 0) (by decide) (fun l x ih => ?_) l
  rw [afterS_snoc, ih]
  unfold nextS pushed
  split
  · decide
  split
  · decide
  split <;> decide
theorem afterS_rep (p : Pol) (n : Nat) : afterS p 0 (List.replicate n 1) = heldS (p.clamp.cont * n) := by
  have hb := p.clamp_bd
  induction n with
  | zero => simp [afterS]
  | succ n ih =>
    rw [List.replicate_succ', afterS_snoc, ih]
    have e : p.clamp.cont * ((n + 1 : Nat) : Int) = p.clamp.cont * n + p.clamp.cont := by rw [Int.natCast_add, Int.mul_add]; simp
    rw [e]
    have e2 : heldS (heldS (p.clamp.cont * n)) = heldS (p.clamp.cont * n) := heldS_id _ (heldS_bd _).1 (heldS_bd _).2
    simp only [nextS, pushed, if_true, e2]
    have hs : 0 ≤ p.clamp.cont → 0 ≤ p.clamp.cont * (n : Int) := fun h => Int.mul_nonneg h (by omega)
    have hs2 : p.clamp.cont ≤ 0 → p.clamp.cont * (n : Int) ≤ 0 := fun h => by
      have := Int.mul_nonneg (a := -p.clamp.cont) (b := (n : Int)) (by omega) (by omega)
      rw [Int.neg_mul] at this
      omega
    unfold heldS hold
    generalize p.clamp.cont * (n : Int) = q at *
    omega
theorem next_one (p : Pol) : nextS p 0 1 = p.clamp.cont := by
  have hb := p.clamp_bd
  have : heldS 0 = 0 := by decide
  simp only [nextS, pushed, if_true, this]
  unfold heldS hold
  omega
theorem next_zero (p : Pol) (s : Int) : nextS p s 0 = heldS s := by
  unfold nextS pushed
  rw [if_neg (by omega), if_neg (by omega), if_neg (by omega)]
  exact heldS_id _ (heldS_bd s).1 (heldS_bd s).2
theorem next_odd (p : Pol) (s : Int) : nextS p (nextS p s 1) 77 = nextS p s 1 := by
  have h := heldS_next p s 1
  have h2 := heldS_next p s 1
  show heldS (pushed p (nextS p s 1) 77) = _
  unfold pushed
  rw [if_neg (by omega), if_neg (by omega), if_neg (by omega), h, h2]
theorem rem_held (p : Pol) (k : Nat) : afterS p 0 (List.replicate k 1) = max (-1000000) (min (nextS p 0 1 * (k : Int)) 1000000) := by
  rw [afterS_rep, next_one, hold_other _ _ _ (by omega)]; rfl
theorem mul_bd (x : Int) (k : Nat) (h : -1000000 ≤ x ∧ x ≤ 1000000) (hk : k ≤ 60) : -60000000 ≤ x * (k : Int) ∧ x * (k : Int) ≤ 60000000 := by
  have h1 := Int.mul_nonneg (a := 1000000 - x) (b := (k : Int)) (by omega) (by omega)
  have h2 := Int.mul_nonneg (a := 1000000 + x) (b := (k : Int)) (by omega) (by omega)
  rw [Int.sub_mul] at h1
  rw [Int.add_mul] at h2
  omega
def remN (n m : Int) : Nat := ((IntKind.u64.wrap n).tmod m).toNat
theorem remN_eq (n m : Int) (hm : 0 < m) (hm2 : m ≤ 4611686018427387904) : IntKind.i64.wrap ((IntKind.u64.wrap n).tmod m) = (remN n m : Int) ∧ (remN n m : Int) < m := by
  have h := u64_rem n m hm
  rw [wrapI (by omega) (by omega)]
  unfold remN
  omega
theorem u64_id (n : Int) (h : 0 ≤ n) (h2 : n ≤ 4611686018427387904) : IntKind.u64.wrap n = n := by
  unfold IntKind.wrap
  simp only [IntKind.bits, IntKind.signed]
  simp
  omega
theorem afterS_first (p : Pol) (s : Int) (l : List Int) (k : Nat) (hk : k < l.length) :
    nextS p (if k = 0 then s else afterS p s (l.take k)) l[k] = afterS p s (l.take (k + 1)) := by
  rw [List.take_succ_eq_append_getElem hk, afterS_snoc]
  by_cases h : k = 0
  · subst h
    rw [if_pos rfl]
    simp only [List.take_zero, afterS, List.foldl_nil]
    unfold nextS
    rw [pushed_held]
  · rw [if_neg h]
end Go.Proofs.Ytfihjmbonejddaa
