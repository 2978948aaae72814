/- Plain laws: bits; what the laws of adapt need beyond. -/
import Derived.Test.YtmkodknmknfdkaaP16
set_option linter.unusedVariables false
set_option linter.unusedSimpArgs false
namespace Go.Proofs.Ytmkodknmknfdkaa
open E Go

theorem E.q_and {P : Program} {n : Nat} {env : E.Env} {Γ : List SProp} {L : E.Loc} {ty t t' : TypeId} {x y : Operand} {k : IntKind} {a b : Int} (hx : E.ev env x = some (.int k a)) (hy : E.ev env y = some (.int k b)) :
    E.Quiet P (.binOp .and t x y t') ty n env Γ L (.int k (k.wrap ((BitVec.ofInt k.bits a &&& BitVec.ofInt k.bits b).toNat))) :=
  fun _ _ _ _ _ ac w _ h1 _ _ => by simp [execOp, h1.ev hx, h1.ev hy, eqGuard, binOp, Op.intBits]
theorem split_opt {t u : PT} {a : Int} (hu : u = optD (splitT t a)) (h : (splitT t a).isSome = true) : (mayT u).isSome = true ∧ (leavesT u).length = (leavesT t).length + 1 ∧ allT u = allT t ∧ plainD u = u := by
  obtain ⟨w, hw⟩ := Option.isSome_iff_exists.1 h
  have e : u = w := by rw [hu, hw]; rfl
  subst e
  exact split_keeps hw
theorem join_opt {t u : PT} {a : Int} (hu : u = optD (joinT t a)) (h : (joinT t a).isSome = true) : (mayT u).isSome = true ∧ (leavesT u).length + 1 = (leavesT t).length ∧ allT u = allT t ∧ plainD u = u := by
  obtain ⟨w, hw⟩ := Option.isSome_iff_exists.1 h
  have e : u = w := by rw [hu, hw]; rfl
  subst e
  exact join_keeps hw
theorem join_iff {t : PT} {s : Sh} {i : Nat} (hs : mayT t = some s) (hi : i ∈ leavesT t) : (joinT t (i : Int)).isSome = decide (1 < (leavesT t).length) := by
  rw [join_next, next_iff hs hi]
theorem all_len {t : Tr} {s : Sh} (hs : mayT t.p = some s) (h : pairsUpto t.p.ns t.p.ns.length ≤ 2000) : (allT t.p).length ≤ 2000 := by rw [all_pairs hs]; exact h
theorem few_nodes {t : Tr} (h : (mayT t.p).isSome = true) : t.ns.l.length ≤ 2000 := by
  obtain ⟨s, hs⟩ := Option.isSome_iff_exists.1 h
  have := (good_of hs).few
  simpa [Tr.p] using this
end Go.Proofs.Ytmkodknmknfdkaa
