/- Texts of this seat, joined: part 6. -/
import Derived.WalkKit
import Derived.OrdersHeld
import Derived.Lib.MinMax
import Derived.Laws.AppendOwn
import Derived.ProofKit
import Derived.OpenShut
import Derived.ChangeOld
import Derived.Carry
import Derived.Deep.Slices
import Derived.Laws.MakeOwn
import Derived.Lib.SliceRun
import Derived.Test.YtmkodknmknfdkaaRows
import Derived.MapKept
import Derived.Lib.AppendZeros
import Derived.SizedLaws
import Derived.Test.YtmkodknmknfdkaaXD5
set_option linter.unusedVariables false
set_option linter.unusedSimpArgs false
namespace Go.Proofs.Ytmkodknmknfdkaa
namespace E
open Go
variable {X : Cx} {n : Nat} {P : Program} {Q : Exit → Act → World → Prop} {env : Env} {Γ : List SProp} {L : Loc} {l tail : List Oper} {r : Ord} {i : Nat} {Lr : Loc}
variable {d : Nat} {ty : TypeId} {pos : String} {aft : Array Edge} {f : FuncId} {args : List Operand} {vs : List Value} {ats : Array TypeId} {pre : List SProp} {M L0 : Loc} {R : Value → List SProp → Loc → Prop}
theorem sub_borrow {Mo : Seg} {L0 Mr : Loc} : (Mo :: L0).Sublist (Mo :: (Mr ++ L0)) := .cons_cons _ (List.sublist_append_right Mr L0)
theorem AtO.callB {T : TypeId} {k c j : Nat} {rows : List (List Value)} {a : Option Addr} {Mo : Seg} (ho : l[i]? = some ⟨some d, .call ⟨.value (.func f), args.toArray, ats⟩, ty, pos, aft, none⟩) (hf : Enters P f) (ha : evs env args = some vs) (co : Con P f vs pre M R) (hw : Own T k rows a c Mo) (hi : L[j]? = some Mo)
    (hp : ∀ H, Holds (sl a c k rows :: Γ) H → Holds pre H) (hL : (M ++ L0).Perm (L.eraseIdx j)) (hd : Nat.blt d n = true) (hs : Lr.Sublist (Mo :: L0))
    (h : ∀ v Γr Mr, R v Γr Mr → AtO X n P l Q tail r Lr ((d, v) :: env) Γ (Mo :: (Mr ++ L0))) : AtO X n P l Q tail (.o i r) Lr env Γ L :=
  AtO.loud ho (l_borrow hf ha co hw hi hp hL) hd (fun v _ _ ⟨Γr, Mr, hr, e1, e2⟩ => by subst e1; subst e2; exact ⟨fun _ hh => hh, hs.trans sub_borrow⟩)
    fun v _ _ ⟨Γr, Mr, hr, e1, e2⟩ => by subst e1; subst e2; exact h v Γr Mr hr
/-- The same; what comes of it is a row of the call's own that never turns from here on. -/
theorem l_borrowF {α : Type} {row : α → List Value} {T2 k2 : Nat} {pred : Sl α → Prop} {T : TypeId} {k c j : Nat} {rows : List (List Value)} {a : Option Addr} {Mo : Seg} (hf : Enters P f) (ha : evs env args = some vs)
    (co : Con P f vs pre [] (fun v Γ M => ∃ (u : Sl α) (M' : Seg), v = u.val ∧ Γ = [] ∧ M = [M'] ∧ Own T2 k2 (u.l.map row) u.a u.c M' ∧ pred u)) (hw : Own T k rows a c Mo) (hi : L[j]? = some Mo)
    (hp : ∀ H, Holds (sl a c k rows :: Γ) H → Holds pre H) :
    Loud P (.call ⟨.value (.func f), args.toArray, ats⟩) ty n env Γ L (fun v Γ' L' => ∃ u : Sl α, v = u.val ∧ pred u ∧ Γ' = sl u.a u.c k2 (u.l.map row) :: Γ ∧ L' = L) :=
  fun X d pos aft g ac w H h1 h2 h3 K Q hk => l_borrow hf ha co hw hi hp (L0 := L.eraseIdx j) (List.Perm.refl _) X d pos aft g ac w H h1 h2 h3 K Q fun v Γ' L' w' H' hr hle h4 h5 => by
    obtain ⟨Γr, Mr, ⟨u, M', e1, e2, e3, hO, hpu⟩, e4, e5⟩ := hr
    subst e1; subst e2; subst e3; subst e4; subst e5
    obtain ⟨H2, q1, q2, q3⟩ := hO.frozen (i := 1) rfl h5
    exact hk _ _ _ w' H2 ⟨u, rfl, hpu, rfl, rfl⟩ (Hp.le_trans hle q2) ⟨q3, h4.mono q2⟩ (St.perm (L := Mo :: L.eraseIdx j) q1 (perm_at hi))
theorem At.callBF {α : Type} {row : α → List Value} {T2 k2 : Nat} {pred : Sl α → Prop} {T : TypeId} {k c j : Nat} {rows : List (List Value)} {a : Option Addr} {Mo : Seg} {ops : Array Oper} {rest : List Oper} (hf : Enters P f) (ha : evs env args = some vs)
    (co : Con P f vs pre [] (fun v Γ M => ∃ (u : Sl α) (M' : Seg), v = u.val ∧ Γ = [] ∧ M = [M'] ∧ Own T2 k2 (u.l.map row) u.a u.c M' ∧ pred u)) (hw : Own T k rows a c Mo) (hi : L[j]? = some Mo)
    (hp : ∀ H, Holds (sl a c k rows :: Γ) H → Holds pre H) (hd : Nat.blt d n = true)
    (h : ∀ u : Sl α, pred u → At X n (wpList P ops Q rest) ((d, u.val) :: env) (sl u.a u.c k2 (u.l.map row) :: Γ) L) :
    At X n (wpList P ops Q (⟨some d, .call ⟨.value (.func f), args.toArray, ats⟩, ty, pos, aft, none⟩ :: rest)) env Γ L :=
  At.loud (l_borrowF hf ha co hw hi hp) hd fun v _ _ ⟨u, e0, e1, e2, e3⟩ => by subst e0; subst e2; subst e3; exact h u e1
theorem AtO.callBF {α : Type} {row : α → List Value} {T2 k2 : Nat} {pred : Sl α → Prop} {T : TypeId} {k c j : Nat} {rows : List (List Value)} {a : Option Addr} {Mo : Seg} (ho : l[i]? = some ⟨some d, .call ⟨.value (.func f), args.toArray, ats⟩, ty, pos, aft, none⟩) (hf : Enters P f) (ha : evs env args = some vs)
    (co : Con P f vs pre [] (fun v Γ M => ∃ (u : Sl α) (M' : Seg), v = u.val ∧ Γ = [] ∧ M = [M'] ∧ Own T2 k2 (u.l.map row) u.a u.c M' ∧ pred u)) (hw : Own T k rows a c Mo) (hi : L[j]? = some Mo)
    (hp : ∀ H, Holds (sl a c k rows :: Γ) H → Holds pre H) (hd : Nat.blt d n = true) (hs : Lr.Sublist L)
    (h : ∀ u : Sl α, pred u → AtO X n P l Q tail r Lr ((d, u.val) :: env) (sl u.a u.c k2 (u.l.map row) :: Γ) L) : AtO X n P l Q tail (.o i r) Lr env Γ L :=
  AtO.loud ho (l_borrowF hf ha co hw hi hp) hd (fun v _ _ ⟨u, e0, e1, e2, e3⟩ => by subst e2; subst e3; exact ⟨fun _ hh => hh.2, hs⟩)
    fun v _ _ ⟨u, e0, e1, e2, e3⟩ => by subst e0; subst e2; subst e3; exact h u e1
theorem AtO.callBFA {α : Type} {row : α → List Value} {T2 k2 : Nat} {pred : Sl α → Prop} {T : TypeId} {k c j : Nat} {rows : List (List Value)} {a : Option Addr} {Mo : Seg} (ho : l[i]? = some ⟨some d, .call ⟨.value (.func f), args.toArray, ats⟩, ty, pos, aft, none⟩) (hf : Enters P f) (ha : evs env args = some vs)
    (co : Con P f vs pre [] (fun v Γ M => ∃ (u : Sl α) (M' : Seg), v = u.val ∧ Γ = [] ∧ M = [M'] ∧ Own T2 k2 (u.l.map row) u.a u.c M' ∧ pred u)) (hw : Own T k rows a c Mo) (hi : L[j]? = some Mo)
    (hp : ∀ H, Holds (sl a c k rows :: Γ) H → Holds pre H) (hd : Nat.blt d n = true) (hs : Lr.Sublist L)
    (h : ∀ u : Sl α, pred u → AtO X n P l Q tail r L ((d, u.val) :: env) (sl u.a u.c k2 (u.l.map row) :: Γ) L) : AtO X n P l Q tail (.o i r) Lr env Γ L :=
  AtO.loudA ho (l_borrowF hf ha co hw hi hp) hd (fun v _ _ ⟨u, e0, e1, e2, e3⟩ => by subst e2; subst e3; exact ⟨fun _ hh => hh.2, hs⟩)
    fun v _ _ ⟨u, e0, e1, e2, e3⟩ => by subst e0; subst e2; subst e3; exact h u e1
theorem own_of_block {b k : Nat} {rows : List (List Value)} {cs : Array Value} {T : TypeId} {c : Nat} (hk : ∀ r ∈ rows, r.length = k) (h1 : rows.length ≤ c) (h2 : c ≤ maxLen) (h3 : cs.size = c * k) (h4 : cs.toList.take (rows.length * k) = rows.flatten) : Own T k rows (some ⟨b, 0, none⟩) c [(b, .cells cs T (0, 0))] :=
  ⟨hk, .inr ⟨b, cs, rfl, rfl, h1, h2, h3, h4⟩⟩
end E
end Go.Proofs.Ytmkodknmknfdkaa
set_option linter.unusedVariables false
set_option linter.unusedSimpArgs false
namespace Go.Proofs.Ytmkodknmknfdkaa
open E
theorem solo_plainD {t : PT} {p : Pol} {o : OpS} (h : (mayT t).isSome = true) : soloT (plainD t) p o = soloT t p o := by
 obtain ⟨p1, _, p3, p4⟩ := plain_keeps h
 unfold soloT
 rw [if_pos h, if_pos p1, p3, p4]
theorem run_get {p : Pol} {t : PT} {l : List OpS} {k : Nat} {o : OpS} (h : l[k]? = some o) : ∀ m, k < m → m ≤ l.length → (run2 p t (l.take m)).2[k]? = some (soloT (run2 p t (l.take k)).1 p o).2 ∧ (run2 p t (l.take m)).2.length = m := by
 have hlen : ∀ m, m ≤ l.length → (run2 p t (l.take m)).2.length = m := by
  intro m
  induction m with
  | zero => intro _; rfl
  | succ m ih =>
   intro hm
   obtain ⟨o', ho'⟩ := get_of_lt (l := l) (i := m) (by omega)
   rw [run_step ho', List.length_append, ih (by omega)]
   rfl
 intro m
 induction m with
 | zero => intro hk; omega
 | succ m ih =>
  intro hk hm
  refine ⟨?_, hlen _ hm⟩
  obtain ⟨o', ho'⟩ := get_of_lt (l := l) (i := m) (by omega)
  rw [run_step ho']
  by_cases e : k = m
  ·subst e
   rw [h] at ho'
   cases ho'
   show ((run2 p t (l.take k)).2 ++ [_])[k]? = _
   rw [List.getElem?_append_right (by rw [hlen _ (by omega)]; exact Nat.le_refl _), hlen _ (by omega)]
   simp
  ·show ((run2 p t (l.take m)).2 ++ [_])[k]? = _
   rw [List.getElem?_append_left (by rw [hlen _ (by omega)]; omega)]
   exact (ih (by omega) (by omega)).1
def SoloI (t : PT) (p : Pol) (l : List OpS) (k : Nat) (v : PT) : Prop := (k = 0 ∧ v = t) ∨ (0 < k ∧ (mayT t).isSome = true ∧ v = (run2 p (plainD t) (l.take k)).1)
theorem SoloI.may {t : PT} {p : Pol} {l : List OpS} {k : Nat} {v : PT} (h : SoloI t p l k v) (hm : (mayT v).isSome = true) : (mayT t).isSome = true := by
 rcases h with ⟨_, rfl⟩ | ⟨_, h, _⟩
 ·exact hm
 ·exact h
theorem SoloI.bad {t : PT} {p : Pol} {l : List OpS} {k : Nat} {v : PT} (h : SoloI t p l k v) (hm : (mayT v).isSome = false) : (runT t p l) = (⟨0, []⟩, []) := by
 rcases h with ⟨_, rfl⟩ | ⟨_, h, rfl⟩
 ·unfold runT; rw [if_neg (by rw [hm]; simp)]
 ·obtain ⟨p1, _⟩ := plain_keeps h
  rw [(run_keeps (p := p) (l := l) p1 k).1] at hm
  cases hm
theorem SoloI.small {t : PT} {p : Pol} {l : List OpS} {k : Nat} {v : PT} (h : SoloI t p l k v) : (allT v).length ≤ (allT t).length + k := by
 rcases h with ⟨_, rfl⟩ | ⟨_, h, rfl⟩
 ·omega
 ·obtain ⟨p1, _, p3, _⟩ := plain_keeps h
  have := (run_keeps (p := p) (l := l) p1 k).2.1
  rw [p3] at this
  exact this
theorem SoloI.next {t : PT} {p : Pol} {l : List OpS} {k : Nat} {v : PT} {o : OpS} (h : SoloI t p l k v) (hm : (mayT v).isSome = true) (ho : l[k]? = some o) :
  SoloI t p l (k + 1) (soloT v p o).1 ∧ (runT t p l).2[k]? = some (soloT v p o).2 ∧ (runT t p l).2.length = l.length := by
 have ht := h.may hm
 have e : soloT v p o = soloT (run2 p (plainD t) (l.take k)).1 p o := by
  rcases h with ⟨rfl, rfl⟩ | ⟨_, _, rfl⟩
  ·exact (solo_plainD ht).symm
  ·rfl
 have hk := lt_of_get ho
 obtain ⟨g1, g2⟩ := run_get (p := p) (t := plainD t) ho l.length hk (Nat.le_refl _)
 rw [List.take_of_length_le (Nat.le_refl _)] at g1 g2
 have er : runT t p l = run2 p (plainD t) l := by unfold runT; rw [if_pos ht]
 rw [er, e]
 exact ⟨.inr ⟨by omega, ht, by rw [run_step ho]⟩, g1, g2⟩
theorem SoloI.done {t : PT} {p : Pol} {l : List OpS} {v : PT} (h : SoloI t p l l.length v) : (runT t p l).2.length = l.length ∧ (l.length ≠ 0 → (runT t p l).1 = v) := by
 rcases h with ⟨h0, rfl⟩ | ⟨_, ht, rfl⟩
 ·have hl : l = [] := List.eq_nil_of_length_eq_zero h0
  subst hl
  refine ⟨?_, fun h => absurd rfl h⟩
  unfold runT
  split <;> rfl
 ·have er : runT t p l = run2 p (plainD t) l := by unfold runT; rw [if_pos ht]
  rw [List.take_of_length_le (Nat.le_refl _), er]
  refine ⟨?_, fun _ => rfl⟩
  obtain ⟨p1, _⟩ := plain_keeps ht
  have := (run_keeps (p := p) (l := l) p1 l.length).2.2
  rw [List.take_of_length_le (Nat.le_refl _)] at this
  omega
theorem set_p {r : Int} {a : Option Addr} {c i : Nat} {q : List Nd} {x : Nd} : (⟨r, ⟨a, c, q.set i x⟩⟩ : Tr).p = ⟨r, (q.map Nd.p).set i x.p⟩ := by simp [Tr.p, List.map_set]
end Go.Proofs.Ytmkodknmknfdkaa
set_option linter.unusedVariables false
set_option linter.unusedSimpArgs false
namespace Go.Proofs.Ytmkodknmknfdkaa
open E
def ct (n : Nod) : List Pr × Int := (n.l, n.stat)
def contS (ns : List Nod) (s : Sh) : List (List Pr × Int) := s.leaves.map fun i => ct (ns.getD i default)
def contT (t : PT) : List (List Pr × Int) := (leavesT t).map fun i => ct (t.ns.getD i default)
def conts (l : List Nod) : List (List Pr × Int) := (l.filter fun n => !n.route).map ct
end Go.Proofs.Ytmkodknmknfdkaa
set_option linter.unusedVariables false
set_option linter.unusedSimpArgs false
namespace Go.Proofs.Ytmkodknmknfdkaa
open E
def opsK (l : List Int) (k : Nat) : List OpS := (List.range k).map fun i => ⟨1, l.getD i 0, 0, (i : Int)⟩
def wantK (l : List Int) : Nat → List Pr
 | 0 => []
 | k + 1 => withT (wantK l k) ⟨l.getD k 0, (k : Int)⟩
def good0 (t : PT) : Prop := ∀ c ∈ contT t, 0 ≤ c.2
end Go.Proofs.Ytmkodknmknfdkaa
set_option linter.unusedVariables false
set_option linter.unusedSimpArgs false
namespace Go.Proofs.Ytmkodknmknfdkaa
open E
def Pol.taking : Pol := ⟨1000, 0, 0, 1, 0⟩
def neg0 (t : PT) : Prop := ∀ n ∈ t.ns, n.stat ≤ 0
def cutO (k : Int) : OpS := ⟨3, k, 0, 0⟩
/-- The leaves set to nought, one by one. -/
def zeroSt (t : PT) (a : Nat) : PT := setD t (a : Int) (t.ns.getD a default).l 0
def takeK (t : PT) (key : Int) : Nat → PT
 | 0 => t
 | k + 1 => (soloT (takeK t key k) Pol.taking (cutO key)).1
end Go.Proofs.Ytmkodknmknfdkaa
set_option linter.unusedVariables false
set_option linter.unusedSimpArgs false
namespace Go.Proofs.Ytmkodknmknfdkaa
open E
set_option maxRecDepth 4000
theorem en55 : Enters Try.prog 55 := Enters.mk' Try.func55 rfl rfl
theorem en59 : Enters Try.prog 59 := Enters.mk' Try.func59 rfl rfl
theorem en62 : Enters Try.prog 62 := Enters.mk' Try.func62 rfl rfl
theorem en63 : Enters Try.prog 63 := Enters.mk' Try.func63 rfl rfl
theorem en98 : Enters Try.prog 98 := Enters.mk' Try.func98 rfl rfl
set_option maxHeartbeats 1000000 in
theorem touched62o (t : Tr) (hsm : smallP t.ns.l) (o : OpS) : Con Try.prog 62 [t.val, o.val] [ndsP t.ns, psP t.ns.l] [] (IntsEnd (toI (touchT t.p o))) := by
 refine Con.body 85 Try.func62 rfl Try.ntmps62 rfl fun X H₀ L₀ => ?_
 refine At.know (intsP ⟨none, 0, []⟩) (fun _ h => sl_nil _ _ _ (Nat.zero_le _)) ?_
 refine At.lenOf (hs := (ix 2 rfl)) fun hlen => ?_
 rw [List.length_map] at hlen
 refine aE (aR ?_)
 refine At.loud (l_box rfl) rfl ?_
 rintro _ _ _ ⟨b1, rfl, rfl, rfl⟩
 refine At.freeze 0 (φ := blk b1 _) rfl (fun _ h => blk_def.2 ⟨_, _, h⟩) ?_
 refine At.loud (l_box rfl) rfl ?_
 rintro _ _ _ ⟨b2, rfl, rfl, rfl⟩
 refine At.freeze 0 (φ := blk b2 _) rfl (fun _ h => blk_def.2 ⟨_, _, h⟩) ?_
 refine aS 1 rfl rfl ?_
 refine aN (aT (aE (aE (aR ?_))))
 refine aQ (q_loadS t24 rfl (RdS.blk (ix 1 rfl) (m := 2) rfl) rfl) rfl ?_
 refine At.call en38 rfl (plain38 _ (by assumption)) (fun _ h => ⟨h.2.2.2.2.1, h.2.2.2.2.2.1, trivial⟩) (List.Perm.refl _) rfl ?_
 rintro _ _ _ ⟨w, Mw, rfl, rfl, rfl, hw, hpw⟩
 refine aS 1 rfl rfl ?_
 refine aQ (q_extract rfl rfl) rfl ?_
 refine aQ (q_extract rfl rfl) rfl ?_
 refine At.loud (l_alloc t24) rfl ?_
 rintro _ _ _ ⟨b3, rfl, rfl, rfl⟩
 refine At.loudN (l_store t24 rfl rfl (i := 0) rfl rfl rfl rfl) ?_
 rintro _ _ _ ⟨rfl, rfl⟩
 refine aS 1 rfl rfl ?_
 refine aN (aT (aE (aR ?_)))
 refine aS 3 rfl rfl ?_
 refine At.split (d := 24) rfl (fun hm => ?_) (fun hm => ?_)
 ·
  refine At.nilSeg ?_
  refine aS 9 rfl rfl ?_
  refine aN (aT ?_)
  refine At.condT rfl ?_
  refine aE (aR ?_)
  refine aS 1 rfl rfl ?_
  refine aN (aT (At.ret (At.thenRet ?_)))
  exact At.results (Γr := []) (M := [[]]) rfl (RVals.cons (RVal.tmp rfl) RVals.nil) (ix 4 rfl) (fun _ _ => trivial) (k_ (d_ (d_ r_))) ⟨⟨none, 0, []⟩, [], rfl, rfl, rfl, Own.nil _ _, by rw [touch_no (.inl (not_t hm))]; rfl⟩
 ·
  have hmt : (mayT t.p).isSome = true := not_f hm
  obtain ⟨s, hs⟩ := Option.isSome_iff_exists.1 hmt
  have hfa := find_mem hs o.key
  have hfb := find_mem hs o.hi
  rw [leavesT_eq hs] at hfa hfb
  refine At.open rfl rfl ?_
  refine aQ (q_loadS t77 rfl (RdS.blk (ix 1 rfl) (m := 4) rfl) rfl) rfl ?_
  refine At.open rfl rfl ?_
  refine At.call en64 rfl (mayop64 _) (fun _ _ => trivial) (List.Perm.refl _) rfl ?_
  rintro _ _ _ ⟨rfl, rfl, rfl⟩
  refine aS 3 rfl rfl ?_
  refine At.split (d := 29) rfl (fun ho => ?_) (fun ho => ?_)
  ·
   refine At.nilSeg ?_
   refine aS 4 rfl rfl ?_
   refine aN (aT ?_)
   refine At.condT rfl ?_
   refine aE (aR ?_)
   refine aS 1 rfl rfl ?_
   refine aN (aT (At.ret (At.thenRet ?_)))
   exact At.results (Γr := []) (M := [[]]) rfl (RVals.cons (RVal.tmp rfl) RVals.nil) (ix 4 rfl) (fun _ _ => trivial) (k_ (d_ (d_ r_))) ⟨⟨none, 0, []⟩, [], rfl, rfl, rfl, Own.nil _ _, by rw [touch_no (.inr (.inl (not_t ho)))]; rfl⟩
  ·
   have hmo : mayO o = true := not_f ho
   have hmk : 1 ≤ o.kind ∧ o.kind ≤ 8 := by simpa [mayO] using hmo
   refine At.open rfl rfl ?_
   refine aQ (q_fieldAddr s77 rfl rfl rfl) rfl ?_
   refine At.open rfl rfl ?_
   refine aQ (q_load t3 rfl (Rd.blk (ix 1 rfl) rfl)) rfl ?_
   refine aS 2 rfl rfl ?_
   refine aN (aT ?_)
   refine At.if rfl (fun h7 => ?_) (fun h7 => ?_)
   ·
    refine At.nilSeg ?_
    refine aE (aR ?_)
    refine aS 1 rfl rfl ?_
    refine aN (aT (At.ret (At.thenRet ?_)))
    exact At.results (Γr := []) (M := [[]]) rfl (RVals.cons (RVal.tmp rfl) RVals.nil) (ix 4 rfl) (fun _ _ => trivial) (k_ (d_ (d_ r_))) ⟨⟨none, 0, []⟩, [], rfl, rfl, rfl, Own.nil _ _, by rw [touch_no (.inr (.inr (by omega)))]; rfl⟩
   ·
    refine At.skip (aT (aE (aR ?_)))
    refine aQ (q_loadS t24 rfl (RdS.blk (ix 2 rfl) (m := 2) rfl) rfl) rfl ?_
    refine aF s77 t3 rfl rfl rfl (Rd.blk (ix 1 rfl) rfl) rfl rfl ?_
    refine At.call en44 rfl (path44 _ _ _ (by assumption)) (fun _ h => ⟨h.2.2.2.2.2.1, h.2.2.2.2.2.2.1, trivial⟩) (List.Perm.refl _) rfl ?_
    rintro _ _ _ ⟨us8, rs8, rfl, rfl, rfl, hus8, hrs8⟩
    refine aS 1 rfl rfl ?_
    refine aQ (q_extract rfl rfl) rfl ?_
    refine aQ (q_extract rfl rfl) rfl ?_
    refine aQ (q_extract rfl rfl) rfl ?_
    refine aS 3 rfl rfl ?_
    refine aN (aT (aE (aE (aR ?_))))
    refine aF s77 t3 rfl rfl rfl (Rd.blk (ix 3 rfl) rfl) rfl rfl ?_
    refine aS 1 rfl rfl ?_
    refine aN (aT ?_)
    refine At.if rfl (fun h4 => ?_) (fun h4 => ?_)
    ·
     refine aE (aR ?_)
     refine aS 1 rfl rfl ?_
     refine At.loud (l_buildSlice Try.underlying37 t3 rfl rfl rfl rfl rfl) rfl ?_
     rintro _ _ _ ⟨b4, rfl, rfl, rfl⟩
     have hob : Own 3 1 ((toI (touchT t.p o)).map rowI) (some ⟨b4, 0, none⟩) 1 [(b4, .cells #[.int .i64 ((findD t.p o.key).leaf : Int)] 3 (0, 0))] := by rw [touch_one hmt hmo (by omega)]; exact own_of_block (by simp [rowI]) (by simp [toI]) (by decide) (by simp) (by simp [toI, rowI])
     refine aS 1 rfl rfl ?_
     refine aN (aT (At.ret (At.thenRet ?_)))
     exact At.results (Γr := []) (M := [_]) rfl (RVals.cons (RVal.tmp rfl) RVals.nil) (ix 6 rfl) (fun _ _ => trivial) (k_ (d_ (d_ r_))) ⟨⟨some ⟨_, 0, none⟩, 1, toI (touchT t.p o)⟩, _, by rw [touch_one hmt hmo (by omega)]; rfl, rfl, rfl, hob, rfl⟩
    ·
     refine At.skip (aT (aE (aE (aR ?_))))
     refine aF s77 t3 rfl rfl rfl (Rd.blk (ix 3 rfl) rfl) rfl rfl ?_
     refine aF s77 t3 rfl rfl rfl (Rd.blk (ix 3 rfl) rfl) rfl rfl ?_
     refine aS 1 rfl rfl ?_
     refine aN (aT ?_)
     refine At.if rfl (fun hhk => ?_) (fun hhk => ?_)
     ·
      refine At.nilSeg ?_
      refine aE (aR ?_)
      refine aS 1 rfl rfl ?_
      refine aN (aT (At.ret (At.thenRet ?_)))
      exact At.results (Γr := []) (M := [[]]) rfl (RVals.cons (RVal.tmp rfl) RVals.nil) (ix 6 rfl) (fun _ _ => trivial) (k_ (d_ (d_ r_))) ⟨⟨none, 0, []⟩, [], rfl, rfl, rfl, Own.nil _ _, by rw [touch_wrong (by omega) hhk]; rfl⟩
     ·
      refine At.skip (aT (aE (aR ?_)))
      refine aQ (q_loadS t24 rfl (RdS.blk (ix 4 rfl) (m := 2) rfl) rfl) rfl ?_
      refine aF s77 t3 rfl rfl rfl (Rd.blk (ix 3 rfl) rfl) rfl rfl ?_
      refine At.call en44 rfl (path44 _ _ _ (by assumption)) (fun _ h => ⟨h.2.2.2.2.2.2.2.1, h.2.2.2.2.2.2.2.2.1, trivial⟩) (List.Perm.refl _) rfl ?_
      rintro _ _ _ ⟨us9, rs9, rfl, rfl, rfl, hus9, hrs9⟩
      refine aS 1 rfl rfl ?_
      refine aQ (q_extract rfl rfl) rfl ?_
      refine aQ (q_extract rfl rfl) rfl ?_
      refine aQ (q_extract rfl rfl) rfl ?_
      refine aS 3 rfl rfl ?_
      refine aN (aT (aE (aR ?_)))
      refine aS 1 rfl rfl ?_
      refine aN (aT (aE (aR ?_)))
      refine aS 1 rfl rfl ?_
      refine aN (aT (aE (aE (aR ?_))))
      have hg := good_of hs
      have hsz : s.size ≤ 2000 := by have h1 := hg.size; have h2 := hg.few; omega
      have hab := findD_mono hs (show o.key ≤ o.hi by omega)
      rw [leavesT_eq hs] at hab
      have hlz := leaves_len s
      refine At.nilSeg ?_
      refine aQ (q_loadS t24 rfl (RdS.blk (ix 6 rfl) (m := 2) rfl) rfl) rfl ?_
      refine aF s24 t3 rfl rfl rfl (Rd.blk (ix 6 rfl) rfl) rfl rfl ?_
      refine At.call en79 rfl (leaves79 t s t.root hg.hangs [] none 0 [] (Own.nil _ _) (by simp; omega)) (fun _ h => ⟨h.2.2.2.2.2.2.2.2.2.1, h.2.2.2.2.2.2.2.2.2.2.1, trivial⟩) (List.Perm.refl _) rfl ?_
      rintro _ _ _ ⟨a1, c1, M1, rfl, rfl, rfl, hO⟩
      refine At.freezeOwn 0 (show Own 3 1 ((toI s.leaves).map rowI) a1 c1 M1 by simpa using hO) rfl ?_
      refine At.say 63 (.slice a1 (toI s.leaves).length c1) rfl (by simp) ?_
      refine At.nilSeg ?_
      refine aQ (q_len Try.underlying37 rfl) rfl ?_
      refine aS 1 rfl rfl ?_
      refine aN (aT (At.block ?_))
      refine At.say 14 (.bool (decide ((findD t.p o.key).leaf ∈ s.leaves.take 0))) rfl (by simp) ?_
      refine At.say 13 (.slice none (toI (gath s.leaves (findD t.p o.key).leaf 0)).length 0) rfl (by simp [gath, toI]) ?_
      refine At.loopK (ι := Nat × Option Addr × Nat × Seg) [13, 14, 16, 65, 66, 67, 68, 69, 70, 71, 72, 73, 74, 75, 76, 77, 78, 79, 80, 81, 82, 83] (fun ⟨k, a, c, M⟩ => [(65, .int .i64 (k : Int)), (14, .bool (decide ((findD t.p o.key).leaf ∈ s.leaves.take k))), (13, .slice a (toI (gath s.leaves (findD t.p o.key).leaf k)).length c)]) (fun ⟨k, a, c, M⟩ => []) (fun ⟨k, a, c, M⟩ => [M]) _ (fun ⟨k, a, c, M⟩ => k ≤ s.leaves.length ∧ Own 3 1 ((toI (gath s.leaves (findD t.p o.key).leaf k)).map rowI) a c M ∧ ∀ y ∈ s.leaves.take k, y ≠ (findD t.p o.hi).leaf) (fun ⟨k, a, c, M⟩ => s.leaves.length - k) (0, none, 0, []) ⟨Nat.zero_le _, by simp [gath, toI]; exact Own.nil _ _, by simp⟩ ⟨rfl, rfl, rfl, trivial⟩ (fun _ _ => trivial) (k_ r_) ?_
      intro i0 hI0
      obtain ⟨k, a, c, M⟩ := i0
      obtain ⟨hkl, hO, hno⟩ := hI0
      have hgl := gath_len s.leaves (findD t.p o.key).leaf k
      have hgl2 : (toI (gath s.leaves (findD t.p o.key).leaf k)).length ≤ k := by rw [toI_length]; exact hgl
      refine aE (aR ?_)
      refine aS 1 rfl rfl ?_
      refine aN (aT (aE ?_))
      refine At.if rfl (fun hk => ?_) (fun hk => ?_)
      ·
       obtain ⟨i, hi⟩ := get_of_lt (l := s.leaves) (i := k) (by rw [toI_length] at hk; omega)
       have hui : (toI s.leaves)[k]? = some (i : Int) := toI_get hi
       have hk1 := lt_of_get hi
       refine At.skip (aT (aE (At.block (aE (aR ?_)))))
       refine aQ (q_index Try.underlying37 t3 rfl (.head _) (by simp) rfl rfl (lt_of_get hui)) rfl ?_
       refine aQ (q_load t3 rfl (Rd.sl0 (.head _) (map_get hui) rfl)) rfl ?_
       refine aS 1 rfl rfl ?_
       refine aN (aT (aE (aR ?_)))
       refine aS 2 rfl rfl ?_
       refine At.split (d := 70) rfl (fun hon => ?_) (fun hon => ?_)
       ·
        have hon2 : (findD t.p o.key).leaf ∈ s.leaves.take k := of_decide_eq_true hon
        refine aS 5 rfl rfl ?_
        refine aN (aT (aE (aE (aR ?_))))
        refine aS 1 rfl rfl ?_
        refine aN (aT ?_)
        refine At.condT rfl ?_
        refine aR ?_
        refine aS 2 rfl rfl ?_
        refine At.loud (l_buildSlice Try.underlying37 t3 rfl rfl rfl rfl rfl) rfl ?_
        rintro _ _ _ ⟨b5, rfl, rfl, rfl⟩
        refine At.loud (l_append rfl Try.underlying37 t3 rfl rfl hO (by simp) (i := 1) rfl rfl (news := [rowI (i : Int)]) (by simp [rowI]) (RdS.loc (i := 0) rfl (m := 1) rfl) rfl rfl rfl (by omega) (by unfold maxLen; omega)) rfl ?_
        rintro _ _ _ ⟨a2, c2, M2, rfl, ow, rfl, rfl⟩
        refine aS 1 rfl rfl ?_
        refine aN (aT (aE (aR ?_)))
        have hO2 : Own 3 1 ((toI (gath s.leaves (findD t.p o.key).leaf (k + 1))).map rowI) a2 c2 M2 := by rw [gath_yes hi hfa (.inl hon2)]; simpa using ow
        refine aS 3 rfl rfl ?_
        refine aN (aT ?_)
        refine At.if rfl (fun hxb => ?_) (fun hxb => ?_)
        ·
         have hkb : k = ixL s.leaves (findD t.p o.hi).leaf := at_ix (b := (findD t.p o.hi).leaf) (by rw [hi]; exact congrArg some (by omega)) hno
         refine At.exit (At.inOther rfl (At.thenExit (At.thenExit (At.inHere rfl (aT (aE (aR ?_)))))))
         refine aS 2 rfl rfl ?_
         refine aN (aT (At.ret ?_))
         exact At.results (Γr := []) (M := [_]) rfl (RVals.cons (RVal.tmp rfl) RVals.nil) (ix 9 rfl) (fun _ _ => trivial) (d_ (k_ (d_ (d_ r_)))) ⟨⟨a2, c2, toI (gath s.leaves (findD t.p o.key).leaf (k + 1))⟩, _, by simp only [Sl.val, resVal]; rw [gath_yes hi hfa (.inl hon2)]; simp, rfl, rfl, hO2, by rw [touch_many hmt hmo (by omega) (by omega) hhk, leavesT_eq hs, ← gath_done hfa hab, ← hkb]⟩
        ·
         refine At.skip (At.inNormal (aT (aR ?_)))
         refine aQ (q_add rfl rfl (by omega) (by omega)) rfl ?_
         refine aS 1 rfl rfl ?_
         refine aN ?_
         refine At.say 14 (.bool (decide ((findD t.p o.key).leaf ∈ s.leaves.take (k + 1)))) rfl (congrArg Value.bool (by rw [take_mem_step hi]; simp [hon2])) ?_
         refine At.say 13 (.slice a2 (toI (gath s.leaves (findD t.p o.key).leaf (k + 1))).length c2) rfl (by rw [gath_yes hi hfa (.inl hon2)]; simp) ?_
         refine At.front 1 rfl ?_
         refine aT ?_
         exact At.againK (k + 1, a2, c2, M2) ⟨lt_of_get hi, hO2, no_step hi (show i ≠ (findD t.p o.hi).leaf by omega) hno⟩ (by (try dsimp only); omega) (Tells.end 28 ⟨rfl, rfl, rfl, trivial⟩ rfl rfl) (fun _ h => h) (k_ (d_ r_))
       ·
        have hon2 : (findD t.p o.key).leaf ∉ s.leaves.take k := of_decide_eq_false hon
        refine aS 5 rfl rfl ?_
        refine aN (aT (aE (aE (aR ?_))))
        refine aS 1 rfl rfl ?_
        refine aN (aT ?_)
        refine At.if rfl (fun hxa => ?_) (fun hxa => ?_)
        ·
         have hxa2 : i = (findD t.p o.key).leaf := by omega
         refine aR ?_
         refine aS 2 rfl rfl ?_
         refine At.loud (l_buildSlice Try.underlying37 t3 rfl rfl rfl rfl rfl) rfl ?_
         rintro _ _ _ ⟨b6, rfl, rfl, rfl⟩
         refine At.loud (l_append rfl Try.underlying37 t3 rfl rfl hO (by simp) (i := 1) rfl rfl (news := [rowI (i : Int)]) (by simp [rowI]) (RdS.loc (i := 0) rfl (m := 1) rfl) rfl rfl rfl (by omega) (by unfold maxLen; omega)) rfl ?_
         rintro _ _ _ ⟨a2, c2, M2, rfl, ow, rfl, rfl⟩
         refine aS 1 rfl rfl ?_
         refine aN (aT (aE (aR ?_)))
         have hO2 : Own 3 1 ((toI (gath s.leaves (findD t.p o.key).leaf (k + 1))).map rowI) a2 c2 M2 := by rw [gath_yes hi hfa (.inr hxa2)]; simpa using ow
         refine aS 3 rfl rfl ?_
         refine aN (aT ?_)
         refine At.if rfl (fun hxb => ?_) (fun hxb => ?_)
         ·
          have hkb : k = ixL s.leaves (findD t.p o.hi).leaf := at_ix (b := (findD t.p o.hi).leaf) (by rw [hi]; exact congrArg some (by omega)) hno
          refine At.exit (At.inOther rfl (At.thenExit (At.thenExit (At.inHere rfl (aT (aE (aR ?_)))))))
          refine aS 2 rfl rfl ?_
          refine aN (aT (At.ret ?_))
          exact At.results (Γr := []) (M := [_]) rfl (RVals.cons (RVal.tmp rfl) RVals.nil) (ix 9 rfl) (fun _ _ => trivial) (d_ (k_ (d_ (d_ r_)))) ⟨⟨a2, c2, toI (gath s.leaves (findD t.p o.key).leaf (k + 1))⟩, _, by simp only [Sl.val, resVal]; rw [gath_yes hi hfa (.inr hxa2)]; simp, rfl, rfl, hO2, by rw [touch_many hmt hmo (by omega) (by omega) hhk, leavesT_eq hs, ← gath_done hfa hab, ← hkb]⟩
         ·
          refine At.skip (At.inNormal (aT (aR ?_)))
          refine aQ (q_add rfl rfl (by omega) (by omega)) rfl ?_
          refine aS 1 rfl rfl ?_
          refine aN ?_
          refine At.say 14 (.bool (decide ((findD t.p o.key).leaf ∈ s.leaves.take (k + 1)))) rfl (congrArg Value.bool (by rw [take_mem_step hi]; simp [hxa2])) ?_
          refine At.say 13 (.slice a2 (toI (gath s.leaves (findD t.p o.key).leaf (k + 1))).length c2) rfl (by rw [gath_yes hi hfa (.inr hxa2)]; simp) ?_
          refine At.front 1 rfl ?_
          refine aT ?_
          exact At.againK (k + 1, a2, c2, M2) ⟨lt_of_get hi, hO2, no_step hi (show i ≠ (findD t.p o.hi).leaf by omega) hno⟩ (by (try dsimp only); omega) (Tells.end 28 ⟨rfl, rfl, rfl, trivial⟩ rfl rfl) (fun _ h => h) (k_ (d_ r_))
        ·
         refine At.skip (aT (aE (aR ?_)))
         refine aS 3 rfl rfl ?_
         refine aN (aT ?_)
         refine At.if rfl (fun hxb => ?_) (fun hxb => ?_)
         ·
          have hkb : k = ixL s.leaves (findD t.p o.hi).leaf := at_ix (b := (findD t.p o.hi).leaf) (by rw [hi]; exact congrArg some (by omega)) hno
          exact absurd (not_in hfa hkb hab (lt_of_get hi)) (gath_no hi hfa hon2 (show i ≠ (findD t.p o.key).leaf by omega)).2
          skip
         ·
          refine At.skip (At.inNormal (aT (aR ?_)))
          refine aQ (q_add rfl rfl (by omega) (by omega)) rfl ?_
          refine aS 1 rfl rfl ?_
          refine aN ?_
          refine At.say 14 (.bool (decide ((findD t.p o.key).leaf ∈ s.leaves.take (k + 1)))) rfl (congrArg Value.bool (by rw [decide_eq_false (gath_no hi hfa hon2 (show i ≠ (findD t.p o.key).leaf by omega)).2]; exact decide_eq_false (by omega))) ?_
          refine At.say 13 (.slice a (toI (gath s.leaves (findD t.p o.key).leaf (k + 1))).length c) rfl (by rw [(gath_no hi hfa hon2 (show i ≠ (findD t.p o.key).leaf by omega)).1]) ?_
          refine aT ?_
          exact At.againK (k + 1, a, c, M) ⟨lt_of_get hi, by rw [(gath_no hi hfa hon2 (show i ≠ (findD t.p o.key).leaf by omega)).1]; exact hO, no_step hi (show i ≠ (findD t.p o.hi).leaf by omega) hno⟩ (by (try dsimp only); omega) (Tells.end 23 ⟨rfl, rfl, rfl, trivial⟩ rfl rfl) (fun _ h => h) (k_ r_)
      ·
       exact (no_end (by rw [toI_length] at hk; omega) hfb hno).elim
       skip
set_option maxHeartbeats 2000000 in
theorem solo58 (t : Tr) (hsm : smallP t.ns.l) (p : Pol) (o : OpS) (hal : (allT t.p).length ≤ 600000) : Con Try.prog 58 [t.val, p.val, o.val] [ndsP t.ns, psP t.ns.l] [] (SoloEnd t.p p o) := by
 refine Con.body 117 Try.func58 rfl Try.ntmps58 rfl fun X H₀ L₀ => ?_
 refine At.know (ndsP ⟨none, 0, []⟩) (fun _ h => sl_nil _ _ _ (Nat.zero_le _)) ?_
 refine At.know (psP []) (fun _ h => psP_nil) ?_
 refine At.know (prsP ⟨none, 0, []⟩) (fun _ h => sl_nil _ _ _ (Nat.zero_le _)) ?_
 refine aE (aR ?_)
 refine At.loud (l_box rfl) rfl ?_
 rintro _ _ _ ⟨b1, rfl, rfl, rfl⟩
 refine At.loud (l_box rfl) rfl ?_
 rintro _ _ _ ⟨b2, rfl, rfl, rfl⟩
 refine At.freeze 0 (φ := blk b2 _) rfl (fun _ h => blk_def.2 ⟨_, _, h⟩) ?_
 refine At.loud (l_box rfl) rfl ?_
 rintro _ _ _ ⟨b3, rfl, rfl, rfl⟩
 refine At.freeze 0 (φ := blk b3 _) rfl (fun _ h => blk_def.2 ⟨_, _, h⟩) ?_
 refine At.loud (l_alloc t24) rfl ?_
 rintro _ _ _ ⟨b4, rfl, rfl, rfl⟩
 refine At.loud (l_alloc t80) rfl ?_
 rintro _ _ _ ⟨b5, rfl, rfl, rfl⟩
 refine aN (aT (aE (aR ?_)))
 refine aQ (q_loadS t24 rfl (RdS.loc (i := 2) rfl (m := 2) rfl) rfl) rfl ?_
 refine At.call en38 rfl (plain38 _ (by assumption)) (fun _ h => ⟨h.2.2.2.2.2.2.1, h.2.2.2.2.2.2.2.1, trivial⟩) (List.Perm.refl _) rfl ?_
 rintro _ _ _ ⟨w, Mw, rfl, rfl, rfl, hw, hpw⟩
 refine aS 1 rfl rfl ?_
 refine aQ (q_extract rfl rfl) rfl ?_
 refine aQ (q_extract rfl rfl) rfl ?_
 refine At.loudN (l_store t24 rfl rfl (i := 3) rfl rfl rfl rfl) ?_
 rintro _ _ _ ⟨rfl, rfl⟩
 refine aS 1 rfl rfl ?_
 refine aN (aT (aE (aE (aR ?_))))
 refine aS 2 rfl rfl ?_
 refine aN (aT ?_)
 refine At.cond rfl (fun hm => ?_) (fun hm => ?_)
 ·
  refine aE (aR ?_)
  refine aQ (q_build t24 s24 rfl rfl) rfl ?_
  refine aQ (q_build t80 s80 rfl rfl) rfl ?_
  refine At.loudN (l_store t24 rfl rfl (i := 2) rfl rfl rfl rfl) ?_
  rintro _ _ _ ⟨rfl, rfl⟩
  refine At.loudN (l_store t80 rfl rfl (i := 1) rfl rfl rfl rfl) ?_
  rintro _ _ _ ⟨rfl, rfl⟩
  refine aN (aT (At.ret (At.thenRet ?_)))
  exact At.results (Γr := [_, psP [], _]) (M := []) rfl (RVals.cons (RVal.cellS rfl t24 (RdS.loc (i := 2) rfl (m := 2) rfl) rfl) (RVals.cons (RVal.cellS rfl t80 (RdS.loc (i := 1) rfl (m := 6) rfl) rfl) RVals.nil)) (ix 6 rfl) (fun _ h => ⟨h.2.2.2.2.2.1, h.2.2.2.2.1, h.2.2.2.1, trivial⟩) (d_ (d_ (d_ (d_ r_)))) ⟨⟨0, ⟨none, 0, []⟩⟩, ⟨none, 0, []⟩, by rw [solo_no (not_t hm)]; rfl, rfl, rfl, by rw [solo_no (not_t hm)]; rfl, by rw [solo_no (not_t hm)]; rfl⟩
 ·
  have hmt : (mayT t.p).isSome = true := not_f hm
  obtain ⟨hk1, _, hk3, _⟩ := plain_keeps hmt
  rw [← hpw] at hk1 hk3
  obtain ⟨s, hs⟩ := Option.isSome_iff_exists.1 hk1
  have halw : (allT w.p).length ≤ 600000 := by rw [hk3]; exact hal
  have hws : smallP w.ns.l := small_all (b := 600000) hk1 halw (by omega)
  refine At.skip (aT (aE (aE (aR ?_))))
  refine aQ (q_loadS t77 rfl (RdS.blk (ix 1 rfl) (m := 4) rfl) rfl) rfl ?_
  refine At.call en64 rfl (mayop64 _) (fun _ _ => trivial) (List.Perm.refl _) rfl ?_
  rintro _ _ _ ⟨rfl, rfl, rfl⟩
  refine aS 1 rfl rfl ?_
  refine aN (aT ?_)
  refine At.cond rfl (fun ho => ?_) (fun ho => ?_)
  ·
   refine At.freezeOwn 0 hw rfl ?_
   refine aE (aR ?_)
   refine aQ (q_loadS t24 rfl (RdS.loc (i := 2) rfl (m := 2) rfl) rfl) rfl ?_
   refine aQ (q_build t80 s80 rfl rfl) rfl ?_
   refine At.loudN (l_store t24 rfl rfl (i := 1) rfl rfl rfl rfl) ?_
   rintro _ _ _ ⟨rfl, rfl⟩
   refine At.loudN (l_store t80 rfl rfl (i := 0) rfl rfl rfl rfl) ?_
   rintro _ _ _ ⟨rfl, rfl⟩
   refine aN (aT (At.ret (At.thenRet ?_)))
   exact At.results (Γr := [_, _, _]) (M := []) rfl (RVals.cons (RVal.cellS rfl t24 (RdS.loc (i := 1) rfl (m := 2) rfl) rfl) (RVals.cons (RVal.cellS rfl t80 (RdS.loc (i := 0) rfl (m := 6) rfl) rfl) RVals.nil)) (ix 7 rfl) (fun _ h => ⟨h.1, h.2.1, h.2.2.2.2.1, trivial⟩) (d_ (d_ (d_ r_))) ⟨w, ⟨none, 0, []⟩, by rw [solo_badop hmt (not_t ho)]; rfl, rfl, rfl, by rw [solo_badop hmt (not_t ho)]; exact hpw, by rw [solo_badop hmt (not_t ho)]; rfl⟩
  ·
   have hmo : mayO o = true := not_f ho
   refine At.skip (aT ?_)
   refine At.cutD (ι := Nat × Sl Pr × An) (.s .z) [9, 10, 29, 30, 31, 32, 33, 34, 35] (fun ⟨b9, s2, A⟩ => [(10, .pointer (some ⟨b9, 0, none⟩))]) (fun ⟨b9, s2, A⟩ => [prsP s2]) (fun ⟨b9, s2, A⟩ => [[(b9, .cells #[.int .i64 A.err, .bool A.ok, .int .i64 A.p.k, .int .i64 A.p.v, .int .i64 A.n, s2.val] 80 (0, 0))], Mw]) (fun ⟨b9, s2, A⟩ => A = (doT (allT t.p) o).2 ∧ s2.l = A.l) ?_ ?_
   ·
    refine At.draw 9 (.q 0 (.q 2 (.t 1 (.t 3 (.q 4 (.q 5 (.q 6 (.o 7 (.q 8 (.e)))))) 7 (.o 3 (.q 4 (.q 5 (.q 6 (.q 8 (.e))))))) 7 (.o 1 (.o 3 (.q 4 (.q 5 (.q 6 (.q 8 (.e)))))))))) _ (List.Sublist.refl _) mixed (by kernel_rfl) rfl ?_
    refine oQ rfl (q_loadS t24 rfl (RdS.loc (i := 3) rfl (m := 2) rfl) rfl) rfl (cT cP) ?_
    refine oQ rfl (q_loadS t77 rfl (RdS.blk (ix 1 rfl) (m := 4) rfl) rfl) rfl (cT cP) ?_
    refine AtO.two ?_ ?_
    ·
     refine AtO.callBFA rfl en42 rfl (all42 w hws) hw (j := 0) rfl (fun _ h => ⟨h.1, h.2.1, trivial⟩) rfl r_ ?_
     intro al hpal
     refine AtO.two ?_ ?_
     ·
      refine AtO.callA rfl en63 rfl (do63 al o (by rw [hpal]; omega)) (fun _ h => ⟨h.1, trivial⟩) (List.Perm.refl _) rfl r_ ?_
      rintro _ _ _ ⟨s1, s2, rfl, rfl, rfl, hs1, hs2⟩
      refine oQ rfl (q_move rfl) rfl (cT cP) ?_
      refine oQ rfl (q_extract rfl rfl) rfl (cT cP) ?_
      refine oQ rfl (q_extract rfl rfl) rfl (cT cP) ?_
      refine AtO.loudA rfl (l_alloc t80) rfl (by rintro _ _ _ ⟨_, rfl, rfl, rfl⟩; exact ⟨fun _ h => h, d_ r_⟩) ?_
      rintro _ _ _ ⟨b6, rfl, rfl, rfl⟩
      refine oQ rfl (q_assign rfl) rfl (cT cP) ?_
      refine AtO.done ?_
      refine At.loudN (l_store t80 rfl rfl (i := 0) rfl rfl rfl rfl) ?_
      rintro _ _ _ ⟨rfl, rfl⟩
      refine aN ?_
      refine At.front 1 rfl ?_
      refine At.front 1 rfl ?_
      refine aT ?_
      exact At.meetK (b6, s2, (doT al.l o).2) ⟨by rw [hpal, hk3], hs2⟩ (Tells.meet 9 ⟨rfl, trivial⟩ rfl rfl) (fun _ h => ⟨h.2.1, h.2.2.2⟩) (k_ (k_ r_))
     ·
      refine AtO.loudA rfl (l_alloc t80) rfl (by rintro _ _ _ ⟨_, rfl, rfl, rfl⟩; exact ⟨fun _ h => h, d_ r_⟩) ?_
      rintro _ _ _ ⟨b7, rfl, rfl, rfl⟩
      refine AtO.callA rfl en63 rfl (do63 al o (by rw [hpal]; omega)) (fun _ h => ⟨h.1, trivial⟩) (List.Perm.refl _) rfl r_ ?_
      rintro _ _ _ ⟨s1, s2, rfl, rfl, rfl, hs1, hs2⟩
      refine oQ rfl (q_move rfl) rfl (cT cP) ?_
      refine oQ rfl (q_extract rfl rfl) rfl (cT cP) ?_
      refine oQ rfl (q_extract rfl rfl) rfl (cT cP) ?_
      refine oQ rfl (q_assign rfl) rfl (cT cP) ?_
      refine AtO.done ?_
      refine At.loudN (l_store t80 rfl rfl (i := 0) rfl rfl rfl rfl) ?_
      rintro _ _ _ ⟨rfl, rfl⟩
      refine aN ?_
      refine At.front 1 rfl ?_
      refine At.front 1 rfl ?_
      refine aT ?_
      exact At.meetK (b7, s2, (doT al.l o).2) ⟨by rw [hpal, hk3], hs2⟩ (Tells.meet 9 ⟨rfl, trivial⟩ rfl rfl) (fun _ h => ⟨h.2.1, h.2.2.2⟩) (k_ (k_ r_))
    ·
     refine AtO.loudA rfl (l_alloc t80) rfl (by rintro _ _ _ ⟨_, rfl, rfl, rfl⟩; exact ⟨fun _ h => h, d_ r_⟩) ?_
     rintro _ _ _ ⟨b8, rfl, rfl, rfl⟩
     refine AtO.callBFA rfl en42 rfl (all42 w hws) hw (j := 1) rfl (fun _ h => ⟨h.1, h.2.1, trivial⟩) rfl r_ ?_
     intro al hpal
     refine AtO.callA rfl en63 rfl (do63 al o (by rw [hpal]; omega)) (fun _ h => ⟨h.1, trivial⟩) (List.Perm.refl _) rfl r_ ?_
     rintro _ _ _ ⟨s1, s2, rfl, rfl, rfl, hs1, hs2⟩
     refine oQ rfl (q_move rfl) rfl (cT cP) ?_
     refine oQ rfl (q_extract rfl rfl) rfl (cT cP) ?_
     refine oQ rfl (q_extract rfl rfl) rfl (cT cP) ?_
     refine oQ rfl (q_assign rfl) rfl (cT cP) ?_
     refine AtO.done ?_
     refine At.loudN (l_store t80 rfl rfl (i := 0) rfl rfl rfl rfl) ?_
     rintro _ _ _ ⟨rfl, rfl⟩
     refine aN ?_
     refine At.front 1 rfl ?_
     refine At.front 1 rfl ?_
     refine aT ?_
     exact At.meetK (b8, s2, (doT al.l o).2) ⟨by rw [hpal, hk3], hs2⟩ (Tells.meet 9 ⟨rfl, trivial⟩ rfl rfl) (fun _ h => ⟨h.2.1, h.2.2.2⟩) (k_ (k_ r_))
   intro j0 hMt
   obtain ⟨b9, s2, A⟩ := j0
   obtain ⟨rfl, hs2⟩ := hMt
   refine aE (aR ?_)
   refine aQ (q_loadS t24 rfl (RdS.loc (i := 4) rfl (m := 2) rfl) rfl) rfl ?_
   refine aQ (q_loadS t77 rfl (RdS.blk (ix 2 rfl) (m := 4) rfl) rfl) rfl ?_
   refine At.callBF en62 rfl (touched62o w hws o) hw (j := 1) rfl (fun _ h => ⟨h.1, h.2.2.1, trivial⟩) rfl ?_
   intro tl hptl
   have htll : tl.l.length = (touchT w.p o).length := by rw [hptl, toI_length]
   refine aS 1 rfl rfl ?_
   refine aN (aT (aE (At.block (aE (aR ?_)))))
   refine aF s77 t3 rfl rfl rfl (Rd.blk (ix 3 rfl) rfl) rfl rfl ?_
   refine aS 2 rfl rfl ?_
   refine aN (aT ?_)
   refine At.if rfl (fun hk3 => ?_) (fun hk3 => ?_)
   ·
    have hk9 : 1 ≤ o.kind ∧ o.kind ≤ 8 := by simpa [mayO] using hmo
    have hu : updO o = true := by simp only [updO, Bool.or_eq_true, decide_eq_true_eq]; omega
    obtain ⟨n, hn⟩ := get_of_lt (find_lt hs o.key)
    obtain ⟨x, hx, hxp⟩ := p_get (u := w) rfl hn
    have hxs := hws x (List.mem_of_getElem? hx)
    have hxl := lt_of_get hx
    have hgd : w.p.ns.getD (findD w.p o.key).leaf default = x.p := (getD_of hn).trans hxp.symm
    have ht0 : tl.l[0]? = some ((findD w.p o.key).leaf : Int) := by rw [hptl, touch_one hk1 hmo (by omega)]; rfl
    refine aE (aR ?_)
    refine aS 1 rfl rfl ?_
    refine aQ (q_index Try.underlying37 t3 rfl (.head _) (by simp) rfl rfl (lt_of_get ht0)) rfl ?_
    refine aQ (q_load t3 rfl (Rd.sl0 (.head _) (map_get ht0) rfl)) rfl ?_
    refine aS 1 rfl rfl ?_
    refine aN (aT (aE ?_))
    refine At.know (prsP x.ps) (fun _ h => psP_get h.2.2.1 hx) ?_
    refine At.draw 17 (.q 0 (.q 1 (.q 2 (.q 3 (.q 4 (.q 5 (.q 6 (.q 7 (.q 9 (.o 8 (.o 10 (.q 11 (.q 12 (.q 13 (.q 14 (.q 15 (.o 16 (.e)))))))))))))))))) (_ :: _ :: _ :: _ :: L₀) (k_ (d_ (k_ (k_ (k_ r_))))) mixed (by kernel_rfl) rfl ?_
    refine oQ rfl (q_fieldAddr s24 rfl rfl rfl) rfl (cT (cI (cT cP))) ?_
    refine oQ rfl (q_load t22 rfl (Rd.loc (i := 3) rfl rfl)) rfl (cT (cI (cT cP))) ?_
    refine oQ rfl (q_move rfl) rfl (cT (cI (cT cP))) ?_
    refine oQ rfl (q_fieldAddr s24 rfl rfl rfl) rfl (cT (cI (cT cP))) ?_
    refine oQ rfl (q_load t22 rfl (Rd.loc (i := 3) rfl rfl)) rfl (cT (cI (cT cP))) ?_
    refine oQ rfl (q_move rfl) rfl (cT (cI (cT cP))) ?_
    refine oQ rfl (q_indexOwn Try.underlying22 t33 rfl hw (by simp) rfl rfl hxl) rfl (cT (cI (cT cP))) ?_
    refine oQ rfl (q_fieldAddr s33 rfl rfl rfl) rfl (cT (cI (cT cP))) ?_
    refine oQ rfl (q_loadS t77 rfl (RdS.blk (ix 4 rfl) (m := 4) rfl) rfl) rfl (cT (cI (cT cP))) ?_
    refine AtO.loud rfl (Quiet.loud (q_load t31 rfl (Rd.own hw (i := 1) rfl (map_get hx) rfl))) rfl (by rintro _ _ _ ⟨rfl, rfl, rfl⟩; exact ⟨fun _ h => h, (k_ (d_ (k_ (k_ (k_ r_)))))⟩) ?_
    rintro _ _ _ ⟨rfl, rfl, rfl⟩
    refine AtO.call rfl en63 rfl (do63 x.ps o (by omega)) (fun _ h => ⟨h.1, trivial⟩) (List.Perm.refl _) rfl (k_ (d_ (k_ (k_ (k_ r_))))) ?_
    rintro _ _ _ ⟨s1, s3, rfl, rfl, rfl, hs1, hs3⟩
    refine oQ rfl (q_move rfl) rfl (cT (cI (cT cP))) ?_
    refine oQ rfl (q_extract rfl rfl) rfl (cT (cI (cT cP))) ?_
    refine oQ rfl (q_extract rfl rfl) rfl (cT (cI (cT cP))) ?_
    refine oQ rfl (q_indexOwn Try.underlying22 t33 rfl hw (by simp) rfl rfl hxl) rfl (cT (cI (cT cP))) ?_
    refine oQ rfl (q_fieldAddr s33 rfl rfl rfl) rfl (cT (cI (cT cP))) ?_
    refine AtO.loudNA rfl (l_storeOwn t31 rfl rfl hw (i := 1) rfl (map_get hx) rfl rfl rfl) (by rintro _ _ _ ⟨_, _, rfl, rfl⟩; exact ⟨fun _ h => h, (k_ (d_ (k_ (k_ (k_ r_)))))⟩) ?_
    rintro _ _ _ ⟨Mow1, ow1, rfl, rfl⟩
    refine AtO.done ?_
    refine aN (aT (aE ?_))
    have hO2 : Own 33 6 ((w.ns.l.set (findD w.p o.key).leaf ({ x with ps := s1 } : Nd)).map rowN) w.ns.a w.ns.c Mow1 := by rw [row_set]; exact ow1
    have hx2 : (w.ns.l.set (findD w.p o.key).leaf ({ x with ps := s1 } : Nd))[(findD w.p o.key).leaf]? = some ({ x with ps := s1 } : Nd) := List.getElem?_set_self hxl
    refine At.draw 11 (.q 0 (.q 1 (.q 2 (.q 3 (.q 4 (.q 5 (.q 6 (.q 7 (.q 8 (.q 9 (.o 10 (.e)))))))))))) _ (List.Sublist.refl _) mixed (by kernel_rfl) rfl ?_
    refine oQ rfl (q_fieldAddr s24 rfl rfl rfl) rfl (cT (cI (cT cP))) ?_
    refine oQ rfl (q_load t22 rfl (Rd.loc (i := 4) rfl rfl)) rfl (cT (cI (cT cP))) ?_
    refine oQ rfl (q_move rfl) rfl (cT (cI (cT cP))) ?_
    refine oQ rfl (q_loadS t64 rfl (RdS.blk (ix 7 rfl) (m := 5) rfl) rfl) rfl (cT (cI (cT cP))) ?_
    refine oQ rfl (q_fieldAddr s24 rfl rfl rfl) rfl (cT (cI (cT cP))) ?_
    refine oQ rfl (q_load t22 rfl (Rd.loc (i := 4) rfl rfl)) rfl (cT (cI (cT cP))) ?_
    refine oQ rfl (q_move rfl) rfl (cT (cI (cT cP))) ?_
    refine oQ rfl (q_indexOwn Try.underlying22 t33 rfl hO2 (by simp) rfl rfl hxl) rfl (cT (cI (cT cP))) ?_
    refine oQ rfl (q_fieldAddr s33 rfl rfl rfl) rfl (cT (cI (cT cP))) ?_
    refine oQ rfl (q_load t3 rfl (Rd.own hO2 (i := 1) rfl (map_get hx2) rfl)) rfl (cT (cI (cT cP))) ?_
    refine AtO.callA rfl en98 rfl (next98 _ _ _) (fun _ _ => trivial) (List.Perm.refl _) rfl r_ ?_
    rintro _ _ _ ⟨rfl, rfl, rfl⟩
    refine AtO.done ?_
    refine aQ (q_indexOwn Try.underlying22 t33 rfl hO2 (by simp) rfl rfl hxl) rfl ?_
    refine aQ (q_fieldAddr s33 rfl rfl rfl) rfl ?_
    refine At.loudN (l_storeOwn t3 rfl rfl hO2 (i := 1) rfl (map_get hx2) rfl rfl rfl) ?_
    rintro _ _ _ ⟨Mow2, ow2, rfl, rfl⟩
    refine aN (aT (aR ?_))
    have hO3 : Own 33 6 ((w.ns.l.set (findD w.p o.key).leaf ({ x with ps := s1, stat := nextS p x.stat 2 } : Nd)).map rowN) w.ns.a w.ns.c Mow2 := by rw [set_twice (y1 := ({ x with ps := s1 } : Nd))]; exact ow2
    refine At.know (psP (w.ns.l.set (findD w.p o.key).leaf ({ x with ps := s1, stat := nextS p x.stat 2 } : Nd))) (fun _ h => psP_set (n := ({ x with ps := s1, stat := nextS p x.stat 2 } : Nd)) h.2.2.2.2.2.1 h.1) ?_
    obtain ⟨hq1, hq2, hq3, hq4, hq5, hq6, hq7⟩ := upd_set (st := nextS p x.stat 2) hs hmo hu rfl (hn.trans (congrArg some hxp.symm)) (next_bd p x.stat 2).1 (next_bd p x.stat 2).2
    have hdl := do_len (allT w.p) o
    have hvp : (⟨w.root, ⟨w.ns.a, w.ns.c, w.ns.l.set (findD w.p o.key).leaf ({ x with ps := s1, stat := nextS p x.stat 2 } : Nd)⟩⟩ : Tr).p = (⟨w.p.root, w.p.ns.set (findD w.p o.key).leaf { x.p with l := (doT x.p.l o).1, stat := nextS p x.stat 2 }⟩ : PT) := by rw [set_p]; simp [Tr.p, Nd.p, hs1]
    have hvs : smallP (w.ns.l.set (findD w.p o.key).leaf ({ x with ps := s1, stat := nextS p x.stat 2 } : Nd)) := small_all (u := (⟨w.root, ⟨w.ns.a, w.ns.c, w.ns.l.set (findD w.p o.key).leaf ({ x with ps := s1, stat := nextS p x.stat 2 } : Nd)⟩⟩ : Tr)) (b := 600001) (by rw [hvp]; exact congrArg Option.isSome hq2) (by rw [hvp]; show (allT ⟨_, _⟩).length ≤ _; rw [hq4]; omega) (by omega)
    have hsd : setD w.p ((findD w.p o.key).leaf : Int) (doT x.p.l o).1 (nextS p x.p.stat 2) = (⟨w.root, ⟨w.ns.a, w.ns.c, w.ns.l.set (findD w.p o.key).leaf ({ x with ps := s1, stat := nextS p x.stat 2 } : Nd)⟩⟩ : Tr).p := by rw [setD, hvp]; exact congrArg (fun q => Option.getD q _) hq1
    have hupd : updT w.p p o = (bendT (⟨w.root, ⟨w.ns.a, w.ns.c, w.ns.l.set (findD w.p o.key).leaf ({ x with ps := s1, stat := nextS p x.stat 2 } : Nd)⟩⟩ : Tr).p p ((findD w.p o.key).leaf : Int)).1 := by
     unfold updT
     rw [hgd]
     show (bendT (setD w.p ((findD w.p o.key).leaf : Int) (doT x.p.l o).1 (nextS p x.p.stat 2)) p _).1 = _
     rw [hsd]
    refine At.freezeOwn 1 hO3 rfl ?_
    refine aQ (q_loadS t24 rfl (RdS.loc (i := 3) rfl (m := 2) rfl) rfl) rfl ?_
    refine At.say 76 (Tr.val (⟨w.root, ⟨w.ns.a, w.ns.c, w.ns.l.set (findD w.p o.key).leaf ({ x with ps := s1, stat := nextS p x.stat 2 } : Nd)⟩⟩ : Tr)) rfl (by rw [set_val]; rfl) ?_
    refine aQ (q_loadS t64 rfl (RdS.blk (ix 9 rfl) (m := 5) rfl) rfl) rfl ?_
    refine aS 1 rfl rfl ?_
    refine At.call en52 rfl (bend52 (⟨w.root, ⟨w.ns.a, w.ns.c, w.ns.l.set (findD w.p o.key).leaf ({ x with ps := s1, stat := nextS p x.stat 2 } : Nd)⟩⟩ : Tr) hvs p ((findD w.p o.key).leaf : Int)) (fun _ h => ⟨h.1, h.2.1, trivial⟩) (List.Perm.refl _) rfl ?_
    rintro _ _ _ ⟨u, rfl, rfl, rfl, hpu⟩
    have hpu2 : u.p = updT w.p p o := by rw [hpu, hupd]
    have hso : soloT t.p p o = (updT w.p p o, (doT (allT t.p) o).2) := by rw [solo_plain hmt hmo, ← hpw, tree_upd hu]
    refine aS 1 rfl rfl ?_
    refine aQ (q_extract rfl rfl) rfl ?_
    refine aQ (q_extract rfl rfl) rfl ?_
    refine At.loudN (l_store t24 rfl rfl (i := 3) rfl rfl rfl rfl) ?_
    rintro _ _ _ ⟨rfl, rfl⟩
    refine aN (At.inNormal (aT (aE ?_)))
    refine At.draw 3 (.q 0 (.q 1 (.o 2 (.e)))) (_ :: _ :: _ :: L₀) (k_ (k_ (d_ (k_ r_)))) mixed (by kernel_rfl) rfl ?_
    refine oQ rfl (q_loadS t24 rfl (RdS.loc (i := 2) rfl (m := 2) rfl) rfl) rfl (cT cP) ?_
    refine oQ rfl (q_loadS t80 rfl (RdS.loc (i := 0) rfl (m := 6) rfl) rfl) rfl (cT cP) ?_
    refine AtO.loudNA rfl (l_store t24 rfl rfl (i := 2) rfl rfl rfl rfl) (by rintro _ _ _ ⟨rfl, rfl⟩; exact ⟨fun _ h => h, (k_ (k_ (d_ (k_ r_))))⟩) ?_
    rintro _ _ _ ⟨rfl, rfl⟩
    refine AtO.done ?_
    refine At.loudN (l_store t80 rfl rfl (i := 1) rfl rfl rfl rfl) ?_
    rintro _ _ _ ⟨rfl, rfl⟩
    refine aN (aT (At.ret ?_))
    exact At.results (Γr := [_, _, _]) (M := []) rfl (RVals.cons (RVal.cellS rfl t24 (RdS.loc (i := 2) rfl (m := 2) rfl) rfl) (RVals.cons (RVal.cellS rfl t80 (RdS.loc (i := 1) rfl (m := 6) rfl) rfl) RVals.nil)) (ix 15 rfl) (fun _ h => ⟨h.1, h.2.1, h.2.2.2.2.2.2.2.2.1, trivial⟩) (d_ (d_ (d_ (d_ r_)))) ⟨u, s2, by rw [hso]; rfl, rfl, rfl, by rw [hso] <;> exact hpu2, by rw [hso] <;> exact hs2⟩
   ·
    have hu : updO o = false := by simp only [updO, Bool.or_eq_false_iff, decide_eq_false_iff_not]; omega
    refine aE (aR ?_)
    refine aS 1 rfl rfl ?_
    refine aQ (q_len Try.underlying37 rfl) rfl ?_
    refine aS 2 rfl rfl ?_
    refine aN (aT ?_)
    refine At.if rfl (fun hl1 => ?_) (fun hl1 => ?_)
    ·
     refine At.lenOf (hs := (.head _)) fun htl9 => ?_
     rw [List.length_map] at htl9
     refine aE (aE (aR ?_))
     refine aS 1 rfl rfl ?_
     refine aQ (q_len Try.underlying37 rfl) rfl ?_
     refine aS 1 rfl rfl ?_
     refine aN (aT (At.block ?_))
     refine At.front 1 rfl ?_
     refine At.loopK (ι := Nat × List Nd × Seg) [14, 88, 89, 90, 91, 92, 93, 94, 95, 96, 97, 98, 99, 100, 101, 102, 103, 104, 105] (fun ⟨k, q, M⟩ => [(88, .int .i64 (k : Int))]) (fun ⟨k, q, M⟩ => [psP q]) (fun ⟨k, q, M⟩ => [M]) _ (fun ⟨k, q, M⟩ => k ≤ (touchT w.p o).length ∧ Own 33 6 (q.map rowN) w.ns.a w.ns.c M ∧ (⟨w.root, ⟨w.ns.a, w.ns.c, q⟩⟩ : Tr).p = ((touchT w.p o).take k).foldl (setSt p) w.p ∧ q.length = w.ns.l.length) (fun ⟨k, q, M⟩ => (touchT w.p o).length - k) (0, w.ns.l, Mw) ⟨Nat.zero_le _, hw, rfl, rfl⟩ ⟨rfl, trivial⟩ (fun _ h => ⟨h.2.2.1, trivial⟩) (k_ r_) ?_
     intro i0 hI0
     obtain ⟨k, q, M⟩ := i0
     obtain ⟨hkl, hO, hq, hql⟩ := hI0
     obtain ⟨f1, f2, f3⟩ := sev_fold (p := p) (l := (touchT w.p o).take k) hs (fun a ha => touch_sub hs a (List.mem_of_mem_take ha))
     rw [← hq] at f1 f2 f3
     refine aE (aR ?_)
     refine aS 1 rfl rfl ?_
     refine aN (aT (aE ?_))
     refine At.if rfl (fun hk => ?_) (fun hk => ?_)
     ·
      obtain ⟨a, ha⟩ := get_of_lt (l := touchT w.p o) (i := k) (by omega)
      have hk9 := lt_of_get ha
      have hui : tl.l[k]? = some (a : Int) := by rw [hptl]; exact toI_get ha
      obtain ⟨n, hn, hnr, e1, e2, e3, e4, e5⟩ := sev_step (p := p) f1 (by rw [f2]; exact touch_sub hs a (List.mem_of_getElem? ha))
      obtain ⟨x, hx, hxp⟩ := p_get (u := (⟨w.root, ⟨w.ns.a, w.ns.c, q⟩⟩ : Tr)) rfl hn
      have hx9 : q[a]? = some x := hx
      have hxl : a < w.ns.l.length := by have h9 := lt_of_get hx9; omega
      refine At.skip (aT (aE (At.block (aE (aR ?_)))))
      refine aQ (q_index Try.underlying37 t3 rfl (ix 1 rfl) (by simp) rfl rfl (lt_of_get hui)) rfl ?_
      refine At.know (prsP x.ps) (fun _ h => psP_get h.1 hx9) ?_
      refine aQ (q_load t3 rfl (Rd.sl0 (ix 2 rfl) (map_get hui) rfl)) rfl ?_
      refine aS 1 rfl rfl ?_
      refine aN (aT ?_)
      refine At.draw 11 (.q 0 (.q 1 (.q 2 (.q 3 (.q 4 (.q 5 (.q 6 (.q 7 (.q 8 (.q 9 (.o 10 (.e)))))))))))) _ (List.Sublist.refl _) mixed (by kernel_rfl) rfl ?_
      refine oQ rfl (q_fieldAddr s24 rfl rfl rfl) rfl (cI (cT (cT (cI (cT (cI (cT cP))))))) ?_
      refine oQ rfl (q_load t22 rfl (Rd.loc (i := 4) rfl rfl)) rfl (cI (cT (cT (cI (cT (cI (cT cP))))))) ?_
      refine oQ rfl (q_move rfl) rfl (cI (cT (cT (cI (cT (cI (cT cP))))))) ?_
      refine oQ rfl (q_loadS t64 rfl (RdS.blk (ix 6 rfl) (m := 5) rfl) rfl) rfl (cI (cT (cT (cI (cT (cI (cT cP))))))) ?_
      refine oQ rfl (q_fieldAddr s24 rfl rfl rfl) rfl (cI (cT (cT (cI (cT (cI (cT cP))))))) ?_
      refine oQ rfl (q_load t22 rfl (Rd.loc (i := 4) rfl rfl)) rfl (cI (cT (cT (cI (cT (cI (cT cP))))))) ?_
      refine oQ rfl (q_move rfl) rfl (cI (cT (cT (cI (cT (cI (cT cP))))))) ?_
      refine oQ rfl (q_indexOwn Try.underlying22 t33 rfl hO (by simp [hql]) rfl rfl hxl) rfl (cI (cT (cT (cI (cT (cI (cT cP))))))) ?_
      refine oQ rfl (q_fieldAddr s33 rfl rfl rfl) rfl (cI (cT (cT (cI (cT (cI (cT cP))))))) ?_
      refine oQ rfl (q_load t3 rfl (Rd.own hO (i := 0) rfl (map_get hx9) rfl)) rfl (cI (cT (cT (cI (cT (cI (cT cP))))))) ?_
      refine AtO.callA rfl en98 rfl (next98 _ _ _) (fun _ _ => trivial) (List.Perm.refl _) rfl r_ ?_
      rintro _ _ _ ⟨rfl, rfl, rfl⟩
      refine AtO.done ?_
      refine aQ (q_indexOwn Try.underlying22 t33 rfl hO (by simp [hql]) rfl rfl hxl) rfl ?_
      refine aQ (q_fieldAddr s33 rfl rfl rfl) rfl ?_
      refine At.loudN (l_storeOwn t3 rfl rfl hO (i := 0) rfl (map_get hx9) rfl rfl rfl) ?_
      rintro _ _ _ ⟨Mow3, ow3, rfl, rfl⟩
      refine aN (At.inNormal (aT (aR ?_)))
      have hO2 : Own 33 6 ((q.set a ({ x with stat := nextS p x.stat 3 } : Nd)).map rowN) w.ns.a w.ns.c Mow3 := by rw [row_set]; exact ow3
      refine At.know (psP (q.set a ({ x with stat := nextS p x.stat 3 } : Nd))) (fun _ h => psP_set (n := ({ x with stat := nextS p x.stat 3 } : Nd)) h.2.1 h.1) ?_
      refine aQ (q_add rfl rfl (by omega) (by omega)) rfl ?_
      refine aS 1 rfl rfl ?_
      refine aN (aT ?_)
      exact At.againK (k + 1, q.set a ({ x with stat := nextS p x.stat 3 } : Nd), _) ⟨hk9, hO2, by rw [List.take_succ_eq_append_getElem hk9, List.foldl_append, (List.getElem?_eq_some_iff.1 ha).2]; show _ = setSt p _ a; rw [← hq, e2, ← hxp, set_p]; rfl, by simp [hql]⟩ (by (try dsimp only); omega) (Tells.end 20 ⟨rfl, trivial⟩ rfl rfl) (fun _ h => ⟨h.1, h.2.2.2⟩) (k_ r_)
     ·
      have hq2 : (⟨w.root, ⟨w.ns.a, w.ns.c, q⟩⟩ : Tr).p = (touchT w.p o).foldl (setSt p) w.p := by rw [hq, List.take_of_length_le (by omega)]
      have hv2s : smallP q := small_all (u := (⟨w.root, ⟨w.ns.a, w.ns.c, q⟩⟩ : Tr)) (b := 600000) (by rw [f1]; rfl) (by rw [f3]; exact halw) (by omega)
      have h00 : tl.l[0]? = some (((touchT w.p o).headD 0 : Nat) : Int) := by
       rw [hptl]
       cases hc : touchT w.p o with
       | nil => rw [htll, hc] at hl1; simp at hl1
       | cons a L => rfl
      refine At.freezeOwn 0 hO rfl ?_
      refine At.exit (At.thenExit (At.thenExit (At.inHere rfl (aT ?_))))
      refine At.draw 10 (.q 1 (.q 2 (.q 3 (.q 4 (.o 0 (.o 5 (.q 6 (.q 7 (.q 8 (.o 9 (.e))))))))))) (_ :: _ :: _ :: L₀) (k_ (k_ (k_ (d_ r_)))) mixed (by kernel_rfl) rfl ?_
      refine oQ rfl (q_loadS t64 rfl (RdS.blk (ix 6 rfl) (m := 5) rfl) rfl) rfl (cI (cT cP)) ?_
      refine oQ rfl (q_move rfl) rfl (cI (cT cP)) ?_
      refine oQ rfl (q_index Try.underlying37 t3 rfl (ix 2 rfl) (by simp) rfl rfl (lt_of_get h00)) rfl (cI (cT cP)) ?_
      refine oQ rfl (q_load t3 rfl (Rd.sl0 (ix 2 rfl) (map_get h00) rfl)) rfl (cI (cT cP)) ?_
      refine AtO.loud rfl (Quiet.loud (q_loadS t24 rfl (RdS.loc (i := 3) rfl (m := 2) rfl) rfl)) rfl (by rintro _ _ _ ⟨rfl, rfl, rfl⟩; exact ⟨fun _ h => h, (k_ (k_ (k_ (d_ r_))))⟩) ?_
      rintro _ _ _ ⟨rfl, rfl, rfl⟩
      refine AtO.say 107 (Tr.val (⟨w.root, ⟨w.ns.a, w.ns.c, q⟩⟩ : Tr)) rfl (show Value.agg #[.int .i64 w.root, .slice w.ns.a w.ns.l.length w.ns.c] = _ from by rw [← hql]; rfl) ?_
      refine AtO.call rfl en52 rfl (bend52 (⟨w.root, ⟨w.ns.a, w.ns.c, q⟩⟩ : Tr) hv2s p _) (fun _ h => ⟨h.1, h.2.1, trivial⟩) (List.Perm.refl _) rfl (k_ (k_ (k_ (d_ r_)))) ?_
      rintro _ _ _ ⟨u, rfl, rfl, rfl, hpu⟩
      have hpu2 : u.p = sevT w.p p (touchT w.p o) := by rw [hpu, hq2]; rfl
      have hso : soloT t.p p o = (sevT w.p p (touchT w.p o), (doT (allT t.p) o).2) := by rw [solo_plain hmt hmo, ← hpw, tree_sev hu (by omega)]
      refine oQ rfl (q_move rfl) rfl (cI (cT cP)) ?_
      refine oQ rfl (q_extract rfl rfl) rfl (cI (cT cP)) ?_
      refine oQ rfl (q_extract rfl rfl) rfl (cI (cT cP)) ?_
      refine AtO.loudNA rfl (l_store t24 rfl rfl (i := 3) rfl rfl rfl rfl) (by rintro _ _ _ ⟨rfl, rfl⟩; exact ⟨fun _ h => h, (k_ (k_ (k_ (d_ r_))))⟩) ?_
      rintro _ _ _ ⟨rfl, rfl⟩
      refine AtO.done ?_
      refine aN (At.inNormal (aT (aE ?_)))
      refine At.draw 3 (.q 0 (.q 1 (.o 2 (.e)))) (_ :: _ :: _ :: L₀) (k_ (k_ (d_ (k_ r_)))) mixed (by kernel_rfl) rfl ?_
      refine oQ rfl (q_loadS t24 rfl (RdS.loc (i := 2) rfl (m := 2) rfl) rfl) rfl (cT cP) ?_
      refine oQ rfl (q_loadS t80 rfl (RdS.loc (i := 0) rfl (m := 6) rfl) rfl) rfl (cT cP) ?_
      refine AtO.loudNA rfl (l_store t24 rfl rfl (i := 2) rfl rfl rfl rfl) (by rintro _ _ _ ⟨rfl, rfl⟩; exact ⟨fun _ h => h, (k_ (k_ (d_ (k_ r_))))⟩) ?_
      rintro _ _ _ ⟨rfl, rfl⟩
      refine AtO.done ?_
      refine At.loudN (l_store t80 rfl rfl (i := 1) rfl rfl rfl rfl) ?_
      rintro _ _ _ ⟨rfl, rfl⟩
      refine aN (aT (At.ret ?_))
      exact At.results (Γr := [_, _, _]) (M := []) rfl (RVals.cons (RVal.cellS rfl t24 (RdS.loc (i := 2) rfl (m := 2) rfl) rfl) (RVals.cons (RVal.cellS rfl t80 (RdS.loc (i := 1) rfl (m := 6) rfl) rfl) RVals.nil)) (ix 12 rfl) (fun _ h => ⟨h.1, h.2.1, h.2.2.2.2.2.1, trivial⟩) (d_ (d_ (d_ (d_ r_)))) ⟨u, s2, by rw [hso]; rfl, rfl, rfl, by rw [hso] <;> exact hpu2, by rw [hso] <;> exact hs2⟩
    ·
     refine At.freezeOwn 1 hw rfl ?_
     have hso : soloT t.p p o = (w.p, (doT (allT t.p) o).2) := by rw [solo_plain hmt hmo, ← hpw, tree_same hu (by omega)]
     refine At.skip (At.inNormal (aT (aE ?_)))
     refine At.draw 3 (.q 0 (.q 1 (.o 2 (.e)))) (_ :: _ :: _ :: L₀) (k_ (k_ (d_ (k_ r_)))) mixed (by kernel_rfl) rfl ?_
     refine oQ rfl (q_loadS t24 rfl (RdS.loc (i := 2) rfl (m := 2) rfl) rfl) rfl (cT cP) ?_
     refine oQ rfl (q_loadS t80 rfl (RdS.loc (i := 0) rfl (m := 6) rfl) rfl) rfl (cT cP) ?_
     refine AtO.loudNA rfl (l_store t24 rfl rfl (i := 2) rfl rfl rfl rfl) (by rintro _ _ _ ⟨rfl, rfl⟩; exact ⟨fun _ h => h, (k_ (k_ (d_ (k_ r_))))⟩) ?_
     rintro _ _ _ ⟨rfl, rfl⟩
     refine AtO.done ?_
     refine At.loudN (l_store t80 rfl rfl (i := 1) rfl rfl rfl rfl) ?_
     rintro _ _ _ ⟨rfl, rfl⟩
     refine aN (aT (At.ret ?_))
     exact At.results (Γr := [_, _, _]) (M := []) rfl (RVals.cons (RVal.cellS rfl t24 (RdS.loc (i := 2) rfl (m := 2) rfl) rfl) (RVals.cons (RVal.cellS rfl t80 (RdS.loc (i := 1) rfl (m := 6) rfl) rfl) RVals.nil)) (ix 9 rfl) (fun _ h => ⟨h.1, h.2.2.2.1, h.2.2.1, trivial⟩) (d_ (d_ (d_ (d_ r_)))) ⟨w, s2, by rw [hso]; rfl, rfl, rfl, by rw [hso] <;> exact rfl, by rw [hso] <;> exact hs2⟩
end Go.Proofs.Ytmkodknmknfdkaa
set_option linter.unusedVariables false
set_option linter.unusedSimpArgs false
namespace Go.Proofs.Ytmkodknmknfdkaa
open E
set_option maxRecDepth 4000
theorem en58 : Enters Try.prog 58 := Enters.mk' Try.func58 rfl rfl
theorem en60 : Enters Try.prog 60 := Enters.mk' Try.func60 rfl rfl
set_option maxHeartbeats 2000000 in
theorem forms14 (t : Tr) (hz : ∀ n ∈ t.ns.l, n.ps.l.length ≤ 8796093022208) (p : Pol) (l : Sl OpS) : Con Try.prog 14 [t.val, p.val, l.val] [ndsP t.ns, psP t.ns.l, opsP l] [] (fun v Γ M => v = .bool true ∧ Γ = [] ∧ M = []) := by
 refine Con.body 121 Try.func14 rfl Try.ntmps14 rfl fun X H₀ L₀ => ?_
 refine At.know (prsP ⟨none, 0, []⟩) (fun _ h => sl_nil _ _ _ (Nat.zero_le _)) ?_
 refine aE (aR ?_)
 refine At.loud (l_box rfl) rfl ?_
 rintro _ _ _ ⟨b1, rfl, rfl, rfl⟩
 refine At.loud (l_box rfl) rfl ?_
 rintro _ _ _ ⟨b2, rfl, rfl, rfl⟩
 refine At.freeze 0 (φ := blk b2 _) rfl (fun _ h => blk_def.2 ⟨_, _, h⟩) ?_
 refine aS 1 rfl rfl ?_
 refine aN (aT (aE (aE (aR ?_))))
 refine aQ (q_loadS t24 rfl (RdS.loc (i := 0) rfl (m := 2) rfl) rfl) rfl ?_
 refine At.call en20 rfl (light20 _ (by assumption)) (fun _ h => ⟨h.2.2.2.1, trivial⟩) (List.Perm.refl _) rfl ?_
 rintro _ _ _ ⟨rfl, rfl, rfl⟩
 refine aS 2 rfl rfl ?_
 refine At.splitP (d := 18) rfl (fun hlg => ?_) (fun hlg => ?_)
 ·
  refine aS 4 rfl rfl ?_
  refine aN (aT ?_)
  refine At.condT rfl ?_
  refine aE (aR ?_)
  refine At.call en55 rfl (awake55) (fun _ _ => trivial) (List.Perm.refl _) rfl ?_
  rintro _ _ _ ⟨rfl, rfl, rfl⟩
  refine aS 1 rfl rfl ?_
  refine aN (aT (At.ret (At.thenRet ?_)))
  exact At.results (Γr := []) (M := []) rfl (RVals.cons (RVal.tmp rfl) RVals.nil) (ix 2 rfl) (fun _ _ => trivial) (d_ r_) ⟨rfl, rfl, rfl⟩
 ·
  refine aS 1 rfl rfl ?_
  refine At.open rfl rfl ?_
  refine aQ (q_len Try.underlying72 rfl) rfl ?_
  refine aS 2 rfl rfl ?_
  refine aN (aT ?_)
  refine At.if rfl (fun hl60 => ?_) (fun hl60 => ?_)
  ·
   refine aE (aR ?_)
   refine At.call en55 rfl (awake55) (fun _ _ => trivial) (List.Perm.refl _) rfl ?_
   rintro _ _ _ ⟨rfl, rfl, rfl⟩
   refine aS 1 rfl rfl ?_
   refine aN (aT (At.ret (At.thenRet ?_)))
   exact At.results (Γr := []) (M := []) rfl (RVals.cons (RVal.tmp rfl) RVals.nil) (ix 2 rfl) (fun _ _ => trivial) (d_ r_) ⟨rfl, rfl, rfl⟩
  ·
   have hli : lightT t.p = true := light_yes hlg
   obtain ⟨h450, hsm, hp2000⟩ := small_of_light hli
   have hN : t.p.ns.length = t.ns.l.length := by simp [Tr.p]
   have hal := all_len2 hp2000
   refine At.lenOf (hs := (ix 5 rfl)) fun hlen => ?_
   rw [List.length_map] at hlen
   refine At.skip (aT (aE (aR ?_)))
   refine aQ (q_loadS t24 rfl (RdS.loc (i := 0) rfl (m := 2) rfl) rfl) rfl ?_
   refine aQ (q_loadS t64 rfl (RdS.blk (.head _) (m := 5) rfl) rfl) rfl ?_
   refine aS 1 rfl rfl ?_
   refine At.call en56 rfl (run56 t hsm p l (by omega) (by omega)) (fun _ h => ⟨h.2.2.2.1, h.2.2.2.2.1, h.2.2.2.2.2.1, trivial⟩) (List.Perm.refl _) rfl ?_
   rintro _ _ _ ⟨u, r, rfl, rfl, rfl, hpu, hr⟩
   refine aS 1 rfl rfl ?_
   refine aQ (q_extract rfl rfl) rfl ?_
   refine aQ (q_extract rfl rfl) rfl ?_
   refine At.loud (l_alloc t24) rfl ?_
   rintro _ _ _ ⟨b3, rfl, rfl, rfl⟩
   refine At.loudN (l_store t24 rfl rfl (i := 0) rfl rfl rfl rfl) ?_
   rintro _ _ _ ⟨rfl, rfl⟩
   refine aS 1 rfl rfl ?_
   refine aN (aT (aE (aE (aR ?_))))
   refine aS 1 rfl rfl ?_
   refine aQ (q_len Try.underlying72 rfl) rfl ?_
   refine aS 1 rfl rfl ?_
   refine aN (aT (At.block ?_))
   refine At.front 1 rfl ?_
   refine At.loopK (ι := Nat × Tr) [6, 9, 10, 11, 12, 13, 14, 33, 34, 35, 36, 37, 38, 39, 40, 41, 42, 43, 44, 45, 46, 47, 48, 49, 50, 51, 52, 53, 54, 55, 56, 57, 58, 59, 60, 61, 62, 63, 64, 65, 66, 67, 68, 69, 70, 71, 72, 73, 74, 75, 76, 77, 78, 79, 80, 81, 82, 83, 84, 85, 86, 87, 88, 89, 90, 91, 92, 93, 94, 95, 96, 97, 98, 99, 100, 101, 102] (fun ⟨k, v⟩ => [(33, .int .i64 (k : Int))]) (fun ⟨k, v⟩ => [ndsP v.ns, psP v.ns.l]) (fun ⟨k, v⟩ => [[(b1, .cells #[.int .i64 v.root, v.ns.val] 24 (0, 0))]]) _ (fun ⟨k, v⟩ => k ≤ l.l.length ∧ SoloI t.p p l.l k v.p) (fun ⟨k, v⟩ => l.l.length - k) (0, t) ⟨Nat.zero_le _, .inl ⟨rfl, rfl⟩⟩ ⟨rfl, trivial⟩ (fun _ h => ⟨h.2.2.2.2.2.2.2.1, h.2.2.2.2.2.2.2.2.1, trivial⟩) (k_ r_) ?_
   intro i0 hI0
   obtain ⟨k, v⟩ := i0
   obtain ⟨hkl, hI⟩ := hI0
   have hvl := hI.small
   have hvs : smallP v.ns.l := by
    rcases Bool.eq_false_or_eq_true (mayT v.p).isSome with hm | hm
    ·exact small_all (b := 3000) hm (by omega) (by omega)
    ·rcases hI with ⟨_, e⟩ | ⟨_, h9, e⟩
     ·exact small_of_p e hsm
     ·rw [e, (run_keeps (p := p) (l := l.l) (plain_keeps h9).1 k).1] at hm; cases hm
   refine aE (aR ?_)
   refine aS 1 rfl rfl ?_
   refine aN (aT (aE ?_))
   refine At.if rfl (fun hk => ?_) (fun hk => ?_)
   ·
    obtain ⟨o, ho⟩ := get_of_lt (l := l.l) (i := k) (by omega)
    have hko := lt_of_get ho
    refine At.skip (aT (aE (At.block (aE (aR ?_)))))
    refine aS 1 rfl rfl ?_
    refine aQ (q_index Try.underlying72 t77 rfl (ix 11 rfl) (by simp) rfl rfl (lt_of_get ho)) rfl ?_
    refine aQ (q_loadS t77 rfl (RdS.sl0 (ix 11 rfl) (map_get ho)) rfl) rfl ?_
    refine At.loud (l_alloc t77) rfl ?_
    rintro _ _ _ ⟨b4, rfl, rfl, rfl⟩
    refine aS 1 rfl rfl ?_
    refine At.loudN (l_store t77 rfl rfl (i := 0) rfl rfl rfl rfl) ?_
    rintro _ _ _ ⟨rfl, rfl⟩
    refine aN (aT (aE (aR ?_)))
    refine aQ (q_loadS t24 rfl (RdS.loc (i := 1) rfl (m := 2) rfl) rfl) rfl ?_
    refine aQ (q_loadS t64 rfl (RdS.blk (ix 6 rfl) (m := 5) rfl) rfl) rfl ?_
    refine aQ (q_loadS t77 rfl (RdS.loc (i := 0) rfl (m := 4) rfl) rfl) rfl ?_
    refine At.call en57 rfl (solo57 v hvs p o (by omega)) (fun _ h => ⟨h.1, h.2.1, trivial⟩) (List.Perm.refl _) rfl ?_
    rintro _ _ _ ⟨x, sx, rfl, rfl, rfl, hpx, hsx⟩
    refine aS 1 rfl rfl ?_
    refine aQ (q_extract rfl rfl) rfl ?_
    refine aQ (q_extract rfl rfl) rfl ?_
    refine At.loud (l_alloc t24) rfl ?_
    rintro _ _ _ ⟨b5, rfl, rfl, rfl⟩
    refine At.loud (l_alloc t80) rfl ?_
    rintro _ _ _ ⟨b6, rfl, rfl, rfl⟩
    refine At.loudN (l_store t24 rfl rfl (i := 1) rfl rfl rfl rfl) ?_
    rintro _ _ _ ⟨rfl, rfl⟩
    refine At.loudN (l_store t80 rfl rfl (i := 0) rfl rfl rfl rfl) ?_
    rintro _ _ _ ⟨rfl, rfl⟩
    refine aN (aT (aE (aR ?_)))
    refine aQ (q_loadS t24 rfl (RdS.loc (i := 3) rfl (m := 2) rfl) rfl) rfl ?_
    refine aQ (q_loadS t64 rfl (RdS.blk (ix 9 rfl) (m := 5) rfl) rfl) rfl ?_
    refine aQ (q_loadS t77 rfl (RdS.loc (i := 2) rfl (m := 4) rfl) rfl) rfl ?_
    refine At.call en58 rfl (solo58 v hvs p o (by omega)) (fun _ h => ⟨h.2.2.2.1, h.2.2.2.2.1, trivial⟩) (List.Perm.refl _) rfl ?_
    rintro _ _ _ ⟨y, sy, rfl, rfl, rfl, hpy, hsy⟩
    refine aS 1 rfl rfl ?_
    refine aQ (q_extract rfl rfl) rfl ?_
    refine aQ (q_extract rfl rfl) rfl ?_
    refine At.loud (l_alloc t24) rfl ?_
    rintro _ _ _ ⟨b7, rfl, rfl, rfl⟩
    refine At.loud (l_alloc t80) rfl ?_
    rintro _ _ _ ⟨b8, rfl, rfl, rfl⟩
    refine At.loudN (l_store t24 rfl rfl (i := 1) rfl rfl rfl rfl) ?_
    rintro _ _ _ ⟨rfl, rfl⟩
    refine At.loudN (l_store t80 rfl rfl (i := 0) rfl rfl rfl rfl) ?_
    rintro _ _ _ ⟨rfl, rfl⟩
    refine aN (aT (aE (aE ?_)))
    refine At.draw 16 (.q 0 (.q 1 (.o 2 (.q 3 (.q 4 (.q 5 (.q 6 (.o 7 (.q 8 (.q 9 (.q 10 (.q 11 (.q 12 (.q 14 (.q 15 (.o 13 (.e))))))))))))))))) _ (List.Sublist.refl _) mixed (by kernel_rfl) rfl ?_
    refine oQ rfl (q_loadS t80 rfl (RdS.loc (i := 2) rfl (m := 6) rfl) rfl) rfl (cT (cT (cI (cT (cT (cI (cT cP))))))) ?_
    refine oQ rfl (q_loadS t80 rfl (RdS.loc (i := 0) rfl (m := 6) rfl) rfl) rfl (cT (cT (cI (cT (cT (cI (cT cP))))))) ?_
    refine AtO.callA rfl en59 rfl (same59 _ _ _ _) (fun _ h => ⟨h.2.2.2.2.2.1, h.2.2.1, trivial⟩) (List.Perm.refl _) rfl r_ ?_
    rintro _ _ _ ⟨rfl, rfl, rfl⟩
    refine oQ rfl (q_not rfl) rfl (cT (cT (cI (cT (cT (cI (cT cP))))))) ?_
    refine oQ rfl (q_move rfl) rfl (cT (cT (cI (cT (cT (cI (cT cP))))))) ?_
    refine AtO.say 56 (.bool false) rfl (congrArg Value.bool (by rw [hsx, hsy]; simp)) ?_
    refine oG rfl rfl rfl (q_loadS t24 rfl (RdS.loc (i := 3) rfl (m := 2) rfl) rfl) rfl (cT (cT (cI (cT (cT (cI (cT cP))))))) ?_
    refine oG rfl rfl rfl (q_loadS t24 rfl (RdS.loc (i := 1) rfl (m := 2) rfl) rfl) rfl (cT (cT (cI (cT (cT (cI (cT cP))))))) ?_
    refine AtO.callGA rfl rfl rfl en36 rfl (same36 _ _) (fun _ h => ⟨h.2.2.2.1, h.2.2.2.2.1, h.1, h.2.1, trivial⟩) (List.Perm.refl _) rfl r_ ?_
    rintro _ _ _ ⟨rfl, rfl, rfl⟩
    refine oG rfl rfl rfl (q_not rfl) rfl (cT (cT (cI (cT (cT (cI (cT cP))))))) ?_
    refine oQ rfl (q_pickF rfl rfl) rfl (cT (cT (cI (cT (cT (cI (cT cP))))))) ?_
    refine oQ rfl (q_move rfl) rfl (cT (cT (cI (cT (cT (cI (cT cP))))))) ?_
    refine AtO.say 62 (.bool false) rfl (congrArg Value.bool (by rw [hpx, hpy]; simp)) ?_
    refine oG rfl rfl rfl (q_loadS t24 rfl (RdS.loc (i := 5) rfl (m := 2) rfl) rfl) rfl (cT (cT (cI (cT (cT (cI (cT cP))))))) ?_
    refine oG rfl rfl rfl (q_loadS t77 rfl (RdS.loc (i := 4) rfl (m := 4) rfl) rfl) rfl (cT (cT (cI (cT (cT (cI (cT cP))))))) ?_
    refine oG rfl rfl rfl (q_loadS t24 rfl (RdS.loc (i := 5) rfl (m := 2) rfl) rfl) rfl (cT (cT (cI (cT (cT (cI (cT cP))))))) ?_
    refine oG rfl rfl rfl (q_loadS t77 rfl (RdS.loc (i := 4) rfl (m := 4) rfl) rfl) rfl (cT (cT (cI (cT (cT (cI (cT cP))))))) ?_
    refine AtO.callGA rfl rfl rfl en61 rfl (touched61 v o) (fun _ h => ⟨h.2.2.2.2.2.2.1, h.2.2.2.2.2.2.2.1, trivial⟩) (List.Perm.refl _) rfl r_ ?_
    rintro _ _ _ ⟨ta, rfl, rfl, rfl, hta⟩
    refine AtO.done ?_
    refine At.open rfl rfl ?_
    refine At.call en62 rfl (touched62 v hvs o) (fun _ h => ⟨h.2.2.2.2.2.2.2.1, h.2.2.2.2.2.2.2.2.1, trivial⟩) (List.Perm.refl _) rfl ?_
    rintro _ _ _ ⟨tb, rfl, rfl, rfl, htb⟩
    refine At.open rfl rfl ?_
    refine At.call en60 rfl (same60 _ _) (fun _ h => ⟨h.2.1, h.1, trivial⟩) (List.Perm.refl _) rfl ?_
    rintro _ _ _ ⟨rfl, rfl, rfl⟩
    refine aS 2 rfl rfl ?_
    refine aN (aT ?_)
    refine At.say 71 (.bool false) rfl (congrArg Value.bool (by rw [hta, htb]; simp)) ?_
    refine At.condF rfl ?_
    refine At.skip (aT (aE (aE (aR ?_))))
    refine aQ (q_loadS t24 rfl (RdS.loc (i := 5) rfl (m := 2) rfl) rfl) rfl ?_
    refine aQ (q_loadS t24 rfl (RdS.loc (i := 5) rfl (m := 2) rfl) rfl) rfl ?_
    refine At.call en22 rfl (same22 v v hvs hvs) (fun _ h => ⟨h.2.2.2.2.2.2.2.2.1, h.2.2.2.2.2.2.2.2.2.1, h.2.2.2.2.2.2.2.2.1, h.2.2.2.2.2.2.2.2.2.1, trivial⟩) (List.Perm.refl _) rfl ?_
    rintro _ _ _ ⟨rfl, rfl, rfl⟩
    refine aS 1 rfl rfl ?_
    refine aN (aT ?_)
    refine At.cond rfl (fun hsv => ?_) (fun hsv => ?_)
    ·
     have hvm : (mayT v.p).isSome = false := by rw [← same_self]; exact not_t hsv
     have hrb := hI.bad hvm
     rw [hrb] at hpu hr
     have hul : u.ns.l.length = 0 := p_len hpu
     have hrl : r.l.length = 0 := by have h9 := congrArg List.length hr; rw [List.length_map] at h9; exact h9
     refine aE (aR ?_)
     refine aF s24 t22 rfl rfl rfl (Rd.loc (i := 6) rfl rfl) rfl rfl ?_
     refine aQ (q_len Try.underlying22 rfl) rfl ?_
     refine aS 2 rfl rfl ?_
     refine At.say 80 (.bool true) rfl (congrArg Value.bool (decide_eq_true (by rw [hul]; rfl))) ?_
     refine aS 1 rfl rfl ?_
     refine At.open rfl rfl ?_
     refine aQ (q_len Try.underlying73 rfl) rfl ?_
     refine aS 3 rfl rfl ?_
     refine At.say 85 (.bool true) rfl (congrArg Value.bool (decide_eq_true (by rw [hrl]; rfl))) ?_
     refine At.open rfl rfl ?_
     refine At.call en55 rfl (awake55) (fun _ _ => trivial) (List.Perm.refl _) rfl ?_
     rintro _ _ _ ⟨rfl, rfl, rfl⟩
     refine aS 2 rfl rfl ?_
     refine aN (aT (At.ret (At.thenRet (At.inRet (At.thenRet (At.thenRet (At.inRet (At.thenRet ?_))))))))
     exact At.results (Γr := []) (M := []) rfl (RVals.cons (RVal.tmp rfl) RVals.nil) (ix 16 rfl) (fun _ _ => trivial) (d_ (d_ (d_ (d_ (d_ (d_ (d_ r_))))))) ⟨rfl, rfl, rfl⟩
    ·
     have hvm : (mayT v.p).isSome = true := by rw [← same_self]; exact not_f hsv
     obtain ⟨g1, g2, g3⟩ := hI.next hvm ho
     have hrl : r.l.length = l.l.length := by have h9 := congrArg List.length hr; rw [List.length_map, g3] at h9; exact h9
     obtain ⟨z9, hz9⟩ := get_of_lt (l := r.l) (i := k) (by omega)
     have hza : z9.a = (soloT v.p p o).2 := by rw [← hr, List.getElem?_map, hz9] at g2; exact Option.some.inj g2
     obtain ⟨ha1, ha2, ha3, ha4, ha5⟩ : z9.err = (soloT v.p p o).2.err ∧ z9.ok = (soloT v.p p o).2.ok ∧ z9.p = (soloT v.p p o).2.p ∧ z9.n = (soloT v.p p o).2.n ∧ z9.ps.l = (soloT v.p p o).2.l := by rw [← hza]; exact ⟨rfl, rfl, rfl, rfl, rfl⟩
     refine At.know (prsP z9.ps) (fun _ h => apsP_get h.2.2.2.2.2.2.2.2.2.2.2.2.2.1 hz9) ?_
     refine At.skip (aT (aE (aE ?_)))
     refine At.draw 10 (.q 0 (.q 1 (.q 2 (.q 3 (.q 4 (.q 5 (.q 6 (.q 7 (.q 8 (.q 9 (.e))))))))))) _ (List.Sublist.refl _) mixed (by kernel_rfl) rfl ?_
     refine oQ rfl (q_move rfl) rfl (cT (cT (cI (cT (cT (cI (cT cP))))))) ?_
     refine oQ rfl (q_move rfl) rfl (cT (cT (cI (cT (cT (cI (cT cP))))))) ?_
     refine oQ rfl (q_len Try.underlying73 rfl) rfl (cT (cT (cI (cT (cT (cI (cT cP))))))) ?_
     refine oQ rfl (q_geq rfl rfl) rfl (cT (cT (cI (cT (cT (cI (cT cP))))))) ?_
     refine oQ rfl (q_move rfl) rfl (cT (cT (cI (cT (cT (cI (cT cP))))))) ?_
     refine AtO.say 92 (.bool false) rfl (congrArg Value.bool (decide_eq_false (by omega))) ?_
     refine oG rfl rfl rfl (q_move rfl) rfl (cT (cT (cI (cT (cT (cI (cT cP))))))) ?_
     refine oG rfl rfl rfl (q_move rfl) rfl (cT (cT (cI (cT (cT (cI (cT cP))))))) ?_
     refine oG rfl rfl rfl (q_index Try.underlying73 t80 rfl (ix 13 rfl) (by simp) rfl rfl (lt_of_get hz9)) rfl (cT (cT (cI (cT (cT (cI (cT cP))))))) ?_
     refine oG rfl rfl rfl (q_loadS t80 rfl (RdS.sl0 (ix 13 rfl) (map_get hz9)) rfl) rfl (cT (cT (cI (cT (cT (cI (cT cP))))))) ?_
     refine oG rfl rfl rfl (q_loadS t80 rfl (RdS.loc (i := 2) rfl (m := 6) rfl) rfl) rfl (cT (cT (cI (cT (cT (cI (cT cP))))))) ?_
     refine AtO.done ?_
     refine At.open rfl rfl ?_
     refine At.call en59 rfl (same59 z9.a (soloT v.p p o).2 z9.ps sx) (fun _ h => ⟨h.1, h.2.2.2.2.2.2.2.2.1, trivial⟩) (List.Perm.refl _) rfl ?_
     rintro _ _ _ ⟨rfl, rfl, rfl⟩
     refine aS 2 rfl rfl ?_
     refine aN (aT ?_)
     refine At.say 100 (.bool false) rfl (congrArg Value.bool (by rw [hza]; simp [ha5, hsx])) ?_
     refine At.condF rfl ?_
     refine At.skip (aT (aR ?_))
     refine aQ (q_loadS t24 rfl (RdS.loc (i := 3) rfl (m := 2) rfl) rfl) rfl ?_
     refine At.loudN (l_store t24 rfl rfl (i := 5) rfl rfl rfl rfl) ?_
     rintro _ _ _ ⟨rfl, rfl⟩
     refine aN (At.inNormal (aT (aR ?_)))
     refine aQ (q_add rfl rfl (by omega) (by omega)) rfl ?_
     refine aS 1 rfl rfl ?_
     refine aN ?_
     refine At.front 5 rfl ?_
     refine aT ?_
     exact At.againK (k + 1, x) ⟨hko, by rw [hpx]; exact g1⟩ (by (try dsimp only); omega) (Tells.end 70 ⟨rfl, trivial⟩ rfl rfl) (fun _ h => ⟨h.2.2.2.2.2.2.1, ⟨h.2.2.2.2.2.2.2.1, h.2.2.2.2.2.2.2.2.2.2.2⟩⟩) (k_ (d_ (d_ (d_ (d_ (d_ r_))))))
   ·
    obtain rfl : k = l.l.length := by omega
    obtain ⟨d1, d2⟩ := hI.done
    have hrl : r.l.length = l.l.length := by have h9 := congrArg List.length hr; rw [List.length_map, d1] at h9; exact h9
    refine At.exit (At.thenExit (At.thenExit (At.inHere rfl (aT (aE (aR ?_))))))
    refine aS 1 rfl rfl ?_
    refine aQ (q_len Try.underlying73 rfl) rfl ?_
    refine aS 1 rfl rfl ?_
    refine aQ (q_len Try.underlying72 rfl) rfl ?_
    refine aS 2 rfl rfl ?_
    refine At.say 108 (.bool true) rfl (congrArg Value.bool (decide_eq_true (by rw [hrl]))) ?_
    refine aS 1 rfl rfl ?_
    refine At.open rfl rfl ?_
    refine aQ (q_len Try.underlying72 rfl) rfl ?_
    refine aS 2 rfl rfl ?_
    refine At.splitP (d := 112) rfl (fun hl0 => ?_) (fun hl0 => ?_)
    ·
     refine aS 6 rfl rfl ?_
     refine At.open rfl rfl ?_
     refine At.call en55 rfl (awake55) (fun _ _ => trivial) (List.Perm.refl _) rfl ?_
     rintro _ _ _ ⟨rfl, rfl, rfl⟩
     refine aS 2 rfl rfl ?_
     refine aN (aT (At.ret ?_))
     exact At.results (Γr := []) (M := []) rfl (RVals.cons (RVal.tmp rfl) RVals.nil) (ix 8 rfl) (fun _ _ => trivial) (d_ (d_ r_)) ⟨rfl, rfl, rfl⟩
    ·
     refine At.open rfl rfl ?_
     refine aQ (q_loadS t24 rfl (RdS.loc (i := 1) rfl (m := 2) rfl) rfl) rfl ?_
     refine At.open rfl rfl ?_
     refine aQ (q_loadS t24 rfl (RdS.loc (i := 0) rfl (m := 2) rfl) rfl) rfl ?_
     refine At.open rfl rfl ?_
     refine At.call en36 rfl (same36 u v) (fun _ h => ⟨h.2.2.1, h.2.2.2.1, h.1, h.2.1, trivial⟩) (List.Perm.refl _) rfl ?_
     rintro _ _ _ ⟨rfl, rfl, rfl⟩
     refine aS 3 rfl rfl ?_
     refine At.say 118 (.bool true) rfl (congrArg Value.bool (decide_eq_true (by rw [hpu]; exact d2 (by omega)))) ?_
     refine At.open rfl rfl ?_
     refine At.call en55 rfl (awake55) (fun _ _ => trivial) (List.Perm.refl _) rfl ?_
     rintro _ _ _ ⟨rfl, rfl, rfl⟩
     refine aS 2 rfl rfl ?_
     refine aN (aT (At.ret ?_))
     exact At.results (Γr := []) (M := []) rfl (RVals.cons (RVal.tmp rfl) RVals.nil) (ix 8 rfl) (fun _ _ => trivial) (d_ (d_ r_)) ⟨rfl, rfl, rfl⟩
end Go.Proofs.Ytmkodknmknfdkaa
set_option linter.unusedVariables false
set_option linter.unusedSimpArgs false
namespace Go.Proofs.Ytmkodknmknfdkaa
open E Go Go.RowKit Go.WideShapes
set_option maxRecDepth 4000
theorem choose_rows {α D : Type} {row : α → List Value} {Q : α → D → Prop} : ∀ (rows : List (List Value)) (elems : List D), (∀ (i : Nat) (r : List Value), rows[i]? = some r → ∃ d, elems[i]? = some d ∧ ∃ x, r = row x ∧ Q x d) → ∃ l : List α, rows = l.map row ∧ ∀ x ∈ l, ∃ d ∈ elems, Q x d
 | [], _, _ => ⟨[], rfl, fun x h => by simp at h⟩
 | r :: rows, elems, h => by
  obtain ⟨d, hd, x, rfl, hq⟩ := h 0 r rfl
  cases elems with
  | nil => simp at hd
  | cons e es =>
   simp at hd
   subst hd
   obtain ⟨l, rfl, hl⟩ := choose_rows rows es fun i r hr => h (i + 1) r (by simpa using hr)
   refine ⟨x :: l, rfl, fun y hy => ?_⟩
   rcases List.mem_cons.1 hy with rfl | hy
   ·exact ⟨e, by simp, hq⟩
   ·obtain ⟨d, hd, hq⟩ := hl y hy
    exact ⟨d, by simp [hd], hq⟩
section
variable {H : Type} {enc : TypeId × Value → H} {w : World} {base : Nat} {spare : Nat → Bool} {held : Bool}
theorem weights_all {P : Program} {e : TypeId} {d : DataW H} {n : Nat} : ∀ {l : List (DataW H)}, d ∈ l → n ∈ d.weights P e → n ∈ DataW.weightsAll P e l
 | x :: l, hd, hn => by
  simp only [DataW.weightsAll, List.mem_append]
  rcases List.mem_cons.1 hd with rfl | hd
  ·exact .inl hn
  ·exact .inr (weights_all hd hn)
/-- A slice, with what each of its rows tells. -/
theorem openSlQ {t e k fuel : Nat} {cs : List Value} {x : DataW H × List MemPlace} {α : Type} (row : α → List Value) (Q : α → DataW H → Prop) (ht : Try.prog.underlying t = some (.slice e)) (hk : Try.prog.cellsOf e = k) (hpos : Nat.blt 0 k = true)
  (hrow : ∀ (n : Nat) (cs : List Value) (y : DataW H × List MemPlace), DataW.trod enc Try.prog w base spare held n e cs = some y → ∃ x, cs = row x ∧ Q x y.1)
  (h : DataW.trod enc Try.prog w base spare held fuel t cs = some x) :
  ∃ s : Sl α, cs = [s.val] ∧ (sl s.a s.c k (s.l.map row)).holds (hp w) ∧ ((x.1 = .nil ∧ s.l = []) ∨ ∃ elems sp, x.1 = .slice elems sp ∧ s.l.length = elems.length ∧ ∀ x ∈ s.l, ∃ d ∈ elems, Q x d) := by
 obtain ⟨a, c, rows, rfl, h2, h3, h4, n, elems, sp, hx, hlen, h5⟩ := openSl ht hk hpos h
 obtain ⟨l, rfl, hl⟩ := choose_rows (row := row) (Q := Q) rows elems fun i r hr => by
  obtain ⟨y, hy, he⟩ := h5 i r hr
  obtain ⟨x, hx, hq⟩ := hrow n r y hy
  exact ⟨y.1, he, x, hx, hq⟩
 refine ⟨⟨a, c, l⟩, by simp [Sl.val], h2, ?_⟩
 rcases hx with ⟨hx, he⟩ | hx
 ·left
  refine ⟨hx, ?_⟩
  rw [he, List.length_map] at hlen
  exact List.eq_nil_of_length_eq_zero hlen.symm
 ·exact .inr ⟨elems, sp, hx, by rw [hlen, List.length_map], hl⟩
theorem rowOfPair {n : Nat} {cs : List Value} {y : DataW H × List MemPlace} (h : DataW.trod enc Try.prog w base spare held n 50 cs = some y) : ∃ p : Pr, cs = rowP p ∧ True := by
 obtain ⟨zs, e, hl, _⟩ := openIntStruct (k := 2) (by kernel_rfl) (by kernel_rfl) h
 match zs, hl with
 | [a, b], _ => exact ⟨⟨a, b⟩, e, trivial⟩
theorem bytes50 : Try.prog.bytesOf 50 = 16 := by kernel_rfl
theorem openPairs {fuel : Nat} {cs : List Value} {x : DataW H × List MemPlace} (h : DataW.trod enc Try.prog w base spare held fuel 31 cs = some x) :
  ∃ s : Sl Pr, cs = [s.val] ∧ (prsP s).holds (hp w) ∧ ((x.1.weights Try.prog 31).all (· ≤ reachBytes) = true → s.l.length ≤ 8796093022208) := by
 obtain ⟨s, h1, h2, h3⟩ := openSlQ (k := 2) rowP (fun _ _ => True) Try.underlying31 (by kernel_rfl) rfl (fun n cs y h => rowOfPair h) h
 refine ⟨s, h1, h2, fun hw => ?_⟩
 rcases h3 with ⟨_, h4⟩ | ⟨elems, sp, hx, hl, _⟩
 ·rw [h4]; simp
 ·rw [hx] at hw
  simp only [DataW.weights, Try.underlying31, List.all_cons, Bool.and_eq_true, decide_eq_true_eq, bytes50, reachBytes] at hw
  have h5 := of_decide_eq_true hw.1
  rw [hl]
  omega
theorem openNode {n : Nat} {cs : List Value} {y : DataW H × List MemPlace} (h : DataW.trod enc Try.prog w base spare held n 33 cs = some y) :
  ∃ x : Nd, cs = rowN x ∧ ((prsP x.ps).holds (hp w) ∧ ((y.1.weights Try.prog 33).all (· ≤ reachBytes) = true → x.ps.l.length ≤ 8796093022208)) := by
 obtain ⟨xs, m, _, rfl, hl, hlen, hf⟩ := DataW.trod_struct Try.underlying33 h
 have hc : Try.prog.cellsOf 33 = 6 := by kernel_rfl
 have c3 : Try.prog.cellsOf 3 = 1 := by kernel_rfl
 have c4 : Try.prog.cellsOf 4 = 1 := by kernel_rfl
 have c31 : Try.prog.cellsOf 31 = 1 := by kernel_rfl
 rw [hc] at hl
 match cs, hl, xs, hlen, hf with
 | [k0, k1, k2, k3, k4, k5], _, [y0, y1, y2, y3, y4, y5], _, hf =>
  have f0 := hf 0 _ rfl
  have f1 := hf 1 _ rfl
  have f2 := hf 2 _ rfl
  have f3 := hf 3 _ rfl
  have f4 := hf 4 _ rfl
  have f5 := hf 5 _ rfl
  simp only [c3, c4, c31, List.drop_succ_cons, List.drop_zero, List.take_succ_cons, List.take_zero, List.getElem?_cons_succ, List.getElem?_cons_zero] at f0 f1 f2 f3 f4 f5
  obtain ⟨b0, e0, _⟩ := DataW.trod_bool Try.underlying4 f0
  obtain ⟨n1, e1, _, _⟩ := DataW.trod_int Try.underlying3 f1
  obtain ⟨n2, e2, _, _⟩ := DataW.trod_int Try.underlying3 f2
  obtain ⟨n3, e3, _, _⟩ := DataW.trod_int Try.underlying3 f3
  obtain ⟨s4, e4, g4, w4⟩ := openPairs f4
  obtain ⟨n5, e5, _, _⟩ := DataW.trod_int Try.underlying3 f5
  cases e0; cases e1; cases e2; cases e3; cases e4; cases e5
  refine ⟨⟨b0, n1, n2, n3, s4, n5⟩, rfl, g4, fun hw => w4 ?_⟩
  rw [List.all_eq_true] at hw ⊢
  intro z hz
  refine hw z ?_
  simp only [DataW.weights, Try.underlying33]
  exact DataW.weights_mem_each (j := 4) rfl rfl z hz
/-- A tree that came in. -/
theorem openTree {fuel : Nat} {cs : List Value} {x : DataW H × List MemPlace} (h : DataW.trod enc Try.prog w base spare held fuel 24 cs = some x) :
  ∃ t : Tr, cs = [.int .i64 t.root, t.ns.val] ∧ (ndsP t.ns).holds (hp w) ∧ (psP t.ns.l).holds (hp w) ∧ ((x.1.weights Try.prog 24).all (· ≤ reachBytes) = true → ∀ n ∈ t.ns.l, n.ps.l.length ≤ 8796093022208) := by
 obtain ⟨xs, m, _, rfl, hl, hlen, hf⟩ := DataW.trod_struct Try.underlying24 h
 have hc : Try.prog.cellsOf 24 = 2 := by kernel_rfl
 have c3 : Try.prog.cellsOf 3 = 1 := by kernel_rfl
 have c22 : Try.prog.cellsOf 22 = 1 := by kernel_rfl
 rw [hc] at hl
 match cs, hl, xs, hlen, hf with
 | [k0, k1], _, [y0, y1], _, hf =>
  have f0 := hf 0 _ rfl
  have f1 := hf 1 _ rfl
  simp only [c3, c22, List.drop_succ_cons, List.drop_zero, List.take_succ_cons, List.take_zero, List.getElem?_cons_succ, List.getElem?_cons_zero] at f0 f1
  obtain ⟨n0, e0, _, _⟩ := DataW.trod_int Try.underlying3 f0
  obtain ⟨s, e1, g1, g2⟩ := openSlQ (k := 6) rowN (fun x d => (prsP x.ps).holds (hp w) ∧ ((d.weights Try.prog 33).all (· ≤ reachBytes) = true → x.ps.l.length ≤ 8796093022208)) Try.underlying22 (by kernel_rfl) rfl (fun n cs y h => openNode h) f1
  cases e0; cases e1
  refine ⟨⟨n0, s⟩, rfl, g1, ?_, fun hw n hn => ?_⟩
  ·rcases g2 with ⟨_, g3⟩ | ⟨elems, sp, _, _, g3⟩
   ·intro n hn; rw [g3] at hn; simp at hn
   ·intro n hn; obtain ⟨d, _, g4, _⟩ := g3 n hn; exact g4
  ·rcases g2 with ⟨_, g3⟩ | ⟨elems, sp, hx, _, g3⟩
   ·rw [g3] at hn; simp at hn
   ·obtain ⟨d, hd, _, g5⟩ := g3 n hn
    apply g5
    rw [List.all_eq_true] at hw ⊢
    intro z hz
    refine hw z ?_
    simp only [DataW.weights, Try.underlying24]
    refine DataW.weights_mem_each (j := 1) (t := 22) (d := y1.1) rfl rfl z ?_
    rw [hx]
    simp only [DataW.weights, Try.underlying22, List.mem_cons, List.mem_append]
    exact .inr (.inl (weights_all hd hz))
theorem argTree {r : Reach} {b0 : Nat} {v : Value} {d : DataW H} {ps : List MemPlace} (hval : Value.okWide Try.prog w r b0 24 v) (h : DataW.Trod enc Try.prog w base spare held 24 v d ps) :
  ∃ t : Tr, v = t.val ∧ (ndsP t.ns).holds (hp w) ∧ (psP t.ns.l).holds (hp w) ∧ ((d.weights Try.prog 24).all (· ≤ reachBytes) = true → ∀ n ∈ t.ns.l, n.ps.l.length ≤ 8796093022208) := by
 obtain ⟨cs, rfl, _⟩ := okWide_struct Try.underlying24 hval
 obtain ⟨fuel, hf⟩ := h
 obtain ⟨t, e, h1, h2, h3⟩ := openTree hf
 refine ⟨t, ?_, h1, h2, h3⟩
 have e' : cs.toList = [.int .i64 t.root, t.ns.val] := by simpa [Value.cells] using e
 show Value.agg cs = .agg #[.int .i64 t.root, t.ns.val]
 congr 1
 apply Array.ext'
 rw [e']
/-- What one argument weighs. -/
theorem sizedArg {ts : List TypeId} {ds : List (DataW H)} {j : Nat} {t : TypeId} {d : DataW H} (h : (DataW.weightsEach Try.prog ts ds).all (· ≤ reachBytes) = true) (ht : ts[j]? = some t) (hd : ds[j]? = some d) : (d.weights Try.prog t).all (· ≤ reachBytes) = true := by
 rw [List.all_eq_true] at h ⊢
 exact fun n hn => h n (DataW.weights_mem_each ht hd n hn)
end
end Go.Proofs.Ytmkodknmknfdkaa
