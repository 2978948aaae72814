/- Calls in a walk; two ways that meet again. -/
import Derived.Test.YtmkodknmknfdkaaE5
set_option linter.unusedVariables false
set_option linter.unusedSimpArgs false
namespace Go.Proofs.Ytmkodknmknfdkaa
namespace E
open Go

section calls
variable {X : Cx} {n : Nat} {P : Program} {ops : Array Oper} {Q : Exit → Act → World → Prop} {rest : List Oper} {env : Env} {Γ : List SProp} {L : Loc}
variable {d : Nat} {ty : TypeId} {pos : String} {aft : Array Edge} {f : FuncId} {args : List Operand} {vs : List Value} {ats : Array TypeId} {pre : List SProp} {M L0 : Loc} {R : Value → List SProp → Loc → Prop}

theorem At.call (hf : Enters P f) (ha : evs env args = some vs) (c : Con P f vs pre M R) (hp : ∀ H, Holds Γ H → Holds pre H) (hL : (M ++ L0).Perm L) (hd : Nat.blt d n = true)
    (h : ∀ v Γr Mr, R v Γr Mr → At X n (wpList P ops Q rest) ((d, v) :: env) (Γr ++ Γ) (Mr ++ L0)) :
    At X n (wpList P ops Q (⟨some d, .call ⟨.value (.func f), args.toArray, ats⟩, ty, pos, aft, none⟩ :: rest)) env Γ L :=
  At.loud (l_call hf ha c hp hL) hd fun v _ _ ⟨Γr, Mr, hr, e1, e2⟩ => by subst e1; subst e2; exact h v Γr Mr hr
theorem At.callN (hf : Enters P f) (ha : evs env args = some vs) (c : Con P f vs pre M R) (hp : ∀ H, Holds Γ H → Holds pre H) (hL : (M ++ L0).Perm L)
    (h : ∀ v Γr Mr, R v Γr Mr → At X n (wpList P ops Q rest) env (Γr ++ Γ) (Mr ++ L0)) :
    At X n (wpList P ops Q (⟨none, .call ⟨.value (.func f), args.toArray, ats⟩, ty, pos, aft, none⟩ :: rest)) env Γ L :=
  At.loudN (l_call hf ha c hp hL) fun v _ _ ⟨Γr, Mr, hr, e1, e2⟩ => by subst e1; subst e2; exact h v Γr Mr hr
theorem At.callV {x : Operand} {first captured : Array Value} {all : List Value} (hf : Enters P f) (hx : ev env x = some (.func (.func f) first captured)) (ha : evs env args = some vs) (hall : first ++ vs.toArray ++ captured = all.toArray)
    (c : Con P f all pre M R) (hp : ∀ H, Holds Γ H → Holds pre H) (hL : (M ++ L0).Perm L) (hd : Nat.blt d n = true)
    (h : ∀ v Γr Mr, R v Γr Mr → At X n (wpList P ops Q rest) ((d, v) :: env) (Γr ++ Γ) (Mr ++ L0)) :
    At X n (wpList P ops Q (⟨some d, .call ⟨.value x, args.toArray, ats⟩, ty, pos, aft, none⟩ :: rest)) env Γ L :=
  At.loud (l_callV hf hx ha hall c hp hL) hd fun v _ _ ⟨Γr, Mr, hr, e1, e2⟩ => by subst e1; subst e2; exact h v Γr Mr hr

variable {l tail : List Oper} {r : Ord} {i : Nat} {Lr : Loc}
theorem AtO.call (ho : l[i]? = some ⟨some d, .call ⟨.value (.func f), args.toArray, ats⟩, ty, pos, aft, none⟩) (hf : Enters P f) (ha : evs env args = some vs) (c : Con P f vs pre M R) (hp : ∀ H, Holds Γ H → Holds pre H) (hL : (M ++ L0).Perm L) (hd : Nat.blt d n = true)
    (hs : Lr.Sublist L0) (h : ∀ v Γr Mr, R v Γr Mr → AtO X n P l Q tail r Lr ((d, v) :: env) (Γr ++ Γ) (Mr ++ L0)) :
    AtO X n P l Q tail (.o i r) Lr env Γ L :=
  AtO.loud ho (l_call hf ha c hp hL) hd (fun v _ _ ⟨Γr, Mr, hr, e1, e2⟩ => by subst e1; subst e2; exact ⟨fun _ hh => hh.right, hs.trans (List.sublist_append_right Mr L0)⟩)
    fun v _ _ ⟨Γr, Mr, hr, e1, e2⟩ => by subst e1; subst e2; exact h v Γr Mr hr
theorem AtO.callG {j : Nat} {b c' : Bool} (ho : l[i]? = some ⟨some d, .call ⟨.value (.func f), args.toArray, ats⟩, ty, pos, aft, some (j, c')⟩) (hg : gd l env j = some b) (hb : b = c') (hf : Enters P f) (ha : evs env args = some vs) (c : Con P f vs pre M R) (hp : ∀ H, Holds Γ H → Holds pre H) (hL : (M ++ L0).Perm L) (hd : Nat.blt d n = true)
    (hs : Lr.Sublist L0) (h : ∀ v Γr Mr, R v Γr Mr → AtO X n P l Q tail r Lr ((d, v) :: env) (Γr ++ Γ) (Mr ++ L0)) :
    AtO X n P l Q tail (.o i r) Lr env Γ L :=
  AtO.loudG ho hg hb (l_call hf ha c hp hL) hd (fun v _ _ ⟨Γr, Mr, hr, e1, e2⟩ => by subst e1; subst e2; exact ⟨fun _ hh => hh.right, hs.trans (List.sublist_append_right Mr L0)⟩)
    fun v _ _ ⟨Γr, Mr, hr, e1, e2⟩ => by subst e1; subst e2; exact h v Γr Mr hr
theorem AtO.callV {x : Operand} {first captured : Array Value} {all : List Value} (ho : l[i]? = some ⟨some d, .call ⟨.value x, args.toArray, ats⟩, ty, pos, aft, none⟩) (hf : Enters P f) (hx : ev env x = some (.func (.func f) first captured)) (ha : evs env args = some vs) (hall : first ++ vs.toArray ++ captured = all.toArray)
    (c : Con P f all pre M R) (hp : ∀ H, Holds Γ H → Holds pre H) (hL : (M ++ L0).Perm L) (hd : Nat.blt d n = true)
    (hs : Lr.Sublist L0) (h : ∀ v Γr Mr, R v Γr Mr → AtO X n P l Q tail r Lr ((d, v) :: env) (Γr ++ Γ) (Mr ++ L0)) :
    AtO X n P l Q tail (.o i r) Lr env Γ L :=
  AtO.loud ho (l_callV hf hx ha hall c hp hL) hd (fun v _ _ ⟨Γr, Mr, hr, e1, e2⟩ => by subst e1; subst e2; exact ⟨fun _ hh => hh.right, hs.trans (List.sublist_append_right Mr L0)⟩)
    fun v _ _ ⟨Γr, Mr, hr, e1, e2⟩ => by subst e1; subst e2; exact h v Γr Mr hr
/-- A guarded operation that turns out shut, of the kind that changes memory. -/
theorem AtO.shutX {op : Op} {j : Nat} {b c : Bool} (ho : l[i]? = some ⟨some d, op, ty, pos, aft, some (j, c)⟩) (hg : gd l env j = some b) (hb : b = !c) (hd : Nat.blt d n = true) (hs : Lr.Sublist L)
    (h : AtO X n P l Q tail r Lr ((d, undef) :: env) Γ L) : AtO X n P l Q tail (.o i r) Lr env Γ L := fun a w H h1 h2 h3 => by
  show wpOp P l.toArray Q i _ a w
  unfold wpOp
  have ho' : l.toArray[i]? = some ⟨some d, op, ty, pos, aft, some (j, c)⟩ := by simpa using ho
  simp only [ho']
  rw [if_neg (by subst hb; simp only [Region.wanted, gd_spec hg h1]; cases c <;> simp)]
  exact ⟨Rely X Γ Lr, ⟨H, h2, h3.drop hs⟩, fun u hu => hu, h _ w H (h1.put hd) h2 h3⟩
end calls

section cut
variable {X : Cx} {n : Nat} {P : Program} {Q : Exit → Act → World → Prop} {env : Env} {Γ : List SProp} {L : Loc}
/-- What the ways come to where they meet again. -/
def Meet (X : Cx) (n : Nat) {ι : Type} (e : ι → Env) (G : ι → List SProp) (M : ι → Loc) (I : ι → Prop) (a : Act) (w : World) : Prop :=
  ∃ j H, I j ∧ Agr n (e j) a ∧ Holds (G j) H ∧ St X w H (M j)
theorem At.meet {ι : Type} {e : ι → Env} {G : ι → List SProp} {M : ι → Loc} {I : ι → Prop} (j : ι)
    (hI : I j) (he : allLk env (e j)) (hG : ∀ H, Holds Γ H → Holds (G j) H) (hM : (M j).Sublist L) : At X n (Meet X n e G M I) env Γ L :=
  fun _ _ H h1 h2 h3 => ⟨j, H, hI, h1.weaken he.get, hG H h2, h3.drop hM⟩
theorem At.cut {x y : Code} {ι : Type} (e : ι → Env) (G : ι → List SProp) (M : ι → Loc) (I : ι → Prop)
    (h : At X n (x.wp P (Exit.then (Meet X n e G M I) Q)) env Γ L) (h' : ∀ i, I i → At X n (y.wp P Q) (e i) (G i) (M i)) : At X n ((Code.seq x y).wp P Q) env Γ L :=
  At.seq (h.imp fun a w hw => wp_mono hw fun ex a' w' hq => by
    cases ex <;> first | exact hq | skip
    obtain ⟨j, H, hI, k1, k2, k3⟩ := hq
    exact h' j hI a' w' H k1 k2 k3)

/-- A frame's words but for some slots. -/
def without (ws : List Nat) : Env → Env
  | [] => []
  | (d, v) :: e => bif ws.any (Nat.beq d ·) then without ws e else (d, v) :: without ws e
theorem without_lk {ws : List Nat} : ∀ {env : Env} {t : Nat} {v : Value}, lk (without ws env) t = some v → lk env t = some v ∧ ws.any (Nat.beq t ·) = false
  | [], t, v, h => by simp [without, lk] at h
  | (d, u) :: e, t, v, h => by
    simp only [without] at h
    cases hw : ws.any (Nat.beq d ·)
    · rw [hw] at h
      simp only [cond_false, lk] at h
      simp only [lk]
      cases hb : Nat.beq d t
      · rw [hb] at h; exact without_lk h
      · rw [hb] at h
        have := Nat.eq_of_beq_eq_true hb
        subst this
        exact ⟨h, hw⟩
    · rw [hw] at h
      simp only [cond_true] at h
      obtain ⟨h1, h2⟩ := without_lk h
      refine ⟨?_, h2⟩
      simp only [lk]
      cases hb : Nat.beq d t
      · exact h1
      · have := Nat.eq_of_beq_eq_true hb
        subst this
        rw [hw] at h2
        cases h2
/-- Bindings that all speak of the slots ws, ahead of others. -/
theorem lk_skip {ws : List Nat} {t : Nat} (ht : ws.any (Nat.beq t ·) = false) : ∀ {e : Env} (m : Nat), (e.take m).all (fun p => ws.any (Nat.beq p.1 ·)) = true → lk e t = lk (e.drop m) t
  | _, 0, _ => rfl
  | [], m + 1, _ => rfl
  | (d, v) :: e, m + 1, h => by
    simp only [List.take_succ_cons, List.all_cons, Bool.and_eq_true] at h
    simp only [List.drop_succ_cons, lk]
    cases hb : Nat.beq d t
    · exact lk_skip ht m h.2
    · have := Nat.eq_of_beq_eq_true hb
      subst this
      rw [h.1] at ht
      cases ht
/-- What a frame must still tell: of the slots that change, and of all others as before. -/
def Tells (env : Env) (chg : Env) (ws : List Nat) (base : Env) : Prop := allLk env chg ∧ ∀ t v, lk (without ws base) t = some v → lk env t = some v
theorem Tells.start {env chg : Env} {ws : List Nat} (h : allLk env chg) : Tells env chg ws env := ⟨h, fun _ _ k => (without_lk k).1⟩
theorem Tells.end {env chg base : Env} {ws : List Nat} (m : Nat) (h : allLk env chg) (hd : env.drop m = without ws base) (hm : (env.take m).all (fun p => ws.any (Nat.beq p.1 ·)) = true) : Tells env chg ws base :=
  ⟨h, fun t v k => by rw [lk_skip (without_lk k).2 m hm, hd]; exact k⟩
theorem lk_append {e e' : Env} {t : Nat} {v : Value} (h : lk (e ++ e') t = some v) : lk e t = some v ∨ (lk e' t = some v) := by
  induction e with
  | nil => exact .inr h
  | cons p e ih =>
    obtain ⟨d, u⟩ := p
    simp only [List.cons_append, lk] at h ⊢
    cases hb : Nat.beq d t
    · rw [hb] at h; exact ih h
    · rw [hb] at h; exact .inl h
theorem Tells.get {env chg base : Env} {ws : List Nat} (h : Tells env chg ws base) : ∀ t v, lk (chg ++ without ws base) t = some v → lk env t = some v := fun t v k => by
  rcases lk_append k with k | k
  · exact h.1.get t v k
  · exact h.2 t v k

theorem At.front {K : Act → World → Prop} (i : Nat) {s : Seg} (hi : L[i]? = some s) (h : At X n K env Γ (s :: L.eraseIdx i)) : At X n K env Γ L := At.perm _ (perm_at hi).symm h

theorem At.againK {ι : Type} {ws : List Nat} {base : Env} {Γ₀ : List SProp} {L₀ : Loc} {e : ι → Env} {G : ι → List SProp} {M : ι → Loc} {I : ι → Prop} {μ : ι → Nat} {i : ι} (j : ι)
    (hI : I j) (hμ : μ j < μ i) (he : Tells env (e j) ws base) (hG : ∀ H, Holds Γ H → Holds (G j ++ Γ₀) H) (hM : (M j ++ L₀).Sublist L) :
    At X n (Round X n (fun i => e i ++ without ws base) (fun i => G i ++ Γ₀) (fun i => M i ++ L₀) I μ i) env Γ L :=
  fun _ _ H h1 h2 h3 => ⟨j, H, hI, hμ, h1.weaken he.get, hG H h2, h3.drop hM⟩
theorem At.loopS {c : Code} {ι : Type} (e : ι → Env) (G : ι → List SProp) (M : ι → Loc) (I : ι → Prop) (μ : ι → Nat) (i₀ : ι)
    (h₀ : I i₀) (round : ∀ i, I i → At X n (c.wp P (Exit.then (Round X n e G M I μ i) Q)) (e i) (G i) (M i)) :
    At X n ((Code.loop c).wp P Q) (e i₀) (G i₀) (M i₀) := At.loopA e G M I μ i₀ h₀ round
theorem At.loopK {c : Code} {ι : Type} (ws : List Nat) (e : ι → Env) (G : ι → List SProp) (M : ι → Loc) (L₀ : Loc) (I : ι → Prop) (μ : ι → Nat) (i₀ : ι)
    (h₀ : I i₀) (he : allLk env (e i₀)) (hG : ∀ H, Holds Γ H → Holds (G i₀) H) (hM : (M i₀ ++ L₀).Sublist L)
    (round : ∀ i, I i → At X n (c.wp P (Exit.then (Round X n (fun i => e i ++ without ws env) (fun i => G i ++ Γ) (fun i => M i ++ L₀) I μ i) Q)) (e i ++ without ws env) (G i ++ Γ) (M i ++ L₀)) :
    At X n ((Code.loop c).wp P Q) env Γ L := fun a w H h1 h2 h3 =>
  At.loopS (fun i => e i ++ without ws env) (fun i => G i ++ Γ) (fun i => M i ++ L₀) I μ i₀ h₀ round a w H
    (h1.weaken (Tells.start he).get) ((hG H h2).app h2) (h3.drop hM)
theorem At.meetK {ι : Type} {ws : List Nat} {base : Env} {Γ₀ : List SProp} {L₀ : Loc} {e : ι → Env} {G : ι → List SProp} {M : ι → Loc} {I : ι → Prop} (j : ι)
    (hI : I j) (he : Tells env (e j) ws base) (hG : ∀ H, Holds Γ H → Holds (G j ++ Γ₀) H) (hM : (M j ++ L₀).Sublist L) :
    At X n (Meet X n (fun i => e i ++ without ws base) (fun i => G i ++ Γ₀) (fun i => M i ++ L₀) I) env Γ L :=
  fun _ _ H h1 h2 h3 => ⟨j, H, hI, h1.weaken he.get, hG H h2, h3.drop hM⟩
theorem At.cutK {x y : Code} {ι : Type} (ws : List Nat) (e : ι → Env) (G : ι → List SProp) (M : ι → Loc) (L₀ : Loc) (I : ι → Prop)
    (h : At X n (x.wp P (Exit.then (Meet X n (fun i => e i ++ without ws env) (fun i => G i ++ Γ) (fun i => M i ++ L₀) I) Q)) env Γ L)
    (h' : ∀ i, I i → At X n (y.wp P Q) (e i ++ without ws env) (G i ++ Γ) (M i ++ L₀)) : At X n ((Code.seq x y).wp P Q) env Γ L :=
  At.cut _ _ _ I h h'
end cut
end E
end Go.Proofs.Ytmkodknmknfdkaa
