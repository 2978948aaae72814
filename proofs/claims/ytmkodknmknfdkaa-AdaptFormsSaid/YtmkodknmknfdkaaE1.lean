/- A small separation logic over the model: symbolic frames, facts on memory that never turns, memory of the call's own. -/
import Derived.WalkKit
import Derived.OrdersHeld
set_option linter.unusedVariables false
set_option linter.unusedSimpArgs false
namespace Go.Proofs.Ytmkodknmknfdkaa
namespace E
open Go

/-! ### Memory -/

/-- Memory that never turns again: a part of the heap. -/
abbrev Hp := Nat → Option Obj
def Hp.le (H H' : Hp) : Prop := ∀ b o, H b = some o → H' b = some o
theorem Hp.le_refl (H : Hp) : H.le H := fun _ _ h => h
theorem Hp.le_trans {A B C : Hp} (h : A.le B) (k : B.le C) : A.le C := fun b o e => k b o (h b o e)

/-- A fact on such memory: it stays true as that memory grows. -/
structure SProp where
  holds : Hp → Prop
  mono : ∀ H H' : Hp, H.le H' → holds H → holds H'

def Holds : List SProp → Hp → Prop
  | [], _ => True
  | φ :: Γ, H => φ.holds H ∧ Holds Γ H

theorem Holds.mono {H H' : Hp} (h : H.le H') : ∀ {Γ : List SProp}, Holds Γ H → Holds Γ H'
  | [], _ => trivial
  | φ :: _, hh => ⟨φ.mono _ _ h hh.1, Holds.mono h hh.2⟩
theorem Holds.mem {H : Hp} : ∀ {Γ : List SProp} {φ : SProp}, φ ∈ Γ → Holds Γ H → φ.holds H
  | _ :: _, _, .head _, hh => hh.1
  | _ :: _, _, .tail _ h, hh => Holds.mem h hh.2
theorem Holds.app {H : Hp} : ∀ {Γ Δ : List SProp}, Holds Γ H → Holds Δ H → Holds (Γ ++ Δ) H
  | [], _, _, k => k
  | _ :: _, _, h, k => ⟨h.1, Holds.app h.2 k⟩
theorem Holds.left {H : Hp} : ∀ {Γ Δ : List SProp}, Holds (Γ ++ Δ) H → Holds Γ H
  | [], _, _ => trivial
  | _ :: _, _, h => ⟨h.1, Holds.left h.2⟩
theorem Holds.right {H : Hp} : ∀ {Γ Δ : List SProp}, Holds (Γ ++ Δ) H → Holds Δ H
  | [], _, h => h
  | _ :: _, _, h => Holds.right (Γ := _) h.2

/-- Memory of the call's own: pieces, each of some blocks and what lies in them. -/
abbrev Seg := List (Nat × Obj)
abbrev Loc := List Seg

structure Cx where
  os : Os
  tape : Nat → Question → Nat
  output : Array (Nat × ByteArray)

structure StF (X : Cx) (w : World) (H : Hp) (L : Seg) : Prop where
  os : w.os = X.os
  tape : w.tape = X.tape
  output : w.output = X.output
  sub : ∀ b o, H b = some o → w.heap[b]? = some o
  loc : ∀ p ∈ L, w.heap[p.1]? = some p.2
  apart : ∀ p ∈ L, H p.1 = none
  nodup : (L.map Prod.fst).Nodup

def St (X : Cx) (w : World) (H : Hp) (L : Loc) : Prop := StF X w H L.flatten

theorem StF.drop {X : Cx} {w : World} {H : Hp} {L L' : Seg} (h : StF X w H L) (hs : L'.Sublist L) : StF X w H L' :=
  ⟨h.os, h.tape, h.output, h.sub, fun p hp => h.loc p (hs.subset hp), fun p hp => h.apart p (hs.subset hp), h.nodup.sublist (hs.map _)⟩
theorem StF.perm {X : Cx} {w : World} {H : Hp} {L L' : Seg} (h : StF X w H L) (hs : L'.Perm L) : StF X w H L' :=
  ⟨h.os, h.tape, h.output, h.sub, fun p hp => h.loc p (hs.subset hp), fun p hp => h.apart p (hs.subset hp), ((hs.map Prod.fst).nodup_iff).2 h.nodup⟩
theorem StF.drawn {X : Cx} {w : World} {H : Hp} {L : Seg} (h : StF X w H L) (n : Nat) : StF X { w with drawn := n } H L :=
  ⟨h.os, h.tape, h.output, h.sub, h.loc, h.apart, h.nodup⟩

/-- A new block, of the call's own. -/
theorem StF.push {X : Cx} {w : World} {H : Hp} {L : Seg} (h : StF X w H L) (o : Obj) :
    StF X { w with heap := w.heap.push o } H ((w.heap.size, o) :: L) := by
  have hlt : ∀ {b o'}, w.heap[b]? = some o' → b < w.heap.size := fun e => (Array.getElem?_eq_some_iff.1 e).1
  have keep : ∀ {b o'}, w.heap[b]? = some o' → (w.heap.push o)[b]? = some o' := fun {b o'} e => by
    rw [Array.getElem?_push, if_neg (by have := hlt e; omega)]; exact e
  refine ⟨h.os, h.tape, h.output, fun b o' e => keep (h.sub b o' e), fun p hp => ?_, fun p hp => ?_, ?_⟩
  · rcases List.mem_cons.1 hp with rfl | hp
    · simp
    · exact keep (h.loc p hp)
  · rcases List.mem_cons.1 hp with rfl | hp
    · cases e : H w.heap.size with
      | none => rfl
      | some o' => exact absurd (hlt (h.sub _ _ e)) (Nat.lt_irrefl _)
    · exact h.apart p hp
  · simp only [List.map_cons, List.nodup_cons]
    refine ⟨fun hm => ?_, h.nodup⟩
    obtain ⟨p, hp, e⟩ := List.mem_map.1 hm
    have := hlt (h.loc p hp)
    omega

/-- What is written in a block of the call's own. -/
theorem StF.set {X : Cx} {w w' : World} {H : Hp} {L : Seg} {b : Nat} {o o' : Obj} (h : StF X w H ((b, o) :: L))
    (e1 : w'.os = w.os) (e2 : w'.tape = w.tape) (e3 : w'.output = w.output) (e4 : w'.heap[b]? = some o') (e5 : ∀ c, c ≠ b → w'.heap[c]? = w.heap[c]?) :
    StF X w' H ((b, o') :: L) := by
  have hn := h.nodup
  simp only [List.map_cons, List.nodup_cons] at hn
  refine ⟨e1.trans h.os, e2.trans h.tape, e3.trans h.output, fun c o1 e => ?_, fun p hp => ?_, fun p hp => ?_, by simpa using hn⟩
  · have : c ≠ b := fun e' => by subst e'; rw [h.apart (c, o) (List.mem_cons_self ..)] at e; cases e
    rw [e5 c this]
    exact h.sub c o1 e
  · rcases List.mem_cons.1 hp with rfl | hp
    · exact e4
    · have : p.1 ≠ b := fun e' => hn.1 (List.mem_map.2 ⟨p, hp, e'⟩)
      rw [e5 _ this]
      exact h.loc p (List.mem_cons_of_mem _ hp)
  · rcases List.mem_cons.1 hp with rfl | hp
    · exact h.apart (b, o) (List.mem_cons_self ..)
    · exact h.apart p (List.mem_cons_of_mem _ hp)

/-- A block of the call's own is never written again: it goes over to the memory that never turns. -/
def Hp.with (H : Hp) (b : Nat) (o : Obj) : Hp := fun c => if c = b then some o else H c
theorem Hp.le_with {H : Hp} {b : Nat} {o : Obj} (h : H b = none) : H.le (H.with b o) := fun c o' e => by
  unfold Hp.with
  split
  · rename_i hc; subst hc; rw [h] at e; cases e
  · exact e
theorem Hp.with_self (H : Hp) (b : Nat) (o : Obj) : H.with b o b = some o := by simp [Hp.with]
theorem StF.freeze {X : Cx} {w : World} {H : Hp} {L : Seg} {b : Nat} {o : Obj} (h : StF X w H ((b, o) :: L)) :
    StF X w (H.with b o) L ∧ H.le (H.with b o) := by
  have hn := h.nodup
  simp only [List.map_cons, List.nodup_cons] at hn
  refine ⟨⟨h.os, h.tape, h.output, fun c o1 e => ?_, fun p hp => h.loc p (List.mem_cons_of_mem _ hp), fun p hp => ?_, hn.2⟩, Hp.le_with (h.apart (b, o) (List.mem_cons_self ..))⟩
  · unfold Hp.with at e
    split at e
    · rename_i hc; subst hc; cases e; exact h.loc (c, o) (List.mem_cons_self ..)
    · exact h.sub c o1 e
  · have : p.1 ≠ b := fun e' => hn.1 (List.mem_map.2 ⟨p, hp, e'⟩)
    unfold Hp.with
    rw [if_neg this]
    exact h.apart p (List.mem_cons_of_mem _ hp)

theorem sub_flatten {L L' : Loc} (h : L'.Sublist L) : L'.flatten.Sublist L.flatten := by
  induction h with
  | slnil => exact List.Sublist.slnil
  | cons a _ ih => exact ih.trans (by simp)
  | cons_cons a _ ih => simpa using List.Sublist.append_left ih a
theorem St.drop {X : Cx} {w : World} {H : Hp} {L L' : Loc} (h : St X w H L) (hs : L'.Sublist L) : St X w H L' := StF.drop h (sub_flatten hs)
theorem St.perm {X : Cx} {w : World} {H : Hp} {L L' : Loc} (h : St X w H L) (hs : L'.Perm L) : St X w H L' := StF.perm h hs.flatten
theorem St.drawn {X : Cx} {w : World} {H : Hp} {L : Loc} (h : St X w H L) (n : Nat) : St X { w with drawn := n } H L := StF.drawn h n
theorem St.push {X : Cx} {w : World} {H : Hp} {L : Loc} (h : St X w H L) (o : Obj) : St X { w with heap := w.heap.push o } H ([(w.heap.size, o)] :: L) := StF.push h o
theorem perm_at {α : Type} : ∀ {L : List α} {i : Nat} {s : α}, L[i]? = some s → L.Perm (s :: L.eraseIdx i)
  | [], i, s, h => by simp at h
  | x :: L, 0, s, h => by simp at h; subst h; exact List.Perm.refl _
  | x :: L, i + 1, s, h => ((perm_at (by simpa using h)).cons x).trans (List.Perm.swap s x _)
theorem perm_set {α : Type} : ∀ {L : List α} {i : Nat} {s : α} (s' : α), L[i]? = some s → (L.set i s').Perm (s' :: L.eraseIdx i)
  | [], i, s, _, h => by simp at h
  | x :: L, 0, s, s', h => by simp
  | x :: L, i + 1, s, s', h => ((perm_set s' (by simpa using h)).cons x).trans (List.Perm.swap s' x _)
/-- One piece ahead of the others. -/
theorem St.front {X : Cx} {w : World} {H : Hp} {L : Loc} {i : Nat} {s : Seg} (h : St X w H L) (hi : L[i]? = some s) : StF X w H (s ++ (L.eraseIdx i).flatten) := by
  have := StF.perm h (perm_at hi).symm.flatten
  simpa using this
theorem St.back {X : Cx} {w : World} {H : Hp} {L : Loc} {i : Nat} {s : Seg} (s' : Seg) (hi : L[i]? = some s) (h : StF X w H (s' ++ (L.eraseIdx i).flatten)) : St X w H (L.set i s') :=
  StF.perm (L := s' ++ (L.eraseIdx i).flatten) h (by have := (perm_set s' hi).flatten; simpa using this)
theorem St.freeze {X : Cx} {w : World} {H : Hp} {L : Loc} {i b : Nat} {o : Obj} (h : St X w H L) (hi : L[i]? = some [(b, o)]) : St X w (H.with b o) (L.eraseIdx i) ∧ H.le (H.with b o) :=
  StF.freeze (h.front hi)
theorem St.mem {X : Cx} {w : World} {H : Hp} {L : Loc} {s : Seg} {p : Nat × Obj} (h : St X w H L) (hs : s ∈ L) (hp : p ∈ s) : w.heap[p.1]? = some p.2 :=
  h.loc p (List.mem_flatten.2 ⟨s, hs, hp⟩)

/-! ### Frames -/

abbrev Env := List (Nat × Value)
def lk : Env → Nat → Option Value
  | [], _ => none
  | (d, v) :: e, t => bif Nat.beq d t then some v else lk e t

structure Agr (n : Nat) (env : Env) (a : Act) : Prop where
  size : a.tmps.size = n
  defers : a.defers = []
  get : ∀ t v, lk env t = some v → a.tmps[t]? = some v

theorem Agr.put {n d : Nat} {env : Env} {a : Act} {v : Value} (h : Agr n env a) (hd : Nat.blt d n = true) : Agr n ((d, v) :: env) (a.put (some d) v) := by
  have hd' : d < n := by simpa [Nat.blt_eq] using hd
  refine ⟨by simp [Act.put, h.size], h.defers, fun t u e => ?_⟩
  simp only [Act.put]
  simp only [lk] at e
  by_cases ht : d = t
  · subst ht
    simp at e
    subst e
    simp [h.size, hd']
  · have : Nat.beq d t = false := by
      cases hb : Nat.beq d t
      · rfl
      · exact absurd (Nat.eq_of_beq_eq_true hb) ht
    rw [this] at e
    rw [Array.getElem?_setIfInBounds_ne ht]
    exact h.get t u e

/-- Forget what is not said. -/
theorem Agr.weaken {n : Nat} {env env' : Env} {a : Act} (h : Agr n env a) (hs : ∀ t v, lk env' t = some v → lk env t = some v) : Agr n env' a :=
  ⟨h.size, h.defers, fun t v e => h.get t v (hs t v e)⟩

def allLk (env : Env) : Env → Prop
  | [] => True
  | (t, v) :: e => lk env t = some v ∧ allLk env e
theorem allLk.get {env : Env} : ∀ {env' : Env}, allLk env env' → ∀ t v, lk env' t = some v → lk env t = some v
  | [], _, t, v, e => by simp [lk] at e
  | (d, u) :: e', h, t, v, e => by
    simp only [lk] at e
    cases hb : Nat.beq d t
    · rw [hb] at e; exact allLk.get h.2 t v e
    · rw [hb] at e
      simp at e
      subst e
      rw [← Nat.eq_of_beq_eq_true hb]
      exact h.1

/-- What an operand is worth. -/
def ev (env : Env) : Operand → Option Value
  | .tmp t => lk env t
  | .const v => some v
  | .func f => some (.func (.func f) #[] #[])
  | .global g => some (.pointer (some ⟨g, 0, none⟩))
def evs (env : Env) : List Operand → Option (List Value)
  | [] => some []
  | x :: xs => match ev env x, evs env xs with
    | some v, some vs => some (v :: vs)
    | _, _ => none

theorem Agr.ev {n : Nat} {env : Env} {a : Act} (h : Agr n env a) {x : Operand} {v : Value} (e : E.ev env x = some v) : a.eval x = v := by
  cases x with
  | tmp t => have := h.get t v e; simp [Act.eval, this]
  | const u => exact Option.some.inj e
  | func f => exact Option.some.inj e
  | global g => exact Option.some.inj e
theorem Agr.evs {n : Nat} {env : Env} {a : Act} (h : Agr n env a) : ∀ {xs : List Operand} {vs : List Value}, E.evs env xs = some vs → xs.map a.eval = vs
  | [], vs, e => by simp [E.evs] at e; subst e; rfl
  | x :: xs, vs, e => by
    simp only [E.evs] at e
    split at e
    · rename_i v vs' h1 h2
      simp at e
      subst e
      simp [h.ev h1, h.evs h2]
    · cases e

/-! ### The judgement -/

/-- In every state that meets the frame's words, the facts and the own memory, K holds. -/
def At (X : Cx) (n : Nat) (K : Act → World → Prop) (env : Env) (Γ : List SProp) (L : Loc) : Prop :=
  ∀ a w H, Agr n env a → Holds Γ H → St X w H L → K a w

theorem At.imp {X : Cx} {n : Nat} {K K' : Act → World → Prop} {env : Env} {Γ : List SProp} {L : Loc} (h : At X n K env Γ L) (hk : ∀ a w, K a w → K' a w) : At X n K' env Γ L :=
  fun a w H h1 h2 h3 => hk a w (h a w H h1 h2 h3)

/-- Say less. -/
theorem At.less {X : Cx} {n : Nat} {K : Act → World → Prop} {env env' : Env} {Γ Γ' : List SProp} {L L' : Loc}
    (he : allLk env env') (hΓ : ∀ H, Holds Γ H → Holds Γ' H) (hL : L'.Sublist L) (h : At X n K env' Γ' L') : At X n K env Γ L :=
  fun a w H h1 h2 h3 => h a w H (h1.weaken he.get) (hΓ H h2) (h3.drop hL)
theorem At.env {X : Cx} {n : Nat} {K : Act → World → Prop} {env : Env} (env' : Env) {Γ : List SProp} {L : Loc}
    (he : allLk env env') (h : At X n K env' Γ L) : At X n K env Γ L :=
  fun a w H h1 h2 h3 => h a w H (h1.weaken he.get) h2 h3
theorem At.facts {X : Cx} {n : Nat} {K : Act → World → Prop} {env : Env} {Γ : List SProp} (Γ' : List SProp) {L : Loc}
    (hΓ : ∀ H, Holds Γ H → Holds Γ' H) (h : At X n K env Γ' L) : At X n K env Γ L :=
  fun a w H h1 h2 h3 => h a w H h1 (hΓ H h2) h3
theorem At.perm {X : Cx} {n : Nat} {K : Act → World → Prop} {env : Env} {Γ : List SProp} {L : Loc} (L' : Loc)
    (hL : L'.Perm L) (h : At X n K env Γ L') : At X n K env Γ L :=
  fun a w H h1 h2 h3 => h a w H h1 h2 (h3.perm hL)
theorem At.freeze {X : Cx} {n : Nat} {K : Act → World → Prop} {env : Env} {Γ : List SProp} {L : Loc} {b : Nat} {o : Obj} (i : Nat) {φ : SProp}
    (hi : L[i]? = some [(b, o)]) (hφ : ∀ H, H b = some o → φ.holds H) (h : At X n K env (φ :: Γ) (L.eraseIdx i)) : At X n K env Γ L :=
  fun a w H h1 h2 h3 => by
    obtain ⟨h4, h5⟩ := h3.freeze hi
    exact h a w _ h1 ⟨hφ _ (Hp.with_self H b o), h2.mono h5⟩ h4
/-- Something that the facts tell. -/
theorem At.have {X : Cx} {n : Nat} {K : Act → World → Prop} {env : Env} {Γ : List SProp} {L : Loc} (p : Prop)
    (hp : ∀ H, Holds Γ H → p) (h : p → At X n K env Γ L) : At X n K env Γ L :=
  fun a w H h1 h2 h3 => h (hp H h2) a w H h1 h2 h3
theorem At.haveEx {X : Cx} {n : Nat} {K : Act → World → Prop} {env : Env} {Γ : List SProp} {L : Loc} {ι : Sort _} (p : ι → Prop) (Γ' : ι → List SProp)
    (hp : ∀ H, Holds Γ H → ∃ i, p i ∧ Holds (Γ' i) H) (h : ∀ i, p i → At X n K env (Γ' i) L) : At X n K env Γ L :=
  fun a w H h1 h2 h3 => by
    obtain ⟨i, hi, hh⟩ := hp H h2
    exact h i hi a w H h1 hh h3

/-! ### Code -/
section code
variable {X : Cx} {n : Nat} {P : Program} {Q : Exit → Act → World → Prop} {env : Env} {Γ : List SProp} {L : Loc}

theorem At.seq {x y : Code} (h : At X n (x.wp P (Exit.then (y.wp P Q) Q)) env Γ L) : At X n ((Code.seq x y).wp P Q) env Γ L := h.imp fun _ _ => wp_seq
theorem At.skip (h : At X n (Q .normal) env Γ L) : At X n (Code.skip.wp P Q) env Γ L := h.imp fun _ _ => wp_skip
theorem At.ret (h : At X n (Q .ret) env Γ L) : At X n (Code.ret.wp P Q) env Γ L := h.imp fun _ _ => wp_ret
theorem At.exit {i : Nat} (h : At X n (Q (.exit i)) env Γ L) : At X n ((Code.exit i).wp P Q) env Γ L := h.imp fun _ _ => wp_exit
theorem At.block {i : Nat} {c : Code} (h : At X n (c.wp P (Exit.inBlock i Q)) env Γ L) : At X n ((Code.block i c).wp P Q) env Γ L := h.imp fun _ _ => wp_block
theorem At.then {K : Act → World → Prop} (h : At X n K env Γ L) : At X n (Exit.then K Q .normal) env Γ L := h
theorem At.thenRet {K : Act → World → Prop} (h : At X n (Q .ret) env Γ L) : At X n (Exit.then K Q .ret) env Γ L := h
theorem At.thenExit {K : Act → World → Prop} {i : Nat} (h : At X n (Q (.exit i)) env Γ L) : At X n (Exit.then K Q (.exit i)) env Γ L := h
theorem At.inNormal {i : Nat} (h : At X n (Q .normal) env Γ L) : At X n (Exit.inBlock i Q .normal) env Γ L := h
theorem At.inRet {i : Nat} (h : At X n (Q .ret) env Γ L) : At X n (Exit.inBlock i Q .ret) env Γ L := h
theorem At.inHere {i j : Nat} (hij : Nat.beq j i = true) (h : At X n (Q .normal) env Γ L) : At X n (Exit.inBlock i Q (.exit j)) env Γ L := by
  have := Nat.eq_of_beq_eq_true hij
  subst this
  exact h.imp fun a w q => by simpa [Exit.inBlock] using q
theorem At.inOther {i j : Nat} (hij : Nat.beq j i = false) (h : At X n (Q (.exit j)) env Γ L) : At X n (Exit.inBlock i Q (.exit j)) env Γ L := by
  have : j ≠ i := fun e => by subst e; simp at hij
  exact h.imp fun a w q => by simpa [Exit.inBlock, this] using q
theorem At.condT {c : Operand} {x y : Code} (hc : ev env c = some (.bool true)) (h : At X n (x.wp P Q) env Γ L) : At X n ((Code.cond c x y).wp P Q) env Γ L :=
  fun a w H h1 h2 h3 => wp_cond_true (h1.ev hc) (h a w H h1 h2 h3)
theorem At.condF {c : Operand} {x y : Code} (hc : ev env c = some (.bool false)) (h : At X n (y.wp P Q) env Γ L) : At X n ((Code.cond c x y).wp P Q) env Γ L :=
  fun a w H h1 h2 h3 => wp_cond_false (h1.ev hc) (h a w H h1 h2 h3)
theorem At.cond {c : Operand} {x y : Code} {t : Bool} (hc : ev env c = some (.bool t)) (hT : t = true → At X n (x.wp P Q) env Γ L) (hF : t = false → At X n (y.wp P Q) env Γ L) :
    At X n ((Code.cond c x y).wp P Q) env Γ L :=
  fun a w H h1 h2 h3 => wp_cond_split (h1.ev hc) (fun e => hT e a w H h1 h2 h3) (fun e => hF e a w H h1 h2 h3)
/-- The same, the test as a proposition. -/
theorem At.if {c : Operand} {x y : Code} {p : Prop} [Decidable p] (hc : ev env c = some (.bool (decide p))) (hT : p → At X n (x.wp P Q) env Γ L) (hF : ¬ p → At X n (y.wp P Q) env Γ L) :
    At X n ((Code.cond c x y).wp P Q) env Γ L :=
  At.cond hc (fun e => hT (of_decide_eq_true e)) (fun e => hF (of_decide_eq_false e))

theorem least {p : Nat → Prop} (h : ∃ m, p m) : ∃ m, p m ∧ ∀ k, p k → m ≤ k := by
  obtain ⟨m, hm⟩ := h
  induction m using Nat.strongRecOn with
  | _ m ih =>
    by_cases hk : ∃ k, p k ∧ k < m
    · obtain ⟨k, hp, hl⟩ := hk; exact ih k hl hp
    · exact ⟨m, hm, fun k hp => Nat.le_of_not_lt fun hl => hk ⟨k, hp, hl⟩⟩

/-- What a round must come to. -/
def Round (X : Cx) (n : Nat) {ι : Type} (e : ι → Env) (G : ι → List SProp) (M : ι → Loc) (I : ι → Prop) (μ : ι → Nat) (i : ι) (a : Act) (w : World) : Prop :=
  ∃ j H, I j ∧ μ j < μ i ∧ Agr n (e j) a ∧ Holds (G j) H ∧ St X w H (M j)

/-- The round's end. -/
theorem At.again {ι : Type} {e : ι → Env} {G : ι → List SProp} {M : ι → Loc} {I : ι → Prop} {μ : ι → Nat} {i : ι} (j : ι)
    (hI : I j) (hμ : μ j < μ i) (he : allLk env (e j)) (hG : ∀ H, Holds Γ H → Holds (G j) H) (hM : (M j).Sublist L) : At X n (Round X n e G M I μ i) env Γ L :=
  fun _ _ H h1 h2 h3 => ⟨j, H, hI, hμ, h1.weaken he.get, hG H h2, h3.drop hM⟩

/-- A loop: a family of states, with a measure. -/
theorem At.loopA {c : Code} {ι : Type} (e : ι → Env) (G : ι → List SProp) (M : ι → Loc) (I : ι → Prop) (μ : ι → Nat) (i₀ : ι)
    (h₀ : I i₀) (round : ∀ i, I i → At X n (c.wp P (Exit.then (Round X n e G M I μ i) Q)) (e i) (G i) (M i)) :
    At X n ((Code.loop c).wp P Q) (e i₀) (G i₀) (M i₀) := fun a w H h1 h2 h3 => by
  classical
  let J : Act → World → Nat → Prop := fun a w m => ∃ i H, I i ∧ μ i = m ∧ Agr n (e i) a ∧ Holds (G i) H ∧ St X w H (M i)
  let ν : Act → World → Nat := fun a w => if h : ∃ m, J a w m then Classical.choose (least h) else 0
  have hν : ∀ a w m, J a w m → J a w (ν a w) ∧ ν a w ≤ m := fun a w m hm => by
    have h : ∃ m, J a w m := ⟨m, hm⟩
    have hs := Classical.choose_spec (least h)
    have e : ν a w = Classical.choose (least h) := dif_pos h
    rw [e]
    exact ⟨hs.1, hs.2 m hm⟩
  refine wp_loop (fun a w => ∃ m, J a w m) ν ⟨_, i₀, H, h₀, rfl, h1, h2, h3⟩ ?_
  intro a w ⟨m, hm⟩
  obtain ⟨⟨i, H, hi, hμ, g1, g2, g3⟩, _⟩ := hν a w m hm
  refine wp_mono (round i hi a w H g1 g2 g3) ?_
  intro ex a' w' hq
  cases ex <;> first | exact hq | skip
  obtain ⟨j, H', hj, hlt, k1, k2, k3⟩ := hq
  have hJ : J a' w' (μ j) := ⟨j, H', hj, rfl, k1, k2, k3⟩
  refine ⟨⟨_, hJ⟩, ?_⟩
  have := (hν a' w' _ hJ).2
  omega
theorem At.loop {c : Code} {ι : Type} (e : ι → Env) (G : ι → List SProp) (M : ι → Loc) (I : ι → Prop) (μ : ι → Nat) (i₀ : ι)
    (h₀ : I i₀) (he : allLk env (e i₀)) (hG : ∀ H, Holds Γ H → Holds (G i₀) H) (hM : (M i₀).Sublist L)
    (round : ∀ i, I i → At X n (c.wp P (Exit.then (Round X n e G M I μ i) Q)) (e i) (G i) (M i)) :
    At X n ((Code.loop c).wp P Q) env Γ L := fun a w H h1 h2 h3 => At.loopA e G M I μ i₀ h₀ round a w H (h1.weaken he.get) (hG H h2) (h3.drop hM)
end code
end E
end Go.Proofs.Ytmkodknmknfdkaa
