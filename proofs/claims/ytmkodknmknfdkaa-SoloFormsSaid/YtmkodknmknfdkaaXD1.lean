/- Texts of this seat, joined: part 1. -/
import Derived.WalkKit
import Derived.OrdersHeld
import Derived.Lib.MinMax
import Derived.Laws.AppendOwn
import Derived.ProofKit
import Derived.OpenShut
import Derived.ChangeOld
import Derived.Carry
import Derived.Deep.Slices
import Derived.Laws.MakeOwn
import Derived.Lib.SliceRun
import Derived.Test.YtmkodknmknfdkaaRows
import Derived.MapKept
import Derived.Lib.AppendZeros
import Derived.SizedLaws
set_option linter.unusedVariables false
set_option linter.unusedSimpArgs false
namespace Go.Proofs.Ytmkodknmknfdkaa
namespace E
open Go
theorem d_ {α : Type} {l l' : List α} {a : α} (h : l.Sublist l') : l.Sublist (a :: l') := .cons _ h
theorem k_ {α : Type} {l l' : List α} {a : α} (h : l.Sublist l') : (a :: l).Sublist (a :: l') := .cons_cons _ h
theorem r_ {α : Type} {l : List α} : l.Sublist l := .refl _
theorem ix {α : Type} {l : List α} {a : α} (n : Nat) (h : l[n]? = some a) : a ∈ l := List.mem_of_getElem? h
/-- Memory that never turns again: a part of the heap. -/
abbrev Hp := Nat → Option Obj
def Hp.le (H H' : Hp) : Prop := ∀ b o, H b = some o → H' b = some o
theorem Hp.le_refl (H : Hp) : H.le H := fun _ _ h => h
theorem Hp.le_trans {A B C : Hp} (h : A.le B) (k : B.le C) : A.le C := fun b o e => k b o (h b o e)
/-- A fact on such memory: it stays true as that memory grows. -/
structure SProp where
  holds : Hp → Prop
  mono : ∀ H H' : Hp, H.le H' → holds H → holds H'
def Holds : List SProp → Hp → Prop
  | [], _ => True
  | φ :: Γ, H => φ.holds H ∧ Holds Γ H
theorem Holds.mono {H H' : Hp} (h : H.le H') : ∀ {Γ : List SProp}, Holds Γ H → Holds Γ H'
  | [], _ => trivial
  | φ :: _, hh => ⟨φ.mono _ _ h hh.1, Holds.mono h hh.2⟩
theorem Holds.mem {H : Hp} : ∀ {Γ : List SProp} {φ : SProp}, φ ∈ Γ → Holds Γ H → φ.holds H
  | _ :: _, _, .head _, hh => hh.1
  | _ :: _, _, .tail _ h, hh => Holds.mem h hh.2
theorem Holds.app {H : Hp} : ∀ {Γ Δ : List SProp}, Holds Γ H → Holds Δ H → Holds (Γ ++ Δ) H
  | [], _, _, k => k
  | _ :: _, _, h, k => ⟨h.1, Holds.app h.2 k⟩
theorem Holds.left {H : Hp} : ∀ {Γ Δ : List SProp}, Holds (Γ ++ Δ) H → Holds Γ H
  | [], _, _ => trivial
  | _ :: _, _, h => ⟨h.1, Holds.left h.2⟩
theorem Holds.right {H : Hp} : ∀ {Γ Δ : List SProp}, Holds (Γ ++ Δ) H → Holds Δ H
  | [], _, h => h
  | _ :: _, _, h => Holds.right (Γ := _) h.2
/-- Memory of the call's own: pieces, each of some blocks and what lies in them. -/
abbrev Seg := List (Nat × Obj)
abbrev Loc := List Seg
structure Cx where
  os : Os
  tape : Nat → Question → Nat
  output : Array (Nat × ByteArray)
structure StF (X : Cx) (w : World) (H : Hp) (L : Seg) : Prop where
  os : w.os = X.os
  tape : w.tape = X.tape
  output : w.output = X.output
  sub : ∀ b o, H b = some o → w.heap[b]? = some o
  loc : ∀ p ∈ L, w.heap[p.1]? = some p.2
  apart : ∀ p ∈ L, H p.1 = none
  nodup : (L.map Prod.fst).Nodup
def St (X : Cx) (w : World) (H : Hp) (L : Loc) : Prop := StF X w H L.flatten
theorem StF.drop {X : Cx} {w : World} {H : Hp} {L L' : Seg} (h : StF X w H L) (hs : L'.Sublist L) : StF X w H L' :=
  ⟨h.os, h.tape, h.output, h.sub, fun p hp => h.loc p (hs.subset hp), fun p hp => h.apart p (hs.subset hp), h.nodup.sublist (hs.map _)⟩
theorem StF.perm {X : Cx} {w : World} {H : Hp} {L L' : Seg} (h : StF X w H L) (hs : L'.Perm L) : StF X w H L' :=
  ⟨h.os, h.tape, h.output, h.sub, fun p hp => h.loc p (hs.subset hp), fun p hp => h.apart p (hs.subset hp), ((hs.map Prod.fst).nodup_iff).2 h.nodup⟩
theorem StF.drawn {X : Cx} {w : World} {H : Hp} {L : Seg} (h : StF X w H L) (n : Nat) : StF X { w with drawn := n } H L :=
  ⟨h.os, h.tape, h.output, h.sub, h.loc, h.apart, h.nodup⟩
/-- A new block, of the call's own. -/
theorem StF.push {X : Cx} {w : World} {H : Hp} {L : Seg} (h : StF X w H L) (o : Obj) :
    StF X { w with heap := w.heap.push o } H ((w.heap.size, o) :: L) := by
  have hlt : ∀ {b o'}, w.heap[b]? = some o' → b < w.heap.size := fun e => (Array.getElem?_eq_some_iff.1 e).1
  have keep : ∀ {b o'}, w.heap[b]? = some o' → (w.heap.push o)[b]? = some o' := fun {b o'} e => by
    rw [Array.getElem?_push, if_neg (by have := hlt e; omega)]; exact e
  refine ⟨h.os, h.tape, h.output, fun b o' e => keep (h.sub b o' e), fun p hp => ?_, fun p hp => ?_, ?_⟩
  · rcases List.mem_cons.1 hp with rfl | hp
    · simp
    · exact keep (h.loc p hp)
  · rcases List.mem_cons.1 hp with rfl | hp
    · cases e : H w.heap.size with
      | none => rfl
      | some o' => exact absurd (hlt (h.sub _ _ e)) (Nat.lt_irrefl _)
    · exact h.apart p hp
  · simp only [List.map_cons, List.nodup_cons]
    refine ⟨fun hm => ?_, h.nodup⟩
    obtain ⟨p, hp, e⟩ := List.mem_map.1 hm
    have := hlt (h.loc p hp)
    omega
/-- What is written in a block of the call's own. -/
theorem StF.set {X : Cx} {w w' : World} {H : Hp} {L : Seg} {b : Nat} {o o' : Obj} (h : StF X w H ((b, o) :: L))
    (e1 : w'.os = w.os) (e2 : w'.tape = w.tape) (e3 : w'.output = w.output) (e4 : w'.heap[b]? = some o') (e5 : ∀ c, c ≠ b → w'.heap[c]? = w.heap[c]?) :
    StF X w' H ((b, o') :: L) := by
  have hn := h.nodup
  simp only [List.map_cons, List.nodup_cons] at hn
  refine ⟨e1.trans h.os, e2.trans h.tape, e3.trans h.output, fun c o1 e => ?_, fun p hp => ?_, fun p hp => ?_, by simpa using hn⟩
  · have : c ≠ b := fun e' => by subst e'; rw [h.apart (c, o) (List.mem_cons_self ..)] at e; cases e
    rw [e5 c this]
    exact h.sub c o1 e
  · rcases List.mem_cons.1 hp with rfl | hp
    · exact e4
    · have : p.1 ≠ b := fun e' => hn.1 (List.mem_map.2 ⟨p, hp, e'⟩)
      rw [e5 _ this]
      exact h.loc p (List.mem_cons_of_mem _ hp)
  · rcases List.mem_cons.1 hp with rfl | hp
    · exact h.apart (b, o) (List.mem_cons_self ..)
    · exact h.apart p (List.mem_cons_of_mem _ hp)
/-- A block of the call's own is never written again: it goes over to the memory that never turns. -/
def Hp.with (H : Hp) (b : Nat) (o : Obj) : Hp := fun c => if c = b then some o else H c
theorem Hp.le_with {H : Hp} {b : Nat} {o : Obj} (h : H b = none) : H.le (H.with b o) := fun c o' e => by
  unfold Hp.with
  split
  · rename_i hc; subst hc; rw [h] at e; cases e
  · exact e
theorem Hp.with_self (H : Hp) (b : Nat) (o : Obj) : H.with b o b = some o := by simp [Hp.with]
theorem StF.freeze {X : Cx} {w : World} {H : Hp} {L : Seg} {b : Nat} {o : Obj} (h : StF X w H ((b, o) :: L)) :
    StF X w (H.with b o) L ∧ H.le (H.with b o) := by
  have hn := h.nodup
  simp only [List.map_cons, List.nodup_cons] at hn
  refine ⟨⟨h.os, h.tape, h.output, fun c o1 e => ?_, fun p hp => h.loc p (List.mem_cons_of_mem _ hp), fun p hp => ?_, hn.2⟩, Hp.le_with (h.apart (b, o) (List.mem_cons_self ..))⟩
  · unfold Hp.with at e
    split at e
    · rename_i hc; subst hc; cases e; exact h.loc (c, o) (List.mem_cons_self ..)
    · exact h.sub c o1 e
  · have : p.1 ≠ b := fun e' => hn.1 (List.mem_map.2 ⟨p, hp, e'⟩)
    unfold Hp.with
    rw [if_neg this]
    exact h.apart p (List.mem_cons_of_mem _ hp)
theorem sub_flatten {L L' : Loc} (h : L'.Sublist L) : L'.flatten.Sublist L.flatten := by
  induction h with
  | slnil => exact List.Sublist.slnil
  | cons a _ ih => exact ih.trans (by simp)
  | cons_cons a _ ih => simpa using List.Sublist.append_left ih a
theorem St.drop {X : Cx} {w : World} {H : Hp} {L L' : Loc} (h : St X w H L) (hs : L'.Sublist L) : St X w H L' := StF.drop h (sub_flatten hs)
theorem St.perm {X : Cx} {w : World} {H : Hp} {L L' : Loc} (h : St X w H L) (hs : L'.Perm L) : St X w H L' := StF.perm h hs.flatten
theorem St.drawn {X : Cx} {w : World} {H : Hp} {L : Loc} (h : St X w H L) (n : Nat) : St X { w with drawn := n } H L := StF.drawn h n
theorem St.push {X : Cx} {w : World} {H : Hp} {L : Loc} (h : St X w H L) (o : Obj) : St X { w with heap := w.heap.push o } H ([(w.heap.size, o)] :: L) := StF.push h o
theorem perm_at {α : Type} : ∀ {L : List α} {i : Nat} {s : α}, L[i]? = some s → L.Perm (s :: L.eraseIdx i)
  | [], i, s, h => by simp at h
  | x :: L, 0, s, h => by simp at h; subst h; exact List.Perm.refl _
  | x :: L, i + 1, s, h => ((perm_at (by simpa using h)).cons x).trans (List.Perm.swap s x _)
theorem perm_set {α : Type} : ∀ {L : List α} {i : Nat} {s : α} (s' : α), L[i]? = some s → (L.set i s').Perm (s' :: L.eraseIdx i)
  | [], i, s, _, h => by simp at h
  | x :: L, 0, s, s', h => by simp
  | x :: L, i + 1, s, s', h => ((perm_set s' (by simpa using h)).cons x).trans (List.Perm.swap s' x _)
/-- One piece ahead of the others. -/
theorem St.front {X : Cx} {w : World} {H : Hp} {L : Loc} {i : Nat} {s : Seg} (h : St X w H L) (hi : L[i]? = some s) : StF X w H (s ++ (L.eraseIdx i).flatten) := by
  have := StF.perm h (perm_at hi).symm.flatten
  simpa using this
theorem St.back {X : Cx} {w : World} {H : Hp} {L : Loc} {i : Nat} {s : Seg} (s' : Seg) (hi : L[i]? = some s) (h : StF X w H (s' ++ (L.eraseIdx i).flatten)) : St X w H (L.set i s') :=
  StF.perm (L := s' ++ (L.eraseIdx i).flatten) h (by have := (perm_set s' hi).flatten; simpa using this)
theorem St.freeze {X : Cx} {w : World} {H : Hp} {L : Loc} {i b : Nat} {o : Obj} (h : St X w H L) (hi : L[i]? = some [(b, o)]) : St X w (H.with b o) (L.eraseIdx i) ∧ H.le (H.with b o) :=
  StF.freeze (h.front hi)
theorem St.mem {X : Cx} {w : World} {H : Hp} {L : Loc} {s : Seg} {p : Nat × Obj} (h : St X w H L) (hs : s ∈ L) (hp : p ∈ s) : w.heap[p.1]? = some p.2 :=
  h.loc p (List.mem_flatten.2 ⟨s, hs, hp⟩)
abbrev Env := List (Nat × Value)
def lk : Env → Nat → Option Value
  | [], _ => none
  | (d, v) :: e, t => bif Nat.beq d t then some v else lk e t
structure Agr (n : Nat) (env : Env) (a : Act) : Prop where
  size : a.tmps.size = n
  defers : a.defers = []
  get : ∀ t v, lk env t = some v → a.tmps[t]? = some v
theorem Agr.put {n d : Nat} {env : Env} {a : Act} {v : Value} (h : Agr n env a) (hd : Nat.blt d n = true) : Agr n ((d, v) :: env) (a.put (some d) v) := by
  have hd' : d < n := by simpa [Nat.blt_eq] using hd
  refine ⟨by simp [Act.put, h.size], h.defers, fun t u e => ?_⟩
  simp only [Act.put]
  simp only [lk] at e
  by_cases ht : d = t
  · subst ht
    simp at e
    subst e
    simp [h.size, hd']
  · have : Nat.beq d t = false := by
      cases hb : Nat.beq d t
      · rfl
      · exact absurd (Nat.eq_of_beq_eq_true hb) ht
    rw [this] at e
    rw [Array.getElem?_setIfInBounds_ne ht]
    exact h.get t u e
/-- Forget what is not said. -/
theorem Agr.weaken {n : Nat} {env env' : Env} {a : Act} (h : Agr n env a) (hs : ∀ t v, lk env' t = some v → lk env t = some v) : Agr n env' a :=
  ⟨h.size, h.defers, fun t v e => h.get t v (hs t v e)⟩
def allLk (env : Env) : Env → Prop
  | [] => True
  | (t, v) :: e => lk env t = some v ∧ allLk env e
theorem allLk.get {env : Env} : ∀ {env' : Env}, allLk env env' → ∀ t v, lk env' t = some v → lk env t = some v
  | [], _, t, v, e => by simp [lk] at e
  | (d, u) :: e', h, t, v, e => by
    simp only [lk] at e
    cases hb : Nat.beq d t
    · rw [hb] at e; exact allLk.get h.2 t v e
    · rw [hb] at e
      simp at e
      subst e
      rw [← Nat.eq_of_beq_eq_true hb]
      exact h.1
/-- What an operand is worth. -/
def ev (env : Env) : Operand → Option Value
  | .tmp t => lk env t
  | .const v => some v
  | .func f => some (.func (.func f) #[] #[])
  | .global g => some (.pointer (some ⟨g, 0, none⟩))
def evs (env : Env) : List Operand → Option (List Value)
  | [] => some []
  | x :: xs => match ev env x, evs env xs with
    | some v, some vs => some (v :: vs)
    | _, _ => none
theorem Agr.ev {n : Nat} {env : Env} {a : Act} (h : Agr n env a) {x : Operand} {v : Value} (e : E.ev env x = some v) : a.eval x = v := by
  cases x with
  | tmp t => have := h.get t v e; simp [Act.eval, this]
  | const u => exact Option.some.inj e
  | func f => exact Option.some.inj e
  | global g => exact Option.some.inj e
theorem Agr.evs {n : Nat} {env : Env} {a : Act} (h : Agr n env a) : ∀ {xs : List Operand} {vs : List Value}, E.evs env xs = some vs → xs.map a.eval = vs
  | [], vs, e => by simp [E.evs] at e; subst e; rfl
  | x :: xs, vs, e => by
    simp only [E.evs] at e
    split at e
    · rename_i v vs' h1 h2
      simp at e
      subst e
      simp [h.ev h1, h.evs h2]
    · cases e
/-- In every state that meets the frame's words, the facts and the own memory, K holds. -/
def At (X : Cx) (n : Nat) (K : Act → World → Prop) (env : Env) (Γ : List SProp) (L : Loc) : Prop :=
  ∀ a w H, Agr n env a → Holds Γ H → St X w H L → K a w
theorem At.imp {X : Cx} {n : Nat} {K K' : Act → World → Prop} {env : Env} {Γ : List SProp} {L : Loc} (h : At X n K env Γ L) (hk : ∀ a w, K a w → K' a w) : At X n K' env Γ L :=
  fun a w H h1 h2 h3 => hk a w (h a w H h1 h2 h3)
/-- Say less. -/
theorem At.less {X : Cx} {n : Nat} {K : Act → World → Prop} {env env' : Env} {Γ Γ' : List SProp} {L L' : Loc}
    (he : allLk env env') (hΓ : ∀ H, Holds Γ H → Holds Γ' H) (hL : L'.Sublist L) (h : At X n K env' Γ' L') : At X n K env Γ L :=
  fun a w H h1 h2 h3 => h a w H (h1.weaken he.get) (hΓ H h2) (h3.drop hL)
theorem At.env {X : Cx} {n : Nat} {K : Act → World → Prop} {env : Env} (env' : Env) {Γ : List SProp} {L : Loc}
    (he : allLk env env') (h : At X n K env' Γ L) : At X n K env Γ L :=
  fun a w H h1 h2 h3 => h a w H (h1.weaken he.get) h2 h3
theorem At.facts {X : Cx} {n : Nat} {K : Act → World → Prop} {env : Env} {Γ : List SProp} (Γ' : List SProp) {L : Loc}
    (hΓ : ∀ H, Holds Γ H → Holds Γ' H) (h : At X n K env Γ' L) : At X n K env Γ L :=
  fun a w H h1 h2 h3 => h a w H h1 (hΓ H h2) h3
theorem At.perm {X : Cx} {n : Nat} {K : Act → World → Prop} {env : Env} {Γ : List SProp} {L : Loc} (L' : Loc)
    (hL : L'.Perm L) (h : At X n K env Γ L') : At X n K env Γ L :=
  fun a w H h1 h2 h3 => h a w H h1 h2 (h3.perm hL)
theorem At.freeze {X : Cx} {n : Nat} {K : Act → World → Prop} {env : Env} {Γ : List SProp} {L : Loc} {b : Nat} {o : Obj} (i : Nat) {φ : SProp}
    (hi : L[i]? = some [(b, o)]) (hφ : ∀ H, H b = some o → φ.holds H) (h : At X n K env (φ :: Γ) (L.eraseIdx i)) : At X n K env Γ L :=
  fun a w H h1 h2 h3 => by
    obtain ⟨h4, h5⟩ := h3.freeze hi
    exact h a w _ h1 ⟨hφ _ (Hp.with_self H b o), h2.mono h5⟩ h4
/-- Something that the facts tell. -/
theorem At.have {X : Cx} {n : Nat} {K : Act → World → Prop} {env : Env} {Γ : List SProp} {L : Loc} (p : Prop)
    (hp : ∀ H, Holds Γ H → p) (h : p → At X n K env Γ L) : At X n K env Γ L :=
  fun a w H h1 h2 h3 => h (hp H h2) a w H h1 h2 h3
section code
variable {X : Cx} {n : Nat} {P : Program} {Q : Exit → Act → World → Prop} {env : Env} {Γ : List SProp} {L : Loc}
theorem aE {x y : Code} (h : At X n (x.wp P (Exit.then (y.wp P Q) Q)) env Γ L) : At X n ((Code.seq x y).wp P Q) env Γ L := h.imp fun _ _ => wp_seq
theorem At.skip (h : At X n (Q .normal) env Γ L) : At X n (Code.skip.wp P Q) env Γ L := h.imp fun _ _ => wp_skip
theorem At.ret (h : At X n (Q .ret) env Γ L) : At X n (Code.ret.wp P Q) env Γ L := h.imp fun _ _ => wp_ret
theorem At.exit {i : Nat} (h : At X n (Q (.exit i)) env Γ L) : At X n ((Code.exit i).wp P Q) env Γ L := h.imp fun _ _ => wp_exit
theorem At.block {i : Nat} {c : Code} (h : At X n (c.wp P (Exit.inBlock i Q)) env Γ L) : At X n ((Code.block i c).wp P Q) env Γ L := h.imp fun _ _ => wp_block
theorem aT {K : Act → World → Prop} (h : At X n K env Γ L) : At X n (Exit.then K Q .normal) env Γ L := h
theorem At.thenRet {K : Act → World → Prop} (h : At X n (Q .ret) env Γ L) : At X n (Exit.then K Q .ret) env Γ L := h
theorem At.thenExit {K : Act → World → Prop} {i : Nat} (h : At X n (Q (.exit i)) env Γ L) : At X n (Exit.then K Q (.exit i)) env Γ L := h
theorem At.inNormal {i : Nat} (h : At X n (Q .normal) env Γ L) : At X n (Exit.inBlock i Q .normal) env Γ L := h
theorem At.inRet {i : Nat} (h : At X n (Q .ret) env Γ L) : At X n (Exit.inBlock i Q .ret) env Γ L := h
theorem At.inHere {i j : Nat} (hij : Nat.beq j i = true) (h : At X n (Q .normal) env Γ L) : At X n (Exit.inBlock i Q (.exit j)) env Γ L := by
  have := Nat.eq_of_beq_eq_true hij
  subst this
  exact h.imp fun a w q => by simpa [Exit.inBlock] using q
theorem At.inOther {i j : Nat} (hij : Nat.beq j i = false) (h : At X n (Q (.exit j)) env Γ L) : At X n (Exit.inBlock i Q (.exit j)) env Γ L := by
  have : j ≠ i := fun e => by subst e; simp at hij
  exact h.imp fun a w q => by simpa [Exit.inBlock, this] using q
theorem At.condT {c : Operand} {x y : Code} (hc : ev env c = some (.bool true)) (h : At X n (x.wp P Q) env Γ L) : At X n ((Code.cond c x y).wp P Q) env Γ L :=
  fun a w H h1 h2 h3 => wp_cond_true (h1.ev hc) (h a w H h1 h2 h3)
theorem At.condF {c : Operand} {x y : Code} (hc : ev env c = some (.bool false)) (h : At X n (y.wp P Q) env Γ L) : At X n ((Code.cond c x y).wp P Q) env Γ L :=
  fun a w H h1 h2 h3 => wp_cond_false (h1.ev hc) (h a w H h1 h2 h3)
theorem At.cond {c : Operand} {x y : Code} {t : Bool} (hc : ev env c = some (.bool t)) (hT : t = true → At X n (x.wp P Q) env Γ L) (hF : t = false → At X n (y.wp P Q) env Γ L) :
    At X n ((Code.cond c x y).wp P Q) env Γ L :=
  fun a w H h1 h2 h3 => wp_cond_split (h1.ev hc) (fun e => hT e a w H h1 h2 h3) (fun e => hF e a w H h1 h2 h3)
/-- The same, the test as a proposition. -/
theorem At.if {c : Operand} {x y : Code} {p : Prop} [Decidable p] (hc : ev env c = some (.bool (decide p))) (hT : p → At X n (x.wp P Q) env Γ L) (hF : ¬ p → At X n (y.wp P Q) env Γ L) :
    At X n ((Code.cond c x y).wp P Q) env Γ L :=
  At.cond hc (fun e => hT (of_decide_eq_true e)) (fun e => hF (of_decide_eq_false e))
theorem least {p : Nat → Prop} (h : ∃ m, p m) : ∃ m, p m ∧ ∀ k, p k → m ≤ k := by
  obtain ⟨m, hm⟩ := h
  induction m using Nat.strongRecOn with
  | _ m ih =>
    by_cases hk : ∃ k, p k ∧ k < m
    · obtain ⟨k, hp, hl⟩ := hk; exact ih k hl hp
    · exact ⟨m, hm, fun k hp => Nat.le_of_not_lt fun hl => hk ⟨k, hp, hl⟩⟩
/-- What a round must come to. -/
def Round (X : Cx) (n : Nat) {ι : Type} (e : ι → Env) (G : ι → List SProp) (M : ι → Loc) (I : ι → Prop) (μ : ι → Nat) (i : ι) (a : Act) (w : World) : Prop :=
  ∃ j H, I j ∧ μ j < μ i ∧ Agr n (e j) a ∧ Holds (G j) H ∧ St X w H (M j)
/-- The round's end. -/
theorem At.again {ι : Type} {e : ι → Env} {G : ι → List SProp} {M : ι → Loc} {I : ι → Prop} {μ : ι → Nat} {i : ι} (j : ι)
    (hI : I j) (hμ : μ j < μ i) (he : allLk env (e j)) (hG : ∀ H, Holds Γ H → Holds (G j) H) (hM : (M j).Sublist L) : At X n (Round X n e G M I μ i) env Γ L :=
  fun _ _ H h1 h2 h3 => ⟨j, H, hI, hμ, h1.weaken he.get, hG H h2, h3.drop hM⟩
/-- A loop: a family of states, with a measure. -/
theorem At.loopA {c : Code} {ι : Type} (e : ι → Env) (G : ι → List SProp) (M : ι → Loc) (I : ι → Prop) (μ : ι → Nat) (i₀ : ι)
    (h₀ : I i₀) (round : ∀ i, I i → At X n (c.wp P (Exit.then (Round X n e G M I μ i) Q)) (e i) (G i) (M i)) :
    At X n ((Code.loop c).wp P Q) (e i₀) (G i₀) (M i₀) := fun a w H h1 h2 h3 => by
  classical
  let J : Act → World → Nat → Prop := fun a w m => ∃ i H, I i ∧ μ i = m ∧ Agr n (e i) a ∧ Holds (G i) H ∧ St X w H (M i)
  let ν : Act → World → Nat := fun a w => if h : ∃ m, J a w m then Classical.choose (least h) else 0
  have hν : ∀ a w m, J a w m → J a w (ν a w) ∧ ν a w ≤ m := fun a w m hm => by
    have h : ∃ m, J a w m := ⟨m, hm⟩
    have hs := Classical.choose_spec (least h)
    have e : ν a w = Classical.choose (least h) := dif_pos h
    rw [e]
    exact ⟨hs.1, hs.2 m hm⟩
  refine wp_loop (fun a w => ∃ m, J a w m) ν ⟨_, i₀, H, h₀, rfl, h1, h2, h3⟩ ?_
  intro a w ⟨m, hm⟩
  obtain ⟨⟨i, H, hi, hμ, g1, g2, g3⟩, _⟩ := hν a w m hm
  refine wp_mono (round i hi a w H g1 g2 g3) ?_
  intro ex a' w' hq
  cases ex <;> first | exact hq | skip
  obtain ⟨j, H', hj, hlt, k1, k2, k3⟩ := hq
  have hJ : J a' w' (μ j) := ⟨j, H', hj, rfl, k1, k2, k3⟩
  refine ⟨⟨_, hJ⟩, ?_⟩
  have := (hν a' w' _ hJ).2
  omega
theorem At.loop {c : Code} {ι : Type} (e : ι → Env) (G : ι → List SProp) (M : ι → Loc) (I : ι → Prop) (μ : ι → Nat) (i₀ : ι)
    (h₀ : I i₀) (he : allLk env (e i₀)) (hG : ∀ H, Holds Γ H → Holds (G i₀) H) (hM : (M i₀).Sublist L)
    (round : ∀ i, I i → At X n (c.wp P (Exit.then (Round X n e G M I μ i) Q)) (e i) (G i) (M i)) :
    At X n ((Code.loop c).wp P Q) env Γ L := fun a w H h1 h2 h3 => At.loopA e G M I μ i₀ h₀ round a w H (h1.weaken he.get) (hG H h2) (h3.drop hM)
end code
end E
end Go.Proofs.Ytmkodknmknfdkaa
set_option linter.unusedVariables false
set_option linter.unusedSimpArgs false
namespace Go.Proofs.Ytmkodknmknfdkaa
namespace E
open Go
/-- In every such state the operation comes to v and changes nothing. -/
def Quiet (P : Program) (op : Op) (ty : TypeId) (n : Nat) (env : Env) (Γ : List SProp) (L : Loc) (v : Value) : Prop :=
  ∀ X d pos aft g a w H, Agr n env a → Holds Γ H → St X w H L → (execOp a.eval ⟨d, op, ty, pos, aft, g⟩).run P w = .ok (.value v) w
/-- In every such state the operation comes to a value of which R tells, with facts and own memory anew. -/
def Loud (P : Program) (op : Op) (ty : TypeId) (n : Nat) (env : Env) (Γ : List SProp) (L : Loc) (R : Value → List SProp → Loc → Prop) : Prop :=
  ∀ X d pos aft g a w H, Agr n env a → Holds Γ H → St X w H L → ∀ (K : Act → World → Prop) (Q : Exit → Act → World → Prop),
    (∀ v Γ' L' w' H', R v Γ' L' → H.le H' → Holds Γ' H' → St X w' H' L' → K (a.put d v) w') → (⟨d, op, ty, pos, aft, g⟩ : Oper).wp P a w K Q
section list
variable {X : Cx} {n : Nat} {P : Program} {ops : Array Oper} {Q : Exit → Act → World → Prop} {rest : List Oper} {env : Env} {Γ : List SProp} {L : Loc}
variable {d : Nat} {op : Op} {ty : TypeId} {pos : String} {aft : Array Edge} {g : Option (Nat × Bool)}
theorem aR {id : Nat} {l : List Oper} (h : At X n (wpList P l.toArray Q l) env Γ L) : At X n ((Code.region id l.toArray false).wp P Q) env Γ L :=
  h.imp fun _ _ => wp_region_lit
theorem aN (h : At X n (Q .normal) env Γ L) : At X n (wpList P ops Q []) env Γ L := h
/-- Whether a guarded operation is wanted: what its guard holds. -/
def gd (ops : List Oper) (env : Env) (j : Nat) : Option Bool :=
  match (ops[j]?).bind (·.dst) with
  | some t => match lk env t with | some (.bool b) => some b | _ => none
  | none => none
theorem gd_spec {ops : List Oper} {env : Env} {j : Nat} {b : Bool} {a : Act} (h : gd ops env j = some b) (ha : Agr n env a) : yielded ops.toArray a.tmps j = some b := by
  unfold gd at h
  unfold yielded
  split at h
  · rename_i t ht
    split at h
    · rename_i b' hb
      simp at h
      subst h
      have := ha.get _ _ hb
      simp at ht ⊢
      simp [ht, this]
    · cases h
  · cases h
/-- The guard itself was not reached. -/
def gdU (ops : List Oper) (env : Env) (j : Nat) : Bool :=
  match (ops[j]?).bind (·.dst) with
  | some t => match lk env t with | some (.tuple _) => true | _ => false
  | none => false
theorem gdU_spec {ops : List Oper} {env : Env} {j : Nat} {a : Act} (h : gdU ops env j = true) (ha : Agr n env a) : yielded ops.toArray a.tmps j = none := by
  unfold gdU at h
  unfold yielded
  split at h
  · rename_i t ht
    split at h
    · rename_i b' hb
      have := ha.get _ _ hb
      simp at ht ⊢
      simp [ht, this]
    · cases h
  · cases h
theorem wpList_wanted {o : Oper} {a : Act} {w : World} (hw : Region.wanted o (yielded ops a.tmps) = true) (h : o.wp P a w (wpList P ops Q rest) Q) : wpList P ops Q (o :: rest) a w := by
  unfold wpList
  rw [if_pos hw]
  exact .inl h
theorem aQ {v : Value} (hq : Quiet P op ty n env Γ L v) (hd : Nat.blt d n = true) (h : At X n (wpList P ops Q rest) ((d, v) :: env) Γ L) :
    At X n (wpList P ops Q (⟨some d, op, ty, pos, aft, none⟩ :: rest)) env Γ L := fun a w H h1 h2 h3 => by
  refine wpList_wanted rfl ?_
  unfold Oper.wp
  rw [hq X _ _ _ _ a w H h1 h2 h3]
  exact h _ w H (h1.put hd) h2 h3
/-- A check whose value nobody wants. -/
theorem At.quietN {v : Value} (hq : Quiet P op ty n env Γ L v) (h : At X n (wpList P ops Q rest) env Γ L) :
    At X n (wpList P ops Q (⟨none, op, ty, pos, aft, none⟩ :: rest)) env Γ L := fun a w H h1 h2 h3 => by
  refine wpList_wanted rfl ?_
  unfold Oper.wp
  rw [hq X _ _ _ _ a w H h1 h2 h3]
  exact h _ w H h1 h2 h3
theorem At.loud {R : Value → List SProp → Loc → Prop} (hq : Loud P op ty n env Γ L R) (hd : Nat.blt d n = true)
    (h : ∀ v Γ' L', R v Γ' L' → At X n (wpList P ops Q rest) ((d, v) :: env) Γ' L') :
    At X n (wpList P ops Q (⟨some d, op, ty, pos, aft, none⟩ :: rest)) env Γ L := fun a w H h1 h2 h3 =>
  wpList_wanted rfl (hq X _ _ _ _ a w H h1 h2 h3 _ _ fun v Γ' L' w' H' hr _ h4 h5 => h v Γ' L' hr _ w' H' (h1.put hd) h4 h5)
theorem At.loudN {R : Value → List SProp → Loc → Prop} (hq : Loud P op ty n env Γ L R)
    (h : ∀ v Γ' L', R v Γ' L' → At X n (wpList P ops Q rest) env Γ' L') :
    At X n (wpList P ops Q (⟨none, op, ty, pos, aft, none⟩ :: rest)) env Γ L := fun a w H h1 h2 h3 =>
  wpList_wanted rfl (hq X _ _ _ _ a w H h1 h2 h3 _ _ fun v Γ' L' w' H' hr _ h4 h5 => h v Γ' L' hr _ w' H' h1 h4 h5)
/-- The guard is shut. -/
theorem At.shut {l : List Oper} {j : Nat} {b c : Bool} (hg : gd l env j = some b) (hb : b = !c) (hd : Nat.blt d n = true) (h : At X n (wpList P l.toArray Q rest) ((d, undef) :: env) Γ L) :
    At X n (wpList P l.toArray Q (⟨some d, op, ty, pos, aft, some (j, c)⟩ :: rest)) env Γ L := fun a w H h1 h2 h3 => by
  unfold wpList
  rw [if_neg (by subst hb; simp only [Region.wanted, gd_spec hg h1]; cases c <;> simp)]
  exact h _ w H (h1.put hd) h2 h3
theorem At.shutN {l : List Oper} {j : Nat} {b c : Bool} (hg : gd l env j = some b) (hb : b = !c) (h : At X n (wpList P l.toArray Q rest) env Γ L) :
    At X n (wpList P l.toArray Q (⟨none, op, ty, pos, aft, some (j, c)⟩ :: rest)) env Γ L := fun a w H h1 h2 h3 => by
  unfold wpList
  rw [if_neg (by subst hb; simp only [Region.wanted, gd_spec hg h1]; cases c <;> simp)]
  exact h _ w H h1 h2 h3
theorem At.shutU {l : List Oper} {j : Nat} {c : Bool} (hg : gdU l env j = true) (hd : Nat.blt d n = true) (h : At X n (wpList P l.toArray Q rest) ((d, undef) :: env) Γ L) :
    At X n (wpList P l.toArray Q (⟨some d, op, ty, pos, aft, some (j, c)⟩ :: rest)) env Γ L := fun a w H h1 h2 h3 => by
  unfold wpList
  rw [if_neg (by simp only [Region.wanted, gdU_spec hg h1]; cases c <;> simp)]
  exact h _ w H (h1.put hd) h2 h3
theorem At.shutUN {l : List Oper} {j : Nat} {c : Bool} (hg : gdU l env j = true) (h : At X n (wpList P l.toArray Q rest) env Γ L) :
    At X n (wpList P l.toArray Q (⟨none, op, ty, pos, aft, some (j, c)⟩ :: rest)) env Γ L := fun a w H h1 h2 h3 => by
  unfold wpList
  rw [if_neg (by simp only [Region.wanted, gdU_spec hg h1]; cases c <;> simp)]
  exact h _ w H h1 h2 h3
/-- The guard is open: as without one. -/
theorem At.open {l : List Oper} {j : Nat} {b c : Bool} {dst : Option Nat} (hg : gd l env j = some b) (hb : b = c) (h : At X n (wpList P l.toArray Q (⟨dst, op, ty, pos, aft, none⟩ :: rest)) env Γ L) :
    At X n (wpList P l.toArray Q (⟨dst, op, ty, pos, aft, some (j, c)⟩ :: rest)) env Γ L := fun a w H h1 h2 h3 => by
  have := h a w H h1 h2 h3
  unfold wpList at *
  have hw0 : Region.wanted (⟨dst, op, ty, pos, aft, none⟩ : Oper) (yielded l.toArray a.tmps) = true := rfl
  rw [if_pos hw0] at this
  rw [if_pos (by subst hb; simp [Region.wanted, gd_spec hg h1])]
  exact this
end list
/-- Words on a state: what may be relied upon while the region runs. -/
def Rely (X : Cx) (Γ : List SProp) (L : Loc) (w : World) : Prop := ∃ H, Holds Γ H ∧ St X w H L
section draw
variable {P : Program} {ops : Array Oper} {Q : Exit → Act → World → Prop}
/-- Whatever order is picked from here on; S: what holds as long as one of the first m operations has not come up; it only grows. -/
def wpAnyS (P : Program) (ops : Array Oper) (Q : Exit → Act → World → Prop) (m : Nat) : Nat → (World → Prop) → Array Bool → Act → World → Prop
  | 0, _, listed, a, w => Region.ready .any ops listed = [] ∧ Q .normal a w
  | fuel + 1, S, listed, a, w =>
    (Region.ready .any ops listed = [] → Q .normal a w) ∧
    ∀ i ∈ Region.ready .any ops listed, wpOp P ops Q i (fun a' w' => ∃ S' : World → Prop, (i < m → S' w' ∧ ∀ u, S' u → S u) ∧ wpAnyS P ops Q m fuel S' (listed.setIfInBounds i true) a' w') a w
theorem wpAny_of_S {m : Nat} : ∀ (fuel : Nat) (S : World → Prop) (listed : Array Bool) (a : Act) (w : World), wpAnyS P ops Q m fuel S listed a w → wpAny P .any ops Q fuel listed a w
  | 0, _, _, _, _, h => h
  | fuel + 1, _, _, _, _, h => ⟨h.1, fun i hi => wpOp_mono (fun a' w' ⟨S', _, h'⟩ => wpAny_of_S fuel S' _ a' w' h') (h.2 i hi)⟩
theorem YieldsIf.strong {S S' : World → Prop} {o : Oper} {v : Value} {a : Act} (h : YieldsIf P ops S o v a) (hs : ∀ u, S' u → S u) : YieldsIf P ops S' o v a :=
  h.imp (fun ⟨h1, h2⟩ => ⟨h1, fun w hw => h2 w (hs w hw)⟩) id
/-- What is listed, of that all that it waits for is listed too. -/
def Down (ops : Array Oper) (listed : Array Bool) : Prop := ∀ j oj, ops[j]? = some oj → listed.getD j false = true → ∀ e ∈ oj.after, Region.binds .any e = true → listed.getD e.on false = true
theorem Down.set {listed : Array Bool} {i : Nat} (h : Down ops listed) (hi : i ∈ Region.ready .any ops listed) : Down ops (listed.setIfInBounds i true) := by
  intro j oj hj hl e he hb
  by_cases hij : i = j
  · subst hij
    obtain ⟨_, o, ho, hall⟩ := mem_ready.1 hi
    rw [hj] at ho
    cases ho
    exact getD_set_true (hall e he hb)
  · rw [getD_set_ne false hij] at hl
    exact getD_set_true (h j oj hj hl e he hb)
theorem Down.none (n : Nat) : Down ops (Array.replicate n false) := by
  intro j oj _ hl
  rcases Nat.lt_or_ge j n with h | h
  · simp [h] at hl
  · simp [Array.getElem?_eq_none, h] at hl
/-- What waits for i, through others. -/
def deps (ops : Array Oper) (i : Nat) : Nat → List Nat
  | 0 => [i]
  | k + 1 => bif (match ops[k]? with | some o => o.after.any fun e => Region.binds .any e && (deps ops i k).contains e.on | none => false) then k :: deps ops i k else deps ops i k
theorem deps_unlisted {i : Nat} {listed : Array Bool} (hd : Down ops listed) (hi : listed.getD i false = false) : ∀ (k : Nat), ∀ x ∈ deps ops i k, listed.getD x false = false := by
  intro k
  induction k with
  | zero => intro x hx; simp [deps] at hx; subst hx; exact hi
  | succ k ih =>
    intro x hx
    simp only [deps] at hx
    cases hb : (match ops[k]? with | some o => o.after.any fun e => Region.binds .any e && (deps ops i k).contains e.on | none => false)
    · rw [hb] at hx; exact ih x hx
    · rw [hb] at hx
      simp only [cond_true, List.mem_cons] at hx
      rcases hx with rfl | hx
      · split at hb
        · rename_i o ho
          obtain ⟨e, he, hc⟩ := Array.any_eq_true'.1 hb
          simp only [Bool.and_eq_true, List.contains_eq_mem, decide_eq_true_eq] at hc
          cases hl : listed.getD x false
          · rfl
          · have := hd x o ho hl e he hc.1
            rw [ih _ hc.2] at this
            cases this
        · cases hb
      · exact ih x hx
/-- None of these comes up as long as i has not. -/
def Waits (ops : Array Oper) (m i : Nat) : Prop := ∀ listed, Down ops listed → listed.getD i false = false → ∀ j, m ≤ j → j ∉ Region.ready .any ops listed
theorem waits_of {m i : Nat} (him : i < m) (h : ((List.range ops.size).all fun j => Nat.blt j m || (match ops[j]? with | some oj => (oj.after.any fun e => Region.binds .any e && Nat.beq e.on i) || (oj.after.any fun e => Region.binds .any e && (deps ops i ops.size).contains e.on) | none => true)) = true) : Waits ops m i := by
  intro listed hd hi j hj hr
  obtain ⟨_, oj, hoj, hall⟩ := mem_ready.1 hr
  have := List.all_eq_true.1 h j (List.mem_range.2 (Array.getElem?_eq_some_iff.1 hoj).1)
  simp only [hoj, Bool.or_eq_true] at this
  rcases this with h' | h' | h'
  · have : j < m := by simpa [Nat.blt_eq] using h'
    omega
  · obtain ⟨e, he, hb⟩ := Array.any_eq_true'.1 h'
    simp only [Bool.and_eq_true] at hb
    have h1 := hall e he hb.1
    rw [Nat.eq_of_beq_eq_true hb.2, hi] at h1
    cases h1
  · obtain ⟨e, he, hb⟩ := Array.any_eq_true'.1 h'
    simp only [Bool.and_eq_true, List.contains_eq_mem, decide_eq_true_eq] at hb
    have h1 := hall e he hb.1
    rw [deps_unlisted hd hi _ _ hb.2] at h1
    cases h1
theorem wpAnyS_first {m i : Nat} {oi : Oper} {v : Value} (hi : ops[i]? = some oi) (him : i < m) (hsel : ∀ (j : Nat) (o : Oper) cs b, ops[j]? = some o → o.op ≠ .select cs b)
    (hQ : ∀ c a w, Q (.panic c) (a.put oi.dst v) w → Q (.panic c) a w)
    (htail : Waits ops m i) :
    ∀ (fuel : Nat) (S : World → Prop) (listed : Array Bool) (a : Act) (w : World), Down ops listed →
      (∀ j oj, ops[j]? = some oj → j ≠ i → listed.getD j true = false → (∀ e ∈ oj.after, Region.binds .any e = true → e.on ≠ i) → oi.apart ops oj = true) →
      i ∈ Region.ready .any ops listed → YieldsIf P ops S oi v a → S w →
      wpAnyS P ops Q m fuel S (listed.setIfInBounds i true) (a.put oi.dst v) w → wpAnyS P ops Q m (fuel + 1) S listed a w := by
  intro fuel
  induction fuel with
  | zero =>
    intro S listed a w _ _ hr hy hS H
    refine ⟨fun h => (by rw [h] at hr; cases hr), fun j hj => ?_⟩
    by_cases hji : j = i
    · subst hji; exact hy.wpOp hi hS ⟨S, fun _ => ⟨hS, fun _ h => h⟩, H⟩
    · have := ready_mono hj hji
      rw [H.1] at this
      cases this
  | succ fuel ih =>
    intro S listed a w hdown hfree hr hy hS H
    refine ⟨fun h => (by rw [h] at hr; cases hr), fun j hj => ?_⟩
    by_cases hji : j = i
    · subst hji; exact hy.wpOp hi hS ⟨S, fun _ => ⟨hS, fun _ h => h⟩, H⟩
    · have h1 := H.2 j (ready_mono hj hji)
      obtain ⟨hjun, oj, hoj, hall⟩ := mem_ready.1 hj
      have hilist : listed.getD i false = false := by
        have h0 := (mem_ready.1 hr).1
        rcases Nat.lt_or_ge i listed.size with h' | h'
        · simp [h'] at h0 ⊢; exact h0
        · simp [Array.getElem?_eq_none h']
      have hnot : ∀ e ∈ oj.after, Region.binds .any e = true → e.on ≠ i := fun e he hb heq => by
        have h1 := hall e he hb
        rw [heq, hilist] at h1
        cases h1
      have hjm : j < m := by
        refine Nat.lt_of_not_le fun hle => ?_
        exact htail listed hdown hilist j hle hj
      have h2 := wpOp_putIf hoj (hfree j oj hoj hji hjun hnot) (fun cs b => hsel i oi cs b hi) (fun cs b => hsel j oj cs b hoj) hQ hy h1
      have hfree' : ∀ k ok, ops[k]? = some ok → k ≠ i → (listed.setIfInBounds j true).getD k true = false →
          (∀ e ∈ ok.after, Region.binds .any e = true → e.on ≠ i) → oi.apart ops ok = true := fun k ok hk hki hun hno => by
        refine hfree k ok hk hki ?_ hno
        by_cases hjk : j = k
        · subst hjk; exact hjun
        · rw [getD_set_ne true hjk] at hun; exact hun
      refine wpOp_mono (fun a' w' ⟨h3, S', h4, h5⟩ => ⟨S', h4, ih S' (listed.setIfInBounds j true) a' w' (hdown.set hj) hfree' (ready_mono hr (Ne.symm hji)) (YieldsIf.strong h3 (h4 hjm).2) (h4 hjm).1 ?_⟩) h2
      rw [Array.setIfInBounds_comm _ _ hji]
      exact h5
/-- An order in which the first operations are taken: 'q': it only computes or reads, and may be taken first; 'o': nothing else may come up; 't', 'u': two, three may come up. The others follow one by one. -/
inductive Ord where
  | e
  | q (i : Nat) (r : Ord)
  | o (i : Nat) (r : Ord)
  | t (i : Nat) (r : Ord) (j : Nat) (s : Ord)
  | u (i : Nat) (r : Ord) (j : Nat) (s : Ord) (k : Nat) (p : Ord)
def ordGo (ops : Array Oper) (m : Nat) : Nat → Array Bool → Ord → Bool
  | 0, listed, .e => tailGo (ops.size - m) m listed
  | f + 1, listed, .q i r => Nat.blt i m && (Region.free .any ops listed i && ((Region.ready .any ops listed).contains i && ordGo ops m f (listed.setIfInBounds i true) r))
  | f + 1, listed, .o i r => Nat.blt i m && (decide (Region.ready .any ops listed = [i]) && ordGo ops m f (listed.setIfInBounds i true) r)
  | f + 1, listed, .t i r j s => Nat.blt i m && (Nat.blt j m && (decide (Region.ready .any ops listed = [i, j]) && (ordGo ops m f (listed.setIfInBounds i true) r && ordGo ops m f (listed.setIfInBounds j true) s)))
  | f + 1, listed, .u i r j s k p => Nat.blt i m && (Nat.blt j m && (Nat.blt k m && (decide (Region.ready .any ops listed = [i, j, k]) &&
      (ordGo ops m f (listed.setIfInBounds i true) r && (ordGo ops m f (listed.setIfInBounds j true) s && ordGo ops m f (listed.setIfInBounds k true) p)))))
  | _, _, _ => false
where
  tailGo : Nat → Nat → Array Bool → Bool
    | 0, _, listed => decide (Region.ready .any ops listed = [])
    | f + 1, k, listed => decide (Region.ready .any ops listed = [k]) && tailGo f (k + 1) (listed.setIfInBounds k true)
def tailAfter (ops : Array Oper) (m : Nat) : Bool :=
  (List.range m).all fun i => (List.range ops.size).all fun j => Nat.blt j m || match ops[j]? with
    | some oj => (oj.after.any fun e => Region.binds .any e && Nat.beq e.on i) || (oj.after.any fun e => Region.binds .any e && (deps ops i ops.size).contains e.on)
    | none => true
def ordOk (ops : Array Oper) (m : Nat) (order : Ord) : Bool :=
  Region.noSelect ops && (tailAfter ops m && (Nat.ble m ops.size && ordGo ops m m (Array.replicate ops.size false) order))
/-- The walk in that order. -/
def wpOrd (P : Program) (ops : Array Oper) (Q : Exit → Act → World → Prop) (tail : List Oper) : (World → Prop) → Ord → Act → World → Prop
  | _, .e, a, w => wpList P ops Q tail a w
  | S, .q i r, a, w => ∃ o v, ops[i]? = some o ∧ YieldsIf P ops S o v a ∧ (∀ c a w, Q (.panic c) (a.put o.dst v) w → Q (.panic c) a w) ∧ wpOrd P ops Q tail S r (a.put o.dst v) w
  | S, .o i r, a, w => wpOp P ops Q i (fun a' w' => ∃ S' : World → Prop, S' w' ∧ (∀ u, S' u → S u) ∧ wpOrd P ops Q tail S' r a' w') a w
  | S, .t i r j s, a, w => wpOp P ops Q i (fun a' w' => ∃ S' : World → Prop, S' w' ∧ (∀ u, S' u → S u) ∧ wpOrd P ops Q tail S' r a' w') a w ∧
      wpOp P ops Q j (fun a' w' => ∃ S' : World → Prop, S' w' ∧ (∀ u, S' u → S u) ∧ wpOrd P ops Q tail S' s a' w') a w
  | S, .u i r j s k p, a, w => wpOp P ops Q i (fun a' w' => ∃ S' : World → Prop, S' w' ∧ (∀ u, S' u → S u) ∧ wpOrd P ops Q tail S' r a' w') a w ∧
      wpOp P ops Q j (fun a' w' => ∃ S' : World → Prop, S' w' ∧ (∀ u, S' u → S u) ∧ wpOrd P ops Q tail S' s a' w') a w ∧
      wpOp P ops Q k (fun a' w' => ∃ S' : World → Prop, S' w' ∧ (∀ u, S' u → S u) ∧ wpOrd P ops Q tail S' p a' w') a w
theorem wpAnyS_tail {m : Nat} : ∀ (f k : Nat) (S : World → Prop) (listed : Array Bool) (a : Act) (w : World), k + f = ops.size → m ≤ k → ordGo.tailGo ops f k listed = true →
    wpList P ops Q (ops.toList.drop k) a w → wpAnyS P ops Q m f S listed a w := by
  intro f
  induction f with
  | zero =>
    intro k S listed a w hk _ ht h
    rw [List.drop_eq_nil_of_le (by simp; omega)] at h
    exact ⟨by simpa [ordGo.tailGo] using ht, h⟩
  | succ f ih =>
    intro k S listed a w hk hm ht h
    simp only [ordGo.tailGo, Bool.and_eq_true, decide_eq_true_eq] at ht
    have hlt : k < ops.toList.length := by simp; omega
    rw [List.drop_eq_getElem_cons hlt] at h
    refine ⟨fun h0 => (by rw [ht.1] at h0; cases h0), fun i hi => ?_⟩
    rw [ht.1] at hi
    simp at hi
    subst hi
    have hget : ops[i]? = some ops.toList[i] := by rw [Array.getElem?_eq_getElem (by simpa using hlt)]; simp
    unfold wpOp
    simp only [hget]
    unfold wpList at h
    split at h
    · rename_i hw
      rw [if_pos hw]
      rcases h with h | h
      · exact .inl (Oper.wp_mono (fun a' w' h' => ⟨S, fun hlt' => absurd hlt' (by omega), ih (i + 1) S _ a' w' (by omega) (by omega) ht.2 h'⟩) h)
      · exact .inr h
    · rename_i hw
      rw [if_neg hw]
      exact ⟨S, fun hlt' => absurd hlt' (by omega), ih (i + 1) S _ _ w (by omega) (by omega) ht.2 h⟩
theorem wpAnyS_ord {m : Nat} (hsel : Region.noSelect ops = true) (htail : tailAfter ops m = true) (hm : m ≤ ops.size) :
    ∀ (order : Ord) (f : Nat) (S : World → Prop) (listed : Array Bool) (a : Act) (w : World), ordGo ops m f listed order = true → Down ops listed → S w →
      wpOrd P ops Q (ops.toList.drop m) S order a w → wpAnyS P ops Q m (f + (ops.size - m)) S listed a w := by
  have step : ∀ {i : Nat} {r : Ord} {f : Nat} {S : World → Prop} {listed : Array Bool} {a : Act} {w : World},
      (∀ (S : World → Prop) (a : Act) (w : World), S w → wpOrd P ops Q (ops.toList.drop m) S r a w → wpAnyS P ops Q m (f + (ops.size - m)) S (listed.setIfInBounds i true) a w) →
      wpOp P ops Q i (fun a' w' => ∃ S' : World → Prop, S' w' ∧ (∀ u, S' u → S u) ∧ wpOrd P ops Q (ops.toList.drop m) S' r a' w') a w →
      wpOp P ops Q i (fun a' w' => ∃ S' : World → Prop, (i < m → S' w' ∧ ∀ u, S' u → S u) ∧ wpAnyS P ops Q m (f + (ops.size - m)) S' (listed.setIfInBounds i true) a' w') a w :=
    fun ih h => wpOp_mono (fun a' w' ⟨S', hS', hw, h'⟩ => ⟨S', fun _ => ⟨hS', hw⟩, ih S' a' w' hS' h'⟩) h
  intro order
  induction order with
  | e =>
    intro f S listed a w ho hd _ h
    cases f with
    | zero =>
      rw [Nat.zero_add]
      exact wpAnyS_tail (ops.size - m) m S listed a w (by omega) (Nat.le_refl _) (by simpa [ordGo] using ho) h
    | succ f => simp [ordGo] at ho
  | q i r ih =>
    intro f S listed a w ho hd hS h
    cases f with
    | zero => simp [ordGo] at ho
    | succ f =>
      rw [show f + 1 + (ops.size - m) = (f + (ops.size - m)) + 1 by omega]
      obtain ⟨o, v, hi, hy, hQ, h⟩ := h
      simp only [ordGo, Bool.and_eq_true] at ho
      obtain ⟨h1, h2, h3, h4⟩ := ho
      have him : i < m := by simpa [Nat.blt_eq] using h1
      refine wpAnyS_first hi him (Region.noSelect_spec hsel) hQ (waits_of him (List.all_eq_true.1 htail i (List.mem_range.2 him))) _ S listed a w hd (Region.free_spec hi h2) (by simpa using h3) hy hS (ih f S _ _ w h4 (hd.set (by simpa using h3)) hS h)
  | o i r ih =>
    intro f S listed a w ho hd hS h
    cases f with
    | zero => simp [ordGo] at ho
    | succ f =>
      rw [show f + 1 + (ops.size - m) = (f + (ops.size - m)) + 1 by omega]
      simp only [ordGo, Bool.and_eq_true, decide_eq_true_eq] at ho
      obtain ⟨h1, h2, h3⟩ := ho
      refine ⟨fun h0 => (by rw [h2] at h0; cases h0), fun j hj => ?_⟩
      rw [h2] at hj
      simp at hj
      subst hj
      exact step (fun S' a' w' hS' h' => ih f S' _ a' w' h3 (hd.set (by rw [h2]; simp)) hS' h') h
  | t i r j s ihr ihs =>
    intro f S listed a w ho hd hS h
    cases f with
    | zero => simp [ordGo] at ho
    | succ f =>
      rw [show f + 1 + (ops.size - m) = (f + (ops.size - m)) + 1 by omega]
      simp only [ordGo, Bool.and_eq_true, decide_eq_true_eq] at ho
      obtain ⟨_, _, h2, h3, h4⟩ := ho
      refine ⟨fun h0 => (by rw [h2] at h0; cases h0), fun x hx => ?_⟩
      rw [h2] at hx
      simp only [List.mem_cons, List.not_mem_nil, or_false] at hx
      rcases hx with rfl | rfl
      · exact step (fun S' a' w' hS' h' => ihr f S' _ a' w' h3 (hd.set (by rw [h2]; simp)) hS' h') h.1
      · exact step (fun S' a' w' hS' h' => ihs f S' _ a' w' h4 (hd.set (by rw [h2]; simp)) hS' h') h.2
  | u i r j s k p ihr ihs ihp =>
    intro f S listed a w ho hd hS h
    cases f with
    | zero => simp [ordGo] at ho
    | succ f =>
      rw [show f + 1 + (ops.size - m) = (f + (ops.size - m)) + 1 by omega]
      simp only [ordGo, Bool.and_eq_true, decide_eq_true_eq] at ho
      obtain ⟨_, _, _, h2, h3, h4, h5⟩ := ho
      refine ⟨fun h0 => (by rw [h2] at h0; cases h0), fun x hx => ?_⟩
      rw [h2] at hx
      simp only [List.mem_cons, List.not_mem_nil, or_false] at hx
      rcases hx with rfl | rfl | rfl
      · exact step (fun S' a' w' hS' h' => ihr f S' _ a' w' h3 (hd.set (by rw [h2]; simp)) hS' h') h.1
      · exact step (fun S' a' w' hS' h' => ihs f S' _ a' w' h4 (hd.set (by rw [h2]; simp)) hS' h') h.2.1
      · exact step (fun S' a' w' hS' h' => ihp f S' _ a' w' h5 (hd.set (by rw [h2]; simp)) hS' h') h.2.2
theorem wp_region_ord {id m : Nat} {order : Ord} {S : World → Prop} {a : Act} {w : World} (hmix : P.follows .mixedOrders = true) (hok : ordOk ops m order = true)
    (hS : S { w with drawn := w.drawn + 1 }) (h : wpOrd P ops Q (ops.toList.drop m) S order a { w with drawn := w.drawn + 1 }) : (Code.region id ops true).wp P Q a w := by
  simp only [ordOk, Bool.and_eq_true] at hok
  obtain ⟨h1, h2, h3, h5⟩ := hok
  have hm : m ≤ ops.size := Nat.le_of_ble_eq_true h3
  refine wp_region_any hmix (wpAny_of_S (m := m) _ S _ _ _ ?_)
  have := wpAnyS_ord h1 h2 hm order m S (Array.replicate ops.size false) a { w with drawn := w.drawn + 1 } h5 (Down.none _) hS h
  have e : m + (ops.size - m) = ops.size := by omega
  rwa [e] at this
end draw
section order
variable {X : Cx} {n : Nat} {P : Program} {Q : Exit → Act → World → Prop} {env : Env} {Γ : List SProp} {L L0 : Loc} {l tail : List Oper} {r : Ord} {i d : Nat}
variable {op : Op} {ty : TypeId} {pos : String} {aft : Array Edge} {g : Option (Nat × Bool)}
/-- Panics tell nothing of the frame. -/
def Calm (Q : Exit → Act → World → Prop) : Prop := ∀ c a d v w, Q (.panic c) (Act.put a d v) w → Q (.panic c) a w
/-- The walk of such a region, in the order that was picked; L0: the own memory that may be read while it runs. -/
def AtO (X : Cx) (n : Nat) (P : Program) (l : List Oper) (Q : Exit → Act → World → Prop) (tail : List Oper) (r : Ord) (L0 : Loc) (env : Env) (Γ : List SProp) (L : Loc) : Prop :=
  At X n (wpOrd P l.toArray Q tail (Rely X Γ L0) r) env Γ L
/-- What lies behind the first m. -/
def behind : Nat → List Oper → Option (List Oper)
  | 0, l => some l
  | m + 1, _ :: l => behind m l
  | _ + 1, [] => some []
theorem behind_drop : ∀ {m : Nat} {l t : List Oper}, behind m l = some t → l.drop m = t
  | 0, l, t, h => by simpa [behind] using h
  | m + 1, [], t, h => by simp [behind] at h; subst h; simp
  | m + 1, _ :: l, t, h => by simpa using behind_drop (m := m) (by simpa [behind] using h)
theorem At.draw {id : Nat} (m : Nat) (order : Ord) (L0 : Loc) (hL0 : L0.Sublist L) (hmix : P.follows .mixedOrders = true) (hok : ordOk l.toArray m order = true) (ht : behind m l = some tail)
    (h : AtO X n P l Q tail order L0 env Γ L) : At X n ((Code.region id l.toArray true).wp P Q) env Γ L := fun a _ H h1 h2 h3 => by
  have e := behind_drop ht
  subst e
  exact wp_region_ord (S := Rely X Γ L0) hmix hok ⟨H, h2, (h3.drawn _).drop hL0⟩ (h a _ H h1 h2 (h3.drawn _))
theorem AtO.done (h : At X n (wpList P l.toArray Q tail) env Γ L) : AtO X n P l Q tail .e L0 env Γ L := h
theorem oQ {v : Value} (ho : l[i]? = some ⟨some d, op, ty, pos, aft, none⟩) (hq : Quiet P op ty n env Γ L0 v) (hd : Nat.blt d n = true) (hQ : Calm Q)
    (h : AtO X n P l Q tail r L0 ((d, v) :: env) Γ L) : AtO X n P l Q tail (.q i r) L0 env Γ L := fun a w H h1 h2 h3 =>
  ⟨_, v, by simpa using ho, .inl ⟨rfl, fun w' ⟨H', k2, k3⟩ => hq X _ _ _ _ a w' H' h1 k2 k3⟩, fun c a w => hQ c a _ v w, h _ w H (h1.put hd) h2 h3⟩
theorem AtO.quietN {v : Value} (ho : l[i]? = some ⟨none, op, ty, pos, aft, none⟩) (hq : Quiet P op ty n env Γ L0 v) (hQ : Calm Q)
    (h : AtO X n P l Q tail r L0 env Γ L) : AtO X n P l Q tail (.q i r) L0 env Γ L := fun a w H h1 h2 h3 =>
  ⟨⟨none, op, ty, pos, aft, none⟩, v, by simpa using ho, .inl ⟨rfl, fun w' ⟨H', k2, k3⟩ => hq X _ _ _ _ a w' H' h1 k2 k3⟩, fun c a w => hQ c a _ v w, h a w H h1 h2 h3⟩
/-- A guarded one, the guard open. -/
theorem oG {v : Value} {j : Nat} {b c : Bool} (ho : l[i]? = some ⟨some d, op, ty, pos, aft, some (j, c)⟩) (hg : gd l env j = some b) (hb : b = c) (hq : Quiet P op ty n env Γ L0 v) (hd : Nat.blt d n = true) (hQ : Calm Q)
    (h : AtO X n P l Q tail r L0 ((d, v) :: env) Γ L) : AtO X n P l Q tail (.q i r) L0 env Γ L := fun a w H h1 h2 h3 =>
  ⟨_, v, by simpa using ho, .inl ⟨by subst hb; simp [Region.wanted, gd_spec hg h1], fun w' ⟨H', k2, k3⟩ => hq X _ _ _ _ a w' H' h1 k2 k3⟩, fun c a w => hQ c a _ v w, h _ w H (h1.put hd) h2 h3⟩
/-- A guarded one, the guard shut. -/
theorem AtO.shut {j : Nat} {b c : Bool} (ho : l[i]? = some ⟨some d, op, ty, pos, aft, some (j, c)⟩) (hg : gd l env j = some b) (hb : b = !c) (hd : Nat.blt d n = true) (hQ : Calm Q)
    (h : AtO X n P l Q tail r L0 ((d, undef) :: env) Γ L) : AtO X n P l Q tail (.q i r) L0 env Γ L := fun a w H h1 h2 h3 =>
  ⟨_, undef, by simpa using ho, .inr ⟨by subst hb; simp only [Region.wanted, gd_spec hg h1]; cases c <;> simp, rfl⟩, fun c a w => hQ c a _ undef w, h _ w H (h1.put hd) h2 h3⟩
theorem AtO.shutU {j : Nat} {c : Bool} (ho : l[i]? = some ⟨some d, op, ty, pos, aft, some (j, c)⟩) (hg : gdU l env j = true) (hd : Nat.blt d n = true) (hQ : Calm Q)
    (h : AtO X n P l Q tail r L0 ((d, undef) :: env) Γ L) : AtO X n P l Q tail (.q i r) L0 env Γ L := fun a w H h1 h2 h3 =>
  ⟨_, undef, by simpa using ho, .inr ⟨by simp only [Region.wanted, gdU_spec hg h1]; cases c <;> simp, rfl⟩, fun c a w => hQ c a _ undef w, h _ w H (h1.put hd) h2 h3⟩
theorem AtO.shutN {j : Nat} {b c : Bool} (ho : l[i]? = some ⟨none, op, ty, pos, aft, some (j, c)⟩) (hg : gd l env j = some b) (hb : b = !c) (hQ : Calm Q)
    (h : AtO X n P l Q tail r L0 env Γ L) : AtO X n P l Q tail (.q i r) L0 env Γ L := fun a w H h1 h2 h3 =>
  ⟨⟨none, op, ty, pos, aft, some (j, c)⟩, undef, by simpa using ho, .inr ⟨by subst hb; simp only [Region.wanted, gd_spec hg h1]; cases c <;> simp, rfl⟩, fun c a w => hQ c a _ undef w, h a w H h1 h2 h3⟩
/-- What changes memory: it keeps what the region relies upon. -/
theorem AtO.loud {R : Value → List SProp → Loc → Prop} (ho : l[i]? = some ⟨some d, op, ty, pos, aft, none⟩) (hq : Loud P op ty n env Γ L R) (hd : Nat.blt d n = true)
    (hk : ∀ v Γ' L', R v Γ' L' → (∀ H, Holds Γ' H → Holds Γ H) ∧ L0.Sublist L')
    (h : ∀ v Γ' L', R v Γ' L' → AtO X n P l Q tail r L0 ((d, v) :: env) Γ' L') : AtO X n P l Q tail (.o i r) L0 env Γ L := fun a w H h1 h2 h3 => by
  show wpOp P l.toArray Q i _ a w
  unfold wpOp
  have ho' : l.toArray[i]? = some ⟨some d, op, ty, pos, aft, none⟩ := by simpa using ho
  simp only [ho']
  have hw0 : Region.wanted (⟨some d, op, ty, pos, aft, none⟩ : Oper) (yielded l.toArray a.tmps) = true := rfl
  rw [if_pos hw0]
  refine .inl (hq X _ _ _ _ a w H h1 h2 h3 _ _ fun v Γ' L' w' H' hr _ h4 h5 => ?_)
  obtain ⟨k1, k2⟩ := hk v Γ' L' hr
  exact ⟨Rely X Γ' L0, ⟨H', h4, h5.drop k2⟩, fun u ⟨H1, q1, q2⟩ => ⟨H1, k1 H1 q1, q2⟩, h v Γ' L' hr _ w' H' (h1.put hd) h4 h5⟩
theorem AtO.loudN {R : Value → List SProp → Loc → Prop} (ho : l[i]? = some ⟨none, op, ty, pos, aft, none⟩) (hq : Loud P op ty n env Γ L R)
    (hk : ∀ v Γ' L', R v Γ' L' → (∀ H, Holds Γ' H → Holds Γ H) ∧ L0.Sublist L')
    (h : ∀ v Γ' L', R v Γ' L' → AtO X n P l Q tail r L0 env Γ' L') : AtO X n P l Q tail (.o i r) L0 env Γ L := fun a w H h1 h2 h3 => by
  show wpOp P l.toArray Q i _ a w
  unfold wpOp
  have ho' : l.toArray[i]? = some ⟨none, op, ty, pos, aft, none⟩ := by simpa using ho
  simp only [ho']
  have hw0 : Region.wanted (⟨none, op, ty, pos, aft, none⟩ : Oper) (yielded l.toArray a.tmps) = true := rfl
  rw [if_pos hw0]
  refine .inl (hq X _ _ _ _ a w H h1 h2 h3 _ _ fun v Γ' L' w' H' hr _ h4 h5 => ?_)
  obtain ⟨k1, k2⟩ := hk v Γ' L' hr
  exact ⟨Rely X Γ' L0, ⟨H', h4, h5.drop k2⟩, fun u ⟨H1, q1, q2⟩ => ⟨H1, k1 H1 q1, q2⟩, h v Γ' L' hr _ w' H' h1 h4 h5⟩
/-- Two, three may come up. -/
theorem AtO.two {j : Nat} {s : Ord} (h : AtO X n P l Q tail (.o i r) L0 env Γ L) (h' : AtO X n P l Q tail (.o j s) L0 env Γ L) : AtO X n P l Q tail (.t i r j s) L0 env Γ L :=
  fun a w H h1 h2 h3 => ⟨h a w H h1 h2 h3, h' a w H h1 h2 h3⟩
theorem AtO.three {j k : Nat} {s p : Ord} (h : AtO X n P l Q tail (.o i r) L0 env Γ L) (h' : AtO X n P l Q tail (.o j s) L0 env Γ L) (h'' : AtO X n P l Q tail (.o k p) L0 env Γ L) : AtO X n P l Q tail (.u i r j s k p) L0 env Γ L :=
  fun a w H h1 h2 h3 => ⟨h a w H h1 h2 h3, h' a w H h1 h2 h3, h'' a w H h1 h2 h3⟩
end order
/-- A contract: with these arguments, facts and own memory the function returns; R tells what. Whatever else is the caller's own stays. -/
def Con (P : Program) (f : FuncId) (args : List Value) (pre : List SProp) (M : Loc) (R : Value → List SProp → Loc → Prop) : Prop :=
  ∀ X w H L, Holds pre H → St X w H (M ++ L) → Calls P f args.toArray w fun e w' => ∃ v Γ' M' H', e = .returned v ∧ R v Γ' M' ∧ H.le H' ∧ Holds Γ' H' ∧ St X w' H' (M' ++ L)
theorem Con.mono {P : Program} {f : FuncId} {args : List Value} {pre pre' : List SProp} {M : Loc} {R R' : Value → List SProp → Loc → Prop} (h : Con P f args pre M R)
    (hp : ∀ H, Holds pre' H → Holds pre H) (hr : ∀ v Γ M, R v Γ M → R' v Γ M) : Con P f args pre' M R' := fun X w H L h1 h2 =>
  (h X w H L (hp H h1) h2).mono fun _ _ ⟨v, Γ', M', H', h3, h4, h5⟩ => ⟨v, Γ', M', H', h3, hr _ _ _ h4, h5⟩
/-- What a body must come to. -/
def Post (P : Program) (fn : Func) (X : Cx) (H₀ : Hp) (L₀ : Loc) (R : Value → List SProp → Loc → Prop) : Exit → Act → World → Prop :=
  bodyPost P fn fun e w' => ∃ v Γ' M' H', e = .returned v ∧ R v Γ' M' ∧ H₀.le H' ∧ Holds Γ' H' ∧ St X w' H' (M' ++ L₀)
theorem cP {P : Program} {fn : Func} {X : Cx} {H₀ : Hp} {L₀ : Loc} {R : Value → List SProp → Loc → Prop} : Calm (Post P fn X H₀ L₀ R) := fun c a d v w h => by
  obtain ⟨_, _, _, _, h, _⟩ := h.2
  cases h
theorem cT {K : Act → World → Prop} {Q : Exit → Act → World → Prop} (h : Calm Q) : Calm (Exit.then K Q) := fun c a d v w hq => h c a d v w hq
theorem cI {i : Nat} {Q : Exit → Act → World → Prop} (h : Calm Q) : Calm (Exit.inBlock i Q) := fun c a d v w hq => h c a d v w hq
/-- The old memory, as a fact: so that a body's own states keep it. -/
def old (H₀ : Hp) : SProp := ⟨fun H => H₀.le H, fun _ _ h k => Hp.le_trans k h⟩
def argEnv : List Value → Nat → Env
  | [], _ => []
  | v :: vs, k => (k, v) :: argEnv vs (k + 1)
theorem argEnv_get : ∀ (args : List Value) (k t : Nat) (v : Value), lk (argEnv args k) t = some v → k ≤ t ∧ args[t - k]? = some v
  | [], _, _, _, e => by simp [argEnv, lk] at e
  | u :: us, k, t, v, e => by
    simp only [argEnv, lk] at e
    cases hb : Nat.beq k t
    · rw [hb] at e
      obtain ⟨h1, h2⟩ := argEnv_get us (k + 1) t v e
      have : t - k = (t - (k + 1)) + 1 := by omega
      exact ⟨by omega, by rw [this]; simpa using h2⟩
    · rw [hb] at e
      simp at e
      subst e
      have := Nat.eq_of_beq_eq_true hb
      subst this
      exact ⟨Nat.le_refl _, by simp⟩
theorem Con.body {P : Program} {f : FuncId} {fn : Func} {c : Code} {args : List Value} {pre : List SProp} {M : Loc} {R : Value → List SProp → Loc → Prop} (nt : Nat)
    (hf : P.funcs[f]? = some fn) (hb : fn.body = some c) (hn : fn.ntmps = nt) (hle : Nat.ble args.length nt = true)
    (h : ∀ X H₀ L₀, At X nt (c.wp P (Post P fn X H₀ L₀ R)) (argEnv args 0) (old H₀ :: pre) (M ++ L₀)) : Con P f args pre M R := fun X w H L h1 h2 => by
  have hle' : args.length ≤ nt := Nat.le_of_ble_eq_true hle
  refine calls_of_wp hf hb ?_
  refine h X H L _ w H ⟨by simp [hn]; omega, rfl, fun t v e => ?_⟩ ⟨Hp.le_refl H, h1⟩ h2
  obtain ⟨_, h3⟩ := argEnv_get args 0 t v e
  have ht : t < args.length := by
    rcases Nat.lt_or_ge t args.length with h' | h'
    · exact h'
    · simp [List.getElem?_eq_none h'] at h3
  simp only [Nat.sub_zero] at h3
  rw [Array.getElem?_append_left (by simpa using ht)]
  simpa using h3
end E
end Go.Proofs.Ytmkodknmknfdkaa
set_option linter.unusedVariables false
set_option linter.unusedSimpArgs false
namespace Go.Proofs.Ytmkodknmknfdkaa
namespace E
open Go
def scalarD : TypeDesc → Bool
  | .struct _ | .array _ _ => false
  | _ => true
/-- What is known of a type: is it of one piece; how many cells and bytes it has; its zero value. -/
def tRow (P : Program) (t : TypeId) : Option (Bool × Nat × Nat × Value) :=
  match P.underlying t, P.info? t with
  | some d, some i => i.zero.map fun z => (scalarD d, i.size, i.bytes, z)
  | _, _ => none
/-- Of a struct: where its fields lie, how many cells each has, is it of one piece. -/
def sRow (P : Program) (t : TypeId) : Option (List (Nat × Nat × Bool)) :=
  match P.underlying t with
  | some (.struct fs) => fs.toList.mapM fun f => (tRow P f.type).map fun r => (f.offset, r.2.1, r.1)
  | _ => none
section runs
variable {P : Program} {t : TypeId} {sc : Bool} {size bytes : Nat} {zero : Value} {w : World}
theorem tRow_parts (h : tRow P t = some (sc, size, bytes, zero)) : ∃ d i, P.underlying t = some d ∧ P.info? t = some i ∧ scalarD d = sc ∧ i.size = size ∧ i.bytes = bytes ∧ i.zero = some zero := by
  unfold tRow at h
  split at h
  · rename_i d i h1 h2
    cases hz : i.zero with
    | none => rw [hz] at h; cases h
    | some z =>
      rw [hz] at h
      simp only [Option.map_some, Option.some.injEq, Prod.mk.injEq] at h
      obtain ⟨e1, e2, e3, e4⟩ := h
      exact ⟨d, i, h1, h2, e1, e2, e3, by rw [hz, e4]⟩
  · cases h
theorem tRow_size (h : tRow P t = some (sc, size, bytes, zero)) : (sizeOf t).run P w = .ok size w := by
  obtain ⟨d, i, _, h2, _, h4, _⟩ := tRow_parts h
  simp [sizeOf, typeInfo, h2, h4]
theorem tRow_zero (h : tRow P t = some (sc, size, bytes, zero)) : (zeroValue t).run P w = .ok zero w := by
  obtain ⟨d, i, _, h2, _, _, _, h4⟩ := tRow_parts h
  simp [zeroValue, typeInfo, h2, h4]
theorem tRow_agg (h : tRow P t = some (sc, size, bytes, zero)) : (isAgg t).run P w = .ok (!sc) w := by
  obtain ⟨d, i, h1, _, h3, _⟩ := tRow_parts h
  subst h3
  simp only [isAgg, underlying, Sem.run_bind, run_program, Result.andThen_ok, h1, Sem.run_pure]
  cases d <;> rfl
theorem sRow_parts {pl : List (Nat × Nat × Bool)} (h : sRow P t = some pl) : ∃ fs : Array Field, P.underlying t = some (.struct fs) ∧ fs.toList.mapM (fun f => (tRow P f.type).map fun r => (f.offset, r.2.1, r.1)) = some pl := by
  unfold sRow at h
  split at h
  · rename_i fs hf; exact ⟨fs, hf, h⟩
  · cases h
theorem mapM_get {α β : Type} {f : α → Option β} : ∀ {l : List α} {r : List β}, l.mapM f = some r → ∀ (i : Nat) (b : β), r[i]? = some b → ∃ a, l[i]? = some a ∧ f a = some b
  | [], r, h, i, b, hb => by simp at h; subst h; simp at hb
  | a :: l, r, h, i, b, hb => by
    simp only [List.mapM_cons] at h
    cases ha : f a with
    | none => rw [ha] at h; cases h
    | some c =>
      rw [ha] at h
      cases hl : l.mapM f with
      | none => rw [hl] at h; cases h
      | some r' =>
        rw [hl] at h
        have h' : some (c :: r') = some r := h
        simp at h'
        subst h'
        cases i with
        | zero => simp at hb; subst hb; exact ⟨a, by simp, ha⟩
        | succ i => simpa using mapM_get hl i b (by simpa using hb)
theorem sRow_field {pl : List (Nat × Nat × Bool)} {i off sz : Nat} {s : Bool} (h : sRow P t = some pl) (hi : pl[i]? = some (off, sz, s)) :
    ∃ (fs : Array Field) (f : Field), P.underlying t = some (.struct fs) ∧ fs[i]? = some f ∧ f.offset = off ∧ ∃ by_ z, tRow P f.type = some (s, sz, by_, z) := by
  obtain ⟨fs, h1, h2⟩ := sRow_parts h
  obtain ⟨f, h3, h4⟩ := mapM_get h2 i _ hi
  refine ⟨fs, f, h1, by simpa using h3, ?_⟩
  cases hr : tRow P f.type with
  | none => rw [hr] at h4; cases h4
  | some r =>
    rw [hr] at h4
    obtain ⟨r1, r2, r3, r4⟩ := r
    simp at h4
    obtain ⟨e1, e2, e3⟩ := h4
    exact ⟨e1, r3, r4, by rw [e2, e3]⟩
theorem run_places : ∀ {l : List Field} {pl : List (Nat × Nat × Bool)}, l.mapM (fun f => (tRow P f.type).map fun r => (f.offset, r.2.1, r.1)) = some pl →
    (l.mapM fun f => do pure (f.offset, ← sizeOf f.type) : Sem (List (Nat × Nat))).run P w = .ok (pl.map fun p => (p.1, p.2.1)) w
  | [], pl, h => by simp at h; subst h; simp
  | f :: l, pl, h => by
    simp only [List.mapM_cons] at h
    cases hr : tRow P f.type with
    | none => rw [hr] at h; cases h
    | some r =>
      obtain ⟨r1, r2, r3, r4⟩ := r
      cases hl : l.mapM (fun f => (tRow P f.type).map fun r => (f.offset, r.2.1, r.1)) with
      | none => rw [hr, hl] at h; cases h
      | some pl' =>
        rw [hr, hl] at h
        have h' : some ((f.offset, r2, r1) :: pl') = some pl := h
        simp only [Option.some.injEq] at h'
        subst h'
        have ih := run_places hl
        simp only [List.mapM_cons, Sem.run_bind, tRow_size hr, Result.andThen_ok, Sem.run_pure, ih, List.map_cons]
end runs
/-- A block that never turns holds these cells. -/
@[irreducible] def blk (b : Nat) (cs : Array Value) : SProp :=
  ⟨fun H => ∃ T z, H b = some (.cells cs T z), fun _ _ h ⟨T, z, e⟩ => ⟨T, z, h _ _ e⟩⟩
theorem blk_def {b : Nat} {cs : Array Value} {H : Hp} : (blk b cs).holds H ↔ ∃ T z, H b = some (.cells cs T z) := by unfold blk; rfl
/-- From this address on lie these cells, and never turn. -/
@[irreducible] def cellsAt (a : Addr) (vs : List Value) : SProp :=
  ⟨fun H => a.spot = none ∧ ∃ cs T z, H a.block = some (.cells cs T z) ∧ ∀ j v, vs[j]? = some v → cs[a.off + j]? = some v,
   fun _ _ h ⟨s, cs, T, z, e, k⟩ => ⟨s, cs, T, z, h _ _ e, k⟩⟩
theorem cellsAt_def {a : Addr} {vs : List Value} {H : Hp} : (cellsAt a vs).holds H ↔ a.spot = none ∧ ∃ cs T z, H a.block = some (.cells cs T z) ∧ ∀ j v, vs[j]? = some v → cs[a.off + j]? = some v := by
  unfold cellsAt; rfl
/-- In every such state the cell holds v. -/
def Rd (Γ : List SProp) (L : Loc) (a : Addr) (v : Value) : Prop := ∀ X w H, Holds Γ H → St X w H L → w.cell? a = some v
/-- From the cell on lie these. -/
def RdS (Γ : List SProp) (L : Loc) (a : Addr) (vs : List Value) : Prop := ∀ X w H, Holds Γ H → St X w H L → ∀ j v, vs[j]? = some v → w.cell? (a.add j) = some v
theorem cell_of {w : World} {a : Addr} {cs : Array Value} {T : TypeId} {z : Nat × Nat} (h : w.heap[a.block]? = some (.cells cs T z)) (hs : a.spot = none) : w.cell? a = cs[a.off]? := by
  simp [World.cell?, h, hs]
theorem add_block (a : Addr) (j : Nat) : (a.add j).block = a.block := by unfold Addr.add; split <;> rfl
theorem add_off (a : Addr) (j : Nat) : (a.add j).off = a.off + j := by unfold Addr.add; split <;> simp_all
theorem add_spot {a : Addr} (j : Nat) (h : a.spot = none) : (a.add j).spot = none := by unfold Addr.add; split <;> simp_all
section reads
variable {Γ : List SProp} {L : Loc} {b k : Nat} {cs : Array Value} {T : TypeId} {z : Nat × Nat} {v : Value} {a : Addr} {vs : List Value}
theorem Rd.loc {i : Nat} (h : L[i]? = some [(b, Obj.cells cs T z)]) (hv : cs[k]? = some v) : Rd Γ L ⟨b, k, none⟩ v := fun _ _ _ _ h3 => by
  rw [cell_of (h3.mem (List.mem_of_getElem? h) (List.mem_singleton.2 rfl)) rfl]; exact hv
theorem Rd.blk (h : E.blk b cs ∈ Γ) (hv : cs[k]? = some v) : Rd Γ L ⟨b, k, none⟩ v := fun X w H h2 h3 => by
  obtain ⟨T, z, e⟩ := blk_def.1 (Holds.mem h h2)
  rw [cell_of (h3.sub _ _ e) rfl]; exact hv
theorem Rd.at {j : Nat} (h : cellsAt a vs ∈ Γ) (hv : vs[j]? = some v) : Rd Γ L (a.add j) v := fun X w H h2 h3 => by
  obtain ⟨hs, cs, T, z, e, hk⟩ := cellsAt_def.1 (Holds.mem h h2)
  rw [cell_of (cs := cs) (T := T) (z := z) (by rw [add_block]; exact h3.sub _ _ e) (add_spot j hs), add_off]
  exact hk j v hv
theorem Rd.at0 (h : cellsAt a vs ∈ Γ) (hv : vs[0]? = some v) : Rd Γ L a v := fun X w H h2 h3 => by
  have := Rd.at (L := L) h hv X w H h2 h3
  simpa [Addr.add] using this
/-- k cells of a row. -/
def slc (cs : Array Value) (k : Nat) : Nat → Option (List Value)
  | 0 => some []
  | m + 1 => match cs[k]?, slc cs (k + 1) m with
    | some v, some vs => some (v :: vs)
    | _, _ => none
theorem slc_get {cs : Array Value} : ∀ {m k : Nat} {vs : List Value}, slc cs k m = some vs → vs.length = m ∧ ∀ j v, vs[j]? = some v → cs[k + j]? = some v
  | 0, k, vs, h => by simp [slc] at h; subst h; simp
  | m + 1, k, vs, h => by
    simp only [slc] at h
    split at h
    · rename_i u us h1 h2
      simp at h
      subst h
      obtain ⟨h3, h4⟩ := slc_get h2
      refine ⟨by simp [h3], fun j v hj => ?_⟩
      cases j with
      | zero => simp at hj; subst hj; simpa using h1
      | succ j => have := h4 j v (by simpa using hj); rwa [show k + (j + 1) = k + 1 + j by omega]
    · cases h
theorem RdS.loc {m i : Nat} (h : L[i]? = some [(b, Obj.cells cs T z)]) (hv : slc cs k m = some vs) : RdS Γ L ⟨b, k, none⟩ vs := fun _ _ _ _ h3 j v hj => by
  rw [cell_of (cs := cs) (T := T) (z := z) (by rw [add_block]; exact h3.mem (List.mem_of_getElem? h) (List.mem_singleton.2 rfl)) (add_spot j rfl), add_off]
  exact (slc_get hv).2 j v hj
theorem RdS.blk {m : Nat} (h : E.blk b cs ∈ Γ) (hv : slc cs k m = some vs) : RdS Γ L ⟨b, k, none⟩ vs := fun X w H h2 h3 j v hj => by
  obtain ⟨T, z, e⟩ := blk_def.1 (Holds.mem h h2)
  rw [cell_of (cs := cs) (T := T) (z := z) (by rw [add_block]; exact h3.sub _ _ e) (add_spot j rfl), add_off]
  exact (slc_get hv).2 j v hj
def slcL (cs : List Value) (k m : Nat) : List Value := (cs.drop k).take m
theorem RdS.at {ws : List Value} {k m : Nat} (h : cellsAt a ws ∈ Γ) (hv : slcL ws k m = vs) : RdS Γ L (a.add k) vs := fun X w H h2 h3 j v hj => by
  have : ws[k + j]? = some v := by
    subst hv
    unfold slcL at hj
    rw [List.getElem?_take] at hj
    split at hj
    · simpa using hj
    · cases hj
  have h4 := Rd.at (L := L) h this X w H h2 h3
  obtain ⟨hs, _⟩ := cellsAt_def.1 (Holds.mem h h2)
  have e : (a.add k).add j = a.add (k + j) := by
    cases a
    simp at hs
    subst hs
    unfold Addr.add
    split <;> split <;> split <;> simp_all <;> omega
  rw [e]; exact h4
theorem RdS.at0 {ws : List Value} {m : Nat} (h : cellsAt a ws ∈ Γ) (hv : slcL ws 0 m = vs) : RdS Γ L a vs := fun X w H h2 h3 j v hj => by
  have := RdS.at (L := L) h hv X w H h2 h3 j v hj
  simpa [Addr.add] using this
end reads
section quiet
variable {P : Program} {n : Nat} {env : Env} {Γ : List SProp} {L : Loc} {ty t : TypeId} {x y : Operand} {u v : Value} {zero : Value} {size bytes : Nat} {a : Addr}
theorem q_move (hx : ev env x = some v) : Quiet P (.move x) ty n env Γ L v := fun _ _ _ _ _ a w _ h1 _ _ => by simp [execOp, h1.ev hx]
theorem q_assign (hx : ev env x = some v) : Quiet P (.assign x) ty n env Γ L v := fun _ _ _ _ _ a w _ h1 _ _ => by simp [execOp, h1.ev hx]
theorem q_pickT {c : Operand} (hc : ev env c = some (.bool true)) (hx : ev env x = some v) : Quiet P (.pick c x y) ty n env Γ L v :=
  fun _ _ _ _ _ a w _ h1 _ _ => by simp [execOp, h1.ev hx, h1.ev hc, asBool]
theorem q_pickF {c : Operand} (hc : ev env c = some (.bool false)) (hy : ev env y = some v) : Quiet P (.pick c x y) ty n env Γ L v :=
  fun _ _ _ _ _ a w _ h1 _ _ => by simp [execOp, h1.ev hy, h1.ev hc, asBool]
theorem q_load (ht : tRow P t = some (true, size, bytes, zero)) (hx : ev env x = some (.pointer (some a))) (hr : Rd Γ L a v) : Quiet P (.load t x) ty n env Γ L v :=
  fun X _ _ _ _ ac w H h1 h2 h3 => by
    simp [execOp, h1.ev hx, Instr.loadAt, Instr.sureAddr, loadVar, tRow_agg ht, hr X w H h2 h3]
theorem q_loadS {vs : List Value} (ht : tRow P t = some (false, size, bytes, zero)) (hx : ev env x = some (.pointer (some a))) (hr : RdS Γ L a vs) (hs : vs.length = size) :
    Quiet P (.load t x) ty n env Γ L (.agg vs.toArray) :=
  fun X _ _ _ _ ac w H h1 h2 h3 => by
    have := run_loadCells_list (P := P) w a vs (hr X w H h2 h3)
    rw [hs] at this
    simp [execOp, h1.ev hx, Instr.loadAt, Instr.sureAddr, loadVar, tRow_agg ht, tRow_size ht, this]
theorem q_fieldAddr {pl : List (Nat × Nat × Bool)} {i k sz : Nat} {s : Bool} (ht : sRow P t = some pl) (hi : pl[i]? = some (k, sz, s)) (hfs : Nat.beq sz 0 = false)
    (hx : ev env x = some (.pointer (some a))) : Quiet P (.fieldAddr t x i) ty n env Γ L (.pointer (some (a.add k))) :=
  fun X _ _ _ _ ac w H h1 h2 h3 => by
    have h0 : sz ≠ 0 := fun e => by subst e; simp at hfs
    obtain ⟨fs, f, e1, e2, e3, by_, z, e4⟩ := sRow_field ht hi
    simp [execOp, h1.ev hx, Instr.fieldAt, Instr.sureAddr, underlying, e1, e2, fieldPlace, tRow_size e4, h0, e3]
theorem q_nilCheck (hx : ev env x = some (.pointer (some a))) : Quiet P (.nilCheck x) ty n env Γ L (.pointer (some a)) :=
  fun _ _ _ _ _ ac w _ h1 _ _ => by simp [execOp, h1.ev hx]
theorem q_extract {vs : Array Value} {i : Nat} (hx : ev env x = some (.tuple vs)) (hv : vs[i]? = some v) : Quiet P (.extract x i) ty n env Γ L v :=
  fun _ _ _ _ _ ac w _ h1 _ _ => by simp [execOp, h1.ev hx, Instr.extract, hv]
def evPs (env : Env) : List (Nat × Operand) → Option (List (Nat × Value))
  | [] => some []
  | (i, x) :: xs => match ev env x, evPs env xs with
    | some v, some vs => some ((i, v) :: vs)
    | _, _ => none
theorem evPs_spec {ac : Act} (h : Agr n env ac) : ∀ {ps : List (Nat × Operand)} {vs : List (Nat × Value)}, evPs env ps = some vs → ps.map (fun (i, x) => (i, ac.eval x)) = vs
  | [], vs, e => by simp [evPs] at e; subst e; rfl
  | (i, x) :: xs, vs, e => by
    simp only [evPs] at e
    split at e
    · rename_i v vs' h1 h2
      simp at e
      subst e
      simp [h.ev h1, evPs_spec h h2]
    · cases e
/-- The parts of a struct laid over cells. -/
def lay (pl : List (Nat × Nat × Bool)) (cells : List Value) : List (Nat × Value) → Option (List Value)
  | [] => some cells
  | (i, v) :: rest => match pl[i]? with
    | none => none
    | some (off, size, _) => bif Nat.beq v.cells.size size && Nat.ble (off + v.cells.size) cells.length then lay pl (over cells off v.cells.toList) rest else none
where
  over : List Value → Nat → List Value → List Value
    | cs, _, [] => cs
    | cs, k, v :: vs => over (cs.set k v) (k + 1) vs
theorem over_fold : ∀ (vs : List Value) (cs : List Value) (off k : Nat),
    (vs.zipIdx k).foldl (fun (cs : Array Value) (c, j) => cs.setIfInBounds (off + j) c) cs.toArray = (lay.over cs (off + k) vs).toArray
  | [], cs, off, k => rfl
  | v :: vs, cs, off, k => by
    simp only [List.zipIdx_cons, List.foldl_cons, lay.over, List.setIfInBounds_toArray]
    rw [over_fold vs]
    rfl
theorem lay_spec {pl : List (Nat × Nat × Bool)} : ∀ {vs : List (Nat × Value)} {cells cs : List Value}, lay pl cells vs = some cs →
    Instr.fill ((pl.map fun p => (p.1, p.2.1)).toArray[·]?) cells.toArray vs = some cs.toArray
  | [], cells, cs, h => by simp [lay] at h; subst h; rfl
  | (i, v) :: rest, cells, cs, h => by
    simp only [lay] at h
    cases hp : pl[i]? with
    | none => rw [hp] at h; cases h
    | some p =>
      obtain ⟨off, size, s⟩ := p
      rw [hp] at h
      simp only [cond_eq_ite, Bool.and_eq_true] at h
      split at h
      · rename_i hc
        have h1 := Nat.eq_of_beq_eq_true hc.1
        have h2 := Nat.le_of_ble_eq_true hc.2
        have h3 := over_fold v.cells.toList cells off 0
        have h5 : (pl.map fun p => (p.1, p.2.1)).toArray[i]? = some (off, size) := by simp [hp]
        simp only [Instr.fill, h5]
        rw [if_neg (by simp; omega)]
        have h4 : (v.cells.zipIdx.foldl (fun (cs : Array Value) (c, j) => cs.setIfInBounds (off + j) c) cells.toArray) = (lay.over cells off v.cells.toList).toArray := by
          rw [← Array.foldl_toList]
          simpa using h3
        rw [h4]
        exact lay_spec h
      · cases h
theorem q_build {parts : List (Nat × Operand)} {vs : List (Nat × Value)} {pl : List (Nat × Nat × Bool)} {zc cs : List Value} (ht : tRow P t = some (false, size, bytes, .agg zc.toArray)) (hs : sRow P t = some pl)
    (hv : evPs env parts = some vs) (hc : lay pl zc vs = some cs) : Quiet P (.build t parts.toArray) ty n env Γ L (.agg cs.toArray) :=
  fun X _ _ _ _ ac w H h1 h2 h3 => by
    obtain ⟨fs, e1, e2⟩ := sRow_parts hs
    have e3 := run_places (P := P) (w := w) e2
    have e4 : (fs.mapM fun f => do pure (f.offset, ← sizeOf f.type) : Sem (Array (Nat × Nat))).run P w = .ok (pl.map fun p => (p.1, p.2.1)).toArray w := by
      rw [Array.mapM_eq_mapM_toList]
      show Sem.run P (List.toArray <$> _) w = _
      rw [map_eq_pure_bind, Sem.run_bind, e3]
      rfl
    have e5 : (parts.toArray.map fun (i, x) => (i, ac.eval x)).toList = vs := by rw [Array.toList_map]; exact evPs_spec h1 hv
    simp only [execOp, Instr.build, Sem.run_bind, tRow_zero ht, Result.andThen_ok, underlying, run_program, e1, Sem.run_pure, Value.cells]
    rw [e4]
    simp only [Result.andThen_ok, e5, lay_spec hc, Sem.run_pure]
end quiet
end E
end Go.Proofs.Ytmkodknmknfdkaa
set_option linter.unusedVariables false
set_option linter.unusedSimpArgs false
namespace Go.Proofs.Ytmkodknmknfdkaa
namespace E
open Go
section nums
variable {P : Program} {n : Nat} {env : Env} {Γ : List SProp} {L : Loc} {ty t t' : TypeId} {x y : Operand} {a b : Int} {k : IntKind}
theorem wrapI {z : Int} (h1 : -9223372036854775808 ≤ z) (h2 : z ≤ 9223372036854775807) : IntKind.i64.wrap z = z := IntWalk.i64_in z ⟨h1, h2⟩
theorem q_addK (hx : ev env x = some (.int k a)) (hy : ev env y = some (.int k b)) : Quiet P (.binOp .add t x y t') ty n env Γ L (.int k (k.wrap (a + b))) :=
  fun _ _ _ _ _ ac w _ h1 _ _ => by simp [execOp, h1.ev hx, h1.ev hy, eqGuard, binOp, Op.intArith]
theorem q_subK (hx : ev env x = some (.int k a)) (hy : ev env y = some (.int k b)) : Quiet P (.binOp .sub t x y t') ty n env Γ L (.int k (k.wrap (a - b))) :=
  fun _ _ _ _ _ ac w _ h1 _ _ => by simp [execOp, h1.ev hx, h1.ev hy, eqGuard, binOp, Op.intArith]
theorem q_add (hx : ev env x = some (.int .i64 a)) (hy : ev env y = some (.int .i64 b)) (h1 : -9223372036854775808 ≤ a + b) (h2 : a + b ≤ 9223372036854775807) : Quiet P (.binOp .add t x y t') ty n env Γ L (.int .i64 (a + b)) := by
  have := q_addK (P := P) (n := n) (ty := ty) (t := t) (t' := t') (Γ := Γ) (L := L) hx hy
  rwa [wrapI h1 h2] at this
theorem q_sub (hx : ev env x = some (.int .i64 a)) (hy : ev env y = some (.int .i64 b)) (h1 : -9223372036854775808 ≤ a - b) (h2 : a - b ≤ 9223372036854775807) : Quiet P (.binOp .sub t x y t') ty n env Γ L (.int .i64 (a - b)) := by
  have := q_subK (P := P) (n := n) (ty := ty) (t := t) (t' := t') (Γ := Γ) (L := L) hx hy
  rwa [wrapI h1 h2] at this
theorem q_quo (hx : ev env x = some (.int k a)) (hy : ev env y = some (.int k b)) (hb : b ≠ 0) : Quiet P (.binOp .quo t x y t') ty n env Γ L (.int k (k.wrap (a.tdiv b))) :=
  fun _ _ _ _ _ ac w _ h1 _ _ => by simp [execOp, h1.ev hx, h1.ev hy, eqGuard, binOp, Op.intDiv, hb]
theorem q_eql (hx : ev env x = some (.int k a)) (hy : ev env y = some (.int k b)) : Quiet P (.binOp .eql t x y t') ty n env Γ L (.bool (decide (a = b))) :=
  fun _ _ _ _ _ ac w _ h1 _ _ => by
    simp only [execOp, h1.ev hx, h1.ev hy, eqGuard, binOp, Op.intCmp]
    simp
    rfl
theorem q_neq (hx : ev env x = some (.int k a)) (hy : ev env y = some (.int k b)) : Quiet P (.binOp .neq t x y t') ty n env Γ L (.bool (decide (a ≠ b))) :=
  fun _ _ _ _ _ ac w _ h1 _ _ => by
    simp only [execOp, h1.ev hx, h1.ev hy, eqGuard, binOp, Op.intCmp]
    simp [bne]
    rfl
theorem q_lss (hx : ev env x = some (.int k a)) (hy : ev env y = some (.int k b)) : Quiet P (.binOp .lss t x y t') ty n env Γ L (.bool (decide (a < b))) :=
  fun _ _ _ _ _ ac w _ h1 _ _ => by simp [execOp, h1.ev hx, h1.ev hy, eqGuard, binOp, Op.intCmp]
theorem q_leq (hx : ev env x = some (.int k a)) (hy : ev env y = some (.int k b)) : Quiet P (.binOp .leq t x y t') ty n env Γ L (.bool (decide (a ≤ b))) :=
  fun _ _ _ _ _ ac w _ h1 _ _ => by simp [execOp, h1.ev hx, h1.ev hy, eqGuard, binOp, Op.intCmp]
theorem q_gtr (hx : ev env x = some (.int k a)) (hy : ev env y = some (.int k b)) : Quiet P (.binOp .gtr t x y t') ty n env Γ L (.bool (decide (b < a))) :=
  fun _ _ _ _ _ ac w _ h1 _ _ => by simp [execOp, h1.ev hx, h1.ev hy, eqGuard, binOp, Op.intCmp]
theorem q_geq (hx : ev env x = some (.int k a)) (hy : ev env y = some (.int k b)) : Quiet P (.binOp .geq t x y t') ty n env Γ L (.bool (decide (b ≤ a))) :=
  fun _ _ _ _ _ ac w _ h1 _ _ => by simp [execOp, h1.ev hx, h1.ev hy, eqGuard, binOp, Op.intCmp]
theorem q_not {p : Bool} (hx : ev env x = some (.bool p)) : Quiet P (.unOp .not t x) ty n env Γ L (.bool (!p)) :=
  fun _ _ _ _ _ ac w _ h1 _ _ => by simp [execOp, h1.ev hx, Op.unary]
theorem q_eqBool {p q : Bool} (ht : P.underlying t = some .bool) (hx : ev env x = some (.bool p)) (hy : ev env y = some (.bool q)) : Quiet P (.binOp .eql t x y t') ty n env Γ L (.bool (p == q)) :=
  fun _ _ _ _ _ ac w _ h1 _ _ => by
    have := run_equalIn_bool' (P := P) w 9999 t p q ht
    simp [execOp, h1.ev hx, h1.ev hy, eqGuard, binOp, Op.equal, Op.maxDepth, this]
theorem q_max {k' : IntKind} {ats : Array TypeId} (hx : ev env x = some (.int k a)) (hy : ev env y = some (.int k' b)) : Quiet P (.call ⟨.builtin .max, #[x, y], ats⟩) ty n env Γ L (.int k (max a b)) :=
  fun _ _ _ _ _ ac w _ h1 _ _ => by
    have := Lib.run_max_ints (P := P) w ats ty k k' a b
    simp [execOp, resolve, invoke, builtin, h1.ev hx, h1.ev hy, this]
theorem q_min {k' : IntKind} {ats : Array TypeId} (hx : ev env x = some (.int k a)) (hy : ev env y = some (.int k' b)) : Quiet P (.call ⟨.builtin .min, #[x, y], ats⟩) ty n env Γ L (.int k (min a b)) :=
  fun _ _ _ _ _ ac w _ h1 _ _ => by
    have := Lib.run_min_ints (P := P) w ats ty k k' a b
    simp [execOp, resolve, invoke, builtin, h1.ev hx, h1.ev hy, this]
end nums
/-- The slice at a, of capacity c, reads as these rows of k cells each, and never turns. -/
@[irreducible] def sl (a : Option Addr) (c k : Nat) (rows : List (List Value)) : SProp :=
  ⟨fun H => rows.length ≤ c ∧ c ≤ maxLen ∧ (∀ r ∈ rows, r.length = k) ∧ (rows = [] ∨ ∃ a', a = some a' ∧ a'.spot = none ∧ ∃ cs T z, H a'.block = some (.cells cs T z) ∧ ∀ i j v, (rows[i]?).bind (·[j]?) = some v → cs[a'.off + i * k + j]? = some v),
   fun _ _ h ⟨h1, h0, h2, h3⟩ => ⟨h1, h0, h2, h3.imp id fun ⟨a', e, s, cs, T, z, e', r⟩ => ⟨a', e, s, cs, T, z, h _ _ e', r⟩⟩⟩
theorem sl_def {a : Option Addr} {c k : Nat} {rows : List (List Value)} {H : Hp} : (sl a c k rows).holds H ↔
    rows.length ≤ c ∧ c ≤ maxLen ∧ (∀ r ∈ rows, r.length = k) ∧ (rows = [] ∨ ∃ a', a = some a' ∧ a'.spot = none ∧ ∃ cs T z, H a'.block = some (.cells cs T z) ∧ ∀ i j v, (rows[i]?).bind (·[j]?) = some v → cs[a'.off + i * k + j]? = some v) := by
  unfold sl; rfl
def adr (a : Option Addr) : Addr := a.getD default
theorem sl_nil {H : Hp} (c k : Nat) (a : Option Addr) (hc : c ≤ maxLen) : (sl a c k []).holds H := sl_def.2 ⟨Nat.zero_le _, hc, by simp, .inl rfl⟩
section slices
variable {P : Program} {n : Nat} {env : Env} {Γ : List SProp} {L : Loc} {ty t e : TypeId} {x y : Operand} {a : Option Addr} {c k len : Nat} {rows : List (List Value)} {v : Value}
theorem sl_cell {X : Cx} {w : World} {H : Hp} (h : (sl a c k rows).holds H) (h3 : St X w H L) {i j : Nat} {r : List Value} (hr : rows[i]? = some r) (hv : r[j]? = some v) :
    w.cell? (((adr a).add (i * k)).add j) = some v := by
  obtain ⟨_, _, _, h4⟩ := sl_def.1 h
  rcases h4 with rfl | ⟨a', rfl, hs, cs, T, z, e, hk⟩
  · simp at hr
  · have := hk i j v (by rw [hr]; exact hv)
    show w.cell? ((a'.add (i * k)).add j) = some v
    rw [cell_of (cs := cs) (T := T) (z := z) (by rw [add_block, add_block]; exact h3.sub _ _ e) (add_spot j (add_spot _ hs)), add_off, add_off]
    exact this
theorem Rd.sl {i j : Nat} {r : List Value} (h : E.sl a c k rows ∈ Γ) (hr : rows[i]? = some r) (hv : r[j]? = some v) : Rd Γ L (((adr a).add (i * k)).add j) v :=
  fun _ _ _ h2 h3 => sl_cell (Holds.mem h h2) h3 hr hv
theorem Rd.sl0 {i : Nat} {r : List Value} (h : E.sl a c k rows ∈ Γ) (hr : rows[i]? = some r) (hv : r[0]? = some v) : Rd Γ L ((adr a).add (i * k)) v :=
  fun _ _ _ h2 h3 => by simpa [Addr.add] using sl_cell (Holds.mem h h2) h3 hr hv
theorem RdS.sl0 {i : Nat} {r : List Value} (h : E.sl a c k rows ∈ Γ) (hr : rows[i]? = some r) : RdS Γ L ((adr a).add (i * k)) r :=
  fun _ _ _ h2 h3 _ _ hj => sl_cell (Holds.mem h h2) h3 hr hj
theorem add_add {a : Addr} (hs : a.spot = none) (m j : Nat) : (a.add m).add j = a.add (m + j) := by
  cases a
  simp at hs
  subst hs
  unfold Addr.add
  split <;> split <;> split <;> simp_all <;> omega
theorem RdS.sl {i m sz : Nat} {r vs : List Value} (h : E.sl a c k rows ∈ Γ) (hr : rows[i]? = some r) (hv : slcL r m sz = vs) : RdS Γ L (((adr a).add (i * k)).add m) vs :=
  fun _ _ H h2 h3 j v hj => by
    have hv' : r[m + j]? = some v := by
      subst hv
      unfold slcL at hj
      rw [List.getElem?_take] at hj
      split at hj
      · simpa using hj
      · cases hj
    have h4 := sl_cell (Holds.mem h h2) h3 hr hv'
    obtain ⟨_, _, _, h5⟩ := sl_def.1 (Holds.mem h h2)
    rcases h5 with rfl | ⟨a', rfl, hs, _⟩
    · simp at hr
    · show World.cell? _ (((a'.add (i * k)).add m).add j) = some v
      rw [add_add (add_spot _ hs)]
      exact h4
theorem q_len {cap : Nat} (ht : P.underlying t = some (.slice e)) (hx : ev env x = some (.slice a len cap)) : Quiet P (.call ⟨.builtin .len, #[x], #[t]⟩) ty n env Γ L (.int .i64 len) :=
  fun _ _ _ _ _ ac w _ h1 _ _ => by simp [execOp, resolve, invoke, builtin, Builtin.len_, h1.ev hx, underlying, ht, goInt]
theorem q_indexRaw {a : Addr} {ki : IntKind} {z : Int} {i len cap sz by_ : Nat} {sc : Bool} {zero : Value} (ht : P.underlying t = some (.slice e)) (he : tRow P e = some (sc, sz, by_, zero))
    (hx : ev env x = some (.slice (some a) len cap)) (hy : ev env y = some (.int ki z)) (hz : z = (i : Int)) (hi : i < len) :
    Quiet P (.indexAddr t x y) ty n env Γ L (.pointer (some (a.add (i * sz)))) :=
  fun X _ _ _ _ ac w H h1 h2 h3 => by
    subst hz
    have h0 : (0 : Int) ≤ (i : Int) ∧ (i : Int) < (len : Int) := ⟨by omega, by omega⟩
    simp [execOp, h1.ev hx, h1.ev hy, Instr.indexAt, asIntOf, underlying, ht, hi, tRow_size he]
theorem q_index {ki : IntKind} {z : Int} {i cap sz by_ : Nat} {sc : Bool} {zero : Value} (ht : P.underlying t = some (.slice e)) (he : tRow P e = some (sc, sz, by_, zero))
    (hx : ev env x = some (.slice a len cap)) (hs : E.sl a c sz rows ∈ Γ) (hl : len = rows.length) (hy : ev env y = some (.int ki z)) (hz : z = (i : Int)) (hi : i < len) :
    Quiet P (.indexAddr t x y) ty n env Γ L (.pointer (some ((adr a).add (i * sz)))) :=
  fun X d pos aft g ac w H h1 h2 h3 => by
    obtain ⟨_, _, _, h4⟩ := sl_def.1 (Holds.mem hs h2)
    rcases h4 with h5 | ⟨a', ha, _⟩
    · subst hl; simp [h5] at hi
    · subst ha
      exact q_indexRaw (L := L) ht he hx hy hz hi X d pos aft g ac w H h1 h2 h3
/-- The head of a slice cut from l on. -/
def subA (a : Option Addr) (c k l : Nat) : Option Addr := if c = l then a else a.map (·.add (l * k))
theorem sl_sub {H : Hp} {l h : Nat} (hs : (sl a c k rows).holds H) (hl : l ≤ h) (hh : h ≤ rows.length) : (sl (subA a c k l) (c - l) k ((rows.drop l).take (h - l))).holds H := by
  obtain ⟨h1, h0, h2, h3⟩ := sl_def.1 hs
  refine sl_def.2 ⟨by simp; omega, by omega, fun r hr => h2 r (List.mem_of_mem_drop (List.mem_of_mem_take hr)), ?_⟩
  by_cases he : c = l
  · left
    have : h - l = 0 := by omega
    simp [this]
  · rcases h3 with rfl | ⟨a', rfl, hsp, cs, T, z, e, hk⟩
    · left; simp
    · right
      refine ⟨a'.add (l * k), by simp [subA, he], add_spot _ hsp, cs, T, z, by rw [add_block]; exact e, fun i j v hv => ?_⟩
      rw [add_off]
      have : (rows[l + i]?).bind (·[j]?) = some v := by
        rw [List.getElem?_take] at hv
        split at hv
        · simpa using hv
        · cases hv
      have := hk (l + i) j v this
      rw [Nat.add_mul] at this
      rw [show a'.off + l * k + i * k + j = a'.off + (l * k + i * k) + j by omega]
      exact this
theorem run_bound {P : Program} {ki : IntKind} {z : Int} {y i : Nat} {code : BoundsCode} (w : World) (hz : z = (i : Int)) (hi : i ≤ y) : (Instr.sliceBound (.int ki z) y code).run P w = .ok i w := by
  subst hz
  simp [Instr.sliceBound, asIntOf, hi]
theorem q_slice {ko kh : IntKind} {zl zh : Int} {l h sz by_ : Nat} {sc : Bool} {zero : Value} {lo hi : Operand} (ht : P.underlying t = some (.slice e)) (he : tRow P e = some (sc, sz, by_, zero))
    (hx : ev env x = some (.slice a len c)) (hlo : ev env lo = some (.int ko zl)) (hzl : zl = (l : Int)) (hhi : ev env hi = some (.int kh zh)) (hzh : zh = (h : Int)) (hl : l ≤ h) (hh : h ≤ c) :
    Quiet P (.slice t x (some lo) (some hi) none) ty n env Γ L (.slice (subA a c sz l) (h - l) (c - l)) :=
  fun X _ _ _ _ ac w H h1 h2 h3 => by
    simp [execOp, h1.ev hx, h1.ev hlo, h1.ev hhi, Instr.sliceAt, Instr.slice, underlying, ht, Instr.sliceBounds, run_bound w hzl hl, run_bound w hzh hh, tRow_size he, subA]
theorem q_sliceLo {ko : IntKind} {zl : Int} {l sz by_ : Nat} {sc : Bool} {zero : Value} {lo : Operand} (ht : P.underlying t = some (.slice e)) (he : tRow P e = some (sc, sz, by_, zero))
    (hx : ev env x = some (.slice a len c)) (hlo : ev env lo = some (.int ko zl)) (hzl : zl = (l : Int)) (hl : l ≤ len) :
    Quiet P (.slice t x (some lo) none none) ty n env Γ L (.slice (subA a c sz l) (len - l) (c - l)) :=
  fun X _ _ _ _ ac w H h1 h2 h3 => by
    simp [execOp, h1.ev hx, h1.ev hlo, Instr.sliceAt, Instr.slice, underlying, ht, Instr.sliceBounds, run_bound w hzl hl, tRow_size he, subA]
theorem q_sliceHi {kh : IntKind} {zh : Int} {h sz by_ : Nat} {sc : Bool} {zero : Value} {hi : Operand} (ht : P.underlying t = some (.slice e)) (he : tRow P e = some (sc, sz, by_, zero))
    (hx : ev env x = some (.slice a len c)) (hhi : ev env hi = some (.int kh zh)) (hzh : zh = (h : Int)) (hh : h ≤ c) :
    Quiet P (.slice t x none (some hi) none) ty n env Γ L (.slice (subA a c sz 0) h c) :=
  fun X _ _ _ _ ac w H h1 h2 h3 => by
    have h0 : subA a c sz 0 = if c = 0 then a else a.map (·.add 0) := by simp [subA]
    simp [execOp, h1.ev hx, h1.ev hhi, Instr.sliceAt, Instr.slice, underlying, ht, Instr.sliceBounds, run_bound w hzh hh, tRow_size he, h0]
end slices
section loud
variable {P : Program} {n : Nat} {env : Env} {Γ : List SProp} {L : Loc} {ty t e : TypeId} {x y : Operand} {v : Value}
theorem Loud.ofRun {op : Op} {R : Value → List SProp → Loc → Prop}
    (h : ∀ X d pos aft g a w H, Agr n env a → Holds Γ H → St X w H L → ∃ v w' H' Γ' L', (execOp a.eval ⟨d, op, ty, pos, aft, g⟩).run P w = .ok (.value v) w' ∧ R v Γ' L' ∧ H.le H' ∧ Holds Γ' H' ∧ St X w' H' L') :
    Loud P op ty n env Γ L R := fun X d pos aft g a w H h1 h2 h3 K Q hk => by
  obtain ⟨v, w', H', Γ', L', e, hr, h4, h5, h6⟩ := h X d pos aft g a w H h1 h2 h3
  unfold Oper.wp
  rw [e]
  exact hk v Γ' L' w' H' hr h4 h5 h6
theorem Loud.ofSkip {op : Op} {R : Value → List SProp → Loc → Prop}
    (h : ∀ X d pos aft g a w H, Agr n env a → Holds Γ H → St X w H L → ∃ w' H' Γ' L', (execOp a.eval ⟨d, op, ty, pos, aft, g⟩).run P w = .ok .skip w' ∧ R undef Γ' L' ∧ H.le H' ∧ Holds Γ' H' ∧ St X w' H' L') :
    Loud P op ty n env Γ L R := fun X d pos aft g a w H h1 h2 h3 K Q hk => by
  obtain ⟨w', H', Γ', L', e, hr, h4, h5, h6⟩ := h X d pos aft g a w H h1 h2 h3
  unfold Oper.wp
  rw [e]
  exact hk undef Γ' L' w' H' hr h4 h5 h6
/-- A new variable. -/
def New (Γ : List SProp) (L : Loc) (t : TypeId) (cs : Array Value) : Value → List SProp → Loc → Prop :=
  fun v Γ' L' => ∃ b, v = .pointer (some ⟨b, 0, none⟩) ∧ Γ' = Γ ∧ L' = [(b, .cells cs t (0, 0))] :: L
theorem l_alloc {sc : Bool} {size bytes : Nat} {zero : Value} (ht : tRow P t = some (sc, size, bytes, zero)) : Loud P (.alloc t) ty n env Γ L (New Γ L t zero.cells) :=
  Loud.ofRun fun X d pos aft g a w H h1 h2 h3 => by
    refine ⟨_, _, H, Γ, _, ?_, ⟨w.heap.size, rfl, rfl, rfl⟩, Hp.le_refl H, h2, h3.push _⟩
    simp [execOp, Instr.alloc, tRow_zero ht, newVar, newRow, newObj, Sem.run]
theorem l_box (hx : ev env x = some v) : Loud P (.box t x) ty n env Γ L (New Γ L t v.cells) :=
  Loud.ofRun fun X d pos aft g a w H h1 h2 h3 => by
    refine ⟨_, _, H, Γ, _, ?_, ⟨w.heap.size, rfl, rfl, rfl⟩, Hp.le_refl H, h2, h3.push _⟩
    simp [execOp, Instr.box, h1.ev hx, newVar, newRow, newObj, Sem.run]
/-- Cells laid over a row. -/
def spl (cs : List Value) (k : Nat) (vs : List Value) : List Value := cs.take k ++ vs ++ cs.drop (k + vs.length)
/-- A store. -/
theorem l_store {sc : Bool} {size bytes b k i : Nat} {zero : Value} {cs : List Value} {T : TypeId} (ht : tRow P t = some (sc, size, bytes, zero)) (hx : ev env x = some (.pointer (some ⟨b, k, none⟩))) (hy : ev env y = some v)
    (hL : L[i]? = some [(b, .cells cs.toArray T (0, 0))]) (hs : Nat.beq v.cells.size size = true) (hfit : Nat.ble (k + v.cells.size) cs.length = true) (h1 : v.cells.toList.all Value.oneCell' = true) :
    Loud P (.store t x y) ty n env Γ L (fun _ Γ' L' => Γ' = Γ ∧ L' = L.set i [(b, .cells (spl cs k v.cells.toList).toArray T (0, 0))]) :=
  Loud.ofSkip fun X d pos aft g a w H h1' h2 h3 => by
    have hf := h3.front hL
    have hg : w.heap[b]? = some (.cells cs.toArray T (0, 0)) := hf.loc (b, _) (List.mem_cons_self ..)
    have hst := run_storeCells_at P b k T v.cells.toList 0 cs.toArray w hg (by have := Nat.le_of_ble_eq_true hfit; simpa using this) (List.all_eq_true.1 h1)
    refine ⟨_, H, Γ, _, ?_, ⟨rfl, rfl⟩, Hp.le_refl H, h2, St.back [(b, .cells (spl cs k v.cells.toList).toArray T (0, 0))] hL (hf.set (w' := w.setRow b (spl cs k v.cells.toList).toArray) rfl rfl rfl (setRow_heap w b cs.toArray _ T (0, 0) hg) fun c hc => setRow_other w b c _ hc)⟩
    have hs' := Nat.eq_of_beq_eq_true hs
    simp [execOp, h1'.ev hx, h1'.ev hy, Instr.storeAt, Instr.sureAddr, storeVar, tRow_size ht, hs', hst, spl]
theorem fill_range {len size : Nat} : ∀ {vs : List (Nat × Value)} {cells cs : List Value}, lay ((List.range len).map fun i => (i * size, size, true)) cells vs = some cs →
    Instr.fill (fun i => some (i * size, size)) cells.toArray vs = some cs.toArray
  | [], cells, cs, h => by simp [lay] at h; subst h; rfl
  | (i, v) :: rest, cells, cs, h => by
    simp only [lay] at h
    cases hp : ((List.range len).map fun i => (i * size, size, true))[i]? with
    | none => rw [hp] at h; cases h
    | some p =>
      have hp' : p = (i * size, size, true) := by
        rw [List.getElem?_map] at hp
        by_cases hi : i < len
        · rw [List.getElem?_range hi] at hp; simpa using hp.symm
        · simp [List.getElem?_eq_none (l := List.range len) (i := i) (by simp; omega)] at hp
      rw [hp, hp'] at h
      simp only [cond_eq_ite, Bool.and_eq_true] at h
      split at h
      · rename_i hc
        have h1 := Nat.eq_of_beq_eq_true hc.1
        have h2 := Nat.le_of_ble_eq_true hc.2
        have h3 := over_fold v.cells.toList cells (i * size) 0
        simp only [Instr.fill]
        rw [if_neg (by simp; omega)]
        have h4 : (v.cells.zipIdx.foldl (fun (cs : Array Value) (c, j) => cs.setIfInBounds (i * size + j) c) cells.toArray) = (lay.over cells (i * size) v.cells.toList).toArray := by
          rw [← Array.foldl_toList]
          simpa using h3
        rw [h4]
        exact fill_range h
      · cases h
/-- A zero value, again and again. -/
theorem zeros_eq {z : Array Value} {len size : Nat} (hs : z.size = size) :
    (Array.range (len * size)).map (z[· % z.size]!) = ((List.replicate len z.toList).flatten).toArray := by
  subst hs
  apply Array.ext'
  apply List.ext_getElem?
  intro i
  have hfl : ∀ len : Nat, ((List.replicate len z.toList).flatten).length = len * z.size := by
    intro len
    induction len with
    | zero => simp
    | succ n ih => simp only [List.replicate_succ, List.flatten_cons, List.length_append, ih, Array.length_toList, Nat.add_mul]; omega
  by_cases hi : i < len * z.size
  · have hz : 0 < z.size := by
      rcases Nat.eq_zero_or_pos z.size with h | h
      · rw [h] at hi; simp at hi
      · exact h
    have hm : i % z.size < z.size := Nat.mod_lt _ hz
    have hg : ∀ (len i : Nat), i < len * z.size → ((List.replicate len z.toList).flatten)[i]? = z.toList[i % z.size]? := by
      intro len
      induction len with
      | zero => intro i h; simp at h
      | succ n ih =>
        intro i h
        rw [List.replicate_succ, List.flatten_cons]
        by_cases hlt : i < z.size
        · rw [List.getElem?_append_left (by simpa using hlt), Nat.mod_eq_of_lt hlt]
        · have hge : z.size ≤ i := by omega
          rw [List.getElem?_append_right (by simpa using hge)]
          have hsub : i - z.toList.length < n * z.size := by
            rw [Nat.succ_mul] at h
            simp
            omega
          rw [ih _ hsub, Array.length_toList, ← Nat.mod_eq_sub_mod hge]
    rw [hg len i hi]
    simp [hi, hm]
  · rw [List.getElem?_eq_none (by simp; omega), List.getElem?_eq_none (by rw [hfl]; omega)]
/-- A slice written out. -/
theorem l_buildSlice {sc : Bool} {len size bytes : Nat} {zero : Value} {parts : List (Nat × Operand)} {vs : List (Nat × Value)} {flat : List Value} (ht : P.underlying t = some (.slice e)) (he : tRow P e = some (sc, size, bytes, zero))
    (hv : evPs env parts = some vs) (hzs : Nat.beq zero.cells.size size = true) (hsm : Nat.ble (len * size) 16777216 = true) (hne : Nat.beq (len * size) 0 = false)
    (hc : lay ((List.range len).map fun i => (i * size, size, true)) ((List.replicate len zero.cells.toList).flatten) vs = some flat) :
    Loud P (.buildSlice t len parts.toArray) ty n env Γ L (fun v Γ' L' => ∃ b, v = .slice (some ⟨b, 0, none⟩) len len ∧ Γ' = Γ ∧ L' = [(b, .cells flat.toArray e (0, 0))] :: L) :=
  Loud.ofRun fun X d pos aft g a w H h1 h2 h3 => by
    refine ⟨_, _, H, Γ, _, ?_, ⟨w.heap.size, rfl, rfl, rfl⟩, Hp.le_refl H, h2, h3.push _⟩
    have h5 : (parts.toArray.map fun (i, x) => (i, a.eval x)).toList = vs := by rw [Array.toList_map]; exact evPs_spec h1 hv
    have h6 : ¬ (len * size > 2 ^ 24) := by have := Nat.le_of_ble_eq_true hsm; omega
    have h7 : ¬ (len * size = 0) := fun h => by rw [h] at hne; simp at hne
    have h8 := fill_range hc
    have hz := zeros_eq (z := zero.cells) (len := len) (Nat.eq_of_beq_eq_true hzs)
    simp only [execOp, Instr.buildSlice, Sem.run_bind, underlying, run_program, Result.andThen_ok, ht, Sem.run_pure, tRow_size he, h6, h7, if_false, tRow_zero he, h5, hz]
    rw [h8]
    simp [newRow, newObj, Sem.run]
end loud
end E
end Go.Proofs.Ytmkodknmknfdkaa
set_option linter.unusedVariables false
set_option linter.unusedSimpArgs false
namespace Go.Proofs.Ytmkodknmknfdkaa
namespace E
open Go
/-- The slice at a, of capacity c, is the call's own: M holds it; its rows have k cells each. -/
def Own (T : TypeId) (k : Nat) (rows : List (List Value)) (a : Option Addr) (c : Nat) (M : Seg) : Prop :=
  (∀ r ∈ rows, r.length = k) ∧ ((a = none ∧ c = 0 ∧ rows = [] ∧ M = []) ∨
    ∃ g cur, a = some ⟨g, 0, none⟩ ∧ M = [(g, .cells cur T (0, 0))] ∧ rows.length ≤ c ∧ c ≤ maxLen ∧ cur.size = c * k ∧ cur.toList.take (rows.length * k) = rows.flatten)
theorem Own.nil (T : TypeId) (k : Nat) : Own T k [] none 0 [] := ⟨by simp, .inl ⟨rfl, rfl, rfl, rfl⟩⟩
theorem flat_len {k : Nat} : ∀ {rows : List (List Value)}, (∀ r ∈ rows, r.length = k) → rows.flatten.length = rows.length * k
  | [], _ => by simp
  | r :: rows, h => by
    have h1 := h r (by simp)
    have h2 := flat_len (k := k) (rows := rows) fun r hr => h r (List.mem_cons_of_mem _ hr)
    simp only [List.flatten_cons, List.length_append, h1, h2, List.length_cons, Nat.add_mul]
    omega
theorem flat_get {k : Nat} : ∀ {rows : List (List Value)} {i j : Nat} {r : List Value} {v : Value}, (∀ r ∈ rows, r.length = k) → rows[i]? = some r → r[j]? = some v → rows.flatten[i * k + j]? = some v
  | [], i, j, r, v, _, h, _ => by simp at h
  | r' :: rows, 0, j, r, v, hk, h, hv => by
    simp at h
    subst h
    have hj : j < r'.length := by
      rcases Nat.lt_or_ge j r'.length with h' | h'
      · exact h'
      · simp [List.getElem?_eq_none h'] at hv
    simp [List.getElem?_append_left hj, hv]
  | r' :: rows, i + 1, j, r, v, hk, h, hv => by
    have h1 := hk r' (by simp)
    have ih := flat_get (k := k) (rows := rows) (i := i) (j := j) (r := r) (v := v) (fun r hr => hk r (List.mem_cons_of_mem _ hr)) (by simpa using h) hv
    rw [List.flatten_cons, List.getElem?_append_right (by rw [h1, Nat.add_mul]; omega), h1, Nat.add_mul]
    rw [show i * k + 1 * k + j - k = i * k + j by omega]
    exact ih
section own
variable {P : Program} {n : Nat} {env : Env} {Γ : List SProp} {L : Loc} {ty t T : TypeId} {x y : Operand} {v : Value} {a : Option Addr} {c k i : Nat} {rows : List (List Value)} {M : Seg}
theorem Own.cell {X : Cx} {w : World} {H : Hp} (h : Own T k rows a c M) (hL : L[i]? = some M) (h3 : St X w H L) {p j : Nat} {r : List Value} (hr : rows[p]? = some r) (hv : r[j]? = some v) :
    w.cell? (((adr a).add (p * k)).add j) = some v := by
  obtain ⟨hk, hM⟩ := h
  rcases hM with ⟨_, _, rfl, _⟩ | ⟨g, cur, rfl, rfl, _, _, hs, ht⟩
  · simp at hr
  · show w.cell? (((⟨g, 0, none⟩ : Addr).add (p * k)).add j) = some v
    have hg : w.heap[g]? = some (.cells cur T (0, 0)) := h3.mem (List.mem_of_getElem? hL) (List.mem_singleton.2 rfl)
    rw [cell_of (cs := cur) (T := T) (z := (0, 0)) (by rw [add_block, add_block]; exact hg) (add_spot j (add_spot _ rfl)), add_off, add_off]
    have := flat_get hk hr hv
    rw [← ht, List.getElem?_take] at this
    split at this
    · simpa using this
    · cases this
theorem Rd.own {p j : Nat} {r : List Value} (h : Own T k rows a c M) (hL : L[i]? = some M) (hr : rows[p]? = some r) (hv : r[j]? = some v) : Rd Γ L (((adr a).add (p * k)).add j) v :=
  fun _ _ _ _ h3 => h.cell hL h3 hr hv
theorem Rd.own0 {p : Nat} {r : List Value} (h : Own T k rows a c M) (hL : L[i]? = some M) (hr : rows[p]? = some r) (hv : r[0]? = some v) : Rd Γ L ((adr a).add (p * k)) v :=
  fun _ _ _ _ h3 => by simpa [Addr.add] using h.cell hL h3 hr hv
theorem RdS.own0 {p : Nat} {r : List Value} (h : Own T k rows a c M) (hL : L[i]? = some M) (hr : rows[p]? = some r) : RdS Γ L ((adr a).add (p * k)) r :=
  fun _ _ _ _ h3 _ _ hj => h.cell hL h3 hr hj
theorem q_indexOwn {ki : IntKind} {z : Int} {p len sz by_ : Nat} {sc : Bool} {zero : Value} {e : TypeId} (ht : P.underlying t = some (.slice e)) (he : tRow P e = some (sc, sz, by_, zero))
    (hx : ev env x = some (.slice a len c)) (hs : Own T sz rows a c M) (hl : len = rows.length) (hy : ev env y = some (.int ki z)) (hz : z = (p : Int)) (hp : p < len) :
    Quiet P (.indexAddr t x y) ty n env Γ L (.pointer (some ((adr a).add (p * sz)))) := by
  obtain ⟨_, hM⟩ := hs
  rcases hM with ⟨_, _, rfl, _⟩ | ⟨g, cur, rfl, rfl, _⟩
  · subst hl; simp at hp
  · exact q_indexRaw ht he hx hy hz hp
/-- The slice turns no more. -/
theorem Own.frozen {X : Cx} {w : World} {H : Hp} (h : Own T k rows a c M) (hL : L[i]? = some M) (h3 : St X w H L) :
    ∃ H', St X w H' (L.eraseIdx i) ∧ H.le H' ∧ (sl a c k rows).holds H' := by
  obtain ⟨hk, hM⟩ := h
  rcases hM with ⟨rfl, rfl, rfl, rfl⟩ | ⟨g, cur, rfl, rfl, h5, h50, hs, ht⟩
  · refine ⟨H, h3.drop (List.eraseIdx_sublist L i), Hp.le_refl H, sl_nil _ _ _ (Nat.zero_le _)⟩
  · obtain ⟨h6, h7⟩ := h3.freeze hL
    refine ⟨_, h6, h7, sl_def.2 ⟨h5, h50, hk, .inr ⟨_, rfl, rfl, cur, T, (0, 0), Hp.with_self H g _, fun p j v hv => ?_⟩⟩⟩
    cases hr : rows[p]? with
    | none => rw [hr] at hv; cases hv
    | some r =>
      rw [hr] at hv
      have := flat_get hk hr hv
      rw [← ht, List.getElem?_take] at this
      split at this
      · simpa using this
      · cases this
theorem At.freezeOwn {X : Cx} {K : Act → World → Prop} (i : Nat) (h : Own T k rows a c M) (hL : L[i]? = some M) (hk : At X n K env (sl a c k rows :: Γ) (L.eraseIdx i)) : At X n K env Γ L :=
  fun ac w H h1 h2 h3 => by
    obtain ⟨H', h4, h5, h6⟩ := h.frozen hL h3
    exact hk ac w H' h1 ⟨h6, h2.mono h5⟩ h4
/-- Rows laid behind others. -/
theorem l_append {e : TypeId} {sc : Bool} {size bytes m len c' : Nat} {zero : Value} {ats : Array TypeId} {a' : Addr} {news : List (List Value)} (hats : ats = #[t, t]) (ht : P.underlying t = some (.slice e)) (he : tRow P e = some (sc, size, bytes, zero))
    (hx : ev env x = some (.slice a len c)) (hy : ev env y = some (.slice (some a') m c')) (hs : Own e size rows a c M) (hl : len = rows.length) (hL : L[i]? = some M)
    (hm : news.length = m) (hn : ∀ r ∈ news, r.length = size) (hsrc : RdS Γ L a' news.flatten) (h1 : news.flatten.all Value.oneCell' = true) (hz : Nat.beq zero.cells.size size = true) (hpos : Nat.blt 0 size = true)
    (hb : (len + m) * bytes ≤ 140737488355328) (hb' : len + m ≤ maxLen) :
    Loud P (.call ⟨.builtin .append, #[x, y], ats⟩) ty n env Γ L (fun v Γ' L' => ∃ a₂ c₂ M₂, v = .slice a₂ (len + m) c₂ ∧ Own e size (rows ++ news) a₂ c₂ M₂ ∧ Γ' = Γ ∧ L' = L.set i M₂) :=
  Loud.ofRun fun X d pos aft g ac w H k1 k2 k3 => by
    subst hats
    subst hl
    obtain ⟨td, inf, e1, e2, _, e3, e4, e5⟩ := tRow_parts he
    have hz' := Nat.eq_of_beq_eq_true hz
    have hpos' : 0 < size := by simpa [Nat.blt_eq] using hpos
    have hfl : news.flatten.length = m * size := by rw [flat_len hn, hm]
    have hall := List.all_eq_true.1 h1
    have hsmall : rows.length + m ≤ 9223372036854775807 := by simp only [maxLen] at hb'; omega
    obtain ⟨hk, hM⟩ := hs
    have hk2 : ∀ r ∈ rows ++ news, r.length = size := fun r hr => (List.mem_append.1 hr).elim (hk r) (hn r)
    have hexec : ∀ {v w'}, (Builtin.append_ #[t, t] ty #[.slice a rows.length c, .slice (some a') m c']).run P w = .ok v w' →
        (execOp ac.eval ⟨d, .call ⟨.builtin .append, #[x, y], #[t, t]⟩, ty, pos, aft, g⟩).run P w = .ok (.value v) w' := fun h => by
      simp [execOp, resolve, invoke, builtin, k1.ev hx, k1.ev hy, h]
    subst e3
    subst e4
    -- a new row
    have grown : ∀ (old : Nat) (olds : List Value), olds.length = rows.length * inf.size → olds = rows.flatten → ∀ (R : Seg), StF X w H R →
        ∃ M₂, Own e inf.size (rows ++ news) (some ⟨w.heap.size, 0, none⟩) (grownCap w (rows.length + m) old e) M₂ ∧
          StF X (w.drew.alloc (.cells (olds.toArray ++ news.flatten.toArray ++ Builtin.zeroCells zero.cells (grownCap w (rows.length + m) old e - (rows.length + m))) e)) H (M₂ ++ R) := by
      intro old olds ho1 ho2 R hR
      have hge := grownCap_ge w (rows.length + m) old e
      have hcm := grownCap_le_maxLen w (rows.length + m) old e hb'
      refine ⟨[(w.heap.size, .cells (olds.toArray ++ news.flatten.toArray ++ Builtin.zeroCells zero.cells (grownCap w (rows.length + m) old e - (rows.length + m))) e (0, 0))], ⟨hk2, .inr ⟨_, _, rfl, rfl, by simpa [hm] using hge, hcm, ?_, ?_⟩⟩, (hR.drawn (w.drawn + 1)).push _⟩
      · simp only [Array.size_append, List.size_toArray, size_zeroCells, hz', ho1, hfl, ← Nat.add_mul]
        congr 1
        omega
      · have hlen : (rows ++ news).length * inf.size = (olds ++ news.flatten).length := by rw [List.length_append, List.length_append, ho1, hfl, hm, Nat.add_mul]
        simp only [Array.toList_append, List.append_assoc]
        rw [← List.append_assoc, hlen, List.take_left, ho2, List.flatten_append]
    rcases hM with ⟨rfl, rfl, rfl, rfl⟩ | ⟨b, cur, rfl, rfl, h5, h6, h7, h8⟩
    · by_cases hm0 : m = 0
      · subst hm0
        have hnn : news = [] := List.eq_nil_of_length_eq_zero hm
        subst hnn
        refine ⟨.slice none 0 0, w, H, Γ, _, hexec ?_, ⟨none, 0, [], rfl, Own.nil _ _, rfl, rfl⟩, Hp.le_refl H, k2, ?_⟩
        · simp [Builtin.append_, run_underlying ht, sizeOf, typeInfo, e2, Builtin.lenOf, Builtin.firstCells, loadCells, loadCellsFrom]
        · exact St.back [] hL (k3.front hL)
      · have hr := run_append_nil (P := P) w t ty e inf zero ht e2 e5 a' m c' news.flatten hfl (hsrc X w H k2 k3) (by omega) (by simp at hsmall; omega) (by simp at hb; omega)
        obtain ⟨M₂, g1, g2⟩ := grown 0 [] (by simp) (by simp) _ (k3.front hL)
        simp only [List.length_nil, Nat.zero_add] at g1 g2 ⊢
        refine ⟨_, _, H, Γ, _, hexec hr, ⟨_, _, M₂, rfl, g1, rfl, rfl⟩, Hp.le_refl H, k2, St.back M₂ hL ?_⟩
        simpa using g2
    · have hg : w.heap[b]? = some (.cells cur e (0, 0)) := k3.mem (List.mem_of_getElem? hL) (List.mem_singleton.2 rfl)
      have hol : rows.flatten.length = rows.length * inf.size := flat_len hk
      by_cases hroom : rows.length + m ≤ c
      · have hfit : rows.length * inf.size + news.flatten.length ≤ cur.size := by rw [hfl, h7, ← Nat.add_mul]; exact Nat.mul_le_mul_right _ hroom
        have hr := run_append_room (P := P) w t ty e inf ht e2 b rows.length c cur hg a' m c' news.flatten hfl (hsrc X w H k2 k3) hall hroom hfit
        refine ⟨_, _, H, Γ, _, hexec hr, ⟨_, _, [(b, .cells (cur.toList.take (rows.length * inf.size) ++ news.flatten ++ cur.toList.drop (rows.length * inf.size + news.flatten.length)).toArray e (0, 0))], rfl, ⟨hk2, .inr ⟨b, _, rfl, rfl, by simpa [hm] using hroom, h6, ?_, ?_⟩⟩, rfl, rfl⟩, Hp.le_refl H, k2, ?_⟩
        · simp only [List.size_toArray, List.length_append, List.length_take, List.length_drop, Array.length_toList]
          omega
        · have hlen : (rows ++ news).length * inf.size = (rows.flatten ++ news.flatten).length := by rw [List.length_append, List.length_append, hol, hfl, hm, Nat.add_mul]
          rw [h8, hlen, List.take_left, List.flatten_append]
        · exact St.back _ hL ((k3.front hL).set rfl rfl rfl (setRow_heap w b cur _ e (0, 0) hg) fun c hc => setRow_other w b c _ hc)
      · have holds : ∀ j u, rows.flatten[j]? = some u → w.cell? ((⟨b, 0, none⟩ : Addr).add j) = some u := fun j u hu => by
          rw [cell_of (cs := cur) (T := e) (z := (0, 0)) (by rw [add_block]; exact hg) (add_spot j rfl), add_off]
          rw [← h8, List.getElem?_take] at hu
          split at hu
          · simpa using hu
          · cases hu
        have hr := run_append_grow (P := P) w t ty e inf zero ht e2 e5 ⟨b, 0, none⟩ rows.length c rows.flatten hol holds a' m c' news.flatten hfl (hsrc X w H k2 k3) (by omega) (by omega) (growslice_fits (by omega) hb)
        have hR : StF X w H (L.eraseIdx i).flatten := (k3.front hL).drop (by simp)
        obtain ⟨M₂, g1, g2⟩ := grown c rows.flatten hol rfl _ hR
        exact ⟨_, _, H, Γ, _, hexec hr, ⟨_, _, M₂, rfl, g1, rfl, rfl⟩, Hp.le_refl H, k2, St.back M₂ hL g2⟩
end own
section calls
variable {P : Program} {n : Nat} {env : Env} {Γ : List SProp} {L : Loc} {ty : TypeId}
/-- A function that can be entered. -/
def Enters (P : Program) (f : FuncId) : Prop := ∀ args w, (callFunc f args).run P w = .ok (.enter f args) w
theorem Enters.mk' {f : FuncId} {fn : Func} {c : Code} (hf : P.funcs[f]? = some fn) (hb : fn.body = some c) (hn : (fn.name == "runtime.NumGoroutine") = false) : Enters P f := fun args w => by
  simp only [callFunc, Sem.run_bind, run_program, Result.andThen_ok, hf, hn, Bool.false_eq_true, if_false, hb, Option.isNone_some]
  rfl
theorem wp_of_con {f : FuncId} {args : List Value} {pre : List SProp} {M L0 : Loc} {R : Value → List SProp → Loc → Prop} {X : Cx} {w : World} {H : Hp} {a : Act} {o : Oper} {K : Act → World → Prop} {Q : Exit → Act → World → Prop}
    (he : (execOp a.eval o).run P w = .ok (.enter f args.toArray) w) (c : Con P f args pre M R) (hp : Holds pre H) (hΓ : Holds Γ H) (hs : St X w H (M ++ L0))
    (hk : ∀ v Γ' M' w' H', R v Γ' M' → H.le H' → Holds (Γ' ++ Γ) H' → St X w' H' (M' ++ L0) → K (a.put o.dst v) w') : o.wp P a w K Q := by
  unfold Oper.wp
  rw [he]
  refine (c X w H L0 hp hs).mono ?_
  rintro e w' ⟨v, Γ', M', H', rfl, h1, h2, h3, h4⟩
  exact hk v Γ' M' w' H' h1 h2 (h3.app (hΓ.mono h2)) h4
/-- What a call leaves. -/
def Left (Γ : List SProp) (L0 : Loc) (R : Value → List SProp → Loc → Prop) : Value → List SProp → Loc → Prop :=
  fun v Γ' L' => ∃ Γr Mr, R v Γr Mr ∧ Γ' = Γr ++ Γ ∧ L' = Mr ++ L0
theorem l_call {f : FuncId} {args : List Operand} {vs : List Value} {ats : Array TypeId} {pre : List SProp} {M L0 : Loc} {R : Value → List SProp → Loc → Prop} (hf : Enters P f) (ha : evs env args = some vs)
    (c : Con P f vs pre M R) (hp : ∀ H, Holds Γ H → Holds pre H) (hL : (M ++ L0).Perm L) : Loud P (.call ⟨.value (.func f), args.toArray, ats⟩) ty n env Γ L (Left Γ L0 R) :=
  fun X d pos aft g a w H h1 h2 h3 K Q hk => by
    refine wp_of_con (Γ := Γ) (L0 := L0) ?_ c (hp H h2) h2 (h3.perm hL) fun v Γ' M' w' H' k1 k2 k3 k4 => hk v _ _ w' H' ⟨Γ', M', k1, rfl, rfl⟩ k2 k3 k4
    have := h1.evs ha
    have e : (args.toArray.map a.eval) = vs.toArray := by simp [this]
    simp only [execOp, resolve, Sem.run_bind, e]
    show Result.andThen (Sem.run P (Deferred.ofValue (.func (.func f) #[] #[]) vs.toArray) w) _ = _
    simp [Deferred.ofValue, invoke]
    exact hf _ w
/-- A call through a value. -/
theorem l_callV {f : FuncId} {x : Operand} {first captured : Array Value} {args : List Operand} {vs : List Value} {ats : Array TypeId} {pre : List SProp} {M L0 : Loc} {R : Value → List SProp → Loc → Prop} {all : List Value} (hf : Enters P f)
    (hx : ev env x = some (.func (.func f) first captured)) (ha : evs env args = some vs) (hall : first ++ vs.toArray ++ captured = all.toArray)
    (c : Con P f all pre M R) (hp : ∀ H, Holds Γ H → Holds pre H) (hL : (M ++ L0).Perm L) : Loud P (.call ⟨.value x, args.toArray, ats⟩) ty n env Γ L (Left Γ L0 R) :=
  fun X d pos aft g a w H h1 h2 h3 K Q hk => by
    refine wp_of_con (Γ := Γ) (L0 := L0) ?_ c (hp H h2) h2 (h3.perm hL) fun v Γ' M' w' H' k1 k2 k3 k4 => hk v _ _ w' H' ⟨Γ', M', k1, rfl, rfl⟩ k2 k3 k4
    have := h1.evs ha
    have e : (args.toArray.map a.eval) = vs.toArray := by simp [this]
    simp only [execOp, resolve, Sem.run_bind, e, h1.ev hx]
    simp [Deferred.ofValue, invoke, hall]
    exact hf _ w
end calls
section results
variable {P : Program} {X : Cx} {n : Nat} {env : Env} {Γ : List SProp} {L : Loc}
/-- What a result variable holds. -/
def RVal (P : Program) (env : Env) (Γ : List SProp) (L : Loc) : ResultVar → Value → Prop
  | .tmp t, v => lk env t = some v
  | .cell p ty, v => ∃ a, lk env p = some (.pointer (some a)) ∧ ∃ sc size bytes zero, tRow P ty = some (sc, size, bytes, zero) ∧
      ((sc = true ∧ Rd Γ L a v) ∨ (sc = false ∧ ∃ vs : List Value, vs.length = size ∧ v = .agg vs.toArray ∧ RdS Γ L a vs))
theorem RVal.tmp {t : Tmp} {v : Value} (h : lk env t = some v) : RVal P env Γ L (.tmp t) v := h
theorem RVal.cell {p ty : Nat} {a : Addr} {v : Value} {size bytes : Nat} {zero : Value} (h : lk env p = some (.pointer (some a))) (ht : tRow P ty = some (true, size, bytes, zero)) (hr : Rd Γ L a v) : RVal P env Γ L (.cell p ty) v :=
  ⟨a, h, _, _, _, _, ht, .inl ⟨rfl, hr⟩⟩
theorem RVal.cellS {p ty : Nat} {a : Addr} {vs : List Value} {size bytes : Nat} {zero : Value} (h : lk env p = some (.pointer (some a))) (ht : tRow P ty = some (false, size, bytes, zero)) (hr : RdS Γ L a vs) (hs : vs.length = size) :
    RVal P env Γ L (.cell p ty) (.agg vs.toArray) :=
  ⟨a, h, _, _, _, _, ht, .inr ⟨rfl, vs, hs, rfl, hr⟩⟩
inductive RVals (P : Program) (env : Env) (Γ : List SProp) (L : Loc) : List ResultVar → List Value → Prop where
  | nil : RVals P env Γ L [] []
  | cons {r : ResultVar} {v : Value} {rs : List ResultVar} {vs : List Value} (h : RVal P env Γ L r v) (t : RVals P env Γ L rs vs) : RVals P env Γ L (r :: rs) (v :: vs)
def oneRes (a : Act) : ResultVar → Sem Value
  | .tmp t => pure (a.tmps.getD t undef)
  | .cell p t => do loadVar t (← asAddr (a.tmps.getD p undef))
theorem RVal.run {r : ResultVar} {v : Value} (h : RVal P env Γ L r v) {a : Act} {w : World} {H : Hp} (h1 : Agr n env a) (h2 : Holds Γ H) (h3 : St X w H L) :
    (oneRes a r).run P w = .ok v w := by
  cases r with
  | tmp t =>
    have := h1.get t v h
    simp [oneRes, this]
  | cell p ty =>
    obtain ⟨ad, e, sc, size, bytes, zero, ht, hv⟩ := h
    have e1 := h1.get p _ e
    rcases hv with ⟨rfl, hr⟩ | ⟨rfl, vs, hs, rfl, hr⟩
    · simp [oneRes, e1, asAddr, loadVar, tRow_agg ht, hr X w H h2 h3]
    · have := run_loadCells_list (P := P) w ad vs (hr X w H h2 h3)
      rw [hs] at this
      simp [oneRes, e1, asAddr, loadVar, tRow_agg ht, tRow_size ht, this]
theorem RVals.run {a : Act} {w : World} {H : Hp} (h1 : Agr n env a) (h2 : Holds Γ H) (h3 : St X w H L) : ∀ {rs : List ResultVar} {vs : List Value}, RVals P env Γ L rs vs →
    (rs.mapM (oneRes a) : Sem (List Value)).run P w = .ok vs w
  | [], _, .nil => by simp
  | r :: rs, _, .cons h t => by
    have e1 := h.run h1 h2 h3
    have e2 := RVals.run h1 h2 h3 t
    rw [List.mapM_cons, Sem.run_bind, e1, Result.andThen_ok, Sem.run_bind, e2]
    rfl
def resVal : List Value → Value
  | [v] => v
  | vs => .tuple vs.toArray
theorem At.results {fn : Func} {H₀ : Hp} {L₀ M : Loc} {R : Value → List SProp → Loc → Prop} {rs : List ResultVar} {vs : List Value} {Γr : List SProp}
    (hr : fn.results = rs.toArray) (hv : RVals P env Γ L rs vs) (hold : old H₀ ∈ Γ) (hΓ : ∀ H, Holds Γ H → Holds Γr H) (hL : (M ++ L₀).Sublist L) (hR : R (resVal vs) Γr M) :
    At X n (Post P fn X H₀ L₀ R .ret) env Γ L := fun a w H h1 h2 h3 => by
  refine ⟨h1.defers, resVal vs, ?_, resVal vs, Γr, M, H, rfl, hR, Holds.mem hold h2, hΓ H h2, h3.drop hL⟩
  have e := RVals.run h1 h2 h3 hv
  have e0 : Go.results fn a.tmps = (fn.results.mapM (oneRes a) >>= fun vs => pure (if h : vs.size = 1 then vs[0] else .tuple vs)) := rfl
  rw [e0, hr, Array.mapM_eq_mapM_toList, Sem.run_bind, map_eq_pure_bind, Sem.run_bind, e]
  simp only [Result.andThen_ok, Sem.run_pure]
  match vs with
  | [] => rfl
  | [v] => rfl
  | v :: u :: us => simp [resVal]
theorem At.resultsN {fn : Func} {H₀ : Hp} {L₀ M : Loc} {R : Value → List SProp → Loc → Prop} {rs : List ResultVar} {vs : List Value} {Γr : List SProp}
    (hr : fn.results = rs.toArray) (hv : RVals P env Γ L rs vs) (hold : old H₀ ∈ Γ) (hΓ : ∀ H, Holds Γ H → Holds Γr H) (hL : (M ++ L₀).Sublist L) (hR : R (resVal vs) Γr M) :
    At X n (Post P fn X H₀ L₀ R .normal) env Γ L := fun a w H h1 h2 h3 => At.results hr hv hold hΓ hL hR a w H h1 h2 h3
end results
end E
end Go.Proofs.Ytmkodknmknfdkaa
set_option linter.unusedVariables false
set_option linter.unusedSimpArgs false
namespace Go.Proofs.Ytmkodknmknfdkaa
namespace E
open Go
section calls
variable {X : Cx} {n : Nat} {P : Program} {ops : Array Oper} {Q : Exit → Act → World → Prop} {rest : List Oper} {env : Env} {Γ : List SProp} {L : Loc}
variable {d : Nat} {ty : TypeId} {pos : String} {aft : Array Edge} {f : FuncId} {args : List Operand} {vs : List Value} {ats : Array TypeId} {pre : List SProp} {M L0 : Loc} {R : Value → List SProp → Loc → Prop}
theorem At.call (hf : Enters P f) (ha : evs env args = some vs) (c : Con P f vs pre M R) (hp : ∀ H, Holds Γ H → Holds pre H) (hL : (M ++ L0).Perm L) (hd : Nat.blt d n = true)
    (h : ∀ v Γr Mr, R v Γr Mr → At X n (wpList P ops Q rest) ((d, v) :: env) (Γr ++ Γ) (Mr ++ L0)) :
    At X n (wpList P ops Q (⟨some d, .call ⟨.value (.func f), args.toArray, ats⟩, ty, pos, aft, none⟩ :: rest)) env Γ L :=
  At.loud (l_call hf ha c hp hL) hd fun v _ _ ⟨Γr, Mr, hr, e1, e2⟩ => by subst e1; subst e2; exact h v Γr Mr hr
theorem At.callV {x : Operand} {first captured : Array Value} {all : List Value} (hf : Enters P f) (hx : ev env x = some (.func (.func f) first captured)) (ha : evs env args = some vs) (hall : first ++ vs.toArray ++ captured = all.toArray)
    (c : Con P f all pre M R) (hp : ∀ H, Holds Γ H → Holds pre H) (hL : (M ++ L0).Perm L) (hd : Nat.blt d n = true)
    (h : ∀ v Γr Mr, R v Γr Mr → At X n (wpList P ops Q rest) ((d, v) :: env) (Γr ++ Γ) (Mr ++ L0)) :
    At X n (wpList P ops Q (⟨some d, .call ⟨.value x, args.toArray, ats⟩, ty, pos, aft, none⟩ :: rest)) env Γ L :=
  At.loud (l_callV hf hx ha hall c hp hL) hd fun v _ _ ⟨Γr, Mr, hr, e1, e2⟩ => by subst e1; subst e2; exact h v Γr Mr hr
variable {l tail : List Oper} {r : Ord} {i : Nat} {Lr : Loc}
theorem AtO.call (ho : l[i]? = some ⟨some d, .call ⟨.value (.func f), args.toArray, ats⟩, ty, pos, aft, none⟩) (hf : Enters P f) (ha : evs env args = some vs) (c : Con P f vs pre M R) (hp : ∀ H, Holds Γ H → Holds pre H) (hL : (M ++ L0).Perm L) (hd : Nat.blt d n = true)
    (hs : Lr.Sublist L0) (h : ∀ v Γr Mr, R v Γr Mr → AtO X n P l Q tail r Lr ((d, v) :: env) (Γr ++ Γ) (Mr ++ L0)) :
    AtO X n P l Q tail (.o i r) Lr env Γ L :=
  AtO.loud ho (l_call hf ha c hp hL) hd (fun v _ _ ⟨Γr, Mr, hr, e1, e2⟩ => by subst e1; subst e2; exact ⟨fun _ hh => hh.right, hs.trans (List.sublist_append_right Mr L0)⟩)
    fun v _ _ ⟨Γr, Mr, hr, e1, e2⟩ => by subst e1; subst e2; exact h v Γr Mr hr
theorem AtO.callV {x : Operand} {first captured : Array Value} {all : List Value} (ho : l[i]? = some ⟨some d, .call ⟨.value x, args.toArray, ats⟩, ty, pos, aft, none⟩) (hf : Enters P f) (hx : ev env x = some (.func (.func f) first captured)) (ha : evs env args = some vs) (hall : first ++ vs.toArray ++ captured = all.toArray)
    (c : Con P f all pre M R) (hp : ∀ H, Holds Γ H → Holds pre H) (hL : (M ++ L0).Perm L) (hd : Nat.blt d n = true)
    (hs : Lr.Sublist L0) (h : ∀ v Γr Mr, R v Γr Mr → AtO X n P l Q tail r Lr ((d, v) :: env) (Γr ++ Γ) (Mr ++ L0)) :
    AtO X n P l Q tail (.o i r) Lr env Γ L :=
  AtO.loud ho (l_callV hf hx ha hall c hp hL) hd (fun v _ _ ⟨Γr, Mr, hr, e1, e2⟩ => by subst e1; subst e2; exact ⟨fun _ hh => hh.right, hs.trans (List.sublist_append_right Mr L0)⟩)
    fun v _ _ ⟨Γr, Mr, hr, e1, e2⟩ => by subst e1; subst e2; exact h v Γr Mr hr
end calls
section cut
variable {X : Cx} {n : Nat} {P : Program} {Q : Exit → Act → World → Prop} {env : Env} {Γ : List SProp} {L : Loc}
/-- What the ways come to where they meet again. -/
def Meet (X : Cx) (n : Nat) {ι : Type} (e : ι → Env) (G : ι → List SProp) (M : ι → Loc) (I : ι → Prop) (a : Act) (w : World) : Prop :=
  ∃ j H, I j ∧ Agr n (e j) a ∧ Holds (G j) H ∧ St X w H (M j)
theorem At.meet {ι : Type} {e : ι → Env} {G : ι → List SProp} {M : ι → Loc} {I : ι → Prop} (j : ι)
    (hI : I j) (he : allLk env (e j)) (hG : ∀ H, Holds Γ H → Holds (G j) H) (hM : (M j).Sublist L) : At X n (Meet X n e G M I) env Γ L :=
  fun _ _ H h1 h2 h3 => ⟨j, H, hI, h1.weaken he.get, hG H h2, h3.drop hM⟩
theorem At.cut {x y : Code} {ι : Type} (e : ι → Env) (G : ι → List SProp) (M : ι → Loc) (I : ι → Prop)
    (h : At X n (x.wp P (Exit.then (Meet X n e G M I) Q)) env Γ L) (h' : ∀ i, I i → At X n (y.wp P Q) (e i) (G i) (M i)) : At X n ((Code.seq x y).wp P Q) env Γ L :=
  aE (h.imp fun a w hw => wp_mono hw fun ex a' w' hq => by
    cases ex <;> first | exact hq | skip
    obtain ⟨j, H, hI, k1, k2, k3⟩ := hq
    exact h' j hI a' w' H k1 k2 k3)
/-- A frame's words but for some slots. -/
def without (ws : List Nat) : Env → Env
  | [] => []
  | (d, v) :: e => bif ws.any (Nat.beq d ·) then without ws e else (d, v) :: without ws e
theorem without_lk {ws : List Nat} : ∀ {env : Env} {t : Nat} {v : Value}, lk (without ws env) t = some v → lk env t = some v ∧ ws.any (Nat.beq t ·) = false
  | [], t, v, h => by simp [without, lk] at h
  | (d, u) :: e, t, v, h => by
    simp only [without] at h
    cases hw : ws.any (Nat.beq d ·)
    · rw [hw] at h
      simp only [cond_false, lk] at h
      simp only [lk]
      cases hb : Nat.beq d t
      · rw [hb] at h; exact without_lk h
      · rw [hb] at h
        have := Nat.eq_of_beq_eq_true hb
        subst this
        exact ⟨h, hw⟩
    · rw [hw] at h
      simp only [cond_true] at h
      obtain ⟨h1, h2⟩ := without_lk h
      refine ⟨?_, h2⟩
      simp only [lk]
      cases hb : Nat.beq d t
      · exact h1
      · have := Nat.eq_of_beq_eq_true hb
        subst this
        rw [hw] at h2
        cases h2
/-- Bindings that all speak of the slots ws, ahead of others. -/
theorem lk_skip {ws : List Nat} {t : Nat} (ht : ws.any (Nat.beq t ·) = false) : ∀ {e : Env} (m : Nat), (e.take m).all (fun p => ws.any (Nat.beq p.1 ·)) = true → lk e t = lk (e.drop m) t
  | _, 0, _ => rfl
  | [], m + 1, _ => rfl
  | (d, v) :: e, m + 1, h => by
    simp only [List.take_succ_cons, List.all_cons, Bool.and_eq_true] at h
    simp only [List.drop_succ_cons, lk]
    cases hb : Nat.beq d t
    · exact lk_skip ht m h.2
    · have := Nat.eq_of_beq_eq_true hb
      subst this
      rw [h.1] at ht
      cases ht
/-- What a frame must still tell: of the slots that change, and of all others as before. -/
def Tells (env : Env) (chg : Env) (ws : List Nat) (base : Env) : Prop := allLk env chg ∧ ∀ t v, lk (without ws base) t = some v → lk env t = some v
theorem Tells.start {env chg : Env} {ws : List Nat} (h : allLk env chg) : Tells env chg ws env := ⟨h, fun _ _ k => (without_lk k).1⟩
theorem Tells.end {env chg base : Env} {ws : List Nat} (m : Nat) (h : allLk env chg) (hd : env.drop m = without ws base) (hm : (env.take m).all (fun p => ws.any (Nat.beq p.1 ·)) = true) : Tells env chg ws base :=
  ⟨h, fun t v k => by rw [lk_skip (without_lk k).2 m hm, hd]; exact k⟩
theorem lk_append {e e' : Env} {t : Nat} {v : Value} (h : lk (e ++ e') t = some v) : lk e t = some v ∨ (lk e' t = some v) := by
  induction e with
  | nil => exact .inr h
  | cons p e ih =>
    obtain ⟨d, u⟩ := p
    simp only [List.cons_append, lk] at h ⊢
    cases hb : Nat.beq d t
    · rw [hb] at h; exact ih h
    · rw [hb] at h; exact .inl h
theorem Tells.get {env chg base : Env} {ws : List Nat} (h : Tells env chg ws base) : ∀ t v, lk (chg ++ without ws base) t = some v → lk env t = some v := fun t v k => by
  rcases lk_append k with k | k
  · exact h.1.get t v k
  · exact h.2 t v k
theorem At.front {K : Act → World → Prop} (i : Nat) {s : Seg} (hi : L[i]? = some s) (h : At X n K env Γ (s :: L.eraseIdx i)) : At X n K env Γ L := At.perm _ (perm_at hi).symm h
theorem At.againK {ι : Type} {ws : List Nat} {base : Env} {Γ₀ : List SProp} {L₀ : Loc} {e : ι → Env} {G : ι → List SProp} {M : ι → Loc} {I : ι → Prop} {μ : ι → Nat} {i : ι} (j : ι)
    (hI : I j) (hμ : μ j < μ i) (he : Tells env (e j) ws base) (hG : ∀ H, Holds Γ H → Holds (G j ++ Γ₀) H) (hM : (M j ++ L₀).Sublist L) :
    At X n (Round X n (fun i => e i ++ without ws base) (fun i => G i ++ Γ₀) (fun i => M i ++ L₀) I μ i) env Γ L :=
  fun _ _ H h1 h2 h3 => ⟨j, H, hI, hμ, h1.weaken he.get, hG H h2, h3.drop hM⟩
theorem At.loopS {c : Code} {ι : Type} (e : ι → Env) (G : ι → List SProp) (M : ι → Loc) (I : ι → Prop) (μ : ι → Nat) (i₀ : ι)
    (h₀ : I i₀) (round : ∀ i, I i → At X n (c.wp P (Exit.then (Round X n e G M I μ i) Q)) (e i) (G i) (M i)) :
    At X n ((Code.loop c).wp P Q) (e i₀) (G i₀) (M i₀) := At.loopA e G M I μ i₀ h₀ round
theorem At.loopK {c : Code} {ι : Type} (ws : List Nat) (e : ι → Env) (G : ι → List SProp) (M : ι → Loc) (L₀ : Loc) (I : ι → Prop) (μ : ι → Nat) (i₀ : ι)
    (h₀ : I i₀) (he : allLk env (e i₀)) (hG : ∀ H, Holds Γ H → Holds (G i₀) H) (hM : (M i₀ ++ L₀).Sublist L)
    (round : ∀ i, I i → At X n (c.wp P (Exit.then (Round X n (fun i => e i ++ without ws env) (fun i => G i ++ Γ) (fun i => M i ++ L₀) I μ i) Q)) (e i ++ without ws env) (G i ++ Γ) (M i ++ L₀)) :
    At X n ((Code.loop c).wp P Q) env Γ L := fun a w H h1 h2 h3 =>
  At.loopS (fun i => e i ++ without ws env) (fun i => G i ++ Γ) (fun i => M i ++ L₀) I μ i₀ h₀ round a w H
    (h1.weaken (Tells.start he).get) ((hG H h2).app h2) (h3.drop hM)
theorem At.meetK {ι : Type} {ws : List Nat} {base : Env} {Γ₀ : List SProp} {L₀ : Loc} {e : ι → Env} {G : ι → List SProp} {M : ι → Loc} {I : ι → Prop} (j : ι)
    (hI : I j) (he : Tells env (e j) ws base) (hG : ∀ H, Holds Γ H → Holds (G j ++ Γ₀) H) (hM : (M j ++ L₀).Sublist L) :
    At X n (Meet X n (fun i => e i ++ without ws base) (fun i => G i ++ Γ₀) (fun i => M i ++ L₀) I) env Γ L :=
  fun _ _ H h1 h2 h3 => ⟨j, H, hI, h1.weaken he.get, hG H h2, h3.drop hM⟩
theorem At.cutK {x y : Code} {ι : Type} (ws : List Nat) (e : ι → Env) (G : ι → List SProp) (M : ι → Loc) (L₀ : Loc) (I : ι → Prop)
    (h : At X n (x.wp P (Exit.then (Meet X n (fun i => e i ++ without ws env) (fun i => G i ++ Γ) (fun i => M i ++ L₀) I) Q)) env Γ L)
    (h' : ∀ i, I i → At X n (y.wp P Q) (e i ++ without ws env) (G i ++ Γ) (M i ++ L₀)) : At X n ((Code.seq x y).wp P Q) env Γ L :=
  At.cut _ _ _ I h h'
end cut
end E
end Go.Proofs.Ytmkodknmknfdkaa
set_option linter.unusedVariables false
set_option linter.unusedSimpArgs false
namespace Go.Proofs.Ytmkodknmknfdkaa
namespace E
open Go
/-- What a plain operation comes to, reckoned on the frame's words alone. -/
def plainV (env : Env) : Op → Option Value
  | .move x => ev env x
  | .assign x => ev env x
  | .pick c a b => match ev env c with
    | some (.bool true) => ev env a
    | some (.bool false) => ev env b
    | _ => none
  | .binOp .eql _ x y _ => match ev env x, ev env y with
    | some (.int k a), some (.int k' b) => bif decide (k = k') then some (.bool (decide (a = b))) else none
    | _, _ => none
  | .binOp .neq _ x y _ => match ev env x, ev env y with
    | some (.int k a), some (.int k' b) => bif decide (k = k') then some (.bool (decide (a ≠ b))) else none
    | _, _ => none
  | .binOp .lss _ x y _ => match ev env x, ev env y with
    | some (.int k a), some (.int k' b) => bif decide (k = k') then some (.bool (decide (a < b))) else none
    | _, _ => none
  | .binOp .leq _ x y _ => match ev env x, ev env y with
    | some (.int k a), some (.int k' b) => bif decide (k = k') then some (.bool (decide (a ≤ b))) else none
    | _, _ => none
  | .binOp .gtr _ x y _ => match ev env x, ev env y with
    | some (.int k a), some (.int k' b) => bif decide (k = k') then some (.bool (decide (b < a))) else none
    | _, _ => none
  | .binOp .geq _ x y _ => match ev env x, ev env y with
    | some (.int k a), some (.int k' b) => bif decide (k = k') then some (.bool (decide (b ≤ a))) else none
    | _, _ => none
  | .unOp .not _ x => match ev env x with
    | some (.bool b) => some (.bool (!b))
    | _ => none
  | .nilCheck x => match ev env x with
    | some (.pointer (some a)) => some (.pointer (some a))
    | _ => none
  | .extract x i => match ev env x with
    | some (.tuple vs) => vs[i]?
    | _ => none
  | _ => none
theorem plainV_quiet {P : Program} {op : Op} {ty : TypeId} {n : Nat} {env : Env} {Γ : List SProp} {L : Loc} {v : Value} (h : plainV env op = some v) : Quiet P op ty n env Γ L v := by
  cases op with
  | move x => exact q_move h
  | assign x => exact q_assign h
  | pick c a b =>
    simp only [plainV] at h
    split at h
    · rename_i hc; exact q_pickT hc h
    · rename_i hc; exact q_pickF hc h
    · cases h
  | unOp op t x =>
    cases op <;> simp only [plainV] at h <;> try (cases h; done)
    split at h
    · rename_i b hx
      cases h
      exact q_not hx
    · cases h
  | nilCheck x =>
    simp only [plainV] at h
    split at h
    · rename_i a hx
      cases h
      exact q_nilCheck hx
    · cases h
  | extract x i =>
    simp only [plainV] at h
    split at h
    · rename_i vs hx; exact q_extract hx h
    · cases h
  | binOp op t x y t' =>
    cases op <;> simp only [plainV] at h <;> try (cases h; done)
    all_goals
      split at h
      · rename_i k a k' b hx hy
        cases hk : decide (k = k')
        · rw [hk] at h; cases h
        · rw [hk] at h
          have := of_decide_eq_true hk
          subst this
          cases h
          first | exact q_eql hx hy | exact q_neq hx hy | exact q_lss hx hy | exact q_leq hx hy | exact q_gtr hx hy | exact q_geq hx hy
      · cases h
  | _ => cases h
/-- k operations of a list, each of them plain or shut. -/
def skim (ops : List Oper) : Nat → List Oper → Env → Option (List Oper × Env)
  | 0, l, env => some (l, env)
  | k + 1, ⟨some d, op, _, _, _, none⟩ :: l, env => match plainV env op with
    | some v => skim ops k l ((d, v) :: env)
    | none => none
  | k + 1, ⟨none, op, _, _, _, none⟩ :: l, env => match plainV env op with
    | some _ => skim ops k l env
    | none => none
  | k + 1, ⟨some d, op, _, _, _, some (j, c)⟩ :: l, env => match gd ops env j with
    | some b => bif b == c then (match plainV env op with
      | some v => skim ops k l ((d, v) :: env)
      | none => none) else skim ops k l ((d, undef) :: env)
    | none => bif gdU ops env j then skim ops k l ((d, undef) :: env) else none
  | k + 1, ⟨none, op, _, _, _, some (j, c)⟩ :: l, env => match gd ops env j with
    | some b => bif b == c then (match plainV env op with
      | some _ => skim ops k l env
      | none => none) else skim ops k l env
    | none => bif gdU ops env j then skim ops k l env else none
  | _, _, _ => none
section
variable {X : Cx} {n : Nat} {P : Program} {ops : Array Oper} {Q : Exit → Act → World → Prop} {rest l l' : List Oper} {env env' : Env} {Γ : List SProp} {L : Loc}
def dstsOk (n : Nat) (l : List Oper) : Nat → Bool
  | 0 => true
  | k + 1 => match l with
    | [] => true
    | o :: l => (match o.dst with | some d => Nat.blt d n | none => true) && dstsOk n l k
theorem aS {full : List Oper} : ∀ (k : Nat) {l l' : List Oper} {env env' : Env}, skim full k l env = some (l', env') → dstsOk n l k = true → At X n (wpList P full.toArray Q l') env' Γ L → At X n (wpList P full.toArray Q l) env Γ L
  | 0, l, l', env, env', h, _, hk => by
    simp only [E.skim, Option.some.injEq, Prod.mk.injEq] at h
    obtain ⟨rfl, rfl⟩ := h
    exact hk
  | k + 1, [], l', env, env', h, _, hk => by simp [E.skim] at h
  | k + 1, ⟨dst, op, ty, pos, aft, g⟩ :: l, l', env, env', h, hd, hk => by
    simp only [dstsOk, Bool.and_eq_true] at hd
    obtain ⟨hd1, hd2⟩ := hd
    cases g with
    | none =>
      cases dst with
      | some d =>
        simp only [E.skim] at h
        split at h
        · rename_i v hv; exact aQ (plainV_quiet hv) hd1 (aS k h hd2 hk)
        · cases h
      | none =>
        simp only [E.skim] at h
        split at h
        · rename_i v hv; exact At.quietN (plainV_quiet hv) (aS k h hd2 hk)
        · cases h
    | some g =>
      obtain ⟨j, c⟩ := g
      cases dst with
      | some d =>
        simp only [E.skim] at h
        split at h
        · rename_i b hg
          cases hb : b == c
          · rw [hb] at h
            exact At.shut hg (by cases b <;> cases c <;> simp_all) hd1 (aS k h hd2 hk)
          · rw [hb] at h
            simp only [cond_true] at h
            split at h
            · rename_i v hv
              exact At.open hg (by simpa using hb) (aQ (plainV_quiet hv) hd1 (aS k h hd2 hk))
            · cases h
        · cases hu : gdU full env j
          · rw [hu] at h; cases h
          · rw [hu] at h
            exact At.shutU hu hd1 (aS k h hd2 hk)
      | none =>
        simp only [E.skim] at h
        split at h
        · rename_i b hg
          cases hb : b == c
          · rw [hb] at h
            exact At.shutN hg (by cases b <;> cases c <;> simp_all) (aS k h hd2 hk)
          · rw [hb] at h
            simp only [cond_true] at h
            split at h
            · rename_i v hv
              exact At.open hg (by simpa using hb) (At.quietN (plainV_quiet hv) (aS k h hd2 hk))
            · cases h
        · cases hu : gdU full env j
          · rw [hu] at h; cases h
          · rw [hu] at h
            exact At.shutUN hu (aS k h hd2 hk)
/-- A truth value, parted. -/
theorem At.split {K : Act → World → Prop} {d : Nat} {t : Bool} (hd : lk env d = some (.bool t)) (hT : t = true → At X n K ((d, .bool true) :: env) Γ L) (hF : t = false → At X n K ((d, .bool false) :: env) Γ L) : At X n K env Γ L :=
  fun a w H h1 h2 h3 => by
    have put : ∀ b, t = b → Agr n ((d, .bool b) :: env) a := fun b hb => ⟨h1.size, h1.defers, fun s v e => by
      subst hb
      simp only [lk] at e
      cases hc : Nat.beq d s
      · rw [hc] at e; exact h1.get s v e
      · rw [hc] at e
        have := Nat.eq_of_beq_eq_true hc
        subst this
        simp only [cond_true, Option.some.injEq] at e
        subst e
        exact h1.get d _ hd⟩
    cases ht : t
    · exact hF ht a w H (put false ht) h2 h3
    · exact hT ht a w H (put true ht) h2 h3
theorem At.splitP {K : Act → World → Prop} {d : Nat} {p : Prop} [Decidable p] (hd : lk env d = some (.bool (decide p))) (hT : p → At X n K ((d, .bool true) :: env) Γ L) (hF : ¬ p → At X n K ((d, .bool false) :: env) Γ L) : At X n K env Γ L :=
  At.split hd (fun e => hT (of_decide_eq_true e)) (fun e => hF (of_decide_eq_false e))
/-- A slot's value, said otherwise. -/
theorem At.say {K : Act → World → Prop} {v : Value} (d : Nat) (u : Value) (hd : lk env d = some v) (hv : v = u) (h : At X n K ((d, u) :: env) Γ L) : At X n K env Γ L :=
  fun a w H h1 h2 h3 => h a w H ⟨h1.size, h1.defers, fun s x e => by
    subst hv
    simp only [lk] at e
    cases hc : Nat.beq d s
    · rw [hc] at e; exact h1.get s x e
    · rw [hc] at e
      have := Nat.eq_of_beq_eq_true hc
      subst this
      simp only [cond_true, Option.some.injEq] at e
      subst e
      exact h1.get d _ hd⟩ h2 h3
/-- A field of a variable, read: its address, then what lies there. -/
theorem aF {d d' : Nat} {ty ty' s t : TypeId} {pos pos' : String} {aft aft' : Array Edge} {x : Operand} {i k sz : Nat} {b : Bool} {pl : List (Nat × Nat × Bool)} {size bytes : Nat} {zero v : Value} {a : Addr}
    (hs : sRow P s = some pl) (ht : tRow P t = some (true, size, bytes, zero)) (hi : pl[i]? = some (k, sz, b)) (hz : Nat.beq sz 0 = false) (hx : ev env x = some (.pointer (some a))) (hr : Rd Γ L (a.add k) v)
    (hd : Nat.blt d n = true) (hd' : Nat.blt d' n = true) (h : At X n (wpList P ops Q rest) ((d', v) :: (d, .pointer (some (a.add k))) :: env) Γ L) :
    At X n (wpList P ops Q (⟨some d, .fieldAddr s x i, ty, pos, aft, none⟩ :: ⟨some d', .load t (.tmp d), ty', pos', aft', none⟩ :: rest)) env Γ L :=
  aQ (q_fieldAddr hs hi hz hx) hd (aQ (q_load ht (by simp [ev, lk]) hr) hd' h)
theorem Tells.meet {env' chg base : Env} {ws : List Nat} (m : Nat) (h : allLk env' chg) (hd : env'.drop m = base) (hm : (env'.take m).all (fun p => ws.any (Nat.beq p.1 ·)) = true) : Tells env' chg ws base :=
  ⟨h, fun t v k => by rw [lk_skip (without_lk k).2 m hm, hd]; exact (without_lk k).1⟩
theorem wpList_app : ∀ {l1 l2 : List Oper} {a : Act} {w : World}, wpList P ops (Exit.then (wpList P ops Q l2) Q) l1 a w → wpList P ops Q (l1 ++ l2) a w
  | [], l2, a, w, h => h
  | o :: l1, l2, a, w, h => by
    unfold wpList at h
    show wpList P ops Q (o :: (l1 ++ l2)) a w
    unfold wpList
    split at h
    · rename_i hw
      rw [if_pos hw]
      rcases h with h | h
      · refine .inl ?_
        have key : ∀ (r : Result Next), o.upon P a (wpList P ops (Exit.then (wpList P ops Q l2) Q) l1) (Exit.then (wpList P ops Q l2) Q) r → o.upon P a (wpList P ops Q (l1 ++ l2)) Q r := by
          intro r hr
          cases r with
          | ok n w' =>
            cases n <;> simp only [Oper.upon] at hr ⊢ <;>
              first
                | exact wpList_app hr
                | exact Calls.mono hr (fun e w'' he => by cases e <;> first | exact wpList_app he | exact he)
                | exact Rows.mono hr (fun _ _ he => wpList_app he)
          | halt x w' => cases x <;> simp only [Oper.upon] at hr ⊢ <;> exact hr
        exact key _ h
      · exact .inr h
    · rename_i hw
      rw [if_neg hw]
      exact wpList_app h
def ahead : Nat → List Oper → List Oper
  | 0, _ => []
  | m + 1, o :: l => o :: ahead m l
  | _ + 1, [] => []
theorem ahead_behind : ∀ {m : Nat} {l t : List Oper}, behind m l = some t → ahead m l ++ t = l
  | 0, l, t, h => by simp [behind] at h; subst h; rfl
  | m + 1, [], t, h => by simp [behind] at h; subst h; rfl
  | m + 1, o :: l, t, h => by simp only [behind] at h; simp [ahead, ahead_behind h]
/-- Ways that meet again within a region: the first m operations, then the others. -/
theorem At.cutOps {ι : Type} (m : Nat) (ws : List Nat) (e : ι → Env) (G : ι → List SProp) (M : ι → Loc) (L₀ : Loc) (I : ι → Prop) (ht : behind m l = some l')
    (h : At X n (wpList P ops (Exit.then (Meet X n (fun i => e i ++ without ws env) (fun i => G i ++ Γ) (fun i => M i ++ L₀) I) Q) (ahead m l)) env Γ L)
    (h' : ∀ i, I i → At X n (wpList P ops Q l') (e i ++ without ws env) (G i ++ Γ) (M i ++ L₀)) : At X n (wpList P ops Q l) env Γ L := fun a w H h1 h2 h3 => by
  have e0 := ahead_behind ht
  rw [← e0]
  refine wpList_app ?_
  have key : ∀ {K K' : Act → World → Prop} (l1 : List Oper) (a : Act) (w : World), (∀ a w, K a w → K' a w) → wpList P ops (Exit.then K Q) l1 a w → wpList P ops (Exit.then K' Q) l1 a w := by
    intro K K' l1
    induction l1 with
    | nil => intro a w hk hh; exact hk a w hh
    | cons o l1 ih =>
      intro a w hk hh
      unfold wpList at hh ⊢
      split at hh
      · rename_i hw
        rw [if_pos hw]
        rcases hh with hh | hh
        · refine .inl ?_
          have key2 : ∀ (r : Result Next), o.upon P a (wpList P ops (Exit.then K Q) l1) (Exit.then K Q) r → o.upon P a (wpList P ops (Exit.then K' Q) l1) (Exit.then K' Q) r := by
            intro r hr
            cases r with
            | ok n w' =>
              cases n <;> simp only [Oper.upon] at hr ⊢ <;>
                first
                  | exact ih _ _ hk hr
                  | exact Calls.mono hr (fun e w'' he => by cases e <;> first | exact ih _ _ hk he | exact he)
                  | exact Rows.mono hr (fun _ _ he => ih _ _ hk he)
            | halt x w' => cases x <;> simp only [Oper.upon] at hr ⊢ <;> exact hr
          exact key2 _ hh
        · exact .inr hh
      · rename_i hw
        rw [if_neg hw]
        exact ih _ _ hk hh
  refine key _ a w ?_ (h a w H h1 h2 h3)
  intro a' w' ⟨j, H', hI, k1, k2, k3⟩
  exact h' j hI a' w' H' k1 k2 k3
theorem AtO.say {tail : List Oper} {r : Ord} {L0 : Loc} {v : Value} (d : Nat) (u : Value) (hd : lk env d = some v) (hv : v = u) (h : AtO X n P l Q tail r L0 ((d, u) :: env) Γ L) : AtO X n P l Q tail r L0 env Γ L := At.say d u hd hv h
theorem AtO.split {tail : List Oper} {r : Ord} {L0 : Loc} {d : Nat} {t : Bool} (hd : lk env d = some (.bool t)) (hT : t = true → AtO X n P l Q tail r L0 ((d, .bool true) :: env) Γ L) (hF : t = false → AtO X n P l Q tail r L0 ((d, .bool false) :: env) Γ L) : AtO X n P l Q tail r L0 env Γ L := At.split hd hT hF
theorem AtO.splitP {tail : List Oper} {r : Ord} {L0 : Loc} {d : Nat} {p : Prop} [Decidable p] (hd : lk env d = some (.bool (decide p))) (hT : p → AtO X n P l Q tail r L0 ((d, .bool true) :: env) Γ L) (hF : ¬ p → AtO X n P l Q tail r L0 ((d, .bool false) :: env) Γ L) : AtO X n P l Q tail r L0 env Γ L := At.splitP hd hT hF
theorem map_get {α β : Type} {f : α → β} {l : List α} {i : Nat} {x : α} (h : l[i]? = some x) : (l.map f)[i]? = some (f x) := by simp [h]
theorem lt_of_get {α : Type} {l : List α} {i : Nat} {x : α} (h : l[i]? = some x) : i < l.length := (List.getElem?_eq_some_iff.1 h).1
theorem get_of_lt {α : Type} {l : List α} {i : Nat} (h : i < l.length) : ∃ x, l[i]? = some x := ⟨_, List.getElem?_eq_getElem h⟩
theorem q_makeFunc {fn : Fn} {first captured : List Operand} {vs us : List Value} {ty : TypeId} (h1 : evs env first = some vs) (h2 : evs env captured = some us) : Quiet P (.makeFunc fn first.toArray captured.toArray) ty n env Γ L (.func fn vs.toArray us.toArray) :=
  fun _ _ _ _ _ ac w _ h _ _ => by
    have e1 := h.evs h1
    have e2 := h.evs h2
    simp [execOp, Instr.makeFunc, e1, e2]
theorem spl_take {cs vs : List Value} {K N : Nat} (h1 : K ≤ cs.length) (h2 : K + vs.length ≤ N) : (spl cs K vs).take N = spl (cs.take N) K vs := by
  have hl : (cs.take K ++ vs).length = K + vs.length := by simp; omega
  unfold spl
  rw [List.take_append, hl, List.take_of_length_le (by omega), List.drop_take, List.take_take, Nat.min_eq_left (by omega)]
/-- A store into a row of an own slice. -/
theorem Own.stored {T : TypeId} {k c p j : Nat} {rows : List (List Value)} {a : Option Addr} {M : Seg} {r vs : List Value} (h : Own T k rows a c M) (hr : rows[p]? = some r) (hj : j + vs.length ≤ r.length) :
    ∃ g cur, a = some ⟨g, 0, none⟩ ∧ M = [(g, .cells cur T (0, 0))] ∧ p * k + j + vs.length ≤ cur.size ∧
      Own T k (rows.set p (spl r j vs)) a c [(g, .cells (spl cur.toList (p * k + j) vs).toArray T (0, 0))] := by
  obtain ⟨hk, hM⟩ := h
  rcases hM with ⟨_, _, rfl, _⟩ | ⟨g, cur, rfl, rfl, h5, h6, h7, h8⟩
  · simp at hr
  · have hp : p < rows.length := lt_of_get hr
    have hrk : r.length = k := hk r (List.mem_of_getElem? hr)
    have hmul : p * k + k ≤ rows.length * k := by rw [← Nat.succ_mul]; exact Nat.mul_le_mul_right _ hp
    have hsz : rows.length * k ≤ cur.size := by rw [h7]; exact Nat.mul_le_mul_right _ h5
    refine ⟨g, cur, rfl, rfl, by omega, ?_, .inr ⟨g, _, rfl, rfl, by simpa using h5, h6, ?_, ?_⟩⟩
    · intro r' hr'
      rcases List.mem_or_eq_of_mem_set hr' with h' | h'
      · exact hk r' h'
      · subst h'
        simp only [spl, List.length_append, List.length_take, List.length_drop]
        omega
    · simp only [spl, List.size_toArray, List.length_append, List.length_take, List.length_drop, Array.length_toList]
      omega
    · have hfl : (rows.set p (spl r j vs)).flatten = spl rows.flatten (p * k + j) vs := by
        have hd : ∀ (rows : List (List Value)) (p : Nat), (∀ r ∈ rows, r.length = k) → rows[p]? = some r → (rows.set p (spl r j vs)).flatten = spl rows.flatten (p * k + j) vs := by
          intro rows
          induction rows with
          | nil => intro p _ h; simp at h
          | cons x rows ih =>
            intro p hk hr
            have hx : x.length = k := hk x (by simp)
            cases p with
            | zero =>
              simp at hr
              subst hr
              simp only [List.set_cons_zero, List.flatten_cons, Nat.zero_mul, Nat.zero_add, spl]
              rw [List.take_append_of_le_length (by omega), List.drop_append_of_le_length (by omega)]
              simp [List.append_assoc]
            | succ p =>
              have := ih p (fun r hr => hk r (List.mem_cons_of_mem _ hr)) (by simpa using hr)
              simp only [List.set_cons_succ, List.flatten_cons]
              rw [this]
              simp only [spl]
              have e1 : (p + 1) * k + j = x.length + (p * k + j) := by rw [Nat.succ_mul, hx]; omega
              have e2 : (p + 1) * k + j + vs.length = x.length + (p * k + j + vs.length) := by rw [Nat.succ_mul, hx]; omega
              rw [e2, e1, List.take_length_add_append, List.drop_length_add_append]
              simp [List.append_assoc]
        exact hd rows p hk hr
      have hlen : (rows.set p (spl r j vs)).length = rows.length := by simp
      rw [hlen, hfl]
      have hle : p * k + j + vs.length ≤ rows.length * k := by omega
      rw [← h8]
      exact spl_take (by simp; omega) hle
theorem l_storeOwn {t T : TypeId} {ty : TypeId} {sc : Bool} {size bytes p j k c i : Nat} {zero v : Value} {x y : Operand} {rows : List (List Value)} {a : Option Addr} {M : Seg} {r : List Value}
    (ht : tRow P t = some (sc, size, bytes, zero)) (hx : ev env x = some (.pointer (some (((adr a).add (p * k)).add j)))) (hy : ev env y = some v) (ho : Own T k rows a c M) (hL : L[i]? = some M) (hr : rows[p]? = some r)
    (hs : Nat.beq v.cells.size size = true) (hfit : Nat.ble (j + v.cells.size) r.length = true) (h1 : v.cells.toList.all Value.oneCell' = true) :
    Loud P (.store t x y) ty n env Γ L (fun _ Γ' L' => ∃ M', Own T k (rows.set p (spl r j v.cells.toList)) a c M' ∧ Γ' = Γ ∧ L' = L.set i M') :=
  Loud.ofSkip fun X d pos aft g ac w H k1 k2 k3 => by
    obtain ⟨b, cur, rfl, rfl, h4, h5⟩ := ho.stored hr (vs := v.cells.toList) (j := j) (by have := Nat.le_of_ble_eq_true hfit; simpa using this)
    have hf := k3.front hL
    have hg : w.heap[b]? = some (.cells cur T (0, 0)) := hf.loc (b, _) (List.mem_cons_self ..)
    have hst := run_storeCells_at P b (p * k + j) T v.cells.toList 0 cur w hg (by simpa using h4) (List.all_eq_true.1 h1)
    refine ⟨_, H, Γ, _, ?_, ⟨_, h5, rfl, rfl⟩, Hp.le_refl H, k2, St.back _ hL (hf.set (w' := w.setRow b (spl cur.toList (p * k + j) v.cells.toList).toArray) rfl rfl rfl (setRow_heap w b cur _ T (0, 0) hg) fun c hc => setRow_other w b c _ hc)⟩
    have hs' := Nat.eq_of_beq_eq_true hs
    have ha : ((adr (some (⟨b, 0, none⟩ : Addr))).add (p * k)).add j = ⟨b, p * k + j, none⟩ := by
      show ((⟨b, 0, none⟩ : Addr).add (p * k)).add j = _
      unfold Addr.add
      split <;> split <;> simp_all
    rw [ha] at hx
    simp [execOp, k1.ev hx, k1.ev hy, Instr.storeAt, Instr.sureAddr, storeVar, tRow_size ht, hs', hst, spl]
end
end E
end Go.Proofs.Ytmkodknmknfdkaa
set_option linter.unusedVariables false
set_option linter.unusedSimpArgs false
namespace Go.Proofs.Ytmkodknmknfdkaa
namespace E
open Go
def intsOf : List Value → Option (List Int)
  | [] => some []
  | .int .i64 a :: vs => match intsOf vs with
    | some as9 => some (a :: as9)
    | none => none
  | _ => none
theorem intsOf_spec : ∀ {vs : List Value} {as9 : List Int}, intsOf vs = some as9 → vs = as9.map (Value.int .i64 ·)
  | [], as9, h => by simp [intsOf] at h; subst h; rfl
  | v :: vs, as9, h => by
    unfold intsOf at h
    split at h
    · cases ‹_ = []›
    · rename_i a vs' heq
      simp only [List.cons.injEq] at heq
      obtain ⟨rfl, rfl⟩ := heq
      split at h
      · rename_i as9' h'
        cases h
        simp [← intsOf_spec h']
      · cases h
    · cases h
def intField (P : Program) (f : Field) (i : Nat) : Bool :=
  Nat.beq f.offset i && (f.name != "_" && ((match P.underlying f.type with | some (.int .i64) => true | _ => false) && Nat.beq (P.cellsOf f.type) 1))
theorem intField_parts {P : Program} {f : Field} {i : Nat} (h : intField P f i = true) : f.offset = i ∧ f.name ≠ "_" ∧ P.underlying f.type = some (.int .i64) ∧ P.cellsOf f.type = 1 := by
  simp only [intField, Bool.and_eq_true, bne_iff_ne] at h
  obtain ⟨h1, h2, h3, h4⟩ := h
  refine ⟨Nat.eq_of_beq_eq_true h1, h2, ?_, Nat.eq_of_beq_eq_true h4⟩
  split at h3
  · assumption
  · cases h3
def intFieldsL (P : Program) : List Field → Nat → Bool
  | [], _ => true
  | f :: fs, i => intField P f i && intFieldsL P fs (i + 1)
def intStruct (P : Program) (t : TypeId) (k : Nat) : Bool :=
  match P.underlying t with
  | some (.struct fs) => Nat.beq fs.size k && (intFieldsL P fs.toList 0 && (!P.stoodInHeld t && !P.eqGuardType P.depth t))
  | _ => false
section
variable {P : Program} {w : World}
theorem run_part_int {f : Field} {i : Nat} (h : intField P f i = true) {cs : Array Value} {v : Value} (hv : cs[i]? = some v) : (part f.type cs f.offset).run P w = .ok v w := by
  obtain ⟨h1, _, hk, _⟩ := intField_parts h
  subst h1
  simp [part, isAgg, underlying, hk, hv]
theorem run_eqFields {d : Nat} : ∀ {fs : List Field} {i : Nat} {as9 bs : List Int} {xs ys : Array Value}, intFieldsL P fs i = true → fs.length = as9.length → fs.length = bs.length →
    (∀ j, xs[i + j]? = as9[j]?.map (Value.int .i64 ·)) → (∀ j, ys[i + j]? = bs[j]?.map (Value.int .i64 ·)) →
    (Op.eqFields (d + 1) xs ys fs).run P w = .ok (decide (as9 = bs)) w
  | [], i, as9, bs, xs, ys, _, h1, h2, _, _ => by
    have : as9 = [] := List.eq_nil_of_length_eq_zero (by simpa using h1.symm)
    have : bs = [] := List.eq_nil_of_length_eq_zero (by simpa using h2.symm)
    subst_vars
    simp [Op.eqFields]
  | f :: fs, i, [], bs, xs, ys, _, h1, _, _, _ => by simp at h1
  | f :: fs, i, a :: as9, [], xs, ys, _, _, h2, _, _ => by simp at h2
  | f :: fs, i, a :: as9, b :: bs, xs, ys, h, h1, h2, hx, hy => by
    simp only [intFieldsL, Bool.and_eq_true] at h
    have e1 := run_part_int (P := P) (w := w) h.1 (cs := xs) (v := .int .i64 a) (by have := hx 0; simpa using this)
    have e2 := run_part_int (P := P) (w := w) h.1 (cs := ys) (v := .int .i64 b) (by have := hy 0; simpa using this)
    obtain ⟨_, hn, hk, _⟩ := intField_parts h.1
    have e3 := run_equalIn_int (P := P) w d f.type .i64 .i64 a b hk
    have ih := run_eqFields (d := d) (fs := fs) (i := i + 1) (as9 := as9) (bs := bs) (xs := xs) (ys := ys) h.2 (by simpa using h1) (by simpa using h2)
      (fun j => by have := hx (j + 1); rw [show i + 1 + j = i + (j + 1) by omega]; simpa using this) (fun j => by have := hy (j + 1); rw [show i + 1 + j = i + (j + 1) by omega]; simpa using this)
    simp only [Op.eqFields, hn, ne_eq, not_false_eq_true, if_true, Sem.run_bind, e1, e2, Result.andThen_ok, e3]
    by_cases hab : a = b
    · subst hab
      simp [ih]
    · simp [hab]
end
section
variable {P : Program} {n : Nat} {env : Env} {Γ : List SProp} {L : Loc} {ty t t' : TypeId} {x y : Operand} {k : Nat} {xs ys : List Value} {as9 bs : List Int}
theorem run_eqStruct {op : BinOp} {w : World} (hT : intStruct P t k = true) (ha : intsOf xs = some as9) (hb : intsOf ys = some bs) (hla : Nat.beq as9.length k = true) (hlb : Nat.beq bs.length k = true) :
    (Op.equalIn 10000 t (.agg xs.toArray) (.agg ys.toArray)).run P w = .ok (decide (as9 = bs)) w ∧ (eqGuard op t x y (.agg xs.toArray) (.agg ys.toArray)).run P w = .ok () w := by
  unfold intStruct at hT
  split at hT
  · rename_i fs hfs
    simp only [Bool.and_eq_true] at hT
    obtain ⟨h1, h2, h3, h4⟩ := hT
    have h1 := Nat.eq_of_beq_eq_true h1
    have hla := Nat.eq_of_beq_eq_true hla
    have hlb := Nat.eq_of_beq_eq_true hlb
    have hf : P.fieldsOf t = fs := by simp [Program.fieldsOf, hfs]
    have hx := intsOf_spec ha
    have hy := intsOf_spec hb
    have e := run_equalIn_struct (P := P) w 9999 t xs.toArray ys.toArray (by rw [hf]; exact hfs) (by simpa using h3)
    rw [hf] at e
    refine ⟨e.trans (run_eqFields (d := 9998) h2 (by simp; omega) (by simp; omega) (fun j => by subst hx; simp) (fun j => by subst hy; simp)), ?_⟩
    exact run_eqGuard_agg w op t x y _ _ (by simpa using h4)
  · cases hT
theorem q_eqStruct (hT : intStruct P t k = true) (hx : ev env x = some (.agg xs.toArray)) (hy : ev env y = some (.agg ys.toArray)) (ha : intsOf xs = some as9) (hb : intsOf ys = some bs) (hla : Nat.beq as9.length k = true) (hlb : Nat.beq bs.length k = true) :
    Quiet P (.binOp .eql t x y t') ty n env Γ L (.bool (decide (as9 = bs))) := fun _ _ _ _ _ ac w _ h1 _ _ => by
  obtain ⟨e1, e2⟩ := run_eqStruct (op := .eql) (x := x) (y := y) (w := w) hT ha hb hla hlb
  simp [execOp, h1.ev hx, h1.ev hy, e2, run_eql_struct, e1]
theorem q_neqStruct (hT : intStruct P t k = true) (hx : ev env x = some (.agg xs.toArray)) (hy : ev env y = some (.agg ys.toArray)) (ha : intsOf xs = some as9) (hb : intsOf ys = some bs) (hla : Nat.beq as9.length k = true) (hlb : Nat.beq bs.length k = true) :
    Quiet P (.binOp .neq t x y t') ty n env Γ L (.bool (!decide (as9 = bs))) := fun _ _ _ _ _ ac w _ h1 _ _ => by
  obtain ⟨e1, e2⟩ := run_eqStruct (op := .neq) (x := x) (y := y) (w := w) hT ha hb hla hlb
  simp [execOp, h1.ev hx, h1.ev hy, e2, run_neq_struct, e1]
end
theorem sl_of_block {H : Hp} {b c k : Nat} {rows : List (List Value)} {cs : Array Value} {T : TypeId} {z : Nat × Nat} (h : H b = some (.cells cs T z)) (hc : Nat.ble rows.length c = true) (hk : ∀ r ∈ rows, r.length = k) (hcs : cs.toList.take (rows.length * k) = rows.flatten) (hcm : c ≤ maxLen := by decide) :
    (sl (some ⟨b, 0, none⟩) c k rows).holds H :=
  sl_def.2 ⟨Nat.le_of_ble_eq_true hc, hcm, hk, .inr ⟨_, rfl, rfl, cs, T, z, h, fun i j v hv => by
    cases hr : rows[i]? with
    | none => rw [hr] at hv; cases hv
    | some r =>
      rw [hr] at hv
      have := flat_get hk hr hv
      rw [← hcs, List.getElem?_take] at this
      split at this
      · simpa using this
      · cases this⟩⟩
end E
end Go.Proofs.Ytmkodknmknfdkaa
set_option linter.unusedVariables false
set_option linter.unusedSimpArgs false
namespace Go.Proofs.Ytmkodknmknfdkaa
namespace E
open Go Go.RowKit
/-- A world's whole memory, as9 memory that never turns. -/
def hp (w : World) : Hp := fun b => w.heap[b]?
def cx (w : World) : Cx := ⟨w.os, w.tape, w.output⟩
theorem st_of (w : World) : St (cx w) w (hp w) [] := ⟨rfl, rfl, rfl, fun _ _ h => h, fun _ h => by simp at h, fun _ h => by simp at h, by simp⟩
theorem below_of {w w' : World} {H : Hp} {L : Loc} (hle : (hp w).le H) (h : St (cx w) w' H L) : Below w.heap.size w w' := by
  refine ⟨h.os, h.tape, h.output, ?_, fun k hk => ?_⟩
  · rcases Nat.eq_zero_or_pos w.heap.size with h0 | h0
    · omega
    · have hk : w.heap.size - 1 < w.heap.size := by omega
      have := h.sub _ _ (hle (w.heap.size - 1) _ (Array.getElem?_eq_getElem hk))
      have := (Array.getElem?_eq_some_iff.1 this).1
      omega
  · have := h.sub _ _ (hle k _ (Array.getElem?_eq_getElem hk))
    rw [this, Array.getElem?_eq_getElem hk]
section
variable {H : Type} {enc : TypeId × Value → H} {P : Program} {w : World} {base : Nat} {spare : Nat → Bool} {held : Bool}
theorem cells_get {b : Nat} {a : Addr} {n : Nat} {cs : List Value} (h : w.cells? b a n = some cs) : cs.length = n ∧ ∀ (j : Nat) (v : Value), cs[j]? = some v → w.cell? (a.add j) = some v := by
  unfold World.cells? at h
  split at h
  · have key : ∀ (l : List Nat) (cs : List Value), l.mapM (fun i => w.cell? (a.add i)) = some cs → cs.length = l.length ∧ ∀ (j : Nat) (v : Value), cs[j]? = some v → ∃ i, l[j]? = some i ∧ w.cell? (a.add i) = some v := by
      intro l
      induction l with
      | nil => intro cs h; simp at h; subst h; simp
      | cons x l ih =>
        intro cs h
        simp only [List.mapM_cons] at h
        cases hx : w.cell? (a.add x) with
        | none => rw [hx] at h; cases h
        | some u =>
          cases hl : l.mapM (fun i => w.cell? (a.add i)) with
          | none => rw [hx, hl] at h; cases h
          | some us =>
            rw [hx, hl] at h
            have h' : some (u :: us) = some cs := h
            simp at h'
            subst h'
            obtain ⟨h1, h2⟩ := ih us hl
            refine ⟨by simp [h1], fun j v hj => ?_⟩
            cases j with
            | zero => simp at hj; subst hj; exact ⟨x, by simp, hx⟩
            | succ j => simpa using h2 j v (by simpa using hj)
    obtain ⟨h1, h2⟩ := key _ _ h
    refine ⟨by simpa using h1, fun j v hj => ?_⟩
    obtain ⟨i, hi, hc⟩ := h2 j v hj
    have hjn : j < n := by
      have := lt_of_get hj
      rw [h1] at this
      simpa using this
    rw [List.getElem?_range hjn] at hi
    simp at hi
    subst hi
    exact hc
  · cases h
/-- A slice that came in: rows of k cells each, each of which reads. -/
theorem openSl {t e k fuel : Nat} {cs : List Value} {x : DataW H × List MemPlace} (ht : P.underlying t = some (.slice e)) (hk : P.cellsOf e = k) (hpos : Nat.blt 0 k = true) (h : DataW.trod enc P w base spare held fuel t cs = some x) :
    ∃ a c rows, cs = [.slice a rows.length c] ∧ (sl a c k rows).holds (hp w) ∧ rows.length ≤ c ∧ c ≤ maxLen ∧
      ∃ n elems sp, ((x.1 = .nil ∧ elems = []) ∨ x.1 = .slice elems sp) ∧ elems.length = rows.length ∧ ∀ (i : Nat) (r : List Value), rows[i]? = some r → ∃ y : DataW H × List MemPlace, DataW.trod enc P w base spare held n e r = some y ∧ elems[i]? = some y.1 := by
  subst hk
  have hpos' : 0 < P.cellsOf e := by simpa [Nat.blt_eq] using hpos
  rcases Deep.open_slice ht h with ⟨rfl, rfl⟩ | ⟨a, len, cap, m, n, D, Pl, rfl, hb, hl, hm, hmm, rfl, hx⟩
  · exact ⟨none, 0, [], rfl, sl_nil _ _ _ (Nat.zero_le _), Nat.le_refl _, Nat.zero_le _, 0, [], [], .inl ⟨rfl, rfl⟩, rfl, fun i r hr => by simp at hr⟩
  have hml : len ≤ m := by rw [hmm]; split <;> omega
  have hex : ∀ i, i < len → ∃ cs', w.cells? base (a.add (i * P.cellsOf e)) (P.cellsOf e) = some cs' ∧ DataW.trod enc P w base spare held n e cs' = some (D i, Pl i) := fun i hi => hx i (by omega)
  obtain ⟨R, hR⟩ := Deep.choose_lt (α := List Value) (p := fun i cs' => w.cells? base (a.add (i * P.cellsOf e)) (P.cellsOf e) = some cs' ∧ DataW.trod enc P w base spare held n e cs' = some (D i, Pl i)) hex
  refine ⟨some a, cap, (List.range len).map R, by simp, sl_def.2 ⟨by simp; omega, hm, ?_, ?_⟩, by simp; omega, hm, n, (List.range len).map D, (List.range (m - len)).map fun j => D (len + j), .inr rfl, by simp, ?_⟩
  · intro r hr
    obtain ⟨i, hi, rfl⟩ := List.mem_map.1 hr
    exact (cells_get (hR i (List.mem_range.1 hi)).1).1
  · rcases Nat.eq_zero_or_pos len with h0 | h0
    · left; simp [h0]
    right
    -- the block
    obtain ⟨h1, h2⟩ := cells_get (hR 0 h0).1
    have hc0 : ∃ v, (R 0)[0]? = some v := get_of_lt (by rw [h1]; exact hpos')
    obtain ⟨v0, hv0⟩ := hc0
    have hc := h2 0 v0 hv0
    have hsp : a.spot = none ∧ ∃ cs T z, w.heap[a.block]? = some (.cells cs T z) := by
      have : (a.add (0 * P.cellsOf e)).add 0 = a := by simp [Addr.add]
      rw [this] at hc
      unfold World.cell? at hc
      split at hc
      · rename_i c T z hh
        split at hc
        · cases hc
        · rename_i hs
          refine ⟨?_, _, _, _, hh⟩
          cases hsp : a.spot with
          | none => rfl
          | some s => simp [hsp] at hs
      · cases hc
    obtain ⟨hs, cs, T, z, hh⟩ := hsp
    refine ⟨a, rfl, hs, cs, T, z, hh, fun i j v hv => ?_⟩
    cases hr : ((List.range len).map R)[i]? with
    | none => rw [hr] at hv; cases hv
    | some r =>
      rw [hr] at hv
      have hi : i < len := by have := lt_of_get hr; simpa using this
      have : r = R i := by
        rw [List.getElem?_map, List.getElem?_range hi] at hr
        simpa using hr.symm
      subst this
      have h3 := (cells_get (hR i hi).1).2 j v hv
      rw [cell_of (cs := cs) (T := T) (z := z) (by rw [add_block, add_block]; exact hh) (add_spot j (add_spot _ hs)), add_off, add_off] at h3
      exact h3
  · intro i r hr
    have hi : i < len := by have := lt_of_get hr; simpa using this
    rw [List.getElem?_map, List.getElem?_range hi] at hr
    simp at hr
    subst hr
    exact ⟨_, (hR i hi).2, by rw [List.getElem?_map, List.getElem?_range hi]; rfl⟩
/-- A struct of whole numbers that came in. -/
theorem intFieldsL_get {fs : List Field} : ∀ {i j : Nat} {f : Field}, intFieldsL P fs i = true → fs[j]? = some f → intField P f (i + j) = true := by
  induction fs with
  | nil => intro i j f _ h; simp at h
  | cons g fs ih =>
    intro i j f h hj
    simp only [intFieldsL, Bool.and_eq_true] at h
    cases j with
    | zero => simp at hj; subst hj; exact h.1
    | succ j => have := ih h.2 (by simpa using hj); rwa [show i + 1 + j = i + (j + 1) by omega] at this
theorem wf_bounds {n : Int} (h : (Lit.int .i64 n).wf = true) : -9223372036854775808 ≤ n ∧ n ≤ 9223372036854775807 := by
  simp only [Lit.wf, Bool.and_eq_true, decide_eq_true_eq] at h
  have e1 : IntKind.i64.min = -9223372036854775808 := by decide
  have e2 : IntKind.i64.max = 9223372036854775807 := by decide
  rw [e1, e2] at h
  exact h
theorem openIntStruct {t k fuel : Nat} {cs : List Value} {x : DataW H × List MemPlace} (hT : intStruct P t k = true) (hC : P.cellsOf t = k) (h : DataW.trod enc P w base spare held fuel t cs = some x) :
    ∃ as9 : List Int, cs = as9.map (Value.int .i64 ·) ∧ as9.length = k ∧ ∀ a ∈ as9, -9223372036854775808 ≤ a ∧ a ≤ 9223372036854775807 := by
  unfold intStruct at hT
  split at hT
  · rename_i fs hfs
    simp only [Bool.and_eq_true] at hT
    obtain ⟨h1, h2, _⟩ := hT
    have h1 := Nat.eq_of_beq_eq_true h1
    obtain ⟨xs, n, _, rfl, hl, hlen, hf⟩ := DataW.trod_struct hfs h
    have each : ∀ j, j < k → ∃ a : Int, cs[j]? = some (.int .i64 a) ∧ -9223372036854775808 ≤ a ∧ a ≤ 9223372036854775807 := by
      intro j hj
      obtain ⟨f, hfj⟩ := get_of_lt (l := fs.toList) (i := j) (by simp; omega)
      have hi := intFieldsL_get h2 hfj
      rw [Nat.zero_add] at hi
      obtain ⟨e1, _, e2, e3⟩ := intField_parts hi
      have e4 := hf j f (by simpa using hfj)
      obtain ⟨y, hy⟩ := get_of_lt (l := xs) (i := j) (by omega)
      rw [hy, e1, e3] at e4
      obtain ⟨a, e5, _, wf⟩ := DataW.trod_int e2 e4
      refine ⟨a, ?_, wf_bounds wf⟩
      have : ((cs.drop j).take 1)[0]? = some (.int .i64 a) := by rw [e5]; rfl
      simpa [List.getElem?_take] using this
    obtain ⟨g, hg⟩ := Deep.choose_lt (α := Int) (p := fun j a => cs[j]? = some (.int .i64 a) ∧ -9223372036854775808 ≤ a ∧ a ≤ 9223372036854775807) each
    refine ⟨(List.range k).map g, ?_, by simp, fun a ha => ?_⟩
    · apply List.ext_getElem?
      intro j
      by_cases hj : j < k
      · rw [(hg j hj).1, List.getElem?_map, List.getElem?_map, List.getElem?_range hj]; rfl
      · rw [List.getElem?_eq_none (by omega), List.getElem?_eq_none (by simp; omega)]
    · obtain ⟨j, hj, rfl⟩ := List.mem_map.1 ha
      exact (hg j (List.mem_range.1 hj)).2
  · cases hT
end
end E
end Go.Proofs.Ytmkodknmknfdkaa
set_option linter.unusedVariables false
set_option linter.unusedSimpArgs false
namespace Go.Proofs.Ytmkodknmknfdkaa
namespace E
section
variable {X : Cx} {n : Nat} {P : Program} {ops : Array Oper} {Q : Exit → Act → World → Prop} {l l' : List Oper} {env : Env} {Γ : List SProp} {L L₀ : Loc}
inductive Dr : Nat → Loc → Loc → Prop
  | z {L : Loc} : Dr 0 L L
  | s {k : Nat} {a : Seg} {L L' : Loc} : Dr k L L' → Dr (k + 1) (a :: L) L'
theorem At.cutD {x y : Code} {ι : Type} {k : Nat} (_hd : Dr k L L₀) (ws : List Nat) (e : ι → Env) (G : ι → List SProp) (M : ι → Loc) (I : ι → Prop)
    (h : At X n (x.wp P (Exit.then (Meet X n (fun i => e i ++ without ws env) (fun i => G i ++ Γ) (fun i => M i ++ L₀) I) Q)) env Γ L)
    (h' : ∀ i, I i → At X n (y.wp P Q) (e i ++ without ws env) (G i ++ Γ) (M i ++ L₀)) : At X n ((Code.seq x y).wp P Q) env Γ L :=
  At.cutK ws e G M L₀ I h h'
theorem At.cutOpsD {ι : Type} {k : Nat} (_hd : Dr k L L₀) (m : Nat) (ws : List Nat) (e : ι → Env) (G : ι → List SProp) (M : ι → Loc) (I : ι → Prop) (ht : behind m l = some l')
    (h : At X n (wpList P ops (Exit.then (Meet X n (fun i => e i ++ without ws env) (fun i => G i ++ Γ) (fun i => M i ++ L₀) I) Q) (ahead m l)) env Γ L)
    (h' : ∀ i, I i → At X n (wpList P ops Q l') (e i ++ without ws env) (G i ++ Γ) (M i ++ L₀)) : At X n (wpList P ops Q l) env Γ L :=
  At.cutOps m ws e G M L₀ I ht h h'
theorem At.nilSeg {K : Act → World → Prop} (h : At X n K env Γ ([] :: L)) : At X n K env Γ L := fun a w H h1 h2 h3 => h a w H h1 h2 h3
theorem At.know {K : Act → World → Prop} (φ : SProp) (hp : ∀ H, Holds Γ H → φ.holds H) (h : At X n K env (φ :: Γ) L) : At X n K env Γ L :=
  At.facts (φ :: Γ) (fun H hH => ⟨hp H hH, hH⟩) h
theorem At.capOf {K : Act → World → Prop} {a : Option Addr} {c k : Nat} {rows : List (List Value)} (hs : sl a c k rows ∈ Γ) (h : rows.length ≤ c → At X n K env Γ L) : At X n K env Γ L :=
  At.have _ (fun _ hH => (sl_def.1 (hH.mem hs)).1) h
end
end E
end Go.Proofs.Ytmkodknmknfdkaa
set_option linter.unusedVariables false
set_option linter.unusedSimpArgs false
namespace Go.Proofs.Ytmkodknmknfdkaa
namespace E
open Go Go.RowKit Go.WideShapes
/-- A slice, with what it holds. -/
structure Sl (α : Type) where
  a : Option Addr
  c : Nat
  l : List α
def Sl.val {α : Type} (s : Sl α) : Value := .slice s.a s.l.length s.c
def rowI (x : Int) : List Value := [.int .i64 x]
def intsP (s : Sl Int) : SProp := sl s.a s.c 1 (s.l.map rowI)
section
variable {H : Type} {enc : TypeId × Value → H} {P : Program} {w : World} {base : Nat} {spare : Nat → Bool} {held : Bool}
theorem Below.trodAll (hl : laidOutB P = true) {W W' : World} (hb : Below W.heap.size W W') :
    ∀ {ts : List TypeId} {vs : List Value} {ds : List (DataW H)} {ps : List MemPlace}, (ts.all fun t => P.readableRec t && Nat.blt t P.types.size) = true →
      DataW.TrodAll enc P W 0 (fun _ => true) true ts vs ds ps → (∀ x ∈ ps, x.block < W.heap.size) → DataW.TrodAll enc P W' 0 (fun b => decide (b < W.heap.size)) true ts vs ds ps
  | [], [], [], _, _, h, _ => h
  | t :: ts, v :: vs, d :: ds, ps, hr, ⟨p, q, h1, h2, e⟩, hlt => by
    simp only [List.all_cons, Bool.and_eq_true] at hr
    exact ⟨p, q, Below.trod hl hr.1.1 (by have := hr.1.2; simpa [Nat.blt_eq] using this) h1 hb (fun x hx => hlt x (by rw [e]; simp [hx])), Below.trodAll hl hb hr.2 h2 (fun x hx => hlt x (by rw [e]; simp [hx])), e⟩
  | [], [], _ :: _, _, _, h, _ => h.elim
  | [], _ :: _, _, _, _, h, _ => h.elim
  | _ :: _, [], _, _, _, h, _ => h.elim
  | _ :: _, _ :: _, [], _, _, h, _ => h.elim
theorem argInts {t k : Nat} {fs : Array Field} {r : Reach} {b0 : Nat} {v : Value} {d : DataW H} {ps : List MemPlace} (hT : intStruct P t k = true) (hs : P.underlying t = some (.struct fs)) (hC : P.cellsOf t = k)
    (hval : Value.okWide P w r b0 t v) (h : DataW.Trod enc P w base spare held t v d ps) : ∃ as9 : List Int, v = .agg (as9.map (Value.int .i64 ·)).toArray ∧ as9.length = k ∧ ∀ a ∈ as9, -9223372036854775808 ≤ a ∧ a ≤ 9223372036854775807 := by
  obtain ⟨cs, rfl, _⟩ := okWide_struct hs hval
  obtain ⟨fuel, hf⟩ := h
  obtain ⟨as9, e, hl, hb⟩ := openIntStruct hT hC hf
  refine ⟨as9, ?_, hl, hb⟩
  have e' : cs.toList = as9.map (Value.int .i64 ·) := by simpa [Value.cells] using e
  rw [← e']
theorem argSl {t e k : Nat} {r : Reach} {b0 : Nat} {v : Value} {d : DataW H} {ps : List MemPlace} {α : Type} (row : α → List Value) (ht : P.underlying t = some (.slice e)) (hk : P.cellsOf e = k) (hpos : Nat.blt 0 k = true)
    (hrow : ∀ (n : Nat) (cs : List Value) (y : DataW H × List MemPlace), DataW.trod enc P w base spare held n e cs = some y → ∃ x, cs = row x)
    (hval : Value.okWide P w r b0 t v) (h : DataW.Trod enc P w base spare held t v d ps) :
    ∃ s : Sl α, v = s.val ∧ (sl s.a s.c k (s.l.map row)).holds (hp w) ∧ s.l.length ≤ s.c ∧ s.c ≤ maxLen := by
  obtain ⟨a, len, cap, rfl⟩ := okWide_slice ht hval
  obtain ⟨fuel, hf⟩ := h
  obtain ⟨a', c', rows, e1, h2, h3, h4, n, elems, sp, _, _, h5⟩ := openSl ht hk hpos hf
  simp [Value.cells] at e1
  obtain ⟨rfl, rfl, rfl⟩ := e1
  have key : ∀ rows : List (List Value), (∀ r ∈ rows, ∃ x, r = row x) → ∃ l : List α, rows = l.map row := by
    intro rows
    induction rows with
    | nil => intro _; exact ⟨[], rfl⟩
    | cons r rows ih =>
      intro h
      obtain ⟨x, rfl⟩ := h r (by simp)
      obtain ⟨l, rfl⟩ := ih fun r hr => h r (List.mem_cons_of_mem _ hr)
      exact ⟨x :: l, rfl⟩
  obtain ⟨l, rfl⟩ := key rows fun r hr => by
    obtain ⟨i, hi⟩ := List.mem_iff_getElem?.1 hr
    obtain ⟨y, hy, _⟩ := h5 i r hi
    exact hrow n r y hy
  exact ⟨⟨a, cap, l⟩, by simp [Sl.val], h2, by simpa using h3, h4⟩
end
end E
end Go.Proofs.Ytmkodknmknfdkaa
set_option linter.unusedVariables false
set_option linter.unusedSimpArgs false
namespace Go.Proofs.Ytmkodknmknfdkaa
namespace E
open Go
section
variable {P : Program} {n : Nat} {env : Env} {Γ : List SProp} {L : Loc} {ty t e : TypeId} {x y : Operand} {v : Value} {a : Option Addr} {c k i : Nat} {rows : List (List Value)} {M : Seg}
theorem At.pieces {X : Cx} {K : Act → World → Prop} {L' : Loc} (hL : L = L') (h : At X n K env Γ L') : At X n K env Γ L := hL ▸ h
theorem At.lenOf {X : Cx} {K : Act → World → Prop} (hs : sl a c k rows ∈ Γ) (h : rows.length ≤ 9223372036854775807 → At X n K env Γ L) : At X n K env Γ L :=
  At.have _ (fun _ hH => by have h1 := sl_def.1 (hH.mem hs); have h2 := h1.2.1; have h3 := h1.1; simp only [maxLen] at h2; omega) h
theorem madeCells_eq {z : Array Value} {m size : Nat} (hs : z.size = size) : madeCells z (m * size) = ((List.replicate m z.toList).flatten).toArray := zeros_eq hs
theorem l_makeSlice {sc : Bool} {size bytes m : Nat} {zero : Value} {kl kc : IntKind} {zl zc : Int} (ht : P.underlying t = some (.slice e)) (he : tRow P e = some (sc, size, bytes, zero))
    (hx : ev env x = some (.int kl zl)) (hy : ev env y = some (.int kc zc)) (hl : zl = (m : Int)) (hc : zc = (m : Int)) (hz : Nat.beq zero.cells.size size = true) (hb : bytes * m ≤ 281474976710656) (h63 : m ≤ maxLen) :
    Loud P (.makeSlice t x y) ty n env Γ L (fun v Γ' L' => ∃ b M, v = .slice (some ⟨b, 0, none⟩) m m ∧ Own e size (List.replicate m zero.cells.toList) (some ⟨b, 0, none⟩) m M ∧ Γ' = Γ ∧ L' = M :: L) :=
  Loud.ofRun fun X d pos aft g ac w H h1 h2 h3 => by
    subst hl; subst hc
    obtain ⟨td, inf, e1, e2, _, e3, e4, e5⟩ := tRow_parts he
    subst e3; subst e4
    have hz' := Nat.eq_of_beq_eq_true hz
    have hb' : (inf.bytes : Int) * (m : Int) ≤ 281474976710656 := by
      have h : ((inf.bytes * m : Nat) : Int) ≤ 281474976710656 := by omega
      rwa [Int.natCast_mul] at h
    have hr := run_make (P := P) w t e inf zero ht e2 e5 kl kc m m (by omega) (Int.le_refl _) hb' (by simp only [maxLen] at h63; omega)
    simp only [Int.toNat_natCast] at hr
    refine ⟨_, _, H, Γ, _, ?_, ⟨w.heap.size, [(w.heap.size, .cells (madeCells zero.cells (m * inf.size)) e (0, 0))], rfl, ⟨?_, .inr ⟨_, _, rfl, rfl, by simp, h63, size_madeCells _ _, ?_⟩⟩, rfl, rfl⟩, Hp.le_refl H, h2, h3.push _⟩
    · simp [execOp, h1.ev hx, h1.ev hy, hr]
    · intro r hr
      rw [List.eq_of_mem_replicate hr]
      simpa using hz'
    · rw [madeCells_eq hz']
      have hfl : ((List.replicate m zero.cells.toList).flatten).length = m * inf.size := by
        rw [flat_len (k := inf.size) (fun r hr => by rw [List.eq_of_mem_replicate hr]; simpa using hz'), List.length_replicate]
      rw [List.length_replicate]
      exact List.take_of_length_le (Nat.le_of_eq hfl)
theorem loadCells_zero (w : World) (a : Addr) : (loadCells a 0).run P w = .ok #[] w := by
  simp [loadCells, loadCellsFrom]
/-- Nothing laid behind a slice. -/
theorem run_append_none (w : World) (inf : TypeInfo) (ht : P.underlying t = some (.slice e)) (hi : P.info? e = some inf) (a a' : Option Addr) (len c c' : Nat) (hc : len ≤ c) :
    (Builtin.append_ #[t, t] ty #[.slice a len c, .slice a' 0 c']).run P w = .ok (.slice a len c) w := by
  cases a <;> cases a' <;> simp [Builtin.append_, run_underlying ht, sizeOf, typeInfo, hi, Builtin.lenOf, Builtin.firstCells, loadCells_zero, hc, storeCells]
/-- The rows of a slice that never turns, laid behind those of a slice of the call's own. -/
theorem l_appendSl {sc : Bool} {size bytes len m c' cf : Nat} {zero : Value} {ats : Array TypeId} {a' : Option Addr} {news : List (List Value)} (hats : ats = #[t, t]) (ht : P.underlying t = some (.slice e)) (he : tRow P e = some (sc, size, bytes, zero))
    (hx : ev env x = some (.slice a len c)) (hy : ev env y = some (.slice a' m c')) (hs : Own e size rows a c M) (hl : len = rows.length) (hL : L[i]? = some M) (hsrc : sl a' cf size news ∈ Γ) (hm : m = news.length)
    (h1 : ∀ r ∈ news, r.all Value.oneCell' = true) (hz : Nat.beq zero.cells.size size = true) (hpos : Nat.blt 0 size = true) (hb : (len + m) * bytes ≤ 140737488355328) (hb' : len + m ≤ maxLen) :
    Loud P (.call ⟨.builtin .append, #[x, y], ats⟩) ty n env Γ L (fun v Γ' L' => ∃ a₂ c₂ M₂, v = .slice a₂ (len + m) c₂ ∧ Own e size (rows ++ news) a₂ c₂ M₂ ∧ Γ' = Γ ∧ L' = L.set i M₂) := by
  by_cases h0 : news = []
  · subst h0
    have hm0 : m = 0 := by simpa using hm
    subst hm0
    refine Loud.ofRun fun X d pos aft g ac w H k1 k2 k3 => ?_
    subst hats
    subst hl
    obtain ⟨td, inf, e1, e2, _, _⟩ := tRow_parts he
    have hlc : rows.length ≤ c := by
      rcases hs.2 with ⟨_, rfl, rfl, _⟩ | ⟨_, _, _, _, h, _⟩
      · simp
      · exact h
    have hr := run_append_none (P := P) (ty := ty) w inf ht e2 a a' rows.length c c' hlc
    refine ⟨_, w, H, Γ, L.set i M, ?_, ⟨a, c, M, rfl, by simpa using hs, rfl, rfl⟩, Hp.le_refl H, k2, ?_⟩
    · simp [execOp, resolve, invoke, builtin, k1.ev hx, k1.ev hy, hr]
    · exact St.back M hL (k3.front hL)
  · intro X d pos aft g ac w H k1 k2 k3 K Q hk
    obtain ⟨q1, q2, q3, q4⟩ := sl_def.1 (Holds.mem hsrc k2)
    rcases q4 with q4 | ⟨b, rfl, _⟩
    · exact absurd q4 h0
    · refine l_append (rows := rows) hats ht he hx hy hs hl hL hm.symm q3 (news := news) ?_ ?_ hz hpos hb hb' X d pos aft g ac w H k1 k2 k3 K Q hk
      · intro X' w' H' p1 p2 j u hj
        have hs' := Holds.mem hsrc p1
        have hpos' : 0 < size := by simpa [Nat.blt_eq] using hpos
        have hjl := lt_of_get hj
        rw [flat_len q3] at hjl
        have hr : ∃ r, news[j / size]? = some r := get_of_lt (by rw [Nat.div_lt_iff_lt_mul hpos']; exact hjl)
        obtain ⟨r, hr⟩ := hr
        have hrl := q3 r (List.mem_of_getElem? hr)
        obtain ⟨u', hu'⟩ : ∃ u', r[j % size]? = some u' := get_of_lt (by rw [hrl]; exact Nat.mod_lt _ hpos')
        have h5 := flat_get q3 hr hu'
        rw [Nat.mul_comm, Nat.div_add_mod] at h5
        rw [h5] at hj
        cases hj
        have h6 := sl_cell hs' p2 hr hu'
        obtain ⟨_, _, _, q4⟩ := sl_def.1 hs'
        rcases q4 with q4 | ⟨b', hb', hsp, _⟩
        · exact absurd q4 h0
        · cases hb'
          rw [add_add (show (adr (some b)).spot = none from hsp)] at h6
          rw [Nat.mul_comm, Nat.div_add_mod] at h6
          exact h6
      · refine List.all_eq_true.2 fun u hu => ?_
        obtain ⟨r, hr, hur⟩ := List.mem_flatten.1 hu
        exact List.all_eq_true.1 (h1 r hr) u hur
/-- A slice of no capacity, behind which a slice's rows are laid: what comes of it never turns. -/
theorem l_appendNew {sc : Bool} {size bytes m c' cf : Nat} {zero : Value} {ats : Array TypeId} {a' : Option Addr} {news : List (List Value)} (hats : ats = #[t, t]) (ht : P.underlying t = some (.slice e)) (he : tRow P e = some (sc, size, bytes, zero))
    (hx : ev env x = some (.slice a 0 0)) (hy : ev env y = some (.slice a' m c')) (hsrc : sl a' cf size news ∈ Γ) (hm : m = news.length)
    (hz : Nat.beq zero.cells.size size = true) (hb : m * bytes ≤ 140737488355328) (hb' : m ≤ maxLen) (hpos : Nat.blt 0 size = true) :
    Loud P (.call ⟨.builtin .append, #[x, y], ats⟩) ty n env Γ L (fun v Γ' L' => ∃ a₂ c₂, v = .slice a₂ m c₂ ∧ Γ' = sl a₂ c₂ size news :: Γ ∧ L' = L) := by
  refine Loud.ofRun fun X d pos aft g ac w H k1 k2 k3 => ?_
  subst hats
  subst hm
  obtain ⟨td, inf, e1, e2, _, e3, e4, e5⟩ := tRow_parts he
  subst e3; subst e4
  obtain ⟨q1, q2, q3, q4⟩ := sl_def.1 (Holds.mem hsrc k2)
  have hexec : ∀ {v w'}, (Builtin.append_ #[t, t] ty #[.slice a 0 0, .slice a' news.length c']).run P w = .ok v w' →
        (execOp ac.eval ⟨d, .call ⟨.builtin .append, #[x, y], #[t, t]⟩, ty, pos, aft, g⟩).run P w = .ok (.value v) w' := fun h => by
      simp [execOp, resolve, invoke, builtin, k1.ev hx, k1.ev hy, h]
  by_cases h0 : news = []
  · subst h0
    exact ⟨_, w, H, _, L, hexec (run_append_none (P := P) (ty := ty) w inf ht e2 a a' 0 0 c' (Nat.le_refl _)), ⟨a, 0, rfl, rfl, rfl⟩, Hp.le_refl H, ⟨sl_nil _ _ _ (Nat.zero_le _), k2⟩, k3⟩
  · rcases q4 with q4 | ⟨b, rfl, hsp, cs, T, z, hcs, hkk⟩
    · exact absurd q4 h0
    · have hnl : 0 < news.length := List.length_pos_iff.2 h0
      have hz' := Nat.eq_of_beq_eq_true hz
      have hfl : news.flatten.length = news.length * inf.size := flat_len q3
      have hpos' : 0 < inf.size := by simpa [Nat.blt_eq] using hpos
      have hsrc' : ∀ j u, news.flatten[j]? = some u → w.cell? (b.add j) = some u := fun j u hj => by
        have hjl := lt_of_get hj
        rw [hfl] at hjl
        obtain ⟨r, hr⟩ : ∃ r, news[j / inf.size]? = some r := get_of_lt (by rw [Nat.div_lt_iff_lt_mul hpos']; exact hjl)
        have hrl := q3 r (List.mem_of_getElem? hr)
        obtain ⟨u', hu'⟩ : ∃ u', r[j % inf.size]? = some u' := get_of_lt (by rw [hrl]; exact Nat.mod_lt _ hpos')
        have h5 := flat_get q3 hr hu'
        rw [Nat.mul_comm, Nat.div_add_mod] at h5
        rw [h5] at hj
        cases hj
        have h6 := sl_cell (Holds.mem hsrc k2) k3 hr hu'
        rw [add_add (show (adr (some b)).spot = none from hsp), Nat.mul_comm, Nat.div_add_mod] at h6
        exact h6
      have h63 : ((news.length : Nat) : Int) ≤ 9223372036854775807 := by simp only [maxLen] at hb'; omega
      have key : ∃ old, (Builtin.append_ #[t, t] ty #[.slice a 0 0, .slice (some b) news.length c']).run P w = .ok (.slice (some ⟨w.heap.size, 0, none⟩) news.length (grownCap w news.length old e))
          (w.drew.alloc (.cells (news.flatten.toArray ++ Builtin.zeroCells zero.cells (grownCap w news.length old e - news.length)) e)) := by
        cases a with
        | none => exact ⟨0, run_append_nil (P := P) w t ty e inf zero ht e2 e5 b news.length c' news.flatten hfl hsrc' hnl h63 (by omega)⟩
        | some a0 =>
          have hr := run_append_grow (P := P) w t ty e inf zero ht e2 e5 a0 0 0 [] (by simp) (by simp) b news.length c' news.flatten hfl hsrc' (by omega) (by omega) (growslice_fits (by omega) (by rw [Nat.zero_add]; omega))
          simp only [Nat.zero_add] at hr
          exact ⟨0, by simpa using hr⟩
      obtain ⟨old, hr⟩ := key
      have hp := (k3.drawn (w.drawn + 1)).push (.cells (news.flatten.toArray ++ Builtin.zeroCells zero.cells (grownCap w news.length old e - news.length)) e)
      obtain ⟨f1, f2⟩ := hp.freeze (i := 0) rfl
      have hge := grownCap_ge w news.length old e
      have hcm := grownCap_le_maxLen w news.length old e hb'
      refine ⟨_, _, _, _, L, hexec hr, ⟨_, _, rfl, rfl, rfl⟩, f2, ⟨?_, k2.mono f2⟩, f1⟩
      refine sl_def.2 ⟨hge, hcm, q3, .inr ⟨_, rfl, rfl, _, _, _, Hp.with_self H _ _, fun p j u hv => ?_⟩⟩
      cases hrr : news[p]? with
      | none => rw [hrr] at hv; cases hv
      | some r =>
        rw [hrr] at hv
        have := flat_get q3 hrr hv
        have hlt := lt_of_get this
        rw [Array.getElem?_append_left (by simpa using hlt)]
        simpa using this
end
section
variable {P : Program} {n : Nat} {env : Env} {Γ : List SProp} {L : Loc}
/-- A store of a whole element. -/
theorem l_storeOwn0 {t T : TypeId} {ty : TypeId} {sc : Bool} {size bytes p k c i : Nat} {zero v : Value} {x y : Operand} {rows : List (List Value)} {a : Option Addr} {M : Seg} {r : List Value}
    (ht : tRow P t = some (sc, size, bytes, zero)) (hx : ev env x = some (.pointer (some ((adr a).add (p * k))))) (hy : ev env y = some v) (ho : Own T k rows a c M) (hL : L[i]? = some M) (hr : rows[p]? = some r)
    (hs : Nat.beq v.cells.size size = true) (hfit : Nat.ble (0 + v.cells.size) r.length = true) (h1 : v.cells.toList.all Value.oneCell' = true) :
    Loud P (.store t x y) ty n env Γ L (fun _ Γ' L' => ∃ M', Own T k (rows.set p (spl r 0 v.cells.toList)) a c M' ∧ Γ' = Γ ∧ L' = L.set i M') := by
  refine l_storeOwn ht ?_ hy ho hL hr hs hfit h1
  rw [hx]
  obtain ⟨_, hM⟩ := ho
  rcases hM with ⟨_, _, rfl, _⟩ | ⟨g, cur, rfl, _⟩
  · simp at hr
  · rw [add_add (show (adr (some (⟨g, 0, none⟩ : Addr))).spot = none from rfl), Nat.add_zero]
end
section
variable {P : Program} {n : Nat} {env : Env} {Γ : List SProp} {L : Loc} {ty t t' e : TypeId} {x y : Operand} {a : Option Addr} {c len c' len' : Nat}
theorem q_eqSliceNil (ht : P.underlying t = some (.slice e)) (hx : ev env x = some (.slice a len c)) (hy : ev env y = some (.slice none len' c')) :
    Quiet P (.binOp .eql t x y t') ty n env Γ L (.bool a.isNone) :=
  fun _ _ _ _ _ ac w _ h1 _ _ => by
    have := Lib.run_equalIn_slice_nil (P := P) w 9999 t e a len c len' c' ht
    cases a <;> simp [execOp, h1.ev hx, h1.ev hy, eqGuard, binOp, Op.equal, Op.maxDepth, this]
theorem l_buildSlice0 {sc : Bool} {size bytes : Nat} {zero : Value} (ht : P.underlying t = some (.slice e)) (he : tRow P e = some (sc, size, bytes, zero)) :
    Loud P (.buildSlice t 0 #[]) ty n env Γ L (fun v Γ' L' => ∃ b, v = .slice (some ⟨b, 0, none⟩) 0 0 ∧ Γ' = Γ ∧ L' = L) :=
  Loud.ofRun fun X d pos aft g a w H h1 h2 h3 => by
    refine ⟨_, _, H, Γ, _, ?_, ⟨w.heap.size, rfl, rfl, rfl⟩, Hp.le_refl H, h2, (h3.push (.cells #[] e (0, 0))).drop (List.sublist_cons_self ..)⟩
    simp [execOp, Instr.buildSlice, underlying, ht, tRow_size he, Instr.fill, newRow, newObj, Sem.run, Array.range_zero']
end
theorem Hp.without_le {H H' : Hp} {g : Nat} (h : H.le H') (hg : H g = none) : H.le (fun b => if b = g then none else H' b) := fun b o e => by
  by_cases hb : b = g
  · subst hb; rw [hg] at e; cases e
  · simp [hb, h b o e]
section borrow
variable {X : Cx} {n : Nat} {P : Program} {ops : Array Oper} {Q : Exit → Act → World → Prop} {rest : List Oper} {env : Env} {Γ : List SProp} {L : Loc}
variable {d : Nat} {ty : TypeId} {pos : String} {aft : Array Edge} {f : FuncId} {args : List Operand} {vs : List Value} {ats : Array TypeId} {pre : List SProp} {M L0 : Loc} {R : Value → List SProp → Loc → Prop}
/-- The call reads a slice of the caller's own, which is the caller's own again behind it; the facts that the call tells are not kept. -/
theorem l_borrow {T : TypeId} {k c i : Nat} {rows : List (List Value)} {a : Option Addr} {Mo : Seg} (hf : Enters P f) (ha : evs env args = some vs) (co : Con P f vs pre M R) (ho : Own T k rows a c Mo) (hi : L[i]? = some Mo)
    (hp : ∀ H, Holds (sl a c k rows :: Γ) H → Holds pre H) (hL : (M ++ L0).Perm (L.eraseIdx i)) :
    Loud P (.call ⟨.value (.func f), args.toArray, ats⟩) ty n env Γ L (fun v Γ' L' => ∃ Γr Mr, R v Γr Mr ∧ Γ' = Γ ∧ L' = Mo :: (Mr ++ L0)) :=
  fun X d pos aft g ac w H h1 h2 h3 K Q hk => by
    have hent : (execOp ac.eval ⟨d, .call ⟨.value (.func f), args.toArray, ats⟩, ty, pos, aft, g⟩).run P w = .ok (.enter f vs.toArray) w := by
      have := h1.evs ha
      have e : (args.toArray.map ac.eval) = vs.toArray := by simp [this]
      simp only [execOp, resolve, Sem.run_bind, e]
      show Result.andThen (Sem.run P (Deferred.ofValue (.func (.func f) #[] #[]) vs.toArray) w) _ = _
      simp [Deferred.ofValue, invoke]
      exact hf _ w
    obtain ⟨hkr, hM⟩ := ho
    rcases hM with ⟨rfl, rfl, rfl, rfl⟩ | ⟨g', cur, rfl, rfl, h5, h50, hs, ht⟩
    · unfold Oper.wp
      rw [hent]
      have hz : (sl none 0 k []).holds H := sl_nil _ _ _ (Nat.zero_le _)
      have h4 : St X w H (M ++ L0) := by
        have h6 := (show St X w H ([] :: L.eraseIdx i) from h3.front hi)
        have h7 : St X w H (L.eraseIdx i) := h6.drop (List.sublist_cons_self ..)
        exact h7.perm hL
      refine (co X w H L0 (hp H ⟨hz, h2⟩) h4).mono ?_
      rintro e w' ⟨v, Γ', M', H', rfl, k1, k2, k3, k4⟩
      exact hk v _ _ w' H' ⟨Γ', M', k1, rfl, rfl⟩ k2 (h2.mono k2) k4
    · have hg : H g' = none := (h3.front hi).apart (g', .cells cur T (0, 0)) (by simp)
      have hfr := Own.frozen ⟨hkr, .inr ⟨g', cur, rfl, rfl, h5, h50, hs, ht⟩⟩ hi h3
      have hfz := h3.freeze hi
      have hsl : (sl (some ⟨g', 0, none⟩) c k rows).holds (H.with g' (.cells cur T (0, 0))) := by
        refine sl_def.2 ⟨h5, h50, hkr, .inr ⟨_, rfl, rfl, cur, T, (0, 0), Hp.with_self H g' _, fun p j v hv => ?_⟩⟩
        cases hr : rows[p]? with
        | none => rw [hr] at hv; cases hv
        | some r =>
          rw [hr] at hv
          have := flat_get hkr hr hv
          rw [← ht, List.getElem?_take] at this
          split at this
          · simpa using this
          · cases this
      unfold Oper.wp
      rw [hent]
      refine (co X w _ L0 (hp _ ⟨hsl, h2.mono hfz.2⟩) (hfz.1.perm hL)).mono ?_
      rintro e w' ⟨v, Γ', M', H', rfl, k1, k2, k3, k4⟩
      have hle : H.le (fun b => if b = g' then none else H' b) := Hp.without_le (Hp.le_trans hfz.2 k2) hg
      refine hk v _ _ w' _ ⟨Γ', M', k1, rfl, rfl⟩ hle (h2.mono hle) ?_
      have hH' : H' g' = some (.cells cur T (0, 0)) := k2 _ _ (Hp.with_self H g' _)
      refine ⟨k4.os, k4.tape, k4.output, fun b o e => ?_, fun p hp' => ?_, fun p hp' => ?_, ?_⟩
      · split at e
        · cases e
        · exact k4.sub b o e
      · simp only [List.flatten_cons, List.singleton_append, List.mem_cons] at hp'
        rcases hp' with rfl | hp'
        · exact k4.sub _ _ hH'
        · exact k4.loc p hp'
      · simp only [List.flatten_cons, List.singleton_append, List.mem_cons] at hp'
        rcases hp' with rfl | hp'
        · simp
        · split
          · rfl
          · exact k4.apart p hp'
      · simp only [List.flatten_cons, List.singleton_append, List.map_cons, List.nodup_cons]
        refine ⟨fun hm => ?_, k4.nodup⟩
        obtain ⟨p, hp', hpe⟩ := List.mem_map.1 hm
        have := k4.apart p hp'
        rw [hpe, hH'] at this
        cases this
theorem At.callB {T : TypeId} {k c i : Nat} {rows : List (List Value)} {a : Option Addr} {Mo : Seg} (hf : Enters P f) (ha : evs env args = some vs) (co : Con P f vs pre M R) (ho : Own T k rows a c Mo) (hi : L[i]? = some Mo)
    (hp : ∀ H, Holds (sl a c k rows :: Γ) H → Holds pre H) (hL : (M ++ L0).Perm (L.eraseIdx i)) (hd : Nat.blt d n = true)
    (h : ∀ v Γr Mr, R v Γr Mr → At X n (wpList P ops Q rest) ((d, v) :: env) Γ (Mo :: (Mr ++ L0))) :
    At X n (wpList P ops Q (⟨some d, .call ⟨.value (.func f), args.toArray, ats⟩, ty, pos, aft, none⟩ :: rest)) env Γ L :=
  At.loud (l_borrow hf ha co ho hi hp hL) hd fun v _ _ ⟨Γr, Mr, hr, e1, e2⟩ => by subst e1; subst e2; exact h v Γr Mr hr
variable {l tail : List Oper} {r : Ord} {i : Nat} {Lr : Loc} {op : Op}
theorem AtO.loudA (ho : l[i]? = some ⟨some d, op, ty, pos, aft, none⟩) (hq : Loud P op ty n env Γ L R) (hd : Nat.blt d n = true)
    (hk : ∀ v Γ' L', R v Γ' L' → (∀ H, Holds Γ' H → Holds Γ H) ∧ Lr.Sublist L')
    (h : ∀ v Γ' L', R v Γ' L' → AtO X n P l Q tail r L' ((d, v) :: env) Γ' L') : AtO X n P l Q tail (.o i r) Lr env Γ L := fun a w H h1 h2 h3 => by
  show wpOp P l.toArray Q i _ a w
  unfold wpOp
  have ho' : l.toArray[i]? = some ⟨some d, op, ty, pos, aft, none⟩ := by simpa using ho
  simp only [ho']
  have hw0 : Region.wanted (⟨some d, op, ty, pos, aft, none⟩ : Oper) (yielded l.toArray a.tmps) = true := rfl
  rw [if_pos hw0]
  refine .inl (hq X _ _ _ _ a w H h1 h2 h3 _ _ fun v Γ' L' w' H' hr' _ h4 h5 => ?_)
  obtain ⟨k1, k2⟩ := hk v Γ' L' hr'
  exact ⟨Rely X Γ' L', ⟨H', h4, h5⟩, fun u ⟨H1, q1, q2⟩ => ⟨H1, k1 H1 q1, q2.drop k2⟩, h v Γ' L' hr' _ w' H' (h1.put hd) h4 h5⟩
theorem AtO.loudNA (ho : l[i]? = some ⟨none, op, ty, pos, aft, none⟩) (hq : Loud P op ty n env Γ L R)
    (hk : ∀ v Γ' L', R v Γ' L' → (∀ H, Holds Γ' H → Holds Γ H) ∧ Lr.Sublist L')
    (h : ∀ v Γ' L', R v Γ' L' → AtO X n P l Q tail r L' env Γ' L') : AtO X n P l Q tail (.o i r) Lr env Γ L := fun a w H h1 h2 h3 => by
  show wpOp P l.toArray Q i _ a w
  unfold wpOp
  have ho' : l.toArray[i]? = some ⟨none, op, ty, pos, aft, none⟩ := by simpa using ho
  simp only [ho']
  have hw0 : Region.wanted (⟨none, op, ty, pos, aft, none⟩ : Oper) (yielded l.toArray a.tmps) = true := rfl
  rw [if_pos hw0]
  refine .inl (hq X _ _ _ _ a w H h1 h2 h3 _ _ fun v Γ' L' w' H' hr' _ h4 h5 => ?_)
  obtain ⟨k1, k2⟩ := hk v Γ' L' hr'
  exact ⟨Rely X Γ' L', ⟨H', h4, h5⟩, fun u ⟨H1, q1, q2⟩ => ⟨H1, k1 H1 q1, q2.drop k2⟩, h v Γ' L' hr' _ w' H' h1 h4 h5⟩
theorem AtO.loudGA {j : Nat} {b c : Bool} (ho : l[i]? = some ⟨some d, op, ty, pos, aft, some (j, c)⟩) (hg : gd l env j = some b) (hb : b = c) (hq : Loud P op ty n env Γ L R) (hd : Nat.blt d n = true)
    (hk : ∀ v Γ' L', R v Γ' L' → (∀ H, Holds Γ' H → Holds Γ H) ∧ Lr.Sublist L')
    (h : ∀ v Γ' L', R v Γ' L' → AtO X n P l Q tail r L' ((d, v) :: env) Γ' L') : AtO X n P l Q tail (.o i r) Lr env Γ L := fun a w H h1 h2 h3 => by
  show wpOp P l.toArray Q i _ a w
  unfold wpOp
  have ho' : l.toArray[i]? = some ⟨some d, op, ty, pos, aft, some (j, c)⟩ := by simpa using ho
  simp only [ho']
  rw [if_pos (by subst hb; simp [Region.wanted, gd_spec hg h1])]
  refine .inl (hq X _ _ _ _ a w H h1 h2 h3 _ _ fun v Γ' L' w' H' hr' _ h4 h5 => ?_)
  obtain ⟨k1, k2⟩ := hk v Γ' L' hr'
  exact ⟨Rely X Γ' L', ⟨H', h4, h5⟩, fun u ⟨H1, q1, q2⟩ => ⟨H1, k1 H1 q1, q2.drop k2⟩, h v Γ' L' hr' _ w' H' (h1.put hd) h4 h5⟩
theorem AtO.callA (ho : l[i]? = some ⟨some d, .call ⟨.value (.func f), args.toArray, ats⟩, ty, pos, aft, none⟩) (hf : Enters P f) (ha : evs env args = some vs) (c : Con P f vs pre M R) (hp : ∀ H, Holds Γ H → Holds pre H) (hL : (M ++ L0).Perm L) (hd : Nat.blt d n = true)
    (hs : Lr.Sublist L0) (h : ∀ v Γr Mr, R v Γr Mr → AtO X n P l Q tail r (Mr ++ L0) ((d, v) :: env) (Γr ++ Γ) (Mr ++ L0)) :
    AtO X n P l Q tail (.o i r) Lr env Γ L :=
  AtO.loudA ho (l_call hf ha c hp hL) hd (fun v _ _ ⟨Γr, Mr, hr, e1, e2⟩ => by subst e1; subst e2; exact ⟨fun _ hh => hh.right, hs.trans (List.sublist_append_right Mr L0)⟩)
    fun v _ _ ⟨Γr, Mr, hr, e1, e2⟩ => by subst e1; subst e2; exact h v Γr Mr hr
theorem AtO.callGA {j : Nat} {b c' : Bool} (ho : l[i]? = some ⟨some d, .call ⟨.value (.func f), args.toArray, ats⟩, ty, pos, aft, some (j, c')⟩) (hg : gd l env j = some b) (hb : b = c') (hf : Enters P f) (ha : evs env args = some vs) (c : Con P f vs pre M R) (hp : ∀ H, Holds Γ H → Holds pre H) (hL : (M ++ L0).Perm L) (hd : Nat.blt d n = true)
    (hs : Lr.Sublist L0) (h : ∀ v Γr Mr, R v Γr Mr → AtO X n P l Q tail r (Mr ++ L0) ((d, v) :: env) (Γr ++ Γ) (Mr ++ L0)) :
    AtO X n P l Q tail (.o i r) Lr env Γ L :=
  AtO.loudGA ho hg hb (l_call hf ha c hp hL) hd (fun v _ _ ⟨Γr, Mr, hr, e1, e2⟩ => by subst e1; subst e2; exact ⟨fun _ hh => hh.right, hs.trans (List.sublist_append_right Mr L0)⟩)
    fun v _ _ ⟨Γr, Mr, hr, e1, e2⟩ => by subst e1; subst e2; exact h v Γr Mr hr
theorem AtO.front (i : Nat) {s : Seg} {o : Ord} (hi : L[i]? = some s) (h : AtO X n P l Q tail o Lr env Γ (s :: L.eraseIdx i)) : AtO X n P l Q tail o Lr env Γ L := At.perm _ (perm_at hi).symm h
end borrow
end E
end Go.Proofs.Ytmkodknmknfdkaa
set_option linter.unusedVariables false
set_option linter.unusedSimpArgs false
namespace Go.Proofs.Ytmkodknmknfdkaa
open E
structure Pr where
 k : Int
 v : Int
 deriving DecidableEq, Inhabited
def rowP (p : Pr) : List Value := [.int .i64 p.k, .int .i64 p.v]
def Pr.val (p : Pr) : Value := .agg #[.int .i64 p.k, .int .i64 p.v]
def rowB (b : Bool) : List Value := [.bool b]
def prsP (s : Sl Pr) : SProp := sl s.a s.c 2 (s.l.map rowP)
def boolsP (s : Sl Bool) : SProp := sl s.a s.c 1 (s.l.map rowB)
theorem one_map {α : Type} {row : α → List Value} (h : ∀ x, (row x).all Value.oneCell' = true) (l : List α) : ∀ r ∈ l.map row, r.all Value.oneCell' = true := by
 intro r hr
 obtain ⟨x, _, rfl⟩ := List.mem_map.1 hr
 exact h x
/-- A node, with where its pairs lie. -/
structure Nd where
 route : Bool
 key : Int
 left : Int
 right : Int
 ps : Sl Pr
 stat : Int
def rowN (n : Nd) : List Value := [.bool n.route, .int .i64 n.key, .int .i64 n.left, .int .i64 n.right, n.ps.val, .int .i64 n.stat]
def Nd.val (n : Nd) : Value := .agg #[.bool n.route, .int .i64 n.key, .int .i64 n.left, .int .i64 n.right, n.ps.val, .int .i64 n.stat]
def ndsP (s : Sl Nd) : SProp := sl s.a s.c 6 (s.l.map rowN)
/-- The nodes' pairs. -/
def psP (l : List Nd) : SProp := ⟨fun H => ∀ n ∈ l, (prsP n.ps).holds H, fun _ _ h k n hn => (prsP n.ps).mono _ _ h (k n hn)⟩
structure Tr where
 root : Int
 ns : Sl Nd
def Tr.val (t : Tr) : Value := .agg #[.int .i64 t.root, t.ns.val]
theorem psP_get {l : List Nd} {H : Hp} {i : Nat} {n : Nd} (h : (psP l).holds H) (hn : l[i]? = some n) : (prsP n.ps).holds H := h n (List.mem_of_getElem? hn)
theorem psP_nil {H : Hp} : (psP []).holds H := fun _ h => by simp at h
theorem psP_cons {H : Hp} {l : List Nd} {n : Nd} (hn : (prsP n.ps).holds H) (h : (psP l).holds H) : (psP (n :: l)).holds H := fun m hm => by
 rcases List.mem_cons.1 hm with h' | h'
 ·rw [h']; exact hn
 ·exact h m h'
theorem psP_snoc {H : Hp} {l : List Nd} {n : Nd} (h : (psP l).holds H) (hn : (prsP n.ps).holds H) : (psP (l ++ [n])).holds H := fun m hm => by
 rcases List.mem_append.1 hm with h' | h'
 ·exact h m h'
 ·rw [List.mem_singleton.1 h']; exact hn
theorem psP_app {H : Hp} {l m : List Nd} (h : (psP l).holds H) (hm : (psP m).holds H) : (psP (l ++ m)).holds H := fun n hn => by
 rcases List.mem_append.1 hn with h' | h'
 ·exact h n h'
 ·exact hm n h'
theorem psP_set {H : Hp} {l : List Nd} {n : Nd} {i : Nat} (h : (psP l).holds H) (hn : (prsP n.ps).holds H) : (psP (l.set i n)).holds H := fun m hm => by
 rcases List.mem_or_eq_of_mem_set hm with h' | h'
 ·exact h m h'
 ·subst h'; exact hn
/-- A node by itself. -/
structure Nod where
 route : Bool
 key : Int
 left : Int
 right : Int
 l : List Pr
 stat : Int
 deriving DecidableEq, Inhabited
def Nd.p (n : Nd) : Nod := ⟨n.route, n.key, n.left, n.right, n.ps.l, n.stat⟩
structure PT where
 root : Int
 ns : List Nod
 deriving DecidableEq, Inhabited
def Tr.p (t : Tr) : PT := ⟨t.root, t.ns.l.map Nd.p⟩
/-- A way from the root to a leaf, in memory. -/
structure PathS where
 leaf : Int
 ups : Sl Int
 rights : Sl Bool
def PathS.val (p : PathS) : Value := .agg #[.int .i64 p.leaf, p.ups.val, p.rights.val]
theorem len_ne {α : Type} {a b : List α} (h : ¬ ((a.length : Int) = (b.length : Int))) : a ≠ b := fun e => h (by rw [e])
theorem sl_none {c k : Nat} {rows : List (List Value)} {H : Hp} (h : (sl none c k rows).holds H) : rows = [] := by
 obtain ⟨_, _, _, h4⟩ := sl_def.1 h
 rcases h4 with h4 | ⟨_, h5, _⟩
 ·exact h4
 ·cases h5
theorem At.nilOf {X : Cx} {n : Nat} {K : Act → World → Prop} {env : Env} {Γ : List SProp} {L : E.Loc} {α : Type} {s : Sl α} {k : Nat} {row : α → List Value} (hs : sl s.a s.c k (s.l.map row) ∈ Γ) (ha : s.a = none) (h : s.l = [] → At X n K env Γ L) : At X n K env Γ L :=
 At.have _ (fun _ hH => by
  have h1 := hH.mem hs
  rw [ha] at h1
  simpa using sl_none h1) h
def rises : List Pr → Bool
 | a :: b :: l => decide (a.k < b.k) && rises (b :: l)
 | _ => true
theorem rises_iff : ∀ {l : List Pr}, rises l = true ↔ ∀ (j : Nat) (a b : Pr), l[j]? = some a → l[j + 1]? = some b → a.k < b.k
 | [] => by simp [rises]
 | [a] => by simp [rises]
 | a :: b :: l => by
  simp only [rises, Bool.and_eq_true, decide_eq_true_eq]
  rw [rises_iff (l := b :: l)]
  constructor
  ·rintro ⟨h1, h2⟩ j x y hx hy
   cases j with
   | zero => simp at hx hy; subst hx; subst hy; exact h1
   | succ j => exact h2 j x y (by simpa using hx) (by simpa using hy)
  ·intro h
   exact ⟨h 0 a b (by simp) (by simp), fun j x y hx hy => h (j + 1) x y (by simpa using hx) (by simpa using hy)⟩
theorem rises_no {l : List Pr} {j : Nat} {a b : Pr} (ha : l[j]? = some a) (hb : l[j + 1]? = some b) (h : b.k ≤ a.k) : rises l = false := by
 cases hr : rises l
 ·rfl
 ·have := rises_iff.1 hr j a b ha hb; omega
theorem rises_lt {l : List Pr} (h : rises l = true) : ∀ (i j : Nat) (a b : Pr), i < j → l[i]? = some a → l[j]? = some b → a.k < b.k := by
 intro i j
 induction j with
 | zero => intro a b hij; omega
 | succ j ih =>
  intro a b hij ha hb
  rcases Nat.lt_or_ge i j with h1 | h1
  ·have hj : j < l.length := by have := lt_of_get hb; omega
   obtain ⟨c, hc⟩ := get_of_lt hj
   have h2 := ih a c h1 ha hc
   have h3 := rises_iff.1 h j c b hc hb
   omega
  ·obtain rfl : i = j := by omega
   exact rises_iff.1 h i a b ha hb
theorem stepRise {l : List Pr} {j : Nat} {x y : Pr} (hI : ∀ (i : Nat) (a b : Pr), i + 1 < j + 1 → l[i]? = some a → l[i + 1]? = some b → a.k < b.k) (hx : l[j]? = some x) (hy : l[j + 1]? = some y) (h : x.k < y.k) :
  ∀ (i : Nat) (a b : Pr), i + 1 < j + 1 + 1 → l[i]? = some a → l[i + 1]? = some b → a.k < b.k := fun i a b hi ha hb => by
 rcases Nat.lt_or_ge (i + 1) (j + 1) with h1 | h1
 ·exact hI i a b h1 ha hb
 ·obtain rfl : i = j := by omega
  rw [hx] at ha; rw [hy] at hb; cases ha; cases hb; exact h
theorem take_step {α : Type} {a b : List α} {k : Nat} {x : α} (hx : a[k]? = some x) (hy : b[k]? = some x) (h : a.take k = b.take k) : a.take (k + 1) = b.take (k + 1) := by
 rw [List.take_succ_eq_append_getElem (lt_of_get hx), List.take_succ_eq_append_getElem (lt_of_get hy), h, (List.getElem?_eq_some_iff.1 hx).2, (List.getElem?_eq_some_iff.1 hy).2]
theorem ne_at {α : Type} {a b : List α} {k : Nat} {x y : α} (hx : a[k]? = some x) (hy : b[k]? = some y) (h : x ≠ y) : a ≠ b := fun e => by
 subst e; rw [hx] at hy; exact h (Option.some.inj hy)
theorem eq_of_takes {α : Type} {a b : List α} {k : Nat} (hl : a.length = b.length) (hk : a.length ≤ k) (h : a.take k = b.take k) : a = b := by
 rwa [List.take_of_length_le hk, List.take_of_length_le (by omega)] at h
theorem Pr.eq_iff {x y : Pr} : [x.k, x.v] = [y.k, y.v] ↔ x = y := by cases x; cases y; simp
def idxI {α : Type} (p : α → Bool) (l : List α) : Int := if l.any p then (l.findIdx p : Int) else -1
theorem idx_at {α : Type} {p : α → Bool} {l : List α} {k : Nat} {x : α} (hx : l[k]? = some x) (hp : p x = true) (hno : ∀ y ∈ l.take k, p y = false) : idxI p l = (k : Int) := by
 have hm : x ∈ l := List.mem_of_getElem? hx
 have ha : l.any p = true := List.any_eq_true.2 ⟨x, hm, hp⟩
 have hk := lt_of_get hx
 have : l.findIdx p = k := by
  refine (List.findIdx_eq hk).2 ⟨?_, fun j hj => ?_⟩
  ·rw [(List.getElem?_eq_some_iff.1 hx).2]; exact hp
  ·have := hno l[j] (List.mem_take_iff_getElem.2 ⟨j, by omega, rfl⟩)
   simpa using this
 simp [idxI, ha, this]
theorem idx_step {α : Type} {p : α → Bool} {l : List α} {k : Nat} {x : α} (hx : l[k]? = some x) (hp : p x = false) (hno : ∀ y ∈ l.take k, p y = false) : ∀ y ∈ l.take (k + 1), p y = false := by
 intro y hy
 have hk := lt_of_get hx
 rw [List.take_succ_eq_append_getElem hk] at hy
 rcases List.mem_append.1 hy with h | h
 ·exact hno y h
 ·rw [List.mem_singleton.1 h, (List.getElem?_eq_some_iff.1 hx).2]; exact hp
theorem idx_no {α : Type} {p : α → Bool} {l : List α} (h : ∀ y ∈ l, p y = false) : idxI p l = -1 := by
 have : l.any p = false := by simpa using h
 simp [idxI, this]
theorem idx_any {α : Type} (p : α → Bool) (l : List α) : decide (0 ≤ idxI p l) = l.any p := by
 unfold idxI
 cases l.any p <;> simp <;> omega
theorem any_not {α : Type} (l : List α) (f : α → Bool) : (l.any fun p => !f p) = !(l.all f) := by induction l with
 | nil => rfl
 | cons x l ih => simp only [List.any_cons, List.all_cons, ih, Bool.not_and]
structure Kb where
 least : Int
 most : Int
 isLeast : Bool
 isMost : Bool
 deriving DecidableEq
def Kb.val (k : Kb) : Value := .agg #[.int .i64 k.least, .int .i64 k.most, .bool k.isLeast, .bool k.isMost]
def Kb.has (k : Kb) (key : Int) : Bool := (!k.isLeast || decide (k.least ≤ key)) && (!k.isMost || decide (key < k.most))
def Kb.all : Kb := ⟨0, 0, false, false⟩
inductive Sh where
 | leaf (at_ : Nat)
 | node (at_ : Nat) (l r : Sh)
 deriving DecidableEq, Inhabited
def Sh.at_ : Sh → Nat
 | .leaf i => i
 | .node i _ _ => i
def Sh.places : Sh → List Nat
 | .leaf i => [i]
 | .node i l r => i :: (l.places ++ r.places)
def Sh.size : Sh → Nat
 | .leaf _ => 1
 | .node _ l r => 1 + l.size + r.size
theorem Sh.size_places (s : Sh) : s.places.length = s.size := by
 induction s with
 | leaf i => rfl
 | node i l r h1 h2 => simp [Sh.places, Sh.size, h1, h2]; omega
def leafOk (n : Nod) (k : Kb) : Bool := decide (n.key = 0) && (decide (n.left = 0) && (decide (n.right = 0) && (rises n.l && (decide (-1000000 ≤ n.stat) && (decide (n.stat ≤ 1000000) && n.l.all (fun p => k.has p.k))))))
def routeOk (n : Nod) (k : Kb) : Bool := n.l.isEmpty && (decide (n.stat = 0) && (k.has n.key && !(k.isLeast && decide (n.key = k.least))))
def Kb.lefts (k : Kb) (key : Int) : Kb := ⟨k.least, key, k.isLeast, true⟩
def Kb.rights (k : Kb) (key : Int) : Kb := ⟨key, k.most, true, k.isMost⟩
/-- What hangs on a place, if it may be; met: the places that were come to before. -/
def shape (ns : List Nod) : Nat → List Nat → Int → Kb → Option Sh
 | 0, _, _, _ => none
 | f + 1, met, at_, k =>
  if at_ < 0 then none else
  match ns[at_.toNat]? with
  | none => none
  | some n =>
   if met.contains at_.toNat then none else
   if n.route then
    if routeOk n k then
     match shape ns f (at_.toNat :: met) n.left (k.lefts n.key) with
     | none => none
     | some l => match shape ns f (l.places ++ at_.toNat :: met) n.right (k.rights n.key) with
      | none => none
      | some r => some (.node at_.toNat l r)
    else none
   else if leafOk n k then some (.leaf at_.toNat) else none
/-- A tree that may be: how it hangs together. -/
def mayT (t : PT) : Option Sh :=
 if 2000 < t.ns.length then none else
 match shape t.ns (t.ns.length + 1) [] t.root Kb.all with
 | none => none
 | some s => if (List.range t.ns.length).all (s.places.contains ·) then some s else none
/-- The nodes of what hangs together, in plain order, from a place on. -/
def Sh.lay (ns : List Nod) : Sh → Nat → List Nod
 | .leaf i, _ => [ns.getD i default]
 | .node i l r, b =>
  let n := ns.getD i default
  { n with left := ((b + 1 : Nat) : Int), right := ((b + 1 + l.size : Nat) : Int) } :: (l.lay ns (b + 1) ++ r.lay ns (b + 1 + l.size))
def plainT (t : PT) : Option PT := (mayT t).map fun s => ⟨0, s.lay t.ns 0⟩
def Sh.leaves : Sh → List Nat
 | .leaf i => [i]
 | .node _ l r => l.leaves ++ r.leaves
def leavesT (t : PT) : List Nat := match mayT t with | none => [] | some s => s.leaves
def allT (t : PT) : List Pr := (leavesT t).flatMap fun i => (t.ns.getD i default).l
structure PathP where
 leaf : Nat
 ups : List Nat
 rights : List Bool
 deriving DecidableEq
def Sh.find (ns : List Nod) (key : Int) : Sh → PathP
 | .leaf i => ⟨i, [], []⟩
 | .node i l r => if key < (ns.getD i default).key then let p := l.find ns key; ⟨p.leaf, i :: p.ups, false :: p.rights⟩ else let p := r.find ns key; ⟨p.leaf, i :: p.ups, true :: p.rights⟩
def findT (t : PT) (key : Int) : Option PathP := (mayT t).map fun s => s.find t.ns key
def setT (t : PT) (at_ : Int) (l : List Pr) (stat : Int) : Option PT :=
 if (mayT t).isNone then none else if at_ < 0 then none else
 match t.ns[at_.toNat]? with
 | none => none
 | some n => if n.route then none else
  let u : PT := ⟨t.root, t.ns.set at_.toNat { n with l := l, stat := stat }⟩
  if (mayT u).isNone then none else some u
def bits (N : Nat) (met : List Nat) : List Bool := (List.range N).map (met.contains ·)
theorem bits_length (N : Nat) (met : List Nat) : (bits N met).length = N := by simp [bits]
theorem bits_get {N i : Nat} {met : List Nat} (h : i < N) : (bits N met)[i]? = some (met.contains i) := by simp [bits, h]
theorem bits_set {N i : Nat} {met : List Nat} : (bits N met).set i true = bits N (i :: met) := by
 apply List.ext_getElem?
 intro j
 rw [List.getElem?_set]
 by_cases hj : j < N
 ·rw [bits_get hj, bits_get hj]
  by_cases hij : i = j
  ·subst hij; simp [bits_length, hj]
  ·simp only [hij, if_false, List.contains_cons]
   have : (j == i) = false := by simpa using (Ne.symm hij)
   simp [this]
 ·have h1 : (bits N met)[j]? = none := List.getElem?_eq_none (by rw [bits_length]; omega)
  have h2 : (bits N (i :: met))[j]? = none := List.getElem?_eq_none (by rw [bits_length]; omega)
  rw [h1, h2]
  split
  ·rename_i h; subst h; rw [if_neg (by rw [bits_length]; exact hj)]
  ·rfl
theorem count_set {bs : List Bool} {i : Nat} (h : bs[i]? = some false) : (bs.set i true).count false + 1 = bs.count false ∧ (bs.set i true).count true = bs.count true + 1 := by
 induction bs generalizing i with
 | nil => simp at h
 | cons b bs ih =>
  cases i with
  | zero => simp at h; subst h; simp
  | succ i =>
   have := ih (by simpa using h)
   cases b <;> simp <;> omega
theorem count_bits_le {N : Nat} {met met' : List Nat} (h : ∀ i ∈ met, i ∈ met') : (bits N met').count false ≤ (bits N met).count false := by
 unfold bits
 induction List.range N with
 | nil => simp
 | cons i l ih =>
  simp only [List.map_cons, List.count_cons]
  have : (met.contains i = true → met'.contains i = true) := by simpa using h i
  cases h1 : met.contains i <;> cases h2 : met'.contains i <;> simp_all <;> omega
theorem count_full {N : Nat} {met : List Nat} : (bits N met).count true = N ↔ (List.range N).all (met.contains ·) = true := by
 have : ∀ l : List Nat, (l.map (met.contains ·)).count true = l.length ↔ l.all (met.contains ·) = true := by
  intro l
  induction l with
  | nil => simp
  | cons i l ih =>
   have hle := List.count_le_length (a := true) (l := l.map (met.contains ·))
   simp only [List.length_map] at hle
   simp only [List.map_cons, List.count_cons, List.length_cons, List.all_cons, Bool.and_eq_true]
   rw [← ih]
   generalize (l.map (met.contains ·)).count true = c at hle ⊢
   cases met.contains i <;> simp <;> omega
 have h := this (List.range N)
 simp only [List.length_range] at h
 exact h
theorem count_all (bs : List Bool) : bs.count false + bs.count true = bs.length := by
 induction bs with
 | nil => rfl
 | cons b bs ih => cases b <;> simp <;> omega
theorem pt_eq {a b : PT} (h1 : a.root = b.root) (h2 : a.ns = b.ns) : a = b := by cases a; cases b; simp_all
section
variable {ns : List Nod} {f i : Nat} {met : List Nat} {at_ : Int} {k : Kb} {n : Nod}
theorem sh_neg (h : at_ < 0) : shape ns (f + 1) met at_ k = none := by simp [shape, h]
theorem sh_out (h : ns.length ≤ i) : shape ns (f + 1) met (i : Int) k = none := by
 have : ns[i]? = none := List.getElem?_eq_none h
 simp [shape, this]
theorem sh_met (h : met.contains i = true) : shape ns (f + 1) met (i : Int) k = none := by
 simp only [shape, Int.toNat_natCast, h, if_true]
 split
 ·rfl
 ·split <;> rfl
theorem sh_leaf (hn : ns[i]? = some n) (hm : met.contains i = false) (hr : n.route = false) : shape ns (f + 1) met (i : Int) k = if leafOk n k then some (.leaf i) else none := by
 have h0 : ¬ ((i : Int) < 0) := by omega
 simp only [shape, h0, if_false, Int.toNat_natCast, hn, hm, hr, Bool.false_eq_true]
theorem sh_bad (hn : ns[i]? = some n) (hr : n.route = true) (hb : routeOk n k = false) : shape ns (f + 1) met (i : Int) k = none := by
 have h0 : ¬ ((i : Int) < 0) := by omega
 simp [shape, h0, hn, hr, hb]
theorem sh_left (hn : ns[i]? = some n) (hr : n.route = true) (hb : routeOk n k = true) (hl : shape ns f (i :: met) n.left (k.lefts n.key) = none) : shape ns (f + 1) met (i : Int) k = none := by
 have h0 : ¬ ((i : Int) < 0) := by omega
 simp [shape, h0, hn, hr, hb, hl]
theorem sh_right {l : Sh} (hn : ns[i]? = some n) (hm : met.contains i = false) (hr : n.route = true) (hb : routeOk n k = true) (hl : shape ns f (i :: met) n.left (k.lefts n.key) = some l) :
  shape ns (f + 1) met (i : Int) k = (shape ns f (l.places ++ i :: met) n.right (k.rights n.key)).map (.node i l) := by
 have h0 : ¬ ((i : Int) < 0) := by omega
 simp only [shape, h0, if_false, Int.toNat_natCast, hn, hm, hr, hb, hl, if_true, Bool.false_eq_true]
 cases shape ns f (l.places ++ i :: met) n.right (k.rights n.key) <;> rfl
end
theorem not_t {b : Bool} (h : (!b) = true) : b = false := by simpa using h
theorem not_f {b : Bool} (h : (!b) = false) : b = true := by simpa using h
theorem none_of {α : Type} {o : Option α} (h : o.isSome = false) : o = none := by cases o <;> simp_all
theorem isSome_ite {α : Type} {b : Bool} {x : α} : (if b then some x else none : Option α).isSome = b := by cases b <;> rfl
theorem bits_row (N i : Nat) (met : List Nat) (x : Bool) : ((bits N met).map rowB).set i (spl [.bool x] 0 [.bool true]) = (bits N (i :: met)).map rowB := by
 rw [← bits_set, List.map_set]; rfl
theorem bits_mem {N : Nat} {met met' : List Nat} (h : ∀ i, met.contains i = met'.contains i) : bits N met = bits N met' := by
 have : (fun i => met.contains i) = (fun i => met'.contains i) := funext h
 unfold bits
 rw [this]
theorem count_step {N i : Nat} {met : List Nat} (hi : i < N) (hm : met.contains i = false) : (bits N (i :: met)).count false + 1 = (bits N met).count false ∧ (bits N (i :: met)).count true = (bits N met).count true + 1 := by
 rw [← bits_set]
 exact count_set (by rw [bits_get hi, hm])
theorem count_le (N : Nat) (met : List Nat) : (bits N met).count true ≤ N := by
 have := count_all (bits N met)
 rw [bits_length] at this
 omega
theorem count_more (N : Nat) (a b : List Nat) : (bits N (a ++ b)).count false ≤ (bits N b).count false := count_bits_le fun _ h => List.mem_append_right _ h
theorem isSome_map {α β : Type} (o : Option α) (f : α → β) : (o.map f).isSome = o.isSome := by cases o <;> rfl
/-- How 'may' leaves things. -/
def MayEnd (t : Tr) (f : Nat) (met : List Nat) (at_ : Int) (k : Kb) (n' : Nat) (a : Option Addr) (c : Nat) (Mm : E.Seg) : Prop :=
 ∀ s, shape t.p.ns f met at_ k = some s → n' = (bits t.ns.l.length (s.places ++ met)).count true ∧ E.Own 4 1 ((bits t.ns.l.length (s.places ++ met)).map rowB) a c Mm
theorem MayEnd.no {t : Tr} {f : Nat} {met : List Nat} {at_ : Int} {k : Kb} {n' : Nat} {a : Option Addr} {c : Nat} {Mm : E.Seg} (h : shape t.p.ns f met at_ k = Option.none) : MayEnd t f met at_ k n' a c Mm := fun s hs => by rw [h] at hs; cases hs
theorem MayEnd.leaf {t : Tr} {f i : Nat} {met : List Nat} {k : Kb} {a : Option Addr} {c : Nat} {Mm : E.Seg} {b : Bool} (h : shape t.p.ns f met (i : Int) k = if b then some (.leaf i) else none)
  (hO : E.Own 4 1 ((bits t.ns.l.length (i :: met)).map rowB) a c Mm) : MayEnd t f met (i : Int) k ((bits t.ns.l.length (i :: met)).count true) a c Mm := fun s hs => by
 rw [h] at hs
 cases b
 ·cases hs
 ·cases hs; exact ⟨rfl, hO⟩
theorem MayEnd.node {t : Tr} {f i n' : Nat} {met : List Nat} {at_ : Int} {k k' : Kb} {a : Option Addr} {c : Nat} {Mm : E.Seg} {l : Sh} (h : shape t.p.ns (f + 1) met (i : Int) k = (shape t.p.ns f (l.places ++ i :: met) at_ k').map (.node i l))
  (he : MayEnd t f (l.places ++ i :: met) at_ k' n' a c Mm) : MayEnd t (f + 1) met (i : Int) k n' a c Mm := fun s hs => by
 rw [h] at hs
 cases hr : shape t.p.ns f (l.places ++ i :: met) at_ k' with
 | none => rw [hr] at hs; cases hs
 | some r =>
  rw [hr] at hs
  cases hs
  have e : bits t.ns.l.length ((Sh.node i l r).places ++ met) = bits t.ns.l.length (r.places ++ (l.places ++ i :: met)) := bits_mem fun j => by
   simp only [Sh.places, List.contains_eq_mem, List.mem_append, List.mem_cons, List.cons_append, List.append_assoc]
   congr 1
   simp only [eq_iff_iff]
   constructor <;> (intro h; rcases h with h | h | h | h <;> simp [h])
  rw [e]
  exact he r hr
def May68 (t : Tr) (f : Nat) : Prop := ∀ (met : List Nat) (at_ : Int) (k : Kb) (b : Nat) (a : Option Addr) (c : Nat) (Mm : E.Seg), (bits t.ns.l.length met).count false < f → E.Own 4 1 ((bits t.ns.l.length met).map rowB) a c Mm →
 Con Try.prog 68 [.pointer (some ⟨b, 0, none⟩), .int .i64 at_, k.val] [ndsP t.ns, psP t.ns.l] [[(b, .cells #[.int .i64 t.root, t.ns.val, .slice a t.ns.l.length c, .int .i64 ((bits t.ns.l.length met).count true)] 97 (0, 0))], Mm]
  (fun v Γ M => ∃ (n' : Nat) (Mm' : E.Seg), v = .bool (shape t.p.ns f met at_ k).isSome ∧ Γ = [] ∧ M = [[(b, .cells #[.int .i64 t.root, t.ns.val, .slice a t.ns.l.length c, .int .i64 n'] 97 (0, 0))], Mm'] ∧ MayEnd t f met at_ k n' a c Mm')
theorem bits_nil (N : Nat) : (bits N []).map rowB = List.replicate N [Value.bool false] := by
 apply List.ext_getElem?
 intro j
 by_cases hj : j < N
 ·rw [List.getElem?_map, bits_get hj]; simp [rowB, hj]
 ·rw [List.getElem?_eq_none (by simp [bits_length]; omega), List.getElem?_eq_none (by simp; omega)]
theorem may_big {t : PT} (h : 2000 < t.ns.length) : (mayT t).isSome = false := by simp [mayT, h]
theorem may_none {t : PT} (h : (shape t.ns (t.ns.length + 1) [] t.root Kb.all).isSome = false) : (mayT t).isSome = false := by
 unfold mayT
 rw [none_of h]
 split <;> rfl
theorem may_some {t : PT} {s : Sh} (hl : ¬ 2000 < t.ns.length) (hs : shape t.ns (t.ns.length + 1) [] t.root Kb.all = some s) : (mayT t).isSome = decide (((bits t.ns.length (s.places ++ [])).count true : Int) = (t.ns.length : Int)) := by
 have e : ((bits t.ns.length (s.places ++ [])).count true : Int) = (t.ns.length : Int) ↔ (List.range t.ns.length).all (s.places.contains ·) = true := by
  rw [List.append_nil, ← count_full]; omega
 unfold mayT
 rw [if_neg hl, hs]
 simp only []
 cases h : (List.range t.ns.length).all (s.places.contains ·)
 ·simp only [Bool.false_eq_true, if_false, Option.isSome_none]
  exact (decide_eq_false (fun h' => by rw [e.1 h'] at h; cases h)).symm
 ·simp only [if_true, Option.isSome_some]
  exact (decide_eq_true (e.2 h)).symm
def Hangs (ns : List Nod) : Sh → Int → Prop
 | .leaf i, a => a = (i : Int) ∧ ∃ n, ns[i]? = some n ∧ n.route = false
 | .node i l r, a => a = (i : Int) ∧ ∃ n, ns[i]? = some n ∧ n.route = true ∧ Hangs ns l n.left ∧ Hangs ns r n.right
/-- What 'shape' tells of a place. -/
theorem shape_some {ns : List Nod} {f : Nat} {met : List Nat} {at_ : Int} {k : Kb} {s : Sh} (h : shape ns (f + 1) met at_ k = some s) :
  ∃ (i : Nat) (n : Nod), at_ = (i : Int) ∧ ns[i]? = some n ∧ met.contains i = false ∧ ((n.route = false ∧ leafOk n k = true ∧ s = .leaf i) ∨
   (n.route = true ∧ routeOk n k = true ∧ ∃ l r, s = .node i l r ∧ shape ns f (i :: met) n.left (k.lefts n.key) = some l ∧ shape ns f (l.places ++ i :: met) n.right (k.rights n.key) = some r)) := by
 unfold shape at h
 split at h
 ·cases h
 rename_i h0
 split at h
 ·cases h
 rename_i n hn
 split at h
 ·cases h
 rename_i hm
 refine ⟨at_.toNat, n, by omega, hn, by simpa using hm, ?_⟩
 split at h
 ·rename_i hr
  split at h
  ·rename_i hb
   split at h
   ·cases h
   rename_i l hl
   split at h
   ·cases h
   rename_i r hr'
   exact .inr ⟨hr, hb, l, r, (Option.some.inj h).symm, hl, hr'⟩
  ·cases h
 ·rename_i hr
  split at h
  ·rename_i hb
   exact .inl ⟨by simpa using hr, hb, (Option.some.inj h).symm⟩
  ·cases h
theorem hangs_of : ∀ {f : Nat} {ns : List Nod} {met : List Nat} {at_ : Int} {k : Kb} {s : Sh}, shape ns f met at_ k = some s → Hangs ns s at_
 | 0, _, _, _, _, _, h => by simp [shape] at h
 | f + 1, ns, met, at_, k, s, h => by
  obtain ⟨i, n, rfl, hn, _, hc⟩ := shape_some h
  rcases hc with ⟨hr, _, rfl⟩ | ⟨hr, _, l, r, rfl, hl, hr'⟩
  ·exact ⟨rfl, n, hn, hr⟩
  ·exact ⟨rfl, n, hn, hr, hangs_of hl, hangs_of hr'⟩
theorem may_hangs {t : PT} {s : Sh} (h : mayT t = some s) : t.ns.length ≤ 2000 ∧ shape t.ns (t.ns.length + 1) [] t.root Kb.all = some s ∧ Hangs t.ns s t.root ∧ (List.range t.ns.length).all (s.places.contains ·) = true := by
 unfold mayT at h
 split at h
 ·cases h
 split at h
 ·cases h
 rename_i s' hs
 split at h
 ·rename_i hc
  cases h
  exact ⟨by omega, hs, hangs_of hs, hc⟩
 ·cases h
theorem Hangs.at {t : Tr} {s : Sh} {a : Int} (h : Hangs t.p.ns s a) : ∃ (i : Nat) (x : Nd), a = (i : Int) ∧ t.ns.l[i]? = some x ∧ t.p.ns.getD i default = x.p ∧
  ((x.route = false ∧ s = .leaf i) ∨ (x.route = true ∧ ∃ l r, s = .node i l r ∧ Hangs t.p.ns l x.left ∧ Hangs t.p.ns r x.right)) := by
 have key : ∀ {i : Nat} {n : Nod}, t.p.ns[i]? = some n → ∃ x, t.ns.l[i]? = some x ∧ x.p = n ∧ t.p.ns.getD i default = n := by
  intro i n hn
  have hn' : (t.ns.l.map Nd.p)[i]? = some n := hn
  rw [List.getElem?_map] at hn'
  cases hx : t.ns.l[i]? with
  | none => rw [hx] at hn'; cases hn'
  | some x => rw [hx] at hn'; exact ⟨x, rfl, Option.some.inj hn', by rw [List.getD_eq_getElem?_getD, hn]; rfl⟩
 cases s with
 | leaf i =>
  obtain ⟨rfl, n, hn, hr⟩ := h
  obtain ⟨x, hx, rfl, hg⟩ := key hn
  exact ⟨i, x, rfl, hx, hg, .inl ⟨hr, rfl⟩⟩
 | node i l r =>
  obtain ⟨rfl, n, hn, hr, hl, hr'⟩ := h
  obtain ⟨x, hx, rfl, hg⟩ := key hn
  exact ⟨i, x, rfl, hx, hg, .inr ⟨hr, l, r, rfl, hl, hr'⟩⟩
theorem get_mid (o r : List Nd) (n : Nd) : ((o ++ n :: r).map rowN)[o.length]? = some (rowN n) := by simp
theorem set_mid (o r : List Nd) (n m : Nd) : ((o ++ n :: r).map rowN).set o.length (rowN m) = (o ++ m :: r).map rowN := by
 rw [← List.map_set]; simp
def smallP (l : List Nd) : Prop := ∀ n ∈ l, n.ps.l.length ≤ 1000000
def LayEnd (t : Tr) (s : Sh) (o : List Nd) (v : Value) (Γ : List SProp) (M : E.Loc) : Prop :=
 ∃ (o' : List Nd) (a' : Option Addr) (c' : Nat) (M' : E.Seg), v = .slice a' (o ++ o').length c' ∧ Γ = [psP o'] ∧ M = [M'] ∧ E.Own 33 6 ((o ++ o').map rowN) a' c' M' ∧ o'.map Nd.p = s.lay t.p.ns o.length
def Lay69 (t : Tr) (s : Sh) : Prop := ∀ (at_ : Int), Hangs t.p.ns s at_ → ∀ (o : List Nd) (a : Option Addr) (c : Nat) (Mo : E.Seg), E.Own 33 6 (o.map rowN) a c Mo → o.length + s.size ≤ 1000000 →
 Con Try.prog 69 [t.val, .int .i64 at_, .slice a o.length c] [ndsP t.ns, psP t.ns.l] [Mo] (LayEnd t s o)
theorem Sh.lay_length (ns : List Nod) (s : Sh) (b : Nat) : (s.lay ns b).length = s.size := by
 induction s generalizing b with
 | leaf i => rfl
 | node i l r h1 h2 => simp [Sh.lay, Sh.size, h1, h2]; omega
theorem lay_node {t : Tr} {i : Nat} {x n : Nd} {s0 : Sl Pr} {l r : Sh} {o o1 o2 : List Nd} {a : Option Addr} {c : Nat} {M : E.Seg} {q : List Nd} (hO : E.Own 33 6 (((o ++ n :: o1) ++ o2).map rowN) a c M) (hg : t.p.ns.getD i default = x.p) (hl1 : o1.length = l.size)
  (hs0 : s0.l = x.ps.l) (he1 : o1.map Nd.p = l.lay t.p.ns (o ++ q).length) (he2 : o2.map Nd.p = r.lay t.p.ns (o ++ n :: o1).length) (hq : q.length = 1)
  (hn : n = { x with ps := s0, left := ((o.length + 1 : Nat) : Int), right := ((o.length + 1 + o1.length : Nat) : Int) }) : LayEnd t (.node i l r) o (.slice a ((o ++ n :: o1) ++ o2).length c) [psP (n :: (o1 ++ o2))] [M] := by
 refine ⟨n :: (o1 ++ o2), a, c, M, by simp, rfl, rfl, by simpa using hO, ?_⟩
 simp only [Sh.lay, hg, List.map_cons, List.map_append]
 rw [he1, he2, hn]
 simp only [Nd.p, hs0, List.length_append, List.length_cons, hq, hl1]
 rw [show o.length + (l.size + 1) = o.length + 1 + l.size by omega]
theorem shape_places : ∀ {f : Nat} {ns : List Nod} {met : List Nat} {at_ : Int} {k : Kb} {s : Sh}, shape ns f met at_ k = some s → s.places.Nodup ∧ ∀ i ∈ s.places, i < ns.length ∧ i ∉ met
 | 0, _, _, _, _, _, h => by simp [shape] at h
 | f + 1, ns, met, at_, k, s, h => by
  obtain ⟨i, n, rfl, hn, hm, hc⟩ := shape_some h
  have hm' : i ∉ met := by simpa using hm
  have hi := lt_of_get hn
  rcases hc with ⟨_, _, rfl⟩ | ⟨_, _, l, r, rfl, hl, hr⟩
  ·exact ⟨by simp [Sh.places], fun j hj => by simp [Sh.places] at hj; subst hj; exact ⟨hi, hm'⟩⟩
  ·obtain ⟨a1, a2⟩ := shape_places hl
   obtain ⟨b1, b2⟩ := shape_places hr
   refine ⟨?_, ?_⟩
   ·simp only [Sh.places, List.nodup_cons, List.mem_append, List.nodup_append]
    refine ⟨?_, a1, b1, ?_⟩
    ·rintro (h1 | h1)
     ·exact (a2 i h1).2 (by simp)
     ·exact (b2 i h1).2 (by simp)
    ·intro x hx y hy e
     subst e
     exact (b2 x hy).2 (by simp [hx])
   ·intro j hj
    simp only [Sh.places, List.mem_cons, List.mem_append] at hj
    rcases hj with rfl | h1 | h1
    ·exact ⟨hi, hm'⟩
    ·exact ⟨(a2 j h1).1, fun h2 => (a2 j h1).2 (by simp [h2])⟩
    ·exact ⟨(b2 j h1).1, fun h2 => (b2 j h1).2 (by simp [h2])⟩
theorem nodup_len : ∀ {N : Nat} {l : List Nat}, l.Nodup → (∀ i ∈ l, i < N) → l.length ≤ N
 | 0, l, _, h => by
  cases l with
  | nil => simp
  | cons a l => exact absurd (h a (by simp)) (Nat.not_lt_zero _)
 | N + 1, l, hn, h => by
  have h1 : (l.erase N).Nodup := hn.erase N
  have h2 := nodup_len (N := N) h1 fun i hi => by
   have h3 := h i (List.mem_of_mem_erase hi)
   have h4 : i ≠ N := fun e => by subst e; exact (List.Nodup.not_mem_erase hn) hi
   omega
  have h3 := List.length_erase (a := N) (l := l)
  split at h3 <;> omega
theorem nodup_sub {α : Type} [DecidableEq α] : ∀ {a b : List α}, a.Nodup → (∀ i ∈ a, i ∈ b) → a.length ≤ b.length
 | [], b, _, _ => Nat.zero_le _
 | x :: a, b, hn, h => by
  obtain ⟨h1, h2⟩ := List.nodup_cons.1 hn
  have hx : x ∈ b := h x (by simp)
  have := nodup_sub (b := b.erase x) h2 fun i hi => (List.mem_erase_of_ne (fun e => by subst e; exact h1 hi)).2 (h i (by simp [hi]))
  rw [List.length_erase_of_mem hx] at this
  have := List.length_pos_of_mem hx
  simp
  omega
structure Good (t : PT) (s : Sh) : Prop where
 may : mayT t = some s
 few : t.ns.length ≤ 2000
 hangs : Hangs t.ns s t.root
 nodup : s.places.Nodup
 lt : ∀ i ∈ s.places, i < t.ns.length
 all : ∀ i, i < t.ns.length → i ∈ s.places
 size : s.size = t.ns.length
theorem good_of {t : PT} {s : Sh} (h : mayT t = some s) : Good t s := by
 obtain ⟨h1, h2, h3, h4⟩ := may_hangs h
 obtain ⟨h5, h6⟩ := shape_places h2
 have h7 : ∀ i, i < t.ns.length → i ∈ s.places := fun i hi => by
  have := List.all_eq_true.1 h4 i (List.mem_range.2 hi)
  simpa using this
 refine ⟨h, h1, h3, h5, fun i hi => (h6 i hi).1, h7, ?_⟩
 have a := nodup_len h5 fun i hi => (h6 i hi).1
 have b : (List.range t.ns.length).length ≤ s.places.length := nodup_sub List.nodup_range fun i hi => h7 i (List.mem_range.1 hi)
 rw [Sh.size_places] at a b
 simp at b
 omega
theorem leaves_places {s : Sh} : ∀ i ∈ s.leaves, i ∈ s.places := by
 induction s with
 | leaf j => intro i h; simpa [Sh.leaves, Sh.places] using h
 | node j l r h1 h2 =>
  intro i h
  simp only [Sh.leaves, List.mem_append] at h
  simp only [Sh.places, List.mem_cons, List.mem_append]
  rcases h with h | h
  ·exact .inr (.inl (h1 i h))
  ·exact .inr (.inr (h2 i h))
theorem leaves_len (s : Sh) : s.leaves.length ≤ s.size := by
 induction s with
 | leaf j => simp [Sh.leaves, Sh.size]
 | node j l r h1 h2 => simp [Sh.leaves, Sh.size]; omega
theorem decide_len_zero {α : Type} [DecidableEq α] (l : List α) : decide ((l.length : Int) = 0) = decide (l = []) := by
 cases l with
 | nil => rfl
 | cons a l => rw [decide_eq_false (by simp; omega), decide_eq_false (by simp)]
theorem last_get {l : List Bool} {j : Nat} {x : Bool} (h : l.length = j + 1) (hx : l[j]? = some x) : x = l.getLast?.getD false := by
 rw [List.getLast?_eq_getElem?, h]
 simp [hx]
def plainD (t : PT) : PT := (plainT t).getD ⟨0, []⟩
def findD (t : PT) (key : Int) : PathP := (findT t key).getD ⟨0, [], []⟩
def PlainEnd (t : Tr) (v : Value) (Γ : List SProp) (M : E.Loc) : Prop :=
 ∃ (u : Tr) (M' : E.Seg), v = .tuple #[u.val, .bool (mayT t.p).isSome] ∧ Γ = [psP u.ns.l] ∧ M = [M'] ∧ E.Own 33 6 (u.ns.l.map rowN) u.ns.a u.ns.c M' ∧ u.p = plainD t.p
def toI (l : List Nat) : List Int := l.map fun (i : Nat) => (i : Int)
theorem toI_app (a b : List Nat) : toI (a ++ b) = toI a ++ toI b := List.map_append
def LvEnd (s : Sh) (o : List Int) (v : Value) (Γ : List SProp) (M : E.Loc) : Prop :=
 ∃ (a' : Option Addr) (c' : Nat) (M' : E.Seg), v = .slice a' (o ++ toI s.leaves).length c' ∧ Γ = [] ∧ M = [M'] ∧ E.Own 3 1 ((o ++ toI s.leaves).map rowI) a' c' M'
def Lv (F : Nat) (t : Tr) (s : Sh) : Prop := ∀ (at_ : Int), Hangs t.p.ns s at_ → ∀ (o : List Int) (a : Option Addr) (c : Nat) (Mo : E.Seg), E.Own 3 1 (o.map rowI) a c Mo → o.length + s.size ≤ 1000000 →
 Con Try.prog F [t.val, .int .i64 at_, .slice a o.length c] [ndsP t.ns, psP t.ns.l] [Mo] (LvEnd s o)
def IntsEnd (l : List Int) (v : Value) (Γ : List SProp) (M : E.Loc) : Prop := ∃ (u : Sl Int) (M' : E.Seg), v = u.val ∧ Γ = [] ∧ M = [M'] ∧ E.Own 3 1 (u.l.map rowI) u.a u.c M' ∧ u.l = l
def PairsEnd (l : List Pr) (v : Value) (Γ : List SProp) (M : E.Loc) : Prop := ∃ (u : Sl Pr) (M' : E.Seg), v = u.val ∧ Γ = [] ∧ M = [M'] ∧ E.Own 50 2 (u.l.map rowP) u.a u.c M' ∧ u.l = l
theorem Tr.get {t : Tr} {i : Nat} (h : i < t.p.ns.length) : ∃ x, t.ns.l[i]? = some x ∧ t.p.ns[i]? = some x.p ∧ t.p.ns.getD i default = x.p := by
 have h' : i < t.ns.l.length := by simpa [Tr.p] using h
 obtain ⟨x, hx⟩ := get_of_lt h'
 have hp : t.p.ns[i]? = some x.p := map_get hx
 exact ⟨x, hx, hp, by rw [List.getD_eq_getElem?_getD, hp]; rfl⟩
theorem leavesT_lt {t : PT} {i : Nat} (h : i ∈ leavesT t) : i < t.ns.length := by
 unfold leavesT at h
 split at h
 ·simp at h
 ·rename_i s hs; exact (good_of hs).lt i (leaves_places i h)
theorem leavesT_len (t : PT) : (leavesT t).length ≤ 2000 := by
 unfold leavesT
 split
 ·simp
 ·rename_i s hs
  have h1 := (good_of hs).size
  have h2 := (good_of hs).few
  have := leaves_len s
  omega
/-- The pairs of the first leaves. -/
def outs (t : PT) (k : Nat) : List Pr := ((leavesT t).take k).flatMap fun i => (t.ns.getD i default).l
theorem outs_all {t : PT} {k : Nat} (h : (leavesT t).length ≤ k) : outs t k = allT t := by rw [outs, allT, List.take_of_length_le h]
theorem outs_step {t : PT} {k i : Nat} {n : Nod} (hi : (leavesT t)[k]? = some i) (hn : t.ns.getD i default = n) : outs t (k + 1) = outs t k ++ n.l := by
 rw [outs, outs, List.take_succ_eq_append_getElem (lt_of_get hi), List.flatMap_append, (List.getElem?_eq_some_iff.1 hi).2]
 simp only [List.flatMap_cons, List.flatMap_nil, List.append_nil, hn]
theorem toI_get {l : List Nat} {k i : Nat} (h : l[k]? = some i) : (toI l)[k]? = some (i : Int) := map_get h
theorem toI_length (l : List Nat) : (toI l).length = l.length := List.length_map ..
theorem plain_some {t : Tr} {s : Sh} {o : List Nd} {a : Option Addr} {c : Nat} (hs : mayT t.p = some s) (he : o.map Nd.p = s.lay t.p.ns 0) : (⟨0, ⟨a, c, o⟩⟩ : Tr).p = plainD t.p := by
 simp only [plainD, plainT, hs, Option.map_some, Option.getD_some]
 show (⟨0, o.map Nd.p⟩ : PT) = _
 rw [he]
/-- A way, in memory. -/
def WayEnd (t : Tr) (key : Int) (v : Value) (Γ : List SProp) (M : E.Loc) : Prop :=
 ∃ (us : Sl Int) (rs : Sl Bool), v = .tuple #[PathS.val ⟨((findD t.p key).leaf : Int), us, rs⟩, .bool (mayT t.p).isSome] ∧ Γ = [intsP us, boolsP rs] ∧ M = [] ∧ us.l = toI (findD t.p key).ups ∧ rs.l = (findD t.p key).rights
/-- How far a search has come. -/
structure Way (t : Tr) (key : Int) (s : Sh) (at_ : Int) (us : List Int) (rs : List Bool) : Prop where
 hangs : Hangs t.p.ns s at_
 leaf : (findD t.p key).leaf = (s.find t.p.ns key).leaf
 ups : toI (findD t.p key).ups = us ++ toI (s.find t.p.ns key).ups
 rights : (findD t.p key).rights = rs ++ (s.find t.p.ns key).rights
theorem Way.start {t : Tr} {s : Sh} (key : Int) (h : mayT t.p = some s) : Way t key s t.root [] [] := by
 have e : findD t.p key = s.find t.p.ns key := by simp [findD, findT, h]
 exact ⟨(good_of h).hangs, by rw [e], by rw [e]; rfl, by rw [e]; rfl⟩
theorem Way.step {t : Tr} {key : Int} {i : Nat} {l r : Sh} {us : List Int} {rs : List Bool} {x : Nd} (h : Way t key (.node i l r) (i : Int) us rs) (hx : t.p.ns.getD i default = x.p) (hl : Hangs t.p.ns l x.left) (hr : Hangs t.p.ns r x.right) :
  (key < x.key → Way t key l x.left (us ++ [(i : Int)]) (rs ++ [false])) ∧ (x.key ≤ key → Way t key r x.right (us ++ [(i : Int)]) (rs ++ [true])) := by
 have h1 := h.leaf
 have h2 := h.ups
 have h3 := h.rights
 simp only [Sh.find, hx] at h1 h2 h3
 constructor
 ·intro hk
  rw [if_pos (show key < x.p.key from hk)] at h1 h2 h3
  exact ⟨hl, h1, by rw [h2]; simp [toI], by rw [h3]; simp⟩
 ·intro hk
  rw [if_neg (show ¬ key < x.p.key by show ¬ key < x.key; omega)] at h1 h2 h3
  exact ⟨hr, h1, by rw [h2]; simp [toI], by rw [h3]; simp⟩
theorem Way.done {t : Tr} {key : Int} {i : Nat} {us : List Int} {rs : List Bool} (h : Way t key (.leaf i) (i : Int) us rs) : (findD t.p key).leaf = i ∧ us = toI (findD t.p key).ups ∧ rs = (findD t.p key).rights :=
 ⟨h.leaf, by rw [h.ups]; simp [Sh.find, toI], by rw [h.rights]; simp [Sh.find]⟩
theorem plainD_root (t : PT) : (plainD t).root = 0 := by
 unfold plainD plainT
 cases mayT t <;> rfl
def sameT (a b : PT) : Bool := (mayT a).isSome && ((mayT b).isSome && decide (plainD a = plainD b))
def oneT (l : List Pr) : PT := ⟨0, [⟨false, 0, 0, 0, if rises l then l else [], 0⟩]⟩
def OneEnd (l : List Pr) (v : Value) (Γ : List SProp) (M : E.Loc) : Prop := ∃ u : Tr, v = u.val ∧ Γ = [ndsP u.ns, psP u.ns.l] ∧ M = [] ∧ u.p = oneT l
/-- How many pairs the first nodes have. -/
def pairsUpto (l : List Nod) (k : Nat) : Nat := ((l.take k).map fun n => n.l.length).sum
theorem pairs_step {l : List Nod} {k : Nat} {n : Nod} (h : l[k]? = some n) : pairsUpto l (k + 1) = pairsUpto l k + n.l.length := by
 rw [pairsUpto, pairsUpto, List.take_succ_eq_append_getElem (lt_of_get h), List.map_append, List.sum_append, (List.getElem?_eq_some_iff.1 h).2]
 simp
def lightT (t : PT) : Bool := decide (t.ns.length ≤ 450) && decide (pairsUpto t.ns t.ns.length ≤ 2000)
theorem pairs_le {l : List Nod} {b : Nat} (h : ∀ n ∈ l, n.l.length ≤ b) : ∀ k, k ≤ l.length → pairsUpto l k ≤ k * b
 | 0, _ => by simp [pairsUpto]
 | k + 1, hk => by
  obtain ⟨n, hn⟩ := get_of_lt (l := l) (i := k) (by omega)
  have h1 := pairs_le h k (by omega)
  have h2 := h n (List.mem_of_getElem? hn)
  rw [pairs_step hn, Nat.succ_mul]
  omega
theorem wrap_add (a b : Int) : IntKind.i64.wrap (IntKind.i64.wrap a + b) = IntKind.i64.wrap (a + b) := by
 simp only [IntKind.wrap_i64]
 omega
theorem le_sum : ∀ {l : List Nat} {x : Nat}, x ∈ l → x ≤ l.sum
 | y :: l, x, h => by
  rw [List.sum_cons]
  rcases List.mem_cons.1 h with rfl | h
  ·omega
  ·have := le_sum h; omega
theorem small_of_light {t : Tr} (h : lightT t.p = true) : t.ns.l.length ≤ 450 ∧ smallP t.ns.l ∧ pairsUpto t.p.ns t.p.ns.length ≤ 2000 := by
 simp only [lightT, Bool.and_eq_true, decide_eq_true_eq] at h
 refine ⟨by simpa [Tr.p] using h.1, fun n hn => ?_, h.2⟩
 have : n.p ∈ t.p.ns := List.mem_map.2 ⟨n, hn, rfl⟩
 have h2 : n.p.l.length ≤ (t.p.ns.map fun n => n.l.length).sum := le_sum (List.mem_map.2 ⟨n.p, this, rfl⟩)
 have h3 := h.2
 rw [pairsUpto, List.take_of_length_le (Nat.le_refl _)] at h3
 show n.p.l.length ≤ _
 omega
def setD (t : PT) (a : Int) (l : List Pr) (stat : Int) : PT := (setT t a l stat).getD ⟨0, []⟩
def SetEnd (t : Tr) (a : Int) (l : Sl Pr) (stat : Int) (v : Value) (Γ : List SProp) (M : E.Loc) : Prop :=
 ∃ (u : Tr) (M' : E.Seg), v = .tuple #[u.val, .bool (setT t.p a l.l stat).isSome] ∧ Γ = [psP u.ns.l] ∧ M = [M'] ∧ E.Own 33 6 (u.ns.l.map rowN) u.ns.a u.ns.c M' ∧ u.p = setD t.p a l.l stat
end Go.Proofs.Ytmkodknmknfdkaa
set_option linter.unusedVariables false
set_option linter.unusedSimpArgs false
namespace Go.Proofs.Ytmkodknmknfdkaa
open E
set_option maxRecDepth 4000
theorem mixed : Try.prog.follows .mixedOrders = true := by kernel_rfl
theorem t3 : tRow Try.prog 3 = some (true, 1, 8, .int .i64 0) := by kernel_rfl
theorem t4 : tRow Try.prog 4 = some (true, 1, 1, .bool false) := by kernel_rfl
theorem t31 : tRow Try.prog 31 = some (true, 1, 24, .slice none 0 0) := by kernel_rfl
theorem t33 : tRow Try.prog 33 = some (false, 6, 64, .agg #[.bool false, .int .i64 0, .int .i64 0, .int .i64 0, .slice none 0 0, .int .i64 0]) := by kernel_rfl
theorem t50 : tRow Try.prog 50 = some (false, 2, 16, .agg #[.int .i64 0, .int .i64 0]) := by kernel_rfl
theorem t100 : tRow Try.prog 100 = some (false, 4, 24, .agg #[.int .i64 0, .int .i64 0, .bool false, .bool false]) := by kernel_rfl
theorem s33 : sRow Try.prog 33 = some [(0, 1, true), (1, 1, true), (2, 1, true), (3, 1, true), (4, 1, true), (5, 1, true)] := by kernel_rfl
theorem s50 : sRow Try.prog 50 = some [(0, 1, true), (1, 1, true)] := by kernel_rfl
theorem s100 : sRow Try.prog 100 = some [(0, 1, true), (1, 1, true), (2, 1, true), (3, 1, true)] := by kernel_rfl
theorem e50 : intStruct Try.prog 50 2 = true := by kernel_rfl
theorem en33 : Enters Try.prog 33 := Enters.mk' Try.func33 rfl rfl
theorem en72 : Enters Try.prog 72 := Enters.mk' Try.func72 rfl rfl
theorem en104 : Enters Try.prog 104 := Enters.mk' Try.func104 rfl rfl
theorem en105 : Enters Try.prog 105 := Enters.mk' Try.func105 rfl rfl
theorem en115 : Enters Try.prog 115 := Enters.mk' Try.func115 rfl rfl
theorem has105 (k : Kb) (key : Int) : Con Try.prog 105 [k.val, .int .i64 key] [] [] (fun v Γ M => v = .bool (k.has key) ∧ Γ = [] ∧ M = []) := by
 refine Con.body 25 Try.func105 rfl Try.ntmps105 rfl fun X H₀ L₀ => ?_
 refine aE (aR ?_)
 refine At.loud (l_box rfl) rfl ?_
 rintro _ _ _ ⟨b1, rfl, rfl, rfl⟩
 refine At.freeze 0 (φ := blk b1 _) rfl (fun _ h => blk_def.2 ⟨_, _, h⟩) ?_
 refine aS 1 rfl rfl ?_
 refine aN (aT (aE (aR ?_)))
 refine aF s100 t4 rfl rfl rfl (Rd.blk (.head _) rfl) rfl rfl ?_
 refine aS 2 rfl rfl ?_
 refine At.split (d := 8) rfl (fun h1 => ?_) (fun h1 => ?_)
 ·
  refine aS 6 rfl rfl ?_
  refine At.open rfl rfl ?_
  refine aQ (q_fieldAddr s100 rfl rfl rfl) rfl ?_
  refine At.open rfl rfl ?_
  refine aQ (q_load t4 rfl (Rd.blk (.head _) rfl)) rfl ?_
  refine aS 2 rfl rfl ?_
  refine At.split (d := 18) rfl (fun h2 => ?_) (fun h2 => ?_)
  ·
   refine aS 7 rfl rfl ?_
   refine aN (aT (At.ret ?_))
   exact At.results (Γr := []) (M := []) rfl (RVals.cons (RVal.tmp rfl) RVals.nil) (ix 1 rfl) (fun _ _ => trivial) r_ ⟨congrArg Value.bool (by simp_all [Kb.has] <;> omega), rfl, rfl⟩
  ·
   refine aS 1 rfl rfl ?_
   refine At.open rfl rfl ?_
   refine aQ (q_fieldAddr s100 rfl rfl rfl) rfl ?_
   refine At.open rfl rfl ?_
   refine aQ (q_load t3 rfl (Rd.blk (.head _) rfl)) rfl ?_
   refine aS 4 rfl rfl ?_
   refine aN (aT (At.ret ?_))
   exact At.results (Γr := []) (M := []) rfl (RVals.cons (RVal.tmp rfl) RVals.nil) (ix 1 rfl) (fun _ _ => trivial) r_ ⟨congrArg Value.bool (by simp_all [Kb.has] <;> omega), rfl, rfl⟩
 ·
  refine aS 1 rfl rfl ?_
  refine At.open rfl rfl ?_
  refine aQ (q_fieldAddr s100 rfl rfl rfl) rfl ?_
  refine At.open rfl rfl ?_
  refine aQ (q_load t3 rfl (Rd.blk (.head _) rfl)) rfl ?_
  refine aS 3 rfl rfl ?_
  refine At.splitP (d := 14) rfl (fun h3 => ?_) (fun h3 => ?_)
  ·
   refine At.open rfl rfl ?_
   refine aQ (q_fieldAddr s100 rfl rfl rfl) rfl ?_
   refine At.open rfl rfl ?_
   refine aQ (q_load t4 rfl (Rd.blk (.head _) rfl)) rfl ?_
   refine aS 2 rfl rfl ?_
   refine At.split (d := 18) rfl (fun h4 => ?_) (fun h4 => ?_)
   ·
    refine aS 7 rfl rfl ?_
    refine aN (aT (At.ret ?_))
    exact At.results (Γr := []) (M := []) rfl (RVals.cons (RVal.tmp rfl) RVals.nil) (ix 1 rfl) (fun _ _ => trivial) r_ ⟨congrArg Value.bool (by simp_all [Kb.has] <;> omega), rfl, rfl⟩
   ·
    refine aS 1 rfl rfl ?_
    refine At.open rfl rfl ?_
    refine aQ (q_fieldAddr s100 rfl rfl rfl) rfl ?_
    refine At.open rfl rfl ?_
    refine aQ (q_load t3 rfl (Rd.blk (.head _) rfl)) rfl ?_
    refine aS 4 rfl rfl ?_
    refine aN (aT (At.ret ?_))
    exact At.results (Γr := []) (M := []) rfl (RVals.cons (RVal.tmp rfl) RVals.nil) (ix 1 rfl) (fun _ _ => trivial) r_ ⟨congrArg Value.bool (by simp_all [Kb.has] <;> omega), rfl, rfl⟩
  ·
   refine aS 11 rfl rfl ?_
   refine aN (aT (At.ret ?_))
   exact At.results (Γr := []) (M := []) rfl (RVals.cons (RVal.tmp rfl) RVals.nil) (ix 1 rfl) (fun _ _ => trivial) r_ ⟨congrArg Value.bool (by simp_all [Kb.has] <;> omega), rfl, rfl⟩
theorem out104 (k : Kb) (x : Pr) (b : Nat) : Con Try.prog 104 [x.val, .pointer (some ⟨b, 0, none⟩)] [blk b k.val.cells] [] (fun v Γ M => v = .bool (!k.has x.k) ∧ Γ = [] ∧ M = []) := by
 refine Con.body 9 Try.func104 rfl Try.ntmps104 rfl fun X H₀ L₀ => ?_
 refine aE (aR ?_)
 refine At.loud (l_box rfl) rfl ?_
 rintro _ _ _ ⟨b1, rfl, rfl, rfl⟩
 refine At.freeze 0 (φ := blk b1 _) rfl (fun _ h => blk_def.2 ⟨_, _, h⟩) ?_
 refine aS 1 rfl rfl ?_
 refine aN (aT (aE (aR ?_)))
 refine aQ (q_loadS t100 rfl (RdS.blk (ix 2 rfl) (m := 4) rfl) rfl) rfl ?_
 refine aF s50 t3 rfl rfl rfl (Rd.blk (.head _) rfl) rfl rfl ?_
 refine At.call en105 rfl (has105 k _) (fun _ _ => trivial) (List.Perm.refl _) rfl ?_
 rintro _ _ _ ⟨rfl, rfl, rfl⟩
 refine aS 2 rfl rfl ?_
 refine aN (aT (At.ret ?_))
 exact At.results (Γr := []) (M := []) rfl (RVals.cons (RVal.tmp rfl) RVals.nil) (ix 1 rfl) (fun _ _ => trivial) r_ ⟨rfl, rfl, rfl⟩
theorem index115 (l : Sl Pr) (f : FuncId) (cap : List Value) (p : Pr → Bool) (φ : SProp) (hen : Enters Try.prog f) (hcon : ∀ x, Con Try.prog f (x.val :: cap) [φ] [] (fun v Γ M => v = .bool (p x) ∧ Γ = [] ∧ M = [])) : Con Try.prog 115 [l.val, .func (.func f) #[] cap.toArray] [prsP l, φ] [] (fun v Γ M => v = .int .i64 (idxI p l.l) ∧ Γ = [] ∧ M = []) := by
 refine Con.body 19 Try.func115 rfl Try.ntmps115 rfl fun X H₀ L₀ => ?_
 refine At.lenOf (hs := (ix 1 rfl)) fun hlen => ?_
 rw [List.length_map] at hlen
 refine aE (aR ?_)
 refine aS 1 rfl rfl ?_
 refine aN (aT (aE (aE (aR ?_))))
 refine aS 1 rfl rfl ?_
 refine aQ (q_len Try.underlying31 rfl) rfl ?_
 refine aS 1 rfl rfl ?_
 refine aN (aT (At.block ?_))
 refine At.loopK (ι := Nat) [4, 5, 8, 9, 10, 11, 12, 13, 14, 15, 16, 17, 18] (fun k => [(8, .int .i64 (k : Int))]) (fun k => []) (fun k => []) _ (fun k => k ≤ l.l.length ∧ ∀ y ∈ l.l.take k, p y = false) (fun k => l.l.length - k) 0 ⟨Nat.zero_le _, by simp⟩ ⟨rfl, trivial⟩ (fun _ _ => trivial) r_ ?_
 intro k hI
 refine aE (aR ?_)
 refine aS 1 rfl rfl ?_
 refine aN (aT (aE ?_))
 refine At.if rfl (fun hk => ?_) (fun hk => ?_)
 ·
  obtain ⟨x, hx⟩ := get_of_lt (l := l.l) (i := k) (by omega)
  have hk1 := lt_of_get hx
  refine At.skip (aT (aE (At.block (aE (aR ?_)))))
  refine aS 2 rfl rfl ?_
  refine aN (aT (aE (aR ?_)))
  refine aS 3 rfl rfl ?_
  refine aQ (q_index Try.underlying31 t50 rfl (ix 1 rfl) (by simp) rfl rfl (lt_of_get hx)) rfl ?_
  refine aQ (q_loadS t50 rfl (RdS.sl0 (ix 1 rfl) (map_get hx)) rfl) rfl ?_
  refine At.callV hen rfl rfl (by simp [Pr.val, rowP]) (hcon x) (fun _ h => ⟨h.2.2.1, trivial⟩) (List.Perm.refl _) rfl ?_
  rintro _ _ _ ⟨rfl, rfl, rfl⟩
  refine aN (aT ?_)
  refine At.cond rfl (fun hp => ?_) (fun hp => ?_)
  ·
   refine aE (aR ?_)
   refine aS 2 rfl rfl ?_
   refine aN (aT (At.ret (At.inRet (At.thenRet (At.thenRet (At.inRet (At.thenRet ?_)))))))
   exact At.results (Γr := []) (M := []) rfl (RVals.cons (RVal.tmp rfl) RVals.nil) (.head _) (fun _ _ => trivial) r_ ⟨congrArg (Value.int .i64) (idx_at hx hp hI.2).symm, rfl, rfl⟩
  ·
   refine At.skip (At.inNormal (aT (aR ?_)))
   refine aQ (q_add rfl rfl (by omega) (by omega)) rfl ?_
   refine aS 1 rfl rfl ?_
   refine aN (aT ?_)
   exact At.againK (k + 1) ⟨hk1, idx_step hx hp hI.2⟩ (by (try dsimp only); omega) (Tells.end 12 ⟨rfl, trivial⟩ rfl rfl) (fun _ h => h) r_
 ·
  refine At.exit (At.thenExit (At.thenExit (At.inHere rfl (aT (aE (aR ?_))))))
  refine aS 1 rfl rfl ?_
  refine aN (aT (At.ret ?_))
  exact At.results (Γr := []) (M := []) rfl (RVals.cons (RVal.tmp rfl) RVals.nil) (.head _) (fun _ _ => trivial) r_ ⟨congrArg (Value.int .i64) (idx_no (by have h := hI.2; rwa [List.take_of_length_le (by omega)] at h)).symm, rfl, rfl⟩
theorem some103 (l : Sl Pr) (f : FuncId) (cap : List Value) (p : Pr → Bool) (φ : SProp) (hen : Enters Try.prog f) (hcon : ∀ x, Con Try.prog f (x.val :: cap) [φ] [] (fun v Γ M => v = .bool (p x) ∧ Γ = [] ∧ M = [])) : Con Try.prog 103 [l.val, .func (.func f) #[] cap.toArray] [prsP l, φ] [] (fun v Γ M => v = .bool (l.l.any p) ∧ Γ = [] ∧ M = []) := by
 refine Con.body 9 Try.func103 rfl Try.ntmps103 rfl fun X H₀ L₀ => ?_
 refine aE (aR ?_)
 refine aS 1 rfl rfl ?_
 refine aN (aT (aE (aR ?_)))
 refine aS 2 rfl rfl ?_
 refine At.call en115 rfl (index115 l f cap p φ hen hcon) (fun _ h => ⟨h.2.1, h.2.2.1, trivial⟩) (List.Perm.refl _) rfl ?_
 rintro _ _ _ ⟨rfl, rfl, rfl⟩
 refine aS 2 rfl rfl ?_
 refine aN (aT (At.ret ?_))
 exact At.results (Γr := []) (M := []) rfl (RVals.cons (RVal.tmp rfl) RVals.nil) (.head _) (fun _ _ => trivial) r_ ⟨congrArg Value.bool (idx_any p l.l), rfl, rfl⟩
theorem may71 (l : Sl Pr) : Con Try.prog 71 [l.val] [prsP l] [] (fun v Γ M => v = .bool (rises l.l) ∧ Γ = [] ∧ M = []) := by
 refine Con.body 22 Try.func71 rfl Try.ntmps71 rfl fun X H₀ L₀ => ?_
 refine At.lenOf (hs := (ix 1 rfl)) fun hlen => ?_
 rw [List.length_map] at hlen
 refine aE (aR ?_)
 refine aS 1 rfl rfl ?_
 refine aN (aT (aE (aE (aR ?_))))
 refine aS 1 rfl rfl ?_
 refine aN (aT (At.block ?_))
 refine At.loopK (ι := Nat) [2, 3, 4, 5, 6, 7, 8, 9, 10, 11, 12, 13, 14, 15, 16, 17, 18, 19, 20, 21] (fun k => [(3, .int .i64 (k : Int))]) (fun k => []) (fun k => []) _ (fun k => 1 ≤ k ∧ ∀ (i : Nat) (a b : Pr), i + 1 < k → l.l[i]? = some a → l.l[i + 1]? = some b → a.k < b.k) (fun k => l.l.length - k) 1 ⟨Nat.le_refl _, fun i a b h => by omega⟩ ⟨rfl, trivial⟩ (fun _ _ => trivial) r_ ?_
 intro k hI
 obtain ⟨hk0, hI⟩ := hI
 refine aE (aE (aR ?_))
 refine aS 2 rfl rfl ?_
 refine aQ (q_len Try.underlying31 rfl) rfl ?_
 refine aS 1 rfl rfl ?_
 refine aN (aT ?_)
 refine At.if rfl (fun hk => ?_) (fun hk => ?_)
 ·
  obtain ⟨j, rfl⟩ : ∃ j, k = j + 1 := ⟨k - 1, by omega⟩
  obtain ⟨x, hx⟩ := get_of_lt (l := l.l) (i := j) (by omega)
  obtain ⟨y, hy⟩ := get_of_lt (l := l.l) (i := j + 1) (by omega)
  have hj1 := lt_of_get hy
  refine At.skip (aT (aE (At.block (aE ?_))))
  refine At.draw 11 (.q 0 (.q 1 (.q 2 (.q 3 (.q 4 (.q 5 (.q 6 (.q 7 (.q 8 (.q 9 (.q 10 (.e)))))))))))) _ (List.Sublist.refl _) mixed (by kernel_rfl) rfl ?_
  refine oQ rfl (q_move rfl) rfl (cT (cI (cT (cT (cI (cT cP)))))) ?_
  refine oQ rfl (q_move rfl) rfl (cT (cI (cT (cT (cI (cT cP)))))) ?_
  refine oQ rfl (q_sub rfl rfl (by omega) (by omega)) rfl (cT (cI (cT (cT (cI (cT cP)))))) ?_
  refine oQ rfl (q_index Try.underlying31 t50 rfl (ix 1 rfl) (by simp) rfl (by omega) (lt_of_get hx)) rfl (cT (cI (cT (cT (cI (cT cP)))))) ?_
  refine oQ rfl (q_fieldAddr s50 rfl rfl rfl) rfl (cT (cI (cT (cT (cI (cT cP)))))) ?_
  refine oQ rfl (q_load t3 rfl (Rd.sl (ix 1 rfl) (map_get hx) rfl)) rfl (cT (cI (cT (cT (cI (cT cP)))))) ?_
  refine oQ rfl (q_move rfl) rfl (cT (cI (cT (cT (cI (cT cP)))))) ?_
  refine oQ rfl (q_move rfl) rfl (cT (cI (cT (cT (cI (cT cP)))))) ?_
  refine oQ rfl (q_index Try.underlying31 t50 rfl (ix 1 rfl) (by simp) rfl rfl (lt_of_get hy)) rfl (cT (cI (cT (cT (cI (cT cP)))))) ?_
  refine oQ rfl (q_fieldAddr s50 rfl rfl rfl) rfl (cT (cI (cT (cT (cI (cT cP)))))) ?_
  refine oQ rfl (q_load t3 rfl (Rd.sl (ix 1 rfl) (map_get hy) rfl)) rfl (cT (cI (cT (cT (cI (cT cP)))))) ?_
  refine AtO.done ?_
  refine aS 1 rfl rfl ?_
  refine aN (aT ?_)
  refine At.if rfl (fun hc => ?_) (fun hc => ?_)
  ·
   refine aE (aR ?_)
   refine aS 1 rfl rfl ?_
   refine aN (aT (At.ret (At.inRet (At.thenRet (At.thenRet (At.inRet (At.thenRet ?_)))))))
   exact At.results (Γr := []) (M := []) rfl (RVals.cons (RVal.tmp rfl) RVals.nil) (.head _) (fun _ _ => trivial) r_ ⟨congrArg Value.bool ((rises_no hx hy (by omega)).symm), rfl, rfl⟩
  ·
   refine At.skip (At.inNormal (aT (aR ?_)))
   refine aS 1 rfl rfl ?_
   refine aQ (q_add rfl rfl (by omega) (by omega)) rfl ?_
   refine aS 1 rfl rfl ?_
   refine aN (aT ?_)
   exact At.againK (j + 2) ⟨by omega, stepRise hI hx hy (by omega)⟩ (by (try dsimp only); omega) (Tells.end 20 ⟨rfl, trivial⟩ rfl rfl) (fun _ h => h) r_
 ·
  refine At.exit (At.thenExit (At.thenExit (At.inHere rfl (aT (aE (aR ?_))))))
  refine aS 1 rfl rfl ?_
  refine aN (aT (At.ret ?_))
  exact At.results (Γr := []) (M := []) rfl (RVals.cons (RVal.tmp rfl) RVals.nil) (.head _) (fun _ _ => trivial) r_ ⟨congrArg Value.bool ((rises_iff.2 fun i a b ha hb => hI i a b (by have := lt_of_get hb; omega) ha hb).symm), rfl, rfl⟩
theorem may30 (l : Sl Pr) : Con Try.prog 30 [l.val] [prsP l] [] (fun v Γ M => v = .bool (rises l.l) ∧ Γ = [] ∧ M = []) := by
 refine Con.body 22 Try.func30 rfl Try.ntmps30 rfl fun X H₀ L₀ => ?_
 refine At.lenOf (hs := (ix 1 rfl)) fun hlen => ?_
 rw [List.length_map] at hlen
 refine aE (aR ?_)
 refine aS 1 rfl rfl ?_
 refine aN (aT (aE (aE (aR ?_))))
 refine aS 1 rfl rfl ?_
 refine aN (aT (At.block ?_))
 refine At.loopK (ι := Nat) [2, 3, 4, 5, 6, 7, 8, 9, 10, 11, 12, 13, 14, 15, 16, 17, 18, 19, 20, 21] (fun k => [(3, .int .i64 (k : Int))]) (fun k => []) (fun k => []) _ (fun k => 1 ≤ k ∧ ∀ (i : Nat) (a b : Pr), i + 1 < k → l.l[i]? = some a → l.l[i + 1]? = some b → a.k < b.k) (fun k => l.l.length - k) 1 ⟨Nat.le_refl _, fun i a b h => by omega⟩ ⟨rfl, trivial⟩ (fun _ _ => trivial) r_ ?_
 intro k hI
 obtain ⟨hk0, hI⟩ := hI
 refine aE (aE (aR ?_))
 refine aS 2 rfl rfl ?_
 refine aQ (q_len Try.underlying31 rfl) rfl ?_
 refine aS 1 rfl rfl ?_
 refine aN (aT ?_)
 refine At.if rfl (fun hk => ?_) (fun hk => ?_)
 ·
  obtain ⟨j, rfl⟩ : ∃ j, k = j + 1 := ⟨k - 1, by omega⟩
  obtain ⟨x, hx⟩ := get_of_lt (l := l.l) (i := j) (by omega)
  obtain ⟨y, hy⟩ := get_of_lt (l := l.l) (i := j + 1) (by omega)
  have hj1 := lt_of_get hy
  refine At.skip (aT (aE (At.block (aE ?_))))
  refine At.draw 11 (.q 0 (.q 1 (.q 2 (.q 3 (.q 4 (.q 5 (.q 6 (.q 7 (.q 8 (.q 9 (.q 10 (.e)))))))))))) _ (List.Sublist.refl _) mixed (by kernel_rfl) rfl ?_
  refine oQ rfl (q_move rfl) rfl (cT (cI (cT (cT (cI (cT cP)))))) ?_
  refine oQ rfl (q_move rfl) rfl (cT (cI (cT (cT (cI (cT cP)))))) ?_
  refine oQ rfl (q_index Try.underlying31 t50 rfl (ix 1 rfl) (by simp) rfl rfl (lt_of_get hy)) rfl (cT (cI (cT (cT (cI (cT cP)))))) ?_
  refine oQ rfl (q_fieldAddr s50 rfl rfl rfl) rfl (cT (cI (cT (cT (cI (cT cP)))))) ?_
  refine oQ rfl (q_load t3 rfl (Rd.sl (ix 1 rfl) (map_get hy) rfl)) rfl (cT (cI (cT (cT (cI (cT cP)))))) ?_
  refine oQ rfl (q_move rfl) rfl (cT (cI (cT (cT (cI (cT cP)))))) ?_
  refine oQ rfl (q_move rfl) rfl (cT (cI (cT (cT (cI (cT cP)))))) ?_
  refine oQ rfl (q_sub rfl rfl (by omega) (by omega)) rfl (cT (cI (cT (cT (cI (cT cP)))))) ?_
  refine oQ rfl (q_index Try.underlying31 t50 rfl (ix 1 rfl) (by simp) rfl (by omega) (lt_of_get hx)) rfl (cT (cI (cT (cT (cI (cT cP)))))) ?_
  refine oQ rfl (q_fieldAddr s50 rfl rfl rfl) rfl (cT (cI (cT (cT (cI (cT cP)))))) ?_
  refine oQ rfl (q_load t3 rfl (Rd.sl (ix 1 rfl) (map_get hx) rfl)) rfl (cT (cI (cT (cT (cI (cT cP)))))) ?_
  refine AtO.done ?_
  refine aS 1 rfl rfl ?_
  refine aN (aT ?_)
  refine At.if rfl (fun hc => ?_) (fun hc => ?_)
  ·
   refine aE (aR ?_)
   refine aS 1 rfl rfl ?_
   refine aN (aT (At.ret (At.inRet (At.thenRet (At.thenRet (At.inRet (At.thenRet ?_)))))))
   exact At.results (Γr := []) (M := []) rfl (RVals.cons (RVal.tmp rfl) RVals.nil) (.head _) (fun _ _ => trivial) r_ ⟨congrArg Value.bool ((rises_no hx hy (by omega)).symm), rfl, rfl⟩
  ·
   refine At.skip (At.inNormal (aT (aR ?_)))
   refine aS 1 rfl rfl ?_
   refine aQ (q_add rfl rfl (by omega) (by omega)) rfl ?_
   refine aS 1 rfl rfl ?_
   refine aN (aT ?_)
   exact At.againK (j + 2) ⟨by omega, stepRise hI hx hy (by omega)⟩ (by (try dsimp only); omega) (Tells.end 20 ⟨rfl, trivial⟩ rfl rfl) (fun _ h => h) r_
 ·
  refine At.exit (At.thenExit (At.thenExit (At.inHere rfl (aT (aE (aR ?_))))))
  refine aS 1 rfl rfl ?_
  refine aN (aT (At.ret ?_))
  exact At.results (Γr := []) (M := []) rfl (RVals.cons (RVal.tmp rfl) RVals.nil) (.head _) (fun _ _ => trivial) r_ ⟨congrArg Value.bool ((rises_iff.2 fun i a b ha hb => hI i a b (by have := lt_of_get hb; omega) ha hb).symm), rfl, rfl⟩
theorem same33 (a b : Sl Pr) : Con Try.prog 33 [a.val, b.val] [prsP a, prsP b] [] (fun v Γ M => v = .bool (decide (a.l = b.l)) ∧ Γ = [] ∧ M = []) := by
 refine Con.body 26 Try.func33 rfl Try.ntmps33 rfl fun X H₀ L₀ => ?_
 refine At.lenOf (hs := (ix 1 rfl)) fun ha => ?_
 rw [List.length_map] at ha
 refine At.lenOf (hs := (ix 2 rfl)) fun hb => ?_
 rw [List.length_map] at hb
 refine aE (aR ?_)
 refine aS 1 rfl rfl ?_
 refine aN (aT (aE (aE (aR ?_))))
 refine aS 1 rfl rfl ?_
 refine aQ (q_len Try.underlying31 rfl) rfl ?_
 refine aS 1 rfl rfl ?_
 refine aQ (q_len Try.underlying31 rfl) rfl ?_
 refine aS 1 rfl rfl ?_
 refine aN (aT ?_)
 refine At.if rfl (fun hn => ?_) (fun hn => ?_)
 ·
  refine aE (aR ?_)
  refine aS 1 rfl rfl ?_
  refine aN (aT (At.ret (At.thenRet ?_)))
  exact At.results (Γr := []) (M := []) rfl (RVals.cons (RVal.tmp rfl) RVals.nil) (.head _) (fun _ _ => trivial) r_ ⟨congrArg Value.bool ((decide_eq_false (len_ne (by simpa using hn))).symm), rfl, rfl⟩
 ·
  have hab : a.l.length = b.l.length := by omega
  refine At.skip (aT (aE (aE (aR ?_))))
  refine aS 1 rfl rfl ?_
  refine aQ (q_len Try.underlying31 rfl) rfl ?_
  refine aS 1 rfl rfl ?_
  refine aN (aT (At.block ?_))
  refine At.loopK (ι := Nat) [4, 5, 13, 14, 15, 16, 17, 18, 19, 20, 21, 22, 23, 24, 25] (fun k => [(13, .int .i64 (k : Int))]) (fun k => []) (fun k => []) _ (fun k => k ≤ a.l.length ∧ a.l.take k = b.l.take k) (fun k => a.l.length - k) 0 ⟨Nat.zero_le _, by simp⟩ ⟨rfl, trivial⟩ (fun _ _ => trivial) r_ ?_
  intro k hI
  refine aE (aR ?_)
  refine aS 1 rfl rfl ?_
  refine aN (aT (aE ?_))
  refine At.if rfl (fun hk => ?_) (fun hk => ?_)
  ·
   obtain ⟨x, hx⟩ := get_of_lt (l := a.l) (i := k) (by omega)
   obtain ⟨y, hy⟩ := get_of_lt (l := b.l) (i := k) (by omega)
   have hk1 := lt_of_get hx
   refine At.skip (aT (aE (At.block (aE (aR ?_)))))
   refine aS 2 rfl rfl ?_
   refine aN (aT (aE ?_))
   refine At.draw 8 (.q 0 (.q 1 (.q 2 (.q 3 (.q 4 (.q 5 (.q 6 (.q 7 (.e))))))))) _ (List.Sublist.refl _) mixed (by kernel_rfl) rfl ?_
   refine oQ rfl (q_move rfl) rfl (cT (cI (cT (cT (cI (cT cP)))))) ?_
   refine oQ rfl (q_move rfl) rfl (cT (cI (cT (cT (cI (cT cP)))))) ?_
   refine oQ rfl (q_index Try.underlying31 t50 rfl (ix 1 rfl) (by simp) rfl rfl (lt_of_get hx)) rfl (cT (cI (cT (cT (cI (cT cP)))))) ?_
   refine oQ rfl (q_loadS t50 rfl (RdS.sl0 (ix 1 rfl) (map_get hx)) rfl) rfl (cT (cI (cT (cT (cI (cT cP)))))) ?_
   refine oQ rfl (q_move rfl) rfl (cT (cI (cT (cT (cI (cT cP)))))) ?_
   refine oQ rfl (q_move rfl) rfl (cT (cI (cT (cT (cI (cT cP)))))) ?_
   refine oQ rfl (q_index Try.underlying31 t50 rfl (ix 2 rfl) (by simp) rfl rfl (lt_of_get hy)) rfl (cT (cI (cT (cT (cI (cT cP)))))) ?_
   refine oQ rfl (q_loadS t50 rfl (RdS.sl0 (ix 2 rfl) (map_get hy)) rfl) rfl (cT (cI (cT (cT (cI (cT cP)))))) ?_
   refine AtO.done ?_
   refine aQ (q_neqStruct e50 rfl rfl rfl rfl rfl rfl) rfl ?_
   refine aN (aT ?_)
   refine At.cond rfl (fun hxy => ?_) (fun hxy => ?_)
   ·
    refine aE (aR ?_)
    refine aS 1 rfl rfl ?_
    refine aN (aT (At.ret (At.inRet (At.thenRet (At.thenRet (At.inRet (At.thenRet ?_)))))))
    exact At.results (Γr := []) (M := []) rfl (RVals.cons (RVal.tmp rfl) RVals.nil) (.head _) (fun _ _ => trivial) r_ ⟨congrArg Value.bool ((decide_eq_false (ne_at hx hy (fun e => by simp [e] at hxy))).symm), rfl, rfl⟩
   ·
    refine At.skip (At.inNormal (aT (aR ?_)))
    refine aQ (q_add rfl rfl (by omega) (by omega)) rfl ?_
    refine aS 1 rfl rfl ?_
    refine aN (aT ?_)
    exact At.againK (k + 1) ⟨hk1, take_step hx ((Pr.eq_iff.1 (by simpa using hxy)).symm ▸ hy) hI.2⟩ (by (try dsimp only); omega) (Tells.end 15 ⟨rfl, trivial⟩ rfl rfl) (fun _ h => h) r_
  ·
   refine At.exit (At.thenExit (At.thenExit (At.inHere rfl (aT (aE (aR ?_))))))
   refine aS 1 rfl rfl ?_
   refine aN (aT (At.ret ?_))
   exact At.results (Γr := []) (M := []) rfl (RVals.cons (RVal.tmp rfl) RVals.nil) (.head _) (fun _ _ => trivial) r_ ⟨congrArg Value.bool ((decide_eq_true (eq_of_takes hab (by omega) hI.2)).symm), rfl, rfl⟩
theorem clone72 (l : Sl Pr) (hl : l.l.length ≤ 1000000) : Con Try.prog 72 [l.val] [prsP l] [] (fun v Γ M => ∃ s : Sl Pr, v = s.val ∧ s.l = l.l ∧ Γ = [prsP s] ∧ M = []) := by
 refine Con.body 8 Try.func72 rfl Try.ntmps72 rfl fun X H₀ L₀ => ?_
 refine aE (aR ?_)
 refine aS 1 rfl rfl ?_
 refine aN (aT (aE (aE (aR ?_))))
 refine aS 1 rfl rfl ?_
 refine aQ (q_eqSliceNil Try.underlying31 rfl rfl) rfl ?_
 refine aN (aT ?_)
 refine At.cond rfl (fun hn => ?_) (fun hn => ?_)
 ·
  refine At.nilOf (hs := (ix 1 rfl)) (by simpa using hn) fun hnil => ?_
  refine At.know (prsP ⟨none, 0, []⟩) (fun _ _ => sl_nil _ _ _ (Nat.zero_le _)) ?_
  refine aE (aR ?_)
  refine aS 1 rfl rfl ?_
  refine aN (aT (At.ret (At.thenRet ?_)))
  exact At.results (Γr := [prsP ⟨none, 0, []⟩]) (M := []) rfl (RVals.cons (RVal.tmp rfl) RVals.nil) (ix 1 rfl) (fun _ h => ⟨h.1, trivial⟩) r_ ⟨⟨none, 0, []⟩, rfl, hnil.symm, rfl, rfl⟩
 ·
  refine At.skip (aT (aE (aR ?_)))
  refine At.loud (l_buildSlice0 Try.underlying31 t50) rfl ?_
  rintro _ _ _ ⟨e1, rfl, rfl, rfl⟩
  refine aS 1 rfl rfl ?_
  refine At.loud (l_appendNew rfl Try.underlying31 t50 rfl rfl (ix 1 rfl) (by simp) rfl (by omega) (by unfold maxLen; omega) rfl) rfl ?_
  rintro _ _ _ ⟨a2, c2, rfl, rfl, rfl⟩
  refine aS 1 rfl rfl ?_
  refine aN (aT (At.ret ?_))
  exact At.results (Γr := [prsP ⟨a2, c2, l.l⟩]) (M := []) rfl (RVals.cons (RVal.tmp rfl) RVals.nil) (ix 1 rfl) (fun _ h => ⟨h.1, trivial⟩) r_ ⟨⟨a2, c2, l.l⟩, rfl, rfl, rfl, rfl⟩
theorem copy73 (n : Nd) (hl : n.ps.l.length ≤ 1000000) : Con Try.prog 73 [n.val] [prsP n.ps] [] (fun v Γ M => ∃ s : Sl Pr, v = Nd.val { n with ps := s } ∧ s.l = n.ps.l ∧ Γ = [prsP s] ∧ M = []) := by
 refine Con.body 8 Try.func73 rfl Try.ntmps73 rfl fun X H₀ L₀ => ?_
 refine aE (aR ?_)
 refine At.loud (l_box rfl) rfl ?_
 rintro _ _ _ ⟨b1, rfl, rfl, rfl⟩
 refine At.loud (l_alloc t33) rfl ?_
 rintro _ _ _ ⟨b2, rfl, rfl, rfl⟩
 refine aN (aT (aE (aR ?_)))
 refine aF s33 t31 rfl rfl rfl (Rd.loc (i := 1) rfl rfl) rfl rfl ?_
 refine At.call en72 rfl (clone72 n.ps hl) (fun _ h => ⟨h.2.1, trivial⟩) (List.Perm.refl _) rfl ?_
 rintro _ _ _ ⟨s, rfl, hs, rfl, rfl⟩
 refine aQ (q_fieldAddr s33 rfl rfl rfl) rfl ?_
 refine At.loudN (l_store t31 rfl rfl (i := 1) rfl rfl rfl rfl) ?_
 rintro _ _ _ ⟨rfl, rfl⟩
 refine aN (aT (aE (aR ?_)))
 refine aQ (q_loadS t33 rfl (RdS.loc (i := 1) rfl (m := 6) rfl) rfl) rfl ?_
 refine At.loudN (l_store t33 rfl rfl (i := 0) rfl rfl rfl rfl) ?_
 rintro _ _ _ ⟨rfl, rfl⟩
 refine aN (aT (At.ret ?_))
 exact At.results (Γr := [prsP s]) (M := []) rfl (RVals.cons (RVal.cellS rfl t33 (RdS.loc (i := 0) rfl (m := 6) rfl) rfl) RVals.nil) (ix 1 rfl) (fun _ h => ⟨h.1, trivial⟩) (d_ (d_ r_)) ⟨s, rfl, hs, rfl, rfl⟩
theorem same74 (a b : Nd) : Con Try.prog 74 [a.val, b.val] [prsP a.ps, prsP b.ps] [] (fun v Γ M => v = .bool (decide (a.p = b.p)) ∧ Γ = [] ∧ M = []) := by
 refine Con.body 45 Try.func74 rfl Try.ntmps74 rfl fun X H₀ L₀ => ?_
 refine aE (aR ?_)
 refine At.loud (l_box rfl) rfl ?_
 rintro _ _ _ ⟨b1, rfl, rfl, rfl⟩
 refine At.freeze 0 (φ := blk b1 _) rfl (fun _ h => blk_def.2 ⟨_, _, h⟩) ?_
 refine At.loud (l_box rfl) rfl ?_
 rintro _ _ _ ⟨b2, rfl, rfl, rfl⟩
 refine At.freeze 0 (φ := blk b2 _) rfl (fun _ h => blk_def.2 ⟨_, _, h⟩) ?_
 refine aS 1 rfl rfl ?_
 refine aN (aT (aE (aR ?_)))
 refine aF s33 t4 rfl rfl rfl (Rd.blk (ix 1 rfl) rfl) rfl rfl ?_
 refine aF s33 t4 rfl rfl rfl (Rd.blk (.head _) rfl) rfl rfl ?_
 refine aQ (q_eqBool Try.underlying4 rfl rfl) rfl ?_
 refine aS 1 rfl rfl ?_
 refine At.split (d := 10) rfl (fun h1 => ?_) (fun h1 => ?_)
 ·
  refine At.open rfl rfl ?_
  refine aQ (q_fieldAddr s33 rfl rfl rfl) rfl ?_
  refine At.open rfl rfl ?_
  refine aQ (q_load t3 rfl (Rd.blk (ix 1 rfl) rfl)) rfl ?_
  refine At.open rfl rfl ?_
  refine aQ (q_fieldAddr s33 rfl rfl rfl) rfl ?_
  refine At.open rfl rfl ?_
  refine aQ (q_load t3 rfl (Rd.blk (.head _) rfl)) rfl ?_
  refine aS 3 rfl rfl ?_
  refine At.splitP (d := 17) rfl (fun h2 => ?_) (fun h2 => ?_)
  ·
   refine At.open rfl rfl ?_
   refine aQ (q_fieldAddr s33 rfl rfl rfl) rfl ?_
   refine At.open rfl rfl ?_
   refine aQ (q_load t3 rfl (Rd.blk (ix 1 rfl) rfl)) rfl ?_
   refine At.open rfl rfl ?_
   refine aQ (q_fieldAddr s33 rfl rfl rfl) rfl ?_
   refine At.open rfl rfl ?_
   refine aQ (q_load t3 rfl (Rd.blk (.head _) rfl)) rfl ?_
   refine aS 3 rfl rfl ?_
   refine At.splitP (d := 24) rfl (fun h3 => ?_) (fun h3 => ?_)
   ·
    refine At.open rfl rfl ?_
    refine aQ (q_fieldAddr s33 rfl rfl rfl) rfl ?_
    refine At.open rfl rfl ?_
    refine aQ (q_load t3 rfl (Rd.blk (ix 1 rfl) rfl)) rfl ?_
    refine At.open rfl rfl ?_
    refine aQ (q_fieldAddr s33 rfl rfl rfl) rfl ?_
    refine At.open rfl rfl ?_
    refine aQ (q_load t3 rfl (Rd.blk (.head _) rfl)) rfl ?_
    refine aS 3 rfl rfl ?_
    refine At.splitP (d := 31) rfl (fun h4 => ?_) (fun h4 => ?_)
    ·
     refine At.open rfl rfl ?_
     refine aQ (q_fieldAddr s33 rfl rfl rfl) rfl ?_
     refine At.open rfl rfl ?_
     refine aQ (q_load t3 rfl (Rd.blk (ix 1 rfl) rfl)) rfl ?_
     refine At.open rfl rfl ?_
     refine aQ (q_fieldAddr s33 rfl rfl rfl) rfl ?_
     refine At.open rfl rfl ?_
     refine aQ (q_load t3 rfl (Rd.blk (.head _) rfl)) rfl ?_
     refine aS 3 rfl rfl ?_
     refine At.splitP (d := 38) rfl (fun h5 => ?_) (fun h5 => ?_)
     ·
      refine At.open rfl rfl ?_
      refine aQ (q_fieldAddr s33 rfl rfl rfl) rfl ?_
      refine At.open rfl rfl ?_
      refine aQ (q_load t31 rfl (Rd.blk (ix 1 rfl) rfl)) rfl ?_
      refine At.open rfl rfl ?_
      refine aQ (q_fieldAddr s33 rfl rfl rfl) rfl ?_
      refine At.open rfl rfl ?_
      refine aQ (q_load t31 rfl (Rd.blk (.head _) rfl)) rfl ?_
      refine At.open rfl rfl ?_
      refine At.call en33 rfl (same33 _ _) (fun _ h => ⟨h.2.2.2.1, h.2.2.2.2.1, trivial⟩) (List.Perm.refl _) rfl ?_
      rintro _ _ _ ⟨rfl, rfl, rfl⟩
      refine aS 2 rfl rfl ?_
      refine aN (aT (At.ret ?_))
      exact At.results (Γr := []) (M := []) rfl (RVals.cons (RVal.tmp rfl) RVals.nil) (ix 2 rfl) (fun _ _ => trivial) r_ ⟨congrArg Value.bool (by cases a; cases b; simp_all [Nd.p]), rfl, rfl⟩
     ·
      refine aS 7 rfl rfl ?_
      refine aN (aT (At.ret ?_))
      exact At.results (Γr := []) (M := []) rfl (RVals.cons (RVal.tmp rfl) RVals.nil) (ix 2 rfl) (fun _ _ => trivial) r_ ⟨congrArg Value.bool (by cases a; cases b; simp_all [Nd.p]), rfl, rfl⟩
    ·
     refine aS 14 rfl rfl ?_
     refine aN (aT (At.ret ?_))
     exact At.results (Γr := []) (M := []) rfl (RVals.cons (RVal.tmp rfl) RVals.nil) (ix 2 rfl) (fun _ _ => trivial) r_ ⟨congrArg Value.bool (by cases a; cases b; simp_all [Nd.p]), rfl, rfl⟩
   ·
    refine aS 21 rfl rfl ?_
    refine aN (aT (At.ret ?_))
    exact At.results (Γr := []) (M := []) rfl (RVals.cons (RVal.tmp rfl) RVals.nil) (ix 2 rfl) (fun _ _ => trivial) r_ ⟨congrArg Value.bool (by cases a; cases b; simp_all [Nd.p]), rfl, rfl⟩
  ·
   refine aS 28 rfl rfl ?_
   refine aN (aT (At.ret ?_))
   exact At.results (Γr := []) (M := []) rfl (RVals.cons (RVal.tmp rfl) RVals.nil) (ix 2 rfl) (fun _ _ => trivial) r_ ⟨congrArg Value.bool (by cases a; cases b; simp_all [Nd.p]), rfl, rfl⟩
 ·
  refine aS 35 rfl rfl ?_
  refine aN (aT (At.ret ?_))
  exact At.results (Γr := []) (M := []) rfl (RVals.cons (RVal.tmp rfl) RVals.nil) (ix 2 rfl) (fun _ _ => trivial) r_ ⟨congrArg Value.bool (by cases a; cases b; simp_all [Nd.p]), rfl, rfl⟩
end Go.Proofs.Ytmkodknmknfdkaa
