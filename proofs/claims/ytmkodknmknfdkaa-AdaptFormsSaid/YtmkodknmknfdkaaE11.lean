/- Slices with what they hold; what comes in as a row's arguments. -/
import Derived.Test.YtmkodknmknfdkaaE10
set_option linter.unusedVariables false
set_option linter.unusedSimpArgs false
namespace Go.Proofs.Ytmkodknmknfdkaa
namespace E
open Go Go.RowKit Go.WideShapes

/-- A slice, with what it holds. -/
structure Sl (α : Type) where
  a : Option Addr
  c : Nat
  l : List α
def Sl.val {α : Type} (s : Sl α) : Value := .slice s.a s.l.length s.c
def rowI (x : Int) : List Value := [.int .i64 x]
def intsP (s : Sl Int) : SProp := sl s.a s.c 1 (s.l.map rowI)

section
variable {H : Type} {enc : TypeId × Value → H} {P : Program} {w : World} {base : Nat} {spare : Nat → Bool} {held : Bool}
theorem Below.trodAll (hl : laidOutB P = true) {W W' : World} (hb : Below W.heap.size W W') :
    ∀ {ts : List TypeId} {vs : List Value} {ds : List (DataW H)} {ps : List MemPlace}, (ts.all fun t => P.readableRec t && Nat.blt t P.types.size) = true →
      DataW.TrodAll enc P W 0 (fun _ => true) true ts vs ds ps → (∀ x ∈ ps, x.block < W.heap.size) → DataW.TrodAll enc P W' 0 (fun b => decide (b < W.heap.size)) true ts vs ds ps
  | [], [], [], _, _, h, _ => h
  | t :: ts, v :: vs, d :: ds, ps, hr, ⟨p, q, h1, h2, e⟩, hlt => by
    simp only [List.all_cons, Bool.and_eq_true] at hr
    exact ⟨p, q, Below.trod hl hr.1.1 (by have := hr.1.2; simpa [Nat.blt_eq] using this) h1 hb (fun x hx => hlt x (by rw [e]; simp [hx])), Below.trodAll hl hb hr.2 h2 (fun x hx => hlt x (by rw [e]; simp [hx])), e⟩
  | [], [], _ :: _, _, _, h, _ => h.elim
  | [], _ :: _, _, _, _, h, _ => h.elim
  | _ :: _, [], _, _, _, h, _ => h.elim
  | _ :: _, _ :: _, [], _, _, h, _ => h.elim

theorem argInts {t k : Nat} {fs : Array Field} {r : Reach} {b0 : Nat} {v : Value} {d : DataW H} {ps : List MemPlace} (hT : intStruct P t k = true) (hs : P.underlying t = some (.struct fs)) (hC : P.cellsOf t = k)
    (hval : Value.okWide P w r b0 t v) (h : DataW.Trod enc P w base spare held t v d ps) : ∃ as : List Int, v = .agg (as.map (Value.int .i64 ·)).toArray ∧ as.length = k ∧ ∀ a ∈ as, -9223372036854775808 ≤ a ∧ a ≤ 9223372036854775807 := by
  obtain ⟨cs, rfl, _⟩ := okWide_struct hs hval
  obtain ⟨fuel, hf⟩ := h
  obtain ⟨as, e, hl, hb⟩ := openIntStruct hT hC hf
  refine ⟨as, ?_, hl, hb⟩
  have e' : cs.toList = as.map (Value.int .i64 ·) := by simpa [Value.cells] using e
  rw [← e']
theorem argSl {t e k : Nat} {r : Reach} {b0 : Nat} {v : Value} {d : DataW H} {ps : List MemPlace} {α : Type} (row : α → List Value) (ht : P.underlying t = some (.slice e)) (hk : P.cellsOf e = k) (hpos : Nat.blt 0 k = true)
    (hrow : ∀ (n : Nat) (cs : List Value) (y : DataW H × List MemPlace), DataW.trod enc P w base spare held n e cs = some y → ∃ x, cs = row x)
    (hval : Value.okWide P w r b0 t v) (h : DataW.Trod enc P w base spare held t v d ps) :
    ∃ s : Sl α, v = s.val ∧ (sl s.a s.c k (s.l.map row)).holds (hp w) ∧ s.l.length ≤ s.c ∧ s.c ≤ maxLen := by
  obtain ⟨a, len, cap, rfl⟩ := okWide_slice ht hval
  obtain ⟨fuel, hf⟩ := h
  obtain ⟨a', c', rows, e1, h2, h3, h4, n, elems, sp, _, _, h5⟩ := openSl ht hk hpos hf
  simp [Value.cells] at e1
  obtain ⟨rfl, rfl, rfl⟩ := e1
  have key : ∀ rows : List (List Value), (∀ r ∈ rows, ∃ x, r = row x) → ∃ l : List α, rows = l.map row := by
    intro rows
    induction rows with
    | nil => intro _; exact ⟨[], rfl⟩
    | cons r rows ih =>
      intro h
      obtain ⟨x, rfl⟩ := h r (by simp)
      obtain ⟨l, rfl⟩ := ih fun r hr => h r (List.mem_cons_of_mem _ hr)
      exact ⟨x :: l, rfl⟩
  obtain ⟨l, rfl⟩ := key rows fun r hr => by
    obtain ⟨i, hi⟩ := List.mem_iff_getElem?.1 hr
    obtain ⟨y, hy, _⟩ := h5 i r hi
    exact hrow n r y hy
  exact ⟨⟨a, cap, l⟩, by simp [Sl.val], h2, by simpa using h3, h4⟩
theorem rowOfInt {e n : Nat} {cs : List Value} {y : DataW H × List MemPlace} (ht : P.underlying e = some (.int .i64)) (h : DataW.trod enc P w base spare held n e cs = some y) : ∃ x, cs = rowI x := by
  obtain ⟨a, e5, _, _⟩ := DataW.trod_int ht h
  exact ⟨a, e5⟩
end
end E
end Go.Proofs.Ytmkodknmknfdkaa
