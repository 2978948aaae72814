/- Trees and pairs that come in as a row's arguments. -/
import Derived.Test.YtmkodknmknfdkaaB0
import Derived.SizedLaws
set_option linter.unusedVariables false
set_option linter.unusedSimpArgs false
namespace Go.Proofs.Ytmkodknmknfdkaa
open E Go Go.RowKit Go.WideShapes
set_option maxRecDepth 4000

theorem choose_rows {α D : Type} {row : α → List Value} {Q : α → D → Prop} : ∀ (rows : List (List Value)) (elems : List D), (∀ (i : Nat) (r : List Value), rows[i]? = some r → ∃ d, elems[i]? = some d ∧ ∃ x, r = row x ∧ Q x d) → ∃ l : List α, rows = l.map row ∧ ∀ x ∈ l, ∃ d ∈ elems, Q x d
  | [], _, _ => ⟨[], rfl, fun x h => by simp at h⟩
  | r :: rows, elems, h => by
    obtain ⟨d, hd, x, rfl, hq⟩ := h 0 r rfl
    cases elems with
    | nil => simp at hd
    | cons e es =>
      simp at hd
      subst hd
      obtain ⟨l, rfl, hl⟩ := choose_rows rows es fun i r hr => h (i + 1) r (by simpa using hr)
      refine ⟨x :: l, rfl, fun y hy => ?_⟩
      rcases List.mem_cons.1 hy with rfl | hy
      · exact ⟨e, by simp, hq⟩
      · obtain ⟨d, hd, hq⟩ := hl y hy
        exact ⟨d, by simp [hd], hq⟩
section
variable {H : Type} {enc : TypeId × Value → H} {w : World} {base : Nat} {spare : Nat → Bool} {held : Bool}
theorem weights_all {P : Program} {e : TypeId} {d : DataW H} {n : Nat} : ∀ {l : List (DataW H)}, d ∈ l → n ∈ d.weights P e → n ∈ DataW.weightsAll P e l
  | x :: l, hd, hn => by
    simp only [DataW.weightsAll, List.mem_append]
    rcases List.mem_cons.1 hd with rfl | hd
    · exact .inl hn
    · exact .inr (weights_all hd hn)
/-- A slice, with what each of its rows tells. -/
theorem openSlQ {t e k fuel : Nat} {cs : List Value} {x : DataW H × List MemPlace} {α : Type} (row : α → List Value) (Q : α → DataW H → Prop) (ht : Try.prog.underlying t = some (.slice e)) (hk : Try.prog.cellsOf e = k) (hpos : Nat.blt 0 k = true)
    (hrow : ∀ (n : Nat) (cs : List Value) (y : DataW H × List MemPlace), DataW.trod enc Try.prog w base spare held n e cs = some y → ∃ x, cs = row x ∧ Q x y.1)
    (h : DataW.trod enc Try.prog w base spare held fuel t cs = some x) :
    ∃ s : Sl α, cs = [s.val] ∧ (sl s.a s.c k (s.l.map row)).holds (hp w) ∧ ((x.1 = .nil ∧ s.l = []) ∨ ∃ elems sp, x.1 = .slice elems sp ∧ s.l.length = elems.length ∧ ∀ x ∈ s.l, ∃ d ∈ elems, Q x d) := by
  obtain ⟨a, c, rows, rfl, h2, h3, h4, n, elems, sp, hx, hlen, h5⟩ := openSl ht hk hpos h
  obtain ⟨l, rfl, hl⟩ := choose_rows (row := row) (Q := Q) rows elems fun i r hr => by
    obtain ⟨y, hy, he⟩ := h5 i r hr
    obtain ⟨x, hx, hq⟩ := hrow n r y hy
    exact ⟨y.1, he, x, hx, hq⟩
  refine ⟨⟨a, c, l⟩, by simp [Sl.val], h2, ?_⟩
  rcases hx with ⟨hx, he⟩ | hx
  · left
    refine ⟨hx, ?_⟩
    rw [he, List.length_map] at hlen
    exact List.eq_nil_of_length_eq_zero hlen.symm
  · exact .inr ⟨elems, sp, hx, by rw [hlen, List.length_map], hl⟩
theorem rowOfPair {n : Nat} {cs : List Value} {y : DataW H × List MemPlace} (h : DataW.trod enc Try.prog w base spare held n 50 cs = some y) : ∃ p : Pr, cs = rowP p ∧ True := by
  obtain ⟨zs, e, hl, _⟩ := openIntStruct (k := 2) (by kernel_rfl) (by kernel_rfl) h
  match zs, hl with
  | [a, b], _ => exact ⟨⟨a, b⟩, e, trivial⟩
theorem bytes50 : Try.prog.bytesOf 50 = 16 := by kernel_rfl
theorem openPairs {fuel : Nat} {cs : List Value} {x : DataW H × List MemPlace} (h : DataW.trod enc Try.prog w base spare held fuel 31 cs = some x) :
    ∃ s : Sl Pr, cs = [s.val] ∧ (prsP s).holds (hp w) ∧ ((x.1.weights Try.prog 31).all (· ≤ reachBytes) = true → s.l.length ≤ 8796093022208) := by
  obtain ⟨s, h1, h2, h3⟩ := openSlQ (k := 2) rowP (fun _ _ => True) Try.underlying31 (by kernel_rfl) rfl (fun n cs y h => rowOfPair h) h
  refine ⟨s, h1, h2, fun hw => ?_⟩
  rcases h3 with ⟨_, h4⟩ | ⟨elems, sp, hx, hl, _⟩
  · rw [h4]; simp
  · rw [hx] at hw
    simp only [DataW.weights, Try.underlying31, List.all_cons, Bool.and_eq_true, decide_eq_true_eq, bytes50, reachBytes] at hw
    have h5 := of_decide_eq_true hw.1
    rw [hl]
    omega
theorem openNode {n : Nat} {cs : List Value} {y : DataW H × List MemPlace} (h : DataW.trod enc Try.prog w base spare held n 33 cs = some y) :
    ∃ x : Nd, cs = rowN x ∧ ((prsP x.ps).holds (hp w) ∧ ((y.1.weights Try.prog 33).all (· ≤ reachBytes) = true → x.ps.l.length ≤ 8796093022208)) := by
  obtain ⟨xs, m, _, rfl, hl, hlen, hf⟩ := DataW.trod_struct Try.underlying33 h
  have hc : Try.prog.cellsOf 33 = 6 := by kernel_rfl
  have c3 : Try.prog.cellsOf 3 = 1 := by kernel_rfl
  have c4 : Try.prog.cellsOf 4 = 1 := by kernel_rfl
  have c31 : Try.prog.cellsOf 31 = 1 := by kernel_rfl
  rw [hc] at hl
  match cs, hl, xs, hlen, hf with
  | [k0, k1, k2, k3, k4, k5], _, [y0, y1, y2, y3, y4, y5], _, hf =>
    have f0 := hf 0 _ rfl
    have f1 := hf 1 _ rfl
    have f2 := hf 2 _ rfl
    have f3 := hf 3 _ rfl
    have f4 := hf 4 _ rfl
    have f5 := hf 5 _ rfl
    simp only [c3, c4, c31, List.drop_succ_cons, List.drop_zero, List.take_succ_cons, List.take_zero, List.getElem?_cons_succ, List.getElem?_cons_zero] at f0 f1 f2 f3 f4 f5
    obtain ⟨b0, e0, _⟩ := DataW.trod_bool Try.underlying4 f0
    obtain ⟨n1, e1, _, _⟩ := DataW.trod_int Try.underlying3 f1
    obtain ⟨n2, e2, _, _⟩ := DataW.trod_int Try.underlying3 f2
    obtain ⟨n3, e3, _, _⟩ := DataW.trod_int Try.underlying3 f3
    obtain ⟨s4, e4, g4, w4⟩ := openPairs f4
    obtain ⟨n5, e5, _, _⟩ := DataW.trod_int Try.underlying3 f5
    cases e0; cases e1; cases e2; cases e3; cases e4; cases e5
    refine ⟨⟨b0, n1, n2, n3, s4, n5⟩, rfl, g4, fun hw => w4 ?_⟩
    rw [List.all_eq_true] at hw ⊢
    intro z hz
    refine hw z ?_
    simp only [DataW.weights, Try.underlying33]
    exact DataW.weights_mem_each (j := 4) rfl rfl z hz
/-- A tree that came in. -/
theorem openTree {fuel : Nat} {cs : List Value} {x : DataW H × List MemPlace} (h : DataW.trod enc Try.prog w base spare held fuel 24 cs = some x) :
    ∃ t : Tr, cs = [.int .i64 t.root, t.ns.val] ∧ (ndsP t.ns).holds (hp w) ∧ (psP t.ns.l).holds (hp w) ∧ ((x.1.weights Try.prog 24).all (· ≤ reachBytes) = true → ∀ n ∈ t.ns.l, n.ps.l.length ≤ 8796093022208) := by
  obtain ⟨xs, m, _, rfl, hl, hlen, hf⟩ := DataW.trod_struct Try.underlying24 h
  have hc : Try.prog.cellsOf 24 = 2 := by kernel_rfl
  have c3 : Try.prog.cellsOf 3 = 1 := by kernel_rfl
  have c22 : Try.prog.cellsOf 22 = 1 := by kernel_rfl
  rw [hc] at hl
  match cs, hl, xs, hlen, hf with
  | [k0, k1], _, [y0, y1], _, hf =>
    have f0 := hf 0 _ rfl
    have f1 := hf 1 _ rfl
    simp only [c3, c22, List.drop_succ_cons, List.drop_zero, List.take_succ_cons, List.take_zero, List.getElem?_cons_succ, List.getElem?_cons_zero] at f0 f1
    obtain ⟨n0, e0, _, _⟩ := DataW.trod_int Try.underlying3 f0
    obtain ⟨s, e1, g1, g2⟩ := openSlQ (k := 6) rowN (fun x d => (prsP x.ps).holds (hp w) ∧ ((d.weights Try.prog 33).all (· ≤ reachBytes) = true → x.ps.l.length ≤ 8796093022208)) Try.underlying22 (by kernel_rfl) rfl (fun n cs y h => openNode h) f1
    cases e0; cases e1
    refine ⟨⟨n0, s⟩, rfl, g1, ?_, fun hw n hn => ?_⟩
    · rcases g2 with ⟨_, g3⟩ | ⟨elems, sp, _, _, g3⟩
      · intro n hn; rw [g3] at hn; simp at hn
      · intro n hn; obtain ⟨d, _, g4, _⟩ := g3 n hn; exact g4
    · rcases g2 with ⟨_, g3⟩ | ⟨elems, sp, hx, _, g3⟩
      · rw [g3] at hn; simp at hn
      · obtain ⟨d, hd, _, g5⟩ := g3 n hn
        apply g5
        rw [List.all_eq_true] at hw ⊢
        intro z hz
        refine hw z ?_
        simp only [DataW.weights, Try.underlying24]
        refine DataW.weights_mem_each (j := 1) (t := 22) (d := y1.1) rfl rfl z ?_
        rw [hx]
        simp only [DataW.weights, Try.underlying22, List.mem_cons, List.mem_append]
        exact .inr (.inl (weights_all hd hz))
theorem argTree {r : Reach} {b0 : Nat} {v : Value} {d : DataW H} {ps : List MemPlace} (hval : Value.okWide Try.prog w r b0 24 v) (h : DataW.Trod enc Try.prog w base spare held 24 v d ps) :
    ∃ t : Tr, v = t.val ∧ (ndsP t.ns).holds (hp w) ∧ (psP t.ns.l).holds (hp w) ∧ ((d.weights Try.prog 24).all (· ≤ reachBytes) = true → ∀ n ∈ t.ns.l, n.ps.l.length ≤ 8796093022208) := by
  obtain ⟨cs, rfl, _⟩ := okWide_struct Try.underlying24 hval
  obtain ⟨fuel, hf⟩ := h
  obtain ⟨t, e, h1, h2, h3⟩ := openTree hf
  refine ⟨t, ?_, h1, h2, h3⟩
  have e' : cs.toList = [.int .i64 t.root, t.ns.val] := by simpa [Value.cells] using e
  show Value.agg cs = .agg #[.int .i64 t.root, t.ns.val]
  congr 1
  apply Array.ext'
  rw [e']
theorem argPairs {r : Reach} {b0 : Nat} {v : Value} {d : DataW H} {ps : List MemPlace} (hval : Value.okWide Try.prog w r b0 31 v) (h : DataW.Trod enc Try.prog w base spare held 31 v d ps) :
    ∃ s : Sl Pr, v = s.val ∧ (prsP s).holds (hp w) := by
  obtain ⟨a, len, cap, rfl⟩ := okWide_slice Try.underlying31 hval
  obtain ⟨fuel, hf⟩ := h
  obtain ⟨s, e, h1, _⟩ := openPairs hf
  exact ⟨s, by simpa [Value.cells] using e, h1⟩
theorem argPair {r : Reach} {b0 : Nat} {v : Value} {d : DataW H} {ps : List MemPlace} (hval : Value.okWide Try.prog w r b0 50 v) (h : DataW.Trod enc Try.prog w base spare held 50 v d ps) : ∃ p : Pr, v = p.val := by
  obtain ⟨zs, e, hl, _⟩ := argInts (k := 2) (by kernel_rfl) Try.underlying50 (by kernel_rfl) hval h
  match zs, hl with
  | [a, b], _ => exact ⟨⟨a, b⟩, e⟩
/-- What one argument weighs. -/
theorem sizedArg {ts : List TypeId} {ds : List (DataW H)} {j : Nat} {t : TypeId} {d : DataW H} (h : (DataW.weightsEach Try.prog ts ds).all (· ≤ reachBytes) = true) (ht : ts[j]? = some t) (hd : ds[j]? = some d) : (d.weights Try.prog t).all (· ≤ reachBytes) = true := by
  rw [List.all_eq_true] at h ⊢
  exact fun n hn => h n (DataW.weights_mem_each ht hd n hn)
end
end Go.Proofs.Ytmkodknmknfdkaa
