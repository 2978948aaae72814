/- For every input whose bulk is at most 1048576 the law SoloJoins returns true, and its arguments read behind the call as before; conditions: those of the given row alone. -/
import Derived.Test.YtmkodknmknfdkaaXE5
import Derived.SizedLaws
namespace Go.Proofs.Ytmkodknmknfdkaa.soloJoins
open E Go Go.ChangeShapes Go.WideShapes Go.ChangeAt Go.RowKit
set_option linter.unusedVariables false
set_option linter.unusedSimpArgs false
set_option maxRecDepth 4000

theorem own : ownKnob Try.prog.godebug = none := by kernel_rfl
theorem small (t : Tr) {H : Type} {d e : DataW H} (h : (t.ns.l.map fun n => 2 * n.ps.l.length).sum ≤ Rows.uptoBulk d) (hk : Rows.uptoSmall H ([d, e] ++ []) = true) : smallP t.ns.l ∧ (allT t.p).length ≤ 600000 := by
  have hb : Rows.uptoBulkAll ([d, e] ++ []) ≤ 1048576 := of_decide_eq_true hk
  have h1 := bulk_part (d := d) (l := [d, e] ++ []) (by simp)
  have h2 : (t.ns.l.map fun n => 2 * n.ps.l.length).sum ≤ 1048576 := by omega
  refine ⟨fun n hn => ?_, ?_⟩
  · have := sum_mem (f := fun n : Nd => 2 * n.ps.l.length) hn
    omega
  · refine Nat.le_trans (all_len2 (b := 524288) ?_) (by omega)
    have key : ∀ l : List Nd, 2 * ((l.map Nd.p).map fun n => n.l.length).sum = (l.map fun n => 2 * n.ps.l.length).sum := by
      intro l
      induction l with
      | nil => rfl
      | cons a l ih =>
        simp only [List.map_cons, List.sum_cons] at ih ⊢
        have : a.p.l.length = a.ps.l.length := rfl
        omega
    have := key t.ns.l
    show (((t.p.ns).take t.p.ns.length).map fun n => n.l.length).sum ≤ _
    rw [List.take_of_length_le (Nat.le_refl _)]
    show ((t.ns.l.map Nd.p).map fun n => n.l.length).sum ≤ _
    omega
set_option maxRecDepth 100000 in
theorem lifted (os : Os) (started : os.Started) (H : Type) (enc : TypeId × Value → H) (F : Stop.Interp) :
    ReturnsInHanded {} Try.checked os 18 .any ((Rows.OpenSpec.upto Rows.soloJoinsSpec).pre6 enc Try.prog Try.f18 Rows.soloJoinsUptoRow.domain false) (((Rows.OpenSpec.upto Rows.soloJoinsSpec).at F).post enc Try.prog Try.f18 false true false false) := by
  refine returnsInHanded_of_cond_sized (C := Try.checked) (s := Rows.OpenSpec.upto Rows.soloJoinsSpec) (k := Rows.uptoSmall) rfl own started (by kernel_rfl) Try.func18
    (OpenSpec.witness (enc := enc) (C := Try.checked) (s := Rows.OpenSpec.upto Rows.soloJoinsSpec) (k := Rows.uptoSmall) rfl false ⟨#[], #[.agg #[.int .i64 0, .slice none 0 0], .int .i64 0], []⟩ 8 (by kernel_rfl) (by kernel_rfl) (by kernel_rfl)
      (x := ([.agg [.lit (.int .i64 0), .nil], .lit (.int .i64 0)], [], [])) (by kernel_rfl) rfl (by kernel_rfl)) ?_
  intro W base args ds gs before hval0 hW hcnd hk hsz0 _
  have hval : ∀ (j : Nat) t v, Try.f18.params[j]? = some t → args[j]? = some v → Value.okWide Try.prog W .any base t v := hval0
  have hW' := hW
  obtain ⟨p, q, hA0, hV, rfl, hfz, hnd⟩ := hW
  have hA : DataW.TrodAll enc Try.prog W 0 (fun _ => true) true Try.f18.params.toList args.toList ds p := hA0
  rw [Try.params18] at hA hval
  have hA1 := hA
  obtain ⟨rfl, rfl⟩ := trodVars_none hV
  obtain ⟨v0, vs0, d0, ds0, q0, r0, hargs, rfl, rfl, h0, t0⟩ := trodAll_cons hA
  obtain ⟨v1, vs1, d1, ds1, q1, r1, rfl, rfl, rfl, h1, t1⟩ := trodAll_cons t0
  obtain ⟨rfl, rfl, rfl⟩ := trodAll_nil t1
  obtain rfl : args = #[v0, v1] := by cases args; simp_all
  obtain ⟨p0, rfl, f0, g0, z0⟩ := argTreeB (hval 0 24 v0 rfl rfl) h0
  obtain ⟨p1, rfl, rfl, rfl, w1⟩ := open_int Try.underlying3 (hval 1 3 v1 rfl rfl) h1
  obtain ⟨s0, s1⟩ := small p0 z0 hk
  refine (joins18 p0 s0 s1 p1 (cx W) W (hp W) [] ⟨f0, g0, trivial⟩ (st_of W)).mono fun e W' h => ?_
  obtain ⟨v, Γ', M', H', rfl, ⟨rfl, rfl, rfl⟩, hle, _, hst⟩ := h
  have bel := below_of hle hst
  exact ⟨_, rfl, _, _, _, [], _, [], hW', trodAll_mk1 (shut_bool Try.underlying4 _), E.Below.trodAll (by kernel_rfl) bel (by kernel_rfl) hA1 (fun x hx => by have := hW'.lt x (List.mem_append_left _ hx); simpa using this), rfl, bel.frame _, fun h => by cases h⟩
theorem over : Rows.soloJoinsUptoRow.holds Try.pinned (Rows.OpenSpec.upto Rows.soloJoinsSpec) :=
  OpenClaim.holds_of_cond 18 Try.f18 rfl rfl rfl rfl rfl rfl rfl ⟨rfl, rfl, rfl, rfl, rfl⟩ rfl rfl rfl rfl rfl (by kernel_rfl) Try.func18 (by kernel_rfl)
    (of_decide_eq_true (by kernel_rfl)) (by unfold Func.isWrapper; first | (rw [if_pos (by decide +kernel)]; kernel_rfl) | (rw [if_neg (by decide +kernel)]; exact ⟨rfl, rfl⟩))
    (fun os started H enc _ F => lifted os started H enc F)
theorem proved : Rows.SoloJoinsUptoSaid := over
end Go.Proofs.Ytmkodknmknfdkaa.soloJoins
namespace Go.Proofs.Ytmkodknmknfdkaa
theorem soloJoins_holds : Rows.SoloJoinsUptoSaid := soloJoins.proved
end Go.Proofs.Ytmkodknmknfdkaa
