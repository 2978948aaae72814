/- For every input the law RunMore returns true, and its arguments read behind the call as before; conditions: those of the given row alone. -/
import Derived.Test.YtcnohdmimheoaaaGreatQ6
import Derived.Test.YtcnohdmimheoaaaGreatRows
import Derived.SizedLaws
namespace Go.Proofs.YtcnohdmimheoaaaGreat.runMore
open E Go Go.ChangeShapes Go.WideShapes Go.ChangeAt Go.RowKit
set_option linter.unusedVariables false
set_option linter.unusedSimpArgs false
set_option maxRecDepth 4000
theorem own : ownKnob Tryz.prog.godebug = none := by kernel_rfl
theorem lifted (os : Os) (started : os.Started) (H : Type) (enc : TypeId × Value → H) :
    ReturnsInHanded {} Tryz.checked os 5 .any (Rows.runMoreSpec.pre6 enc Tryz.prog Tryz.f5 Rows.runMoreRow.domain false) (Rows.runMoreSpec.post enc Tryz.prog Tryz.f5 false true false false) := by
  refine returnsInHanded_of_change_sized (C := Tryz.checked) own started (by kernel_rfl) Tryz.func5
    (ChangeSpec.witness6 (enc := enc) (C := Tryz.checked) false ⟨#[], #[.agg #[.int .i64 0, .int .i64 0, .int .i64 0, .int .i64 0, .int .i64 0, .int .i64 0, .int .i64 0, .slice none 0 0, .slice none 0 0, .slice none 0 0], .int .i64 0], []⟩ 8 (by kernel_rfl) (by kernel_rfl) (by kernel_rfl) (by kernel_rfl)) ?_
  intro W base args ds gs before hval0 hW hcnd hsz0 _
  have hval : ∀ (j : Nat) t v, Tryz.f5.params[j]? = some t → args[j]? = some v → Value.okWide Tryz.prog W .any base t v := hval0
  have hW' := hW
  obtain ⟨p, q, hA0, hV, rfl, hfz, hnd⟩ := hW
  have hA : DataW.TrodAll enc Tryz.prog W 0 (fun _ => true) true Tryz.f5.params.toList args.toList ds p := hA0
  rw [Tryz.params5] at hA hval
  have hA1 := hA
  obtain ⟨rfl, rfl⟩ := trodVars_none hV
  obtain ⟨v0, vs0, d0, ds0, q0, r0, hargs, rfl, rfl, h0, t0⟩ := trodAll_cons hA
  obtain ⟨v1, vs1, d1, ds1, q1, r1, rfl, rfl, rfl, h1, t1⟩ := trodAll_cons t0
  obtain ⟨rfl, rfl, rfl⟩ := trodAll_nil t1
  obtain rfl : args = #[v0, v1] := by cases args; simp_all
  obtain ⟨p0, rfl, f0, g0, z0⟩ := Ed (hval 0 28 v0 rfl rfl) h0
  have s0 := z0 (H6 hsz0 (j := 0) (t := 28) (d := d0) rfl rfl)
  obtain ⟨p1, rfl, rfl, rfl, w1⟩ := open_int Tryz.underlying3 (hval 1 3 v1 rfl rfl) h1
  refine (Qk p0 p1 s0 g0 (cx W) W (hp W) [] f0 (NJ W)).mono fun e W' h => ?_
  obtain ⟨v, Γ', M', H', rfl, ⟨rfl, rfl, rfl⟩, hle, _, hst⟩ := h
  have bel := Ey hle hst
  exact ⟨_, rfl, _, _, _, [], _, [], hW', trodAll_mk1 (shut_bool Tryz.underlying4 _), E.Below.trodAll (by kernel_rfl) bel (by kernel_rfl) hA1 (fun x hx => by have := hW'.lt x (List.mem_append_left _ hx); simpa using this), rfl, bel.frame _, fun h => by cases h⟩
theorem iR : Rows.runMoreRow.holds Tryz.pinned (OpenSpec.ofChange Rows.runMoreSpec) :=
  OpenClaim.holds_of_wide 5 Tryz.f5 rfl rfl rfl rfl rfl rfl rfl ⟨rfl, rfl, rfl, rfl, rfl⟩ rfl rfl rfl rfl rfl (by kernel_rfl) Tryz.func5 (by kernel_rfl)
    (of_decide_eq_true (by kernel_rfl)) (by unfold Func.isWrapper; first | (rw [if_pos (by decide +kernel)]; kernel_rfl) | (rw [if_neg (by decide +kernel)]; exact ⟨rfl, rfl⟩))
    (fun os started H enc _ => lifted os started H enc)
theorem proved : Rows.RunMoreSaid := iR
end Go.Proofs.YtcnohdmimheoaaaGreat.runMore
namespace Go.Proofs.YtcnohdmimheoaaaGreat
theorem runMore_holds : Rows.RunMoreSaid := runMore.proved
end Go.Proofs.YtcnohdmimheoaaaGreat
