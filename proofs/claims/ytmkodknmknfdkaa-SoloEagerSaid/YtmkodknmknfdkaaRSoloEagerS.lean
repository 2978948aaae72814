/- For every input the law SoloEager returns true, and its arguments read behind the call as before; conditions: those of the given row alone. -/
import Derived.Test.YtmkodknmknfdkaaXB4
import Derived.SizedLaws
namespace Go.Proofs.Ytmkodknmknfdkaa.soloEager
open E Go Go.ChangeShapes Go.WideShapes Go.ChangeAt Go.RowKit
set_option linter.unusedVariables false
set_option linter.unusedSimpArgs false
set_option maxRecDepth 4000

theorem own : ownKnob Try.prog.godebug = none := by kernel_rfl
theorem lifted (os : Os) (started : os.Started) (H : Type) (enc : TypeId × Value → H) :
    ReturnsInHanded {} Try.checked os 17 .any (Rows.soloEagerSpec.pre6 enc Try.prog Try.f17 Rows.soloEagerRow.domain false) (Rows.soloEagerSpec.post enc Try.prog Try.f17 false true false false) := by
  refine returnsInHanded_of_change_sized (C := Try.checked) own started (by kernel_rfl) Try.func17
    (ChangeSpec.witness6 (enc := enc) (C := Try.checked) false ⟨#[], #[.slice none 0 0], []⟩ 8 (by kernel_rfl) (by kernel_rfl) (by kernel_rfl) (by kernel_rfl)) ?_
  intro W base args ds gs before hval0 hW hcnd hsz0 _
  have hval : ∀ (j : Nat) t v, Try.f17.params[j]? = some t → args[j]? = some v → Value.okWide Try.prog W .any base t v := hval0
  have hW' := hW
  obtain ⟨p, q, hA0, hV, rfl, hfz, hnd⟩ := hW
  have hA : DataW.TrodAll enc Try.prog W 0 (fun _ => true) true Try.f17.params.toList args.toList ds p := hA0
  rw [Try.params17] at hA hval
  have hA1 := hA
  obtain ⟨rfl, rfl⟩ := trodVars_none hV
  obtain ⟨v0, vs0, d0, ds0, q0, r0, hargs, rfl, rfl, h0, t0⟩ := trodAll_cons hA
  obtain ⟨rfl, rfl, rfl⟩ := trodAll_nil t0
  obtain rfl : args = #[v0] := by cases args; simp_all
  obtain ⟨p0, rfl, f0, _, _⟩ := argSl (k := 1) rowI Try.underlying37 (by kernel_rfl) rfl (fun _ _ _ h => rowOfInt Try.underlying3 h) (hval 0 37 v0 rfl rfl) h0
  refine (eager17 p0 (cx W) W (hp W) [] ⟨f0, trivial⟩ (st_of W)).mono fun e W' h => ?_
  obtain ⟨v, Γ', M', H', rfl, ⟨rfl, rfl, rfl⟩, hle, _, hst⟩ := h
  have bel := below_of hle hst
  exact ⟨_, rfl, _, _, _, [], _, [], hW', trodAll_mk1 (shut_bool Try.underlying4 _), E.Below.trodAll (by kernel_rfl) bel (by kernel_rfl) hA1 (fun x hx => by have := hW'.lt x (List.mem_append_left _ hx); simpa using this), rfl, bel.frame _, fun h => by cases h⟩
theorem over : Rows.soloEagerRow.holds Try.pinned (OpenSpec.ofChange Rows.soloEagerSpec) :=
  OpenClaim.holds_of_wide 17 Try.f17 rfl rfl rfl rfl rfl rfl rfl ⟨rfl, rfl, rfl, rfl, rfl⟩ rfl rfl rfl rfl rfl (by kernel_rfl) Try.func17 (by kernel_rfl)
    (of_decide_eq_true (by kernel_rfl)) (by unfold Func.isWrapper; first | (rw [if_pos (by decide +kernel)]; kernel_rfl) | (rw [if_neg (by decide +kernel)]; exact ⟨rfl, rfl⟩))
    (fun os started H enc _ => lifted os started H enc)
theorem proved : Rows.SoloEagerSaid := over
end Go.Proofs.Ytmkodknmknfdkaa.soloEager
namespace Go.Proofs.Ytmkodknmknfdkaa
theorem soloEager_holds : Rows.SoloEagerSaid := soloEager.proved
end Go.Proofs.Ytmkodknmknfdkaa
