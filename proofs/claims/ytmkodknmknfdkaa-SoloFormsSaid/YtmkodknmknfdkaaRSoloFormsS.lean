/- For every input the law SoloForms returns true, and its arguments read behind the call as before; conditions: those of the given row alone. -/
import Derived.Test.YtmkodknmknfdkaaXD6
import Derived.SizedLaws
namespace Go.Proofs.Ytmkodknmknfdkaa.soloForms
open E Go Go.ChangeShapes Go.WideShapes Go.ChangeAt Go.RowKit
set_option linter.unusedVariables false
set_option linter.unusedSimpArgs false
set_option maxRecDepth 4000
theorem rowOfOp {H : Type} {enc : TypeId × Value → H} {w : World} {base : Nat} {spare : Nat → Bool} {held : Bool} {n : Nat} {cs : List Value} {y : DataW H × List MemPlace} (h : DataW.trod enc Try.prog w base spare held n 77 cs = some y) : ∃ o : OpS, cs = rowO o := by
  obtain ⟨zs, e, hl, _⟩ := openIntStruct (k := 4) (by kernel_rfl) (by kernel_rfl) h
  match zs, hl with
  | [a, b, c, d], _ => exact ⟨⟨a, b, c, d⟩, e⟩
theorem own : ownKnob Try.prog.godebug = none := by kernel_rfl
theorem lifted (os : Os) (started : os.Started) (H : Type) (enc : TypeId × Value → H) :
    ReturnsInHanded {} Try.checked os 14 .any (Rows.soloFormsSpec.pre6 enc Try.prog Try.f14 Rows.soloFormsRow.domain false) (Rows.soloFormsSpec.post enc Try.prog Try.f14 false true false false) := by
  refine returnsInHanded_of_change_sized (C := Try.checked) own started (by kernel_rfl) Try.func14
    (ChangeSpec.witness6 (enc := enc) (C := Try.checked) false ⟨#[], #[.agg #[.int .i64 0, .slice none 0 0], .agg #[.int .i64 0, .int .i64 0, .int .i64 0, .int .i64 0, .int .i64 0], .slice none 0 0], []⟩ 8 (by kernel_rfl) (by kernel_rfl) (by kernel_rfl) (by kernel_rfl)) ?_
  intro W base args ds gs before hval0 hW hcnd hsz0 _
  have hval : ∀ (j : Nat) t v, Try.f14.params[j]? = some t → args[j]? = some v → Value.okWide Try.prog W .any base t v := hval0
  have hW' := hW
  obtain ⟨p, q, hA0, hV, rfl, hfz, hnd⟩ := hW
  have hA : DataW.TrodAll enc Try.prog W 0 (fun _ => true) true Try.f14.params.toList args.toList ds p := hA0
  rw [Try.params14] at hA hval
  have hA1 := hA
  obtain ⟨rfl, rfl⟩ := trodVars_none hV
  obtain ⟨v0, vs0, d0, ds0, q0, r0, hargs, rfl, rfl, h0, t0⟩ := trodAll_cons hA
  obtain ⟨v1, vs1, d1, ds1, q1, r1, rfl, rfl, rfl, h1, t1⟩ := trodAll_cons t0
  obtain ⟨v2, vs2, d2, ds2, q2, r2, rfl, rfl, rfl, h2, t2⟩ := trodAll_cons t1
  obtain ⟨rfl, rfl, rfl⟩ := trodAll_nil t2
  obtain rfl : args = #[v0, v1, v2] := by cases args; simp_all
  obtain ⟨p0, rfl, f0, g0, z0⟩ := argTree (hval 0 24 v0 rfl rfl) h0
  have s0 := z0 (sizedArg hsz0 (j := 0) (t := 24) (d := d0) rfl rfl)
  obtain ⟨zs1, e1, l1, b1⟩ := argInts (k := 5) (by kernel_rfl) Try.underlying64 (by kernel_rfl) (hval 1 64 v1 rfl rfl) h1
  obtain ⟨p1, hp1⟩ : ∃ p : Pol, v1 = p.val := by
    match zs1, l1 with
    | [a, b, c, d, e], _ => exact ⟨⟨a, b, c, d, e⟩, e1⟩
  subst hp1
  obtain ⟨p2, rfl, f2, _, _⟩ := argSl (k := 4) rowO Try.underlying72 (by kernel_rfl) rfl (fun _ _ _ h => rowOfOp h) (hval 2 72 v2 rfl rfl) h2
  refine (forms14 p0 s0 p1 p2 (cx W) W (hp W) [] ⟨f0, g0, f2, trivial⟩ (st_of W)).mono fun e W' h => ?_
  obtain ⟨v, Γ', M', H', rfl, ⟨rfl, rfl, rfl⟩, hle, _, hst⟩ := h
  have bel := below_of hle hst
  exact ⟨_, rfl, _, _, _, [], _, [], hW', trodAll_mk1 (shut_bool Try.underlying4 _), E.Below.trodAll (by kernel_rfl) bel (by kernel_rfl) hA1 (fun x hx => by have := hW'.lt x (List.mem_append_left _ hx); simpa using this), rfl, bel.frame _, fun h => by cases h⟩
theorem over : Rows.soloFormsRow.holds Try.pinned (OpenSpec.ofChange Rows.soloFormsSpec) :=
  OpenClaim.holds_of_wide 14 Try.f14 rfl rfl rfl rfl rfl rfl rfl ⟨rfl, rfl, rfl, rfl, rfl⟩ rfl rfl rfl rfl rfl (by kernel_rfl) Try.func14 (by kernel_rfl)
    (of_decide_eq_true (by kernel_rfl)) (by unfold Func.isWrapper; first | (rw [if_pos (by decide +kernel)]; kernel_rfl) | (rw [if_neg (by decide +kernel)]; exact ⟨rfl, rfl⟩))
    (fun os started H enc _ => lifted os started H enc)
theorem proved : Rows.SoloFormsSaid := over
end Go.Proofs.Ytmkodknmknfdkaa.soloForms
namespace Go.Proofs.Ytmkodknmknfdkaa
theorem soloForms_holds : Rows.SoloFormsSaid := soloForms.proved
end Go.Proofs.Ytmkodknmknfdkaa
