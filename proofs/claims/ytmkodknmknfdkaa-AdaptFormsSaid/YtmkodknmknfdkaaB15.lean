/- The walk of adapt's awake. -/
import Derived.Test.YtmkodknmknfdkaaB14
set_option linter.unusedVariables false
set_option linter.unusedSimpArgs false
namespace Go.Proofs.Ytmkodknmknfdkaa
open E
set_option maxRecDepth 4000

theorem en47 : Enters Try.prog 47 := Enters.mk' Try.func47 rfl rfl
theorem en48 : Enters Try.prog 48 := Enters.mk' Try.func48 rfl rfl

theorem awake45  : Con Try.prog 45 [] [] [] (fun v Γ M => v = .bool true ∧ Γ = [] ∧ M = []) := by
  refine Con.body 66 Try.func45 rfl Try.ntmps45 rfl fun X H₀ L₀ => ?_
  refine At.seq ?_
  refine At.region ?_
  refine At.skim 1 rfl rfl ?_
  refine At.nil ?_
  refine At.then ?_
  refine At.seq ?_
  refine At.region ?_
  refine At.quiet (q_build t50 s50 rfl rfl) rfl ?_
  refine At.quiet (q_build t50 s50 rfl rfl) rfl ?_
  refine At.quiet (q_build t50 s50 rfl rfl) rfl ?_
  refine At.loud (l_buildSlice Try.underlying31 t50 rfl rfl rfl rfl rfl) rfl ?_
  rintro _ _ _ ⟨b1, rfl, rfl, rfl⟩
  refine At.freeze 0 (φ := prsP ⟨some ⟨b1, 0, none⟩, 3, [⟨1, 0⟩, ⟨2, 0⟩, ⟨3, 0⟩]⟩) rfl (fun _ h => sl_of_block h rfl (by simp [rowP]) (by kernel_rfl) (show (3 : Nat) ≤ maxLen from by decide)) ?_
  refine At.call en31 rfl (one31 ⟨_, 3, [⟨1, 0⟩, ⟨2, 0⟩, ⟨3, 0⟩]⟩ (by simp)) (fun _ h => ⟨h.1, trivial⟩) (List.Perm.refl _) rfl ?_
  rintro _ _ _ ⟨u, rfl, rfl, rfl, hpu⟩
  refine At.loud (l_alloc t24) rfl ?_
  rintro _ _ _ ⟨b2, rfl, rfl, rfl⟩
  refine At.loudN (l_store t24 rfl rfl (i := 0) rfl rfl rfl rfl) ?_
  rintro _ _ _ ⟨rfl, rfl⟩
  refine At.nil ?_
  refine At.then ?_
  refine At.seq ?_
  refine At.region ?_
  have hua : u.p = aw15 := hpu
  have hsu := small_dec hua aw15_8
  refine At.quiet (q_loadS t24 rfl (RdS.loc (i := 0) rfl (m := 2) rfl) rfl) rfl ?_
  refine At.call en47 rfl (split47 _ (by assumption) 0) (fun _ h => ⟨h.1, h.2.1, trivial⟩) (List.Perm.refl _) rfl ?_
  rintro _ _ _ ⟨v, rfl, rfl, rfl, hpv⟩
  refine At.skim 1 rfl rfl ?_
  refine At.quiet (q_extract rfl rfl) rfl ?_
  refine At.quiet (q_extract rfl rfl) rfl ?_
  refine At.loud (l_alloc t24) rfl ?_
  rintro _ _ _ ⟨b3, rfl, rfl, rfl⟩
  refine At.loudN (l_store t24 rfl rfl (i := 0) rfl rfl rfl rfl) ?_
  rintro _ _ _ ⟨rfl, rfl⟩
  refine At.skim 1 rfl rfl ?_
  refine At.nil ?_
  refine At.then ?_
  refine At.seq ?_
  refine At.seq ?_
  refine At.region ?_
  have hva : v.p = aw15s := by rw [hpv, hua]; rfl
  obtain ⟨hvl, ⟨x0, hx0, hk0⟩, ⟨x1, hx1, hk1⟩⟩ := aw15_v hva
  have hsv := small_dec hva aw15_6
  refine At.skim 3 rfl rfl ?_
  refine At.say 20 (.bool false) rfl (congrArg Value.bool (by rw [hua]; show (!(splitT aw15 0).isSome) = false; rw [aw15_1]; rfl)) ?_
  refine At.open rfl rfl ?_
  refine At.quiet (q_fieldAddr s24 rfl rfl rfl) rfl ?_
  refine At.open rfl rfl ?_
  refine At.quiet (q_load t22 rfl (Rd.loc (i := 0) rfl rfl)) rfl ?_
  refine At.open rfl rfl ?_
  refine At.quiet (q_len Try.underlying22 rfl) rfl ?_
  refine At.skim 2 rfl rfl ?_
  refine At.nil ?_
  refine At.then ?_
  refine At.say 25 (.bool false) rfl (congrArg Value.bool (decide_eq_false (by rw [hvl]; decide))) ?_
  refine At.condF rfl ?_
  refine At.skip ?_
  refine At.then ?_
  refine At.seq ?_
  refine At.region ?_
  refine At.quiet (q_loadS t24 rfl (RdS.loc (i := 0) rfl (m := 2) rfl) rfl) rfl ?_
  refine At.call en46 rfl (next46 _ _) (fun _ h => ⟨h.1, h.2.1, trivial⟩) (List.Perm.refl _) rfl ?_
  rintro _ _ _ ⟨rfl, rfl, rfl⟩
  refine At.skim 1 rfl rfl ?_
  refine At.quiet (q_extract rfl rfl) rfl ?_
  refine At.quiet (q_extract rfl rfl) rfl ?_
  refine At.skim 2 rfl rfl ?_
  refine At.nil ?_
  refine At.then ?_
  refine At.seq ?_
  refine At.region ?_
  refine At.quiet (q_loadS t24 rfl (RdS.loc (i := 0) rfl (m := 2) rfl) rfl) rfl ?_
  refine At.call en48 rfl (join48 _ (by assumption) 2) (fun _ h => ⟨h.1, h.2.1, trivial⟩) (List.Perm.refl _) rfl ?_
  rintro _ _ _ ⟨w, rfl, rfl, rfl, hpw⟩
  refine At.skim 1 rfl rfl ?_
  refine At.quiet (q_extract rfl rfl) rfl ?_
  refine At.quiet (q_extract rfl rfl) rfl ?_
  refine At.loud (l_alloc t24) rfl ?_
  rintro _ _ _ ⟨b4, rfl, rfl, rfl⟩
  refine At.loudN (l_store t24 rfl rfl (i := 0) rfl rfl rfl rfl) ?_
  rintro _ _ _ ⟨rfl, rfl⟩
  refine At.skim 1 rfl rfl ?_
  refine At.nil ?_
  refine At.then ?_
  refine At.seq ?_
  refine At.region ?_
  have hwa : w.p = aw15j := by rw [hpw, hva]; rfl
  have hsw := small_dec hwa aw15_7
  refine At.fld s24 t22 rfl rfl rfl (Rd.loc (i := 1) rfl rfl) rfl rfl ?_
  refine At.quiet (q_index Try.underlying22 t33 rfl (.tail _ (.tail _ (.head _))) (by simp) rfl rfl (lt_of_get hx0)) rfl ?_
  refine At.fld s33 t3 rfl rfl rfl (Rd.sl (.tail _ (.tail _ (.head _))) (map_get hx0) rfl) rfl rfl ?_
  refine At.skim 2 rfl rfl ?_
  refine At.say 42 (.bool true) rfl (congrArg Value.bool (decide_eq_true hk0)) ?_
  refine At.open rfl rfl ?_
  refine At.quiet (q_fieldAddr s24 rfl rfl rfl) rfl ?_
  refine At.open rfl rfl ?_
  refine At.quiet (q_load t22 rfl (Rd.loc (i := 1) rfl rfl)) rfl ?_
  refine At.open rfl rfl ?_
  refine At.quiet (q_index Try.underlying22 t33 rfl (.tail _ (.tail _ (.head _))) (by simp) rfl rfl (lt_of_get hx1)) rfl ?_
  refine At.open rfl rfl ?_
  refine At.quiet (q_fieldAddr s33 rfl rfl rfl) rfl ?_
  refine At.open rfl rfl ?_
  refine At.quiet (q_load t31 rfl (Rd.sl (.tail _ (.tail _ (.head _))) (map_get hx1) rfl)) rfl ?_
  refine At.open rfl rfl ?_
  refine At.quiet (q_len Try.underlying31 rfl) rfl ?_
  refine At.skim 3 rfl rfl ?_
  refine At.say 51 (.bool true) rfl (congrArg Value.bool (decide_eq_true (by rw [hk1]; rfl))) ?_
  refine At.skim 3 rfl rfl ?_
  refine At.say 54 (.bool true) rfl (congrArg Value.bool (by rw [hva, aw15_3]; rfl)) ?_
  refine At.skim 4 rfl rfl ?_
  refine At.say 58 (.bool true) rfl (congrArg Value.bool (decide_eq_true (by rw [hva, aw15_3]; rfl))) ?_
  refine At.skim 3 rfl rfl ?_
  refine At.say 61 (.bool true) rfl (congrArg Value.bool (by rw [hva]; exact aw15_4)) ?_
  refine At.open rfl rfl ?_
  refine At.quiet (q_loadS t24 rfl (RdS.loc (i := 0) rfl (m := 2) rfl) rfl) rfl ?_
  refine At.open rfl rfl ?_
  refine At.quiet (q_loadS t24 rfl (RdS.loc (i := 2) rfl (m := 2) rfl) rfl) rfl ?_
  refine At.open rfl rfl ?_
  refine At.call en37 rfl (same37 _ _ (by assumption) (by assumption)) (fun _ h => ⟨h.1, h.2.1, h.2.2.2.2.1, h.2.2.2.2.2.1, trivial⟩) (List.Perm.refl _) rfl ?_
  rintro _ _ _ ⟨rfl, rfl, rfl⟩
  refine At.skim 2 rfl rfl ?_
  refine At.nil ?_
  refine At.then ?_
  refine At.ret ?_
  exact At.results (Γr := []) (M := []) rfl (RVals.cons (RVal.tmp rfl) RVals.nil) (.tail _ (.tail _ (.tail _ (.tail _ (.tail _ (.tail _ (.tail _ (.head _)))))))) (fun _ _ => trivial) (.cons _ (.cons _ (.cons _ (.refl _)))) ⟨congrArg Value.bool (by rw [hwa, hua]; exact aw15_5), rfl, rfl⟩

end Go.Proofs.Ytmkodknmknfdkaa
