/- The walk of AdaptForms. -/
import Derived.Test.YtmkodknmknfdkaaB21
set_option linter.unusedVariables false
set_option linter.unusedSimpArgs false
namespace Go.Proofs.Ytmkodknmknfdkaa
open E
set_option maxRecDepth 4000

theorem en52 : Enters Try.prog 52 := Enters.mk' Try.func52 rfl rfl

set_option maxHeartbeats 1000000 in
theorem forms11 (t : Tr) (hz : ∀ n ∈ t.ns.l, n.ps.l.length ≤ 8796093022208) (p : Pol) (at_ : Int) : Con Try.prog 11 [t.val, p.val, .int .i64 at_] [ndsP t.ns, psP t.ns.l] [] (fun v Γ M => v = .bool true ∧ Γ = [] ∧ M = []) := by
  refine Con.body 126 Try.func11 rfl Try.ntmps11 rfl fun X H₀ L₀ => ?_
  refine At.seq ?_
  refine At.region ?_
  refine At.loud (l_box rfl) rfl ?_
  rintro _ _ _ ⟨b1, rfl, rfl, rfl⟩
  refine At.freeze 0 (φ := blk b1 _) rfl (fun _ h => blk_def.2 ⟨_, _, h⟩) ?_
  refine At.loud (l_box rfl) rfl ?_
  rintro _ _ _ ⟨b2, rfl, rfl, rfl⟩
  refine At.freeze 0 (φ := blk b2 _) rfl (fun _ h => blk_def.2 ⟨_, _, h⟩) ?_
  refine At.skim 1 rfl rfl ?_
  refine At.nil ?_
  refine At.then ?_
  refine At.seq ?_
  refine At.seq ?_
  refine At.region ?_
  refine At.quiet (q_loadS t24 rfl (RdS.blk (.tail _ (.head _)) (m := 2) rfl) rfl) rfl ?_
  refine At.call en20 rfl (light20 _ (by assumption)) (fun _ h => ⟨h.2.2.2.1, trivial⟩) (List.Perm.refl _) rfl ?_
  rintro _ _ _ ⟨rfl, rfl, rfl⟩
  refine At.skim 1 rfl rfl ?_
  refine At.nil ?_
  refine At.then ?_
  refine At.if rfl (fun hlg => ?_) (fun hlg => ?_)
  · skip
    refine At.seq ?_
    refine At.region ?_
    refine At.call en45 rfl (awake45) (fun _ _ => trivial) (List.Perm.refl _) rfl ?_
    rintro _ _ _ ⟨rfl, rfl, rfl⟩
    refine At.skim 1 rfl rfl ?_
    refine At.nil ?_
    refine At.then ?_
    refine At.ret ?_
    refine At.thenRet ?_
    exact At.results (Γr := []) (M := []) rfl (RVals.cons (RVal.tmp rfl) RVals.nil) (.tail _ (.tail _ (.head _))) (fun _ _ => trivial) (.refl _) ⟨rfl, rfl, rfl⟩
  · skip
    have hli : lightT t.p = true := light_yes hlg
    obtain ⟨h450, hsm, hp2000⟩ := small_of_light hli
    have hN : t.p.ns.length = t.ns.l.length := by simp [Tr.p]
    refine At.skip ?_
    refine At.then ?_
    refine At.seq ?_
    refine At.region ?_
    refine At.quiet (q_loadS t24 rfl (RdS.blk (.tail _ (.head _)) (m := 2) rfl) rfl) rfl ?_
    refine At.skim 1 rfl rfl ?_
    refine At.call en47 rfl (split47 _ (by assumption) _) (fun _ h => ⟨h.2.2.2.1, h.2.2.2.2.1, trivial⟩) (List.Perm.refl _) rfl ?_
    rintro _ _ _ ⟨u1, rfl, rfl, rfl, hpu1⟩
    refine At.skim 1 rfl rfl ?_
    refine At.quiet (q_extract rfl rfl) rfl ?_
    refine At.quiet (q_extract rfl rfl) rfl ?_
    refine At.loud (l_alloc t24) rfl ?_
    rintro _ _ _ ⟨b3, rfl, rfl, rfl⟩
    refine At.loudN (l_store t24 rfl rfl (i := 0) rfl rfl rfl rfl) ?_
    rintro _ _ _ ⟨rfl, rfl⟩
    refine At.skim 1 rfl rfl ?_
    refine At.nil ?_
    refine At.then ?_
    refine At.seq ?_
    refine At.region ?_
    refine At.quiet (q_loadS t24 rfl (RdS.blk (.tail _ (.tail _ (.tail _ (.head _)))) (m := 2) rfl) rfl) rfl ?_
    refine At.skim 1 rfl rfl ?_
    refine At.call en49 rfl (split49 _ (by assumption) _) (fun _ h => ⟨h.2.2.2.2.2.1, h.2.2.2.2.2.2.1, trivial⟩) (List.Perm.refl _) rfl ?_
    rintro _ _ _ ⟨u2, rfl, rfl, rfl, hpu2⟩
    refine At.skim 1 rfl rfl ?_
    refine At.quiet (q_extract rfl rfl) rfl ?_
    refine At.quiet (q_extract rfl rfl) rfl ?_
    refine At.loud (l_alloc t24) rfl ?_
    rintro _ _ _ ⟨b4, rfl, rfl, rfl⟩
    refine At.loudN (l_store t24 rfl rfl (i := 0) rfl rfl rfl rfl) ?_
    rintro _ _ _ ⟨rfl, rfl⟩
    refine At.skim 1 rfl rfl ?_
    refine At.nil ?_
    refine At.then ?_
    refine At.seq ?_
    refine At.region ?_
    refine At.quiet (q_loadS t24 rfl (RdS.blk (.tail _ (.tail _ (.tail _ (.tail _ (.tail _ (.head _)))))) (m := 2) rfl) rfl) rfl ?_
    refine At.skim 1 rfl rfl ?_
    refine At.call en48 rfl (join48 _ (by assumption) _) (fun _ h => ⟨h.2.2.2.2.2.2.2.1, h.2.2.2.2.2.2.2.2.1, trivial⟩) (List.Perm.refl _) rfl ?_
    rintro _ _ _ ⟨u3, rfl, rfl, rfl, hpu3⟩
    refine At.skim 1 rfl rfl ?_
    refine At.quiet (q_extract rfl rfl) rfl ?_
    refine At.quiet (q_extract rfl rfl) rfl ?_
    refine At.loud (l_alloc t24) rfl ?_
    rintro _ _ _ ⟨b5, rfl, rfl, rfl⟩
    refine At.loudN (l_store t24 rfl rfl (i := 0) rfl rfl rfl rfl) ?_
    rintro _ _ _ ⟨rfl, rfl⟩
    refine At.skim 1 rfl rfl ?_
    refine At.nil ?_
    refine At.then ?_
    refine At.seq ?_
    refine At.region ?_
    refine At.quiet (q_loadS t24 rfl (RdS.blk (.tail _ (.tail _ (.tail _ (.tail _ (.tail _ (.tail _ (.tail _ (.head _)))))))) (m := 2) rfl) rfl) rfl ?_
    refine At.skim 1 rfl rfl ?_
    refine At.call en50 rfl (join50 _ (by assumption) _) (fun _ h => ⟨h.2.2.2.2.2.2.2.2.2.1, h.2.2.2.2.2.2.2.2.2.2.1, trivial⟩) (List.Perm.refl _) rfl ?_
    rintro _ _ _ ⟨u4, rfl, rfl, rfl, hpu4⟩
    refine At.skim 1 rfl rfl ?_
    refine At.quiet (q_extract rfl rfl) rfl ?_
    refine At.quiet (q_extract rfl rfl) rfl ?_
    refine At.loud (l_alloc t24) rfl ?_
    rintro _ _ _ ⟨b6, rfl, rfl, rfl⟩
    refine At.loudN (l_store t24 rfl rfl (i := 0) rfl rfl rfl rfl) ?_
    rintro _ _ _ ⟨rfl, rfl⟩
    refine At.skim 1 rfl rfl ?_
    refine At.nil ?_
    refine At.then ?_
    refine At.seq ?_
    refine At.region ?_
    refine At.quiet (q_loadS t24 rfl (RdS.blk (.tail _ (.tail _ (.tail _ (.tail _ (.tail _ (.tail _ (.tail _ (.tail _ (.tail _ (.head _)))))))))) (m := 2) rfl) rfl) rfl ?_
    refine At.quiet (q_loadS t64 rfl (RdS.blk (.tail _ (.tail _ (.tail _ (.tail _ (.tail _ (.tail _ (.tail _ (.tail _ (.head _))))))))) (m := 5) rfl) rfl) rfl ?_
    refine At.skim 1 rfl rfl ?_
    refine At.call en51 rfl (bend51 _ (by assumption) p _) (fun _ h => ⟨h.2.2.2.2.2.2.2.2.2.2.2.1, h.2.2.2.2.2.2.2.2.2.2.2.2.1, trivial⟩) (List.Perm.refl _) rfl ?_
    rintro _ _ _ ⟨u5, rfl, rfl, rfl, hpu5⟩
    refine At.skim 1 rfl rfl ?_
    refine At.quiet (q_extract rfl rfl) rfl ?_
    refine At.quiet (q_extract rfl rfl) rfl ?_
    refine At.loud (l_alloc t24) rfl ?_
    rintro _ _ _ ⟨b7, rfl, rfl, rfl⟩
    refine At.loudN (l_store t24 rfl rfl (i := 0) rfl rfl rfl rfl) ?_
    rintro _ _ _ ⟨rfl, rfl⟩
    refine At.skim 1 rfl rfl ?_
    refine At.nil ?_
    refine At.then ?_
    refine At.seq ?_
    refine At.region ?_
    refine At.quiet (q_loadS t24 rfl (RdS.blk (.tail _ (.tail _ (.tail _ (.tail _ (.tail _ (.tail _ (.tail _ (.tail _ (.tail _ (.tail _ (.tail _ (.head _)))))))))))) (m := 2) rfl) rfl) rfl ?_
    refine At.quiet (q_loadS t64 rfl (RdS.blk (.tail _ (.tail _ (.tail _ (.tail _ (.tail _ (.tail _ (.tail _ (.tail _ (.tail _ (.tail _ (.head _))))))))))) (m := 5) rfl) rfl) rfl ?_
    refine At.skim 1 rfl rfl ?_
    refine At.call en52 rfl (bend52 _ (by assumption) p _) (fun _ h => ⟨h.2.2.2.2.2.2.2.2.2.2.2.2.2.1, h.2.2.2.2.2.2.2.2.2.2.2.2.2.2.1, trivial⟩) (List.Perm.refl _) rfl ?_
    rintro _ _ _ ⟨u6, rfl, rfl, rfl, hpu6⟩
    refine At.skim 1 rfl rfl ?_
    refine At.quiet (q_extract rfl rfl) rfl ?_
    refine At.quiet (q_extract rfl rfl) rfl ?_
    refine At.loud (l_alloc t24) rfl ?_
    rintro _ _ _ ⟨b8, rfl, rfl, rfl⟩
    refine At.loudN (l_store t24 rfl rfl (i := 0) rfl rfl rfl rfl) ?_
    rintro _ _ _ ⟨rfl, rfl⟩
    refine At.skim 1 rfl rfl ?_
    refine At.nil ?_
    refine At.then ?_
    refine At.seq ?_
    refine At.region ?_
    refine At.quiet (q_loadS t24 rfl (RdS.blk (.tail _ (.tail _ (.tail _ (.tail _ (.tail _ (.tail _ (.tail _ (.tail _ (.tail _ (.tail _ (.tail _ (.tail _ (.tail _ (.head _)))))))))))))) (m := 2) rfl) rfl) rfl ?_
    refine At.skim 1 rfl rfl ?_
    refine At.call en46 rfl (next46 _ _) (fun _ h => ⟨h.2.2.2.2.2.2.2.2.2.2.2.2.2.2.2.1, h.2.2.2.2.2.2.2.2.2.2.2.2.2.2.2.2.1, trivial⟩) (List.Perm.refl _) rfl ?_
    rintro _ _ _ ⟨rfl, rfl, rfl⟩
    refine At.skim 1 rfl rfl ?_
    refine At.quiet (q_extract rfl rfl) rfl ?_
    refine At.quiet (q_extract rfl rfl) rfl ?_
    refine At.skim 2 rfl rfl ?_
    refine At.nil ?_
    refine At.then ?_
    refine At.seq ?_
    refine At.region ?_
    refine At.quiet (q_loadS t24 rfl (RdS.blk (.tail _ (.tail _ (.tail _ (.tail _ (.tail _ (.tail _ (.tail _ (.tail _ (.tail _ (.tail _ (.tail _ (.tail _ (.tail _ (.head _)))))))))))))) (m := 2) rfl) rfl) rfl ?_
    refine At.skim 1 rfl rfl ?_
    refine At.call en53 rfl (near53 _ (by assumption) _) (fun _ h => ⟨h.2.2.2.2.2.2.2.2.2.2.2.2.2.2.2.1, h.2.2.2.2.2.2.2.2.2.2.2.2.2.2.2.2.1, trivial⟩) (List.Perm.refl _) rfl ?_
    rintro _ _ _ ⟨rfl, rfl, rfl⟩
    refine At.skim 1 rfl rfl ?_
    refine At.nil ?_
    refine At.then ?_
    refine At.seq ?_
    refine At.region ?_
    refine At.skim 2 rfl rfl ?_
    refine At.quiet (q_eqBool Try.underlying4 rfl rfl) rfl ?_
    refine At.skim 1 rfl rfl ?_
    refine At.say 76 (.bool true) rfl (congrArg Value.bool (by simp)) ?_
    refine At.open rfl rfl ?_
    refine At.quiet (q_loadS t24 rfl (RdS.loc (i := 5) rfl (m := 2) rfl) rfl) rfl ?_
    refine At.open rfl rfl ?_
    refine At.quiet (q_loadS t24 rfl (RdS.loc (i := 4) rfl (m := 2) rfl) rfl) rfl ?_
    refine At.open rfl rfl ?_
    refine At.call en36 rfl (same36 _ _) (fun _ h => ⟨h.2.2.2.2.2.2.2.2.2.2.1, h.2.2.2.2.2.2.2.2.2.2.2.1, h.2.2.2.2.2.2.2.2.1, h.2.2.2.2.2.2.2.2.2.1, trivial⟩) (List.Perm.refl _) rfl ?_
    rintro _ _ _ ⟨rfl, rfl, rfl⟩
    refine At.skim 2 rfl rfl ?_
    refine At.say 81 (.bool true) rfl (congrArg Value.bool (decide_eq_true (hpu1.trans hpu2.symm))) ?_
    refine At.skim 2 rfl rfl ?_
    refine At.open rfl rfl ?_
    refine At.quiet (q_eqBool Try.underlying4 rfl rfl) rfl ?_
    refine At.skim 2 rfl rfl ?_
    refine At.say 86 (.bool true) rfl (congrArg Value.bool (by simp)) ?_
    refine At.open rfl rfl ?_
    refine At.quiet (q_loadS t24 rfl (RdS.loc (i := 3) rfl (m := 2) rfl) rfl) rfl ?_
    refine At.open rfl rfl ?_
    refine At.quiet (q_loadS t24 rfl (RdS.loc (i := 2) rfl (m := 2) rfl) rfl) rfl ?_
    refine At.open rfl rfl ?_
    refine At.call en36 rfl (same36 _ _) (fun _ h => ⟨h.2.2.2.2.2.2.1, h.2.2.2.2.2.2.2.1, h.2.2.2.2.1, h.2.2.2.2.2.1, trivial⟩) (List.Perm.refl _) rfl ?_
    rintro _ _ _ ⟨rfl, rfl, rfl⟩
    refine At.skim 2 rfl rfl ?_
    refine At.say 91 (.bool true) rfl (congrArg Value.bool (decide_eq_true (hpu3.trans hpu4.symm))) ?_
    refine At.skim 5 rfl rfl ?_
    refine At.say 96 (.bool true) rfl (congrArg Value.bool (decide_eq_true rfl)) ?_
    refine At.open rfl rfl ?_
    refine At.quiet (q_loadS t24 rfl (RdS.loc (i := 1) rfl (m := 2) rfl) rfl) rfl ?_
    refine At.open rfl rfl ?_
    refine At.quiet (q_loadS t24 rfl (RdS.loc (i := 0) rfl (m := 2) rfl) rfl) rfl ?_
    refine At.open rfl rfl ?_
    refine At.call en36 rfl (same36 _ _) (fun _ h => ⟨h.2.2.1, h.2.2.2.1, h.1, h.2.1, trivial⟩) (List.Perm.refl _) rfl ?_
    rintro _ _ _ ⟨rfl, rfl, rfl⟩
    refine At.skim 2 rfl rfl ?_
    refine At.say 101 (.bool true) rfl (congrArg Value.bool (decide_eq_true (hpu5.trans hpu6.symm))) ?_
    refine At.skim 3 rfl rfl ?_
    refine At.open rfl rfl ?_
    refine At.quiet (q_eqBool Try.underlying4 rfl rfl) rfl ?_
    refine At.skim 2 rfl rfl ?_
    refine At.say 107 (.bool true) rfl (congrArg Value.bool (by rw [← nbI_some]; simp)) ?_
    refine At.skim 2 rfl rfl ?_
    refine At.split (d := 109) rfl (fun hk => ?_) (fun hk => ?_)
    · skip
      refine At.skim 5 rfl rfl ?_
      refine At.say 114 (.bool true) rfl (congrArg Value.bool (decide_eq_true (nbI_getD hk).symm)) ?_
      refine At.skim 9 rfl rfl ?_
      refine At.open rfl rfl ?_
      refine At.call en45 rfl (awake45) (fun _ _ => trivial) (List.Perm.refl _) rfl ?_
      rintro _ _ _ ⟨rfl, rfl, rfl⟩
      refine At.skim 2 rfl rfl ?_
      refine At.nil ?_
      refine At.then ?_
      refine At.ret ?_
      exact At.results (Γr := []) (M := []) rfl (RVals.cons (RVal.tmp rfl) RVals.nil) (.tail _ (.tail _ (.tail _ (.tail _ (.tail _ (.tail _ (.tail _ (.tail _ (.tail _ (.tail _ (.tail _ (.tail _ (.tail _ (.tail _ (.head _))))))))))))))) (fun _ _ => trivial) (.cons _ (.cons _ (.cons _ (.cons _ (.cons _ (.cons _ (.refl _))))))) ⟨rfl, rfl, rfl⟩
    · skip
      refine At.skim 8 rfl rfl ?_
      refine At.say 117 (.bool true) rfl (congrArg Value.bool (by rw [hk]; rfl)) ?_
      refine At.skim 6 rfl rfl ?_
      refine At.say 123 (.bool true) rfl (congrArg Value.bool (decide_eq_true (by rw [none_of hk]; rfl))) ?_
      refine At.open rfl rfl ?_
      refine At.call en45 rfl (awake45) (fun _ _ => trivial) (List.Perm.refl _) rfl ?_
      rintro _ _ _ ⟨rfl, rfl, rfl⟩
      refine At.skim 2 rfl rfl ?_
      refine At.nil ?_
      refine At.then ?_
      refine At.ret ?_
      exact At.results (Γr := []) (M := []) rfl (RVals.cons (RVal.tmp rfl) RVals.nil) (.tail _ (.tail _ (.tail _ (.tail _ (.tail _ (.tail _ (.tail _ (.tail _ (.tail _ (.tail _ (.tail _ (.tail _ (.tail _ (.tail _ (.head _))))))))))))))) (fun _ _ => trivial) (.cons _ (.cons _ (.cons _ (.cons _ (.cons _ (.cons _ (.refl _))))))) ⟨rfl, rfl, rfl⟩

end Go.Proofs.Ytmkodknmknfdkaa
