/- The walk of TreeForms. -/
import Derived.Test.YtmkodknmknfdkaaB10
set_option linter.unusedVariables false
set_option linter.unusedSimpArgs false
namespace Go.Proofs.Ytmkodknmknfdkaa
open E
set_option maxRecDepth 4000

theorem en39 : Enters Try.prog 39 := Enters.mk' Try.func39 rfl rfl
theorem en40 : Enters Try.prog 40 := Enters.mk' Try.func40 rfl rfl
theorem en42 : Enters Try.prog 42 := Enters.mk' Try.func42 rfl rfl
theorem en43 : Enters Try.prog 43 := Enters.mk' Try.func43 rfl rfl
theorem en44 : Enters Try.prog 44 := Enters.mk' Try.func44 rfl rfl

set_option maxHeartbeats 1000000 in
theorem forms8 (t u : Tr) (hz : ∀ n ∈ t.ns.l, n.ps.l.length ≤ 8796093022208) (hzu : ∀ n ∈ u.ns.l, n.ps.l.length ≤ 8796093022208) (key at_ : Int) (l : Sl Pr) (stat : Int) : Con Try.prog 8 [t.val, u.val, .int .i64 key, .int .i64 at_, l.val, .int .i64 stat] [ndsP t.ns, psP t.ns.l, ndsP u.ns, psP u.ns.l, prsP l] [] (fun v Γ M => v = .bool true ∧ Γ = [] ∧ M = []) := by
  refine Con.body 218 Try.func8 rfl Try.ntmps8 rfl fun X H₀ L₀ => ?_
  have hb1 := light01 (lightT t.p)
  have hb2 := light01 (lightT u.p)
  refine At.seq ?_
  refine At.region ?_
  refine At.loud (l_box rfl) rfl ?_
  rintro _ _ _ ⟨b1, rfl, rfl, rfl⟩
  refine At.freeze 0 (φ := blk b1 _) rfl (fun _ h => blk_def.2 ⟨_, _, h⟩) ?_
  refine At.loud (l_box rfl) rfl ?_
  rintro _ _ _ ⟨b2, rfl, rfl, rfl⟩
  refine At.freeze 0 (φ := blk b2 _) rfl (fun _ h => blk_def.2 ⟨_, _, h⟩) ?_
  refine At.skim 1 rfl rfl ?_
  refine At.nil ?_
  refine At.then ?_
  refine At.seq ?_
  refine At.seq ?_
  refine At.draw 3 (.q 0 (.q 2 (.o 1 (.e)))) _ (List.Sublist.refl _) mixed (by kernel_rfl) rfl ?_
  refine AtO.quiet rfl (q_loadS t24 rfl (RdS.blk (.tail _ (.head _)) (m := 2) rfl) rfl) rfl (Calm.then (Calm.then Post.calm)) ?_
  refine AtO.quiet rfl (q_loadS t24 rfl (RdS.blk (.head _) (m := 2) rfl) rfl) rfl (Calm.then (Calm.then Post.calm)) ?_
  refine AtO.callA rfl en20 rfl (light20 _ (by assumption)) (fun _ h => ⟨h.2.2.2.1, trivial⟩) (List.Perm.refl _) rfl (.refl _) ?_
  rintro _ _ _ ⟨rfl, rfl, rfl⟩
  refine AtO.done ?_
  refine At.call en20 rfl (light20 _ (by assumption)) (fun _ h => ⟨h.2.2.2.2.2.1, trivial⟩) (List.Perm.refl _) rfl ?_
  rintro _ _ _ ⟨rfl, rfl, rfl⟩
  refine At.quiet (q_add rfl rfl (by omega) (by omega)) rfl ?_
  refine At.skim 2 rfl rfl ?_
  refine At.splitP (d := 33) rfl (fun hlg => ?_) (fun hlg => ?_)
  · skip
    refine At.skim 4 rfl rfl ?_
    refine At.nil ?_
    refine At.then ?_
    refine At.condT rfl ?_
    refine At.seq ?_
    refine At.region ?_
    refine At.call en23 rfl (awake23) (fun _ _ => trivial) (List.Perm.refl _) rfl ?_
    rintro _ _ _ ⟨rfl, rfl, rfl⟩
    refine At.skim 1 rfl rfl ?_
    refine At.nil ?_
    refine At.then ?_
    refine At.ret ?_
    refine At.thenRet ?_
    exact At.results (Γr := []) (M := []) rfl (RVals.cons (RVal.tmp rfl) RVals.nil) (.tail _ (.tail _ (.head _))) (fun _ _ => trivial) (.refl _) ⟨rfl, rfl, rfl⟩
  · skip
    refine At.skim 1 rfl rfl ?_
    refine At.open rfl rfl ?_
    refine At.quiet (q_len Try.underlying31 rfl) rfl ?_
    refine At.skim 2 rfl rfl ?_
    refine At.nil ?_
    refine At.then ?_
    refine At.if rfl (fun hl200 => ?_) (fun hl200 => ?_)
    · skip
      refine At.seq ?_
      refine At.region ?_
      refine At.call en23 rfl (awake23) (fun _ _ => trivial) (List.Perm.refl _) rfl ?_
      rintro _ _ _ ⟨rfl, rfl, rfl⟩
      refine At.skim 1 rfl rfl ?_
      refine At.nil ?_
      refine At.then ?_
      refine At.ret ?_
      refine At.thenRet ?_
      exact At.results (Γr := []) (M := []) rfl (RVals.cons (RVal.tmp rfl) RVals.nil) (.tail _ (.tail _ (.head _))) (fun _ _ => trivial) (.refl _) ⟨rfl, rfl, rfl⟩
    · skip
      obtain ⟨hlt, hlu⟩ := light_both hlg
      obtain ⟨h450, hsm, hp2000⟩ := small_of_light hlt
      obtain ⟨h450u, hsmu, hp2000u⟩ := small_of_light hlu
      refine At.skip ?_
      refine At.then ?_
      refine At.seq ?_
      refine At.region ?_
      refine At.quiet (q_loadS t24 rfl (RdS.blk (.tail _ (.head _)) (m := 2) rfl) rfl) rfl ?_
      refine At.call en25 rfl (plain25 _ (by assumption)) (fun _ h => ⟨h.2.2.2.1, h.2.2.2.2.1, trivial⟩) (List.Perm.refl _) rfl ?_
      rintro _ _ _ ⟨a, Ma, rfl, rfl, rfl, ha, hpa⟩
      refine At.skim 1 rfl rfl ?_
      refine At.quiet (q_extract rfl rfl) rfl ?_
      refine At.quiet (q_extract rfl rfl) rfl ?_
      refine At.loud (l_alloc t24) rfl ?_
      rintro _ _ _ ⟨b3, rfl, rfl, rfl⟩
      refine At.loudN (l_store t24 rfl rfl (i := 0) rfl rfl rfl rfl) ?_
      rintro _ _ _ ⟨rfl, rfl⟩
      refine At.skim 1 rfl rfl ?_
      refine At.nil ?_
      refine At.then ?_
      refine At.seq ?_
      refine At.region ?_
      refine At.quiet (q_loadS t24 rfl (RdS.blk (.tail _ (.tail _ (.head _))) (m := 2) rfl) rfl) rfl ?_
      refine At.call en38 rfl (plain38 _ (by assumption)) (fun _ h => ⟨h.2.2.2.2.1, h.2.2.2.2.2.1, trivial⟩) (List.Perm.refl _) rfl ?_
      rintro _ _ _ ⟨b, Mb, rfl, rfl, rfl, hb, hpb⟩
      refine At.skim 1 rfl rfl ?_
      refine At.quiet (q_extract rfl rfl) rfl ?_
      refine At.quiet (q_extract rfl rfl) rfl ?_
      refine At.loud (l_alloc t24) rfl ?_
      rintro _ _ _ ⟨b4, rfl, rfl, rfl⟩
      refine At.loudN (l_store t24 rfl rfl (i := 0) rfl rfl rfl rfl) ?_
      rintro _ _ _ ⟨rfl, rfl⟩
      refine At.skim 1 rfl rfl ?_
      refine At.nil ?_
      refine At.then ?_
      refine At.seq ?_
      refine At.region ?_
      refine At.quiet (q_loadS t24 rfl (RdS.blk (.tail _ (.tail _ (.tail _ (.head _)))) (m := 2) rfl) rfl) rfl ?_
      refine At.skim 3 rfl rfl ?_
      refine At.call en34 rfl (set34 _ (by assumption) _ _ (by omega) _) (fun _ h => ⟨h.2.2.2.2.2.1, h.2.2.2.2.2.2.1, h.2.2.2.2.2.2.2.2.2.1, trivial⟩) (List.Perm.refl _) rfl ?_
      rintro _ _ _ ⟨c, Mc, rfl, rfl, rfl, hc, hpc⟩
      refine At.skim 1 rfl rfl ?_
      refine At.quiet (q_extract rfl rfl) rfl ?_
      refine At.quiet (q_extract rfl rfl) rfl ?_
      refine At.loud (l_alloc t24) rfl ?_
      rintro _ _ _ ⟨b5, rfl, rfl, rfl⟩
      refine At.loudN (l_store t24 rfl rfl (i := 0) rfl rfl rfl rfl) ?_
      rintro _ _ _ ⟨rfl, rfl⟩
      refine At.skim 1 rfl rfl ?_
      refine At.nil ?_
      refine At.then ?_
      refine At.seq ?_
      refine At.region ?_
      refine At.quiet (q_loadS t24 rfl (RdS.blk (.tail _ (.tail _ (.tail _ (.tail _ (.head _))))) (m := 2) rfl) rfl) rfl ?_
      refine At.skim 3 rfl rfl ?_
      refine At.call en39 rfl (set39 _ (by assumption) _ _ (by omega) _) (fun _ h => ⟨h.2.2.2.2.2.2.1, h.2.2.2.2.2.2.2.1, h.2.2.2.2.2.2.2.2.2.2.1, trivial⟩) (List.Perm.refl _) rfl ?_
      rintro _ _ _ ⟨d, rfl, rfl, rfl, hpd⟩
      refine At.skim 1 rfl rfl ?_
      refine At.quiet (q_extract rfl rfl) rfl ?_
      refine At.quiet (q_extract rfl rfl) rfl ?_
      refine At.loud (l_alloc t24) rfl ?_
      rintro _ _ _ ⟨b6, rfl, rfl, rfl⟩
      refine At.loudN (l_store t24 rfl rfl (i := 0) rfl rfl rfl rfl) ?_
      rintro _ _ _ ⟨rfl, rfl⟩
      refine At.skim 1 rfl rfl ?_
      refine At.nil ?_
      refine At.then ?_
      refine At.seq ?_
      refine At.seq ?_
      refine At.freezeOwn 6 ha rfl ?_
      refine At.freezeOwn 4 hb rfl ?_
      refine At.freezeOwn 2 hc rfl ?_
      refine At.draw 55 (.q 0 (.q 1 (.q 2 (.q 3 (.q 4 (.q 5 (.o 6 (.q 7 (.q 8 (.q 9 (.q 10 (.q 11 (.q 12 (.q 13 (.q 14 (.q 15 (.q 16 (.o 17 (.q 18 (.q 19 (.q 20 (.q 21 (.q 23 (.o 22 (.q 24 (.q 25 (.q 26 (.q 27 (.q 28 (.q 30 (.q 31 (.o 29 (.o 32 (.q 33 (.q 34 (.q 35 (.q 36 (.q 38 (.o 37 (.o 39 (.o 40 (.q 41 (.q 42 (.q 43 (.q 44 (.q 46 (.o 45 (.o 47 (.o 48 (.q 49 (.q 50 (.q 51 (.q 52 (.q 54 (.o 53 (.e)))))))))))))))))))))))))))))))))))))))))))))))))))))))) _ (List.Sublist.refl _) mixed (by kernel_rfl) rfl ?_
      refine AtO.quiet rfl (q_move rfl) rfl (Calm.then (Calm.then Post.calm)) ?_
      refine AtO.quiet rfl (q_move rfl) rfl (Calm.then (Calm.then Post.calm)) ?_
      refine AtO.quiet rfl (q_neqBool Try.underlying4 rfl rfl) rfl (Calm.then (Calm.then Post.calm)) ?_
      refine AtO.quiet rfl (q_move rfl) rfl (Calm.then (Calm.then Post.calm)) ?_
      refine AtO.say 68 (.bool false) rfl (congrArg Value.bool (by simp)) ?_
      refine AtO.quietG rfl rfl rfl (q_loadS t24 rfl (RdS.loc (i := 3) rfl (m := 2) rfl) rfl) rfl (Calm.then (Calm.then Post.calm)) ?_
      refine AtO.quietG rfl rfl rfl (q_loadS t24 rfl (RdS.loc (i := 2) rfl (m := 2) rfl) rfl) rfl (Calm.then (Calm.then Post.calm)) ?_
      refine AtO.callGA rfl rfl rfl en36 rfl (same36 _ _) (fun _ h => ⟨h.2.2.1, h.2.2.2.2.2.2.2.1, h.2.1, h.2.2.2.2.2.2.1, trivial⟩) (List.Perm.refl _) rfl (.refl _) ?_
      rintro _ _ _ ⟨rfl, rfl, rfl⟩
      refine AtO.quietG rfl rfl rfl (q_not rfl) rfl (Calm.then (Calm.then Post.calm)) ?_
      refine AtO.quiet rfl (q_pickF rfl rfl) rfl (Calm.then (Calm.then Post.calm)) ?_
      refine AtO.quiet rfl (q_move rfl) rfl (Calm.then (Calm.then Post.calm)) ?_
      refine AtO.say 74 (.bool false) rfl (congrArg Value.bool (by rw [hpa, hpb]; simp)) ?_
      refine AtO.quietG rfl rfl rfl (q_move rfl) rfl (Calm.then (Calm.then Post.calm)) ?_
      refine AtO.quietG rfl rfl rfl (q_move rfl) rfl (Calm.then (Calm.then Post.calm)) ?_
      refine AtO.quietG rfl rfl rfl (q_neqBool Try.underlying4 rfl rfl) rfl (Calm.then (Calm.then Post.calm)) ?_
      refine AtO.quiet rfl (q_pickF rfl rfl) rfl (Calm.then (Calm.then Post.calm)) ?_
      refine AtO.quiet rfl (q_move rfl) rfl (Calm.then (Calm.then Post.calm)) ?_
      refine AtO.say 79 (.bool false) rfl (congrArg Value.bool (by simp)) ?_
      refine AtO.quietG rfl rfl rfl (q_loadS t24 rfl (RdS.loc (i := 1) rfl (m := 2) rfl) rfl) rfl (Calm.then (Calm.then Post.calm)) ?_
      refine AtO.quietG rfl rfl rfl (q_loadS t24 rfl (RdS.loc (i := 0) rfl (m := 2) rfl) rfl) rfl (Calm.then (Calm.then Post.calm)) ?_
      refine AtO.callGA rfl rfl rfl en36 rfl (same36 _ _) (fun _ h => ⟨h.1, h.2.2.2.2.2.1, h.2.2.2.1, h.2.2.2.2.1, trivial⟩) (List.Perm.refl _) rfl (.refl _) ?_
      rintro _ _ _ ⟨rfl, rfl, rfl⟩
      refine AtO.quietG rfl rfl rfl (q_not rfl) rfl (Calm.then (Calm.then Post.calm)) ?_
      refine AtO.quiet rfl (q_pickF rfl rfl) rfl (Calm.then (Calm.then Post.calm)) ?_
      refine AtO.quiet rfl (q_move rfl) rfl (Calm.then (Calm.then Post.calm)) ?_
      refine AtO.say 85 (.bool false) rfl (congrArg Value.bool (by rw [hpc, hpd]; simp)) ?_
      refine AtO.quietG rfl rfl rfl (q_loadS t24 rfl (RdS.blk (.tail _ (.tail _ (.tail _ (.tail _ (.tail _ (.tail _ (.tail _ (.tail _ (.tail _ (.head _)))))))))) (m := 2) rfl) rfl) rfl (Calm.then (Calm.then Post.calm)) ?_
      refine AtO.quietG rfl rfl rfl (q_move rfl) rfl (Calm.then (Calm.then Post.calm)) ?_
      refine AtO.callGA rfl rfl rfl en21 rfl (may21 _) (fun _ h => ⟨h.2.2.2.2.2.2.2.2.2.2.2.1, h.2.2.2.2.2.2.2.2.2.2.2.2.1, trivial⟩) (List.Perm.refl _) rfl (.refl _) ?_
      rintro _ _ _ ⟨rfl, rfl, rfl⟩
      refine AtO.quietG rfl rfl rfl (q_neqBool Try.underlying4 rfl rfl) rfl (Calm.then (Calm.then Post.calm)) ?_
      refine AtO.quiet rfl (q_pickF rfl rfl) rfl (Calm.then (Calm.then Post.calm)) ?_
      refine AtO.quiet rfl (q_move rfl) rfl (Calm.then (Calm.then Post.calm)) ?_
      refine AtO.say 91 (.bool false) rfl (congrArg Value.bool (by simp)) ?_
      refine AtO.quietG rfl rfl rfl (q_loadS t24 rfl (RdS.blk (.tail _ (.tail _ (.tail _ (.tail _ (.tail _ (.tail _ (.tail _ (.tail _ (.tail _ (.head _)))))))))) (m := 2) rfl) rfl) rfl (Calm.then (Calm.then Post.calm)) ?_
      refine AtO.quietG rfl rfl rfl (q_loadS t24 rfl (RdS.blk (.tail _ (.tail _ (.tail _ (.tail _ (.tail _ (.tail _ (.tail _ (.tail _ (.head _))))))))) (m := 2) rfl) rfl) rfl (Calm.then (Calm.then Post.calm)) ?_
      refine AtO.quietG rfl rfl rfl (q_loadS t24 rfl (RdS.blk (.tail _ (.tail _ (.tail _ (.tail _ (.tail _ (.tail _ (.tail _ (.tail _ (.tail _ (.head _)))))))))) (m := 2) rfl) rfl) rfl (Calm.then (Calm.then Post.calm)) ?_
      refine AtO.quietG rfl rfl rfl (q_loadS t24 rfl (RdS.blk (.tail _ (.tail _ (.tail _ (.tail _ (.tail _ (.tail _ (.tail _ (.tail _ (.head _))))))))) (m := 2) rfl) rfl) rfl (Calm.then (Calm.then Post.calm)) ?_
      refine AtO.callGA rfl rfl rfl en37 rfl (same37 _ _ (by assumption) (by assumption)) (fun _ h => ⟨h.2.2.2.2.2.2.2.2.2.2.2.1, h.2.2.2.2.2.2.2.2.2.2.2.2.1, h.2.2.2.2.2.2.2.2.2.2.2.2.2.1, h.2.2.2.2.2.2.2.2.2.2.2.2.2.2.1, trivial⟩) (List.Perm.refl _) rfl (.refl _) ?_
      rintro _ _ _ ⟨rfl, rfl, rfl⟩
      refine AtO.callGA rfl rfl rfl en22 rfl (same22 _ _ (by assumption) (by assumption)) (fun _ h => ⟨h.2.2.2.2.2.2.2.2.2.2.2.1, h.2.2.2.2.2.2.2.2.2.2.2.2.1, h.2.2.2.2.2.2.2.2.2.2.2.2.2.1, h.2.2.2.2.2.2.2.2.2.2.2.2.2.2.1, trivial⟩) (List.Perm.refl _) rfl (.refl _) ?_
      rintro _ _ _ ⟨rfl, rfl, rfl⟩
      refine AtO.quietG rfl rfl rfl (q_neqBool Try.underlying4 rfl rfl) rfl (Calm.then (Calm.then Post.calm)) ?_
      refine AtO.quiet rfl (q_pickF rfl rfl) rfl (Calm.then (Calm.then Post.calm)) ?_
      refine AtO.quiet rfl (q_move rfl) rfl (Calm.then (Calm.then Post.calm)) ?_
      refine AtO.say 100 (.bool false) rfl (congrArg Value.bool (by simp)) ?_
      refine AtO.quietG rfl rfl rfl (q_loadS t24 rfl (RdS.blk (.tail _ (.tail _ (.tail _ (.tail _ (.tail _ (.tail _ (.tail _ (.tail _ (.tail _ (.head _)))))))))) (m := 2) rfl) rfl) rfl (Calm.then (Calm.then Post.calm)) ?_
      refine AtO.quietG rfl rfl rfl (q_loadS t24 rfl (RdS.blk (.tail _ (.tail _ (.tail _ (.tail _ (.tail _ (.tail _ (.tail _ (.tail _ (.tail _ (.head _)))))))))) (m := 2) rfl) rfl) rfl (Calm.then (Calm.then Post.calm)) ?_
      refine AtO.callGA rfl rfl rfl en28 rfl (leaves28f _) (fun _ h => ⟨h.2.2.2.2.2.2.2.2.2.2.2.1, h.2.2.2.2.2.2.2.2.2.2.2.2.1, trivial⟩) (List.Perm.refl _) rfl (.refl _) ?_
      rintro _ _ _ ⟨l1, rfl, rfl, rfl, hpl1⟩
      refine AtO.callGA rfl rfl rfl en41 rfl (leaves41f _ (by assumption)) (fun _ h => ⟨h.2.2.2.2.2.2.2.2.2.2.2.2.1, h.2.2.2.2.2.2.2.2.2.2.2.2.2.1, trivial⟩) (List.Perm.refl _) rfl (.refl _) ?_
      rintro _ _ _ ⟨l2, rfl, rfl, rfl, hpl2⟩
      refine AtO.callGA rfl rfl rfl en40 rfl (same40 _ _) (fun _ h => ⟨h.2.1, h.1, trivial⟩) (List.Perm.refl _) rfl (.refl _) ?_
      rintro _ _ _ ⟨rfl, rfl, rfl⟩
      refine AtO.quietG rfl rfl rfl (q_not rfl) rfl (Calm.then (Calm.then Post.calm)) ?_
      refine AtO.quiet rfl (q_pickF rfl rfl) rfl (Calm.then (Calm.then Post.calm)) ?_
      refine AtO.quiet rfl (q_move rfl) rfl (Calm.then (Calm.then Post.calm)) ?_
      refine AtO.say 108 (.bool false) rfl (congrArg Value.bool (by rw [hpl1, hpl2]; simp)) ?_
      refine AtO.quietG rfl rfl rfl (q_loadS t24 rfl (RdS.blk (.tail _ (.tail _ (.tail _ (.tail _ (.tail _ (.tail _ (.tail _ (.tail _ (.tail _ (.tail _ (.tail _ (.head _)))))))))))) (m := 2) rfl) rfl) rfl (Calm.then (Calm.then Post.calm)) ?_
      refine AtO.quietG rfl rfl rfl (q_loadS t24 rfl (RdS.blk (.tail _ (.tail _ (.tail _ (.tail _ (.tail _ (.tail _ (.tail _ (.tail _ (.tail _ (.tail _ (.tail _ (.head _)))))))))))) (m := 2) rfl) rfl) rfl (Calm.then (Calm.then Post.calm)) ?_
      refine AtO.callGA rfl rfl rfl en29 rfl (all29f _ (by assumption)) (fun _ h => ⟨h.2.2.2.2.2.2.2.2.2.2.2.2.2.1, h.2.2.2.2.2.2.2.2.2.2.2.2.2.2.1, trivial⟩) (List.Perm.refl _) rfl (.refl _) ?_
      rintro _ _ _ ⟨l3, rfl, rfl, rfl, hpl3⟩
      refine AtO.callGA rfl rfl rfl en42 rfl (all42f _ (by assumption)) (fun _ h => ⟨h.2.2.2.2.2.2.2.2.2.2.2.2.2.2.1, h.2.2.2.2.2.2.2.2.2.2.2.2.2.2.2.1, trivial⟩) (List.Perm.refl _) rfl (.refl _) ?_
      rintro _ _ _ ⟨l4, rfl, rfl, rfl, hpl4⟩
      refine AtO.callGA rfl rfl rfl en33 rfl (same33 _ _) (fun _ h => ⟨h.2.1, h.1, trivial⟩) (List.Perm.refl _) rfl (.refl _) ?_
      rintro _ _ _ ⟨rfl, rfl, rfl⟩
      refine AtO.quietG rfl rfl rfl (q_not rfl) rfl (Calm.then (Calm.then Post.calm)) ?_
      refine AtO.quiet rfl (q_pickF rfl rfl) rfl (Calm.then (Calm.then Post.calm)) ?_
      refine AtO.quiet rfl (q_move rfl) rfl (Calm.then (Calm.then Post.calm)) ?_
      refine AtO.say 116 (.bool false) rfl (congrArg Value.bool (by rw [hpl3, hpl4]; simp)) ?_
      refine AtO.quietG rfl rfl rfl (q_move rfl) rfl (Calm.then (Calm.then Post.calm)) ?_
      refine AtO.quietG rfl rfl rfl (q_move rfl) rfl (Calm.then (Calm.then Post.calm)) ?_
      refine AtO.callGA rfl rfl rfl en31 rfl (one31 _ (by omega)) (fun _ h => ⟨h.2.2.2.2.2.2.2.2.2.2.2.2.2.2.2.2.2.2.2.1, trivial⟩) (List.Perm.refl _) rfl (.refl _) ?_
      rintro _ _ _ ⟨o1, rfl, rfl, rfl, hpo1⟩
      refine AtO.done ?_
      refine At.open rfl rfl ?_
      refine At.call en43 rfl (one43 _ (by omega)) (fun _ h => ⟨h.2.2.2.2.2.2.2.2.2.2.2.2.2.2.2.2.2.2.2.2.2.1, trivial⟩) (List.Perm.refl _) rfl ?_
      rintro _ _ _ ⟨o2, rfl, rfl, rfl, hpo2⟩
      refine At.open rfl rfl ?_
      refine At.call en36 rfl (same36 _ _) (fun _ h => ⟨h.2.2.1, h.2.2.2.1, h.1, h.2.1, trivial⟩) (List.Perm.refl _) rfl ?_
      rintro _ _ _ ⟨rfl, rfl, rfl⟩
      refine At.skim 2 rfl rfl ?_
      refine At.nil ?_
      refine At.then ?_
      refine At.say 123 (.bool false) rfl (congrArg Value.bool (by rw [hpo1, hpo2]; simp)) ?_
      refine At.condF rfl ?_
      refine At.skip ?_
      refine At.then ?_
      refine At.seq ?_
      refine At.region ?_
      refine At.quiet (q_loadS t24 rfl (RdS.blk (.tail _ (.tail _ (.tail _ (.tail _ (.tail _ (.tail _ (.tail _ (.tail _ (.tail _ (.tail _ (.tail _ (.tail _ (.tail _ (.tail _ (.tail _ (.tail _ (.tail _ (.head _)))))))))))))))))) (m := 2) rfl) rfl) rfl ?_
      refine At.skim 1 rfl rfl ?_
      refine At.call en26 rfl (find26 _ _) (fun _ h => ⟨h.2.2.2.2.2.2.2.2.2.2.2.2.2.2.2.2.2.2.2.1, h.2.2.2.2.2.2.2.2.2.2.2.2.2.2.2.2.2.2.2.2.1, trivial⟩) (List.Perm.refl _) rfl ?_
      rintro _ _ _ ⟨us1, rs1, rfl, rfl, rfl, hus1, hrs1⟩
      refine At.skim 1 rfl rfl ?_
      refine At.quiet (q_extract rfl rfl) rfl ?_
      refine At.quiet (q_extract rfl rfl) rfl ?_
      refine At.loud (l_alloc t40) rfl ?_
      rintro _ _ _ ⟨b7, rfl, rfl, rfl⟩
      refine At.loudN (l_store t40 rfl rfl (i := 0) rfl rfl rfl rfl) ?_
      rintro _ _ _ ⟨rfl, rfl⟩
      refine At.skim 1 rfl rfl ?_
      refine At.nil ?_
      refine At.then ?_
      refine At.seq ?_
      refine At.seq ?_
      refine At.region ?_
      refine At.skim 2 rfl rfl ?_
      refine At.quiet (q_neqBool Try.underlying4 rfl rfl) rfl ?_
      refine At.nil ?_
      refine At.then ?_
      refine At.say 132 (.bool false) rfl (congrArg Value.bool (by simp)) ?_
      refine At.condF rfl ?_
      refine At.skip ?_
      refine At.then ?_
      refine At.seq ?_
      refine At.seq ?_
      refine At.region ?_
      refine At.skim 2 rfl rfl ?_
      refine At.nil ?_
      refine At.then ?_
      refine At.cond rfl (fun hm => ?_) (fun hm => ?_)
      · skip
        refine At.seq ?_
        refine At.region ?_
        have hf0 : findD t.p key = ⟨0, [], []⟩ := by rw [findD, findT, none_of (not_t hm)]; rfl
        have hul0 : us1.l.length = 0 := by rw [hus1, hf0]; rfl
        have hrl0 : rs1.l.length = 0 := by rw [hrs1, hf0]; rfl
        refine At.fld s40 t3 rfl rfl rfl (Rd.loc (i := 0) rfl rfl) rfl rfl ?_
        refine At.skim 2 rfl rfl ?_
        refine At.say 138 (.bool true) rfl (congrArg Value.bool (decide_eq_true (by rw [hf0]; rfl))) ?_
        refine At.open rfl rfl ?_
        refine At.quiet (q_fieldAddr s40 rfl rfl rfl) rfl ?_
        refine At.open rfl rfl ?_
        refine At.quiet (q_load t37 rfl (Rd.loc (i := 0) rfl rfl)) rfl ?_
        refine At.open rfl rfl ?_
        refine At.quiet (q_len Try.underlying37 rfl) rfl ?_
        refine At.open rfl rfl ?_
        refine At.quiet (q_fieldAddr s40 rfl rfl rfl) rfl ?_
        refine At.open rfl rfl ?_
        refine At.quiet (q_load t38 rfl (Rd.loc (i := 0) rfl rfl)) rfl ?_
        refine At.open rfl rfl ?_
        refine At.quiet (q_len Try.underlying38 rfl) rfl ?_
        refine At.open rfl rfl ?_
        refine At.quiet (q_add rfl rfl (by dsimp only; omega) (by dsimp only; omega)) rfl ?_
        refine At.skim 3 rfl rfl ?_
        refine At.say 148 (.bool true) rfl (congrArg Value.bool (decide_eq_true (by dsimp only; omega))) ?_
        refine At.open rfl rfl ?_
        refine At.call en23 rfl (awake23) (fun _ _ => trivial) (List.Perm.refl _) rfl ?_
        rintro _ _ _ ⟨rfl, rfl, rfl⟩
        refine At.skim 2 rfl rfl ?_
        refine At.nil ?_
        refine At.then ?_
        refine At.ret ?_
        refine At.thenRet ?_
        exact At.results (Γr := []) (M := []) rfl (RVals.cons (RVal.tmp rfl) RVals.nil) (.tail _ (.tail _ (.tail _ (.tail _ (.tail _ (.tail _ (.tail _ (.tail _ (.tail _ (.tail _ (.tail _ (.tail _ (.tail _ (.tail _ (.tail _ (.tail _ (.tail _ (.tail _ (.tail _ (.tail _ (.head _))))))))))))))))))))) (fun _ _ => trivial) (.cons _ (.cons _ (.cons _ (.cons _ (.cons _ (.refl _)))))) ⟨rfl, rfl, rfl⟩
      · skip
        refine At.skip ?_
        refine At.then ?_
        refine At.seq ?_
        refine At.region ?_
        obtain ⟨s, hs⟩ := Option.isSome_iff_exists.1 (not_f hm)
        refine At.quiet (q_loadS t24 rfl (RdS.blk (.tail _ (.tail _ (.tail _ (.tail _ (.tail _ (.tail _ (.tail _ (.tail _ (.tail _ (.tail _ (.tail _ (.tail _ (.tail _ (.tail _ (.tail _ (.tail _ (.tail _ (.tail _ (.tail _ (.head _)))))))))))))))))))) (m := 2) rfl) rfl) rfl ?_
        refine At.skim 1 rfl rfl ?_
        refine At.call en44 rfl (path44 t key s hs) (fun _ h => ⟨h.2.2.2.2.2.2.2.2.2.2.2.2.2.2.2.2.2.2.2.2.2.1, h.2.2.2.2.2.2.2.2.2.2.2.2.2.2.2.2.2.2.2.2.2.2.1, trivial⟩) (List.Perm.refl _) rfl ?_
        rintro _ _ _ ⟨gu, gr, rfl, rfl, rfl, hgu, hgr⟩
        refine At.skim 1 rfl rfl ?_
        refine At.quiet (q_extract rfl rfl) rfl ?_
        refine At.quiet (q_extract rfl rfl) rfl ?_
        refine At.quiet (q_extract rfl rfl) rfl ?_
        refine At.skim 3 rfl rfl ?_
        refine At.nil ?_
        refine At.then ?_
        refine At.seq ?_
        refine At.seq ?_
        refine At.region ?_
        have hug : us1.l = gu.l := by rw [hus1, hgu]
        have hrg : rs1.l = gr.l := by rw [hrs1, hgr]
        refine At.fld s40 t3 rfl rfl rfl (Rd.loc (i := 0) rfl rfl) rfl rfl ?_
        refine At.skim 3 rfl rfl ?_
        refine At.say 162 (.bool false) rfl (congrArg Value.bool (decide_eq_false (by simp))) ?_
        refine At.open rfl rfl ?_
        refine At.quiet (q_fieldAddr s40 rfl rfl rfl) rfl ?_
        refine At.open rfl rfl ?_
        refine At.quiet (q_load t37 rfl (Rd.loc (i := 0) rfl rfl)) rfl ?_
        refine At.skim 1 rfl rfl ?_
        refine At.open rfl rfl ?_
        refine At.call en40 rfl (same40 _ _) (fun _ h => ⟨h.2.2.1, h.1, trivial⟩) (List.Perm.refl _) rfl ?_
        rintro _ _ _ ⟨rfl, rfl, rfl⟩
        refine At.skim 3 rfl rfl ?_
        refine At.say 169 (.bool false) rfl (congrArg Value.bool (by rw [hug]; simp)) ?_
        refine At.open rfl rfl ?_
        refine At.quiet (q_fieldAddr s40 rfl rfl rfl) rfl ?_
        refine At.open rfl rfl ?_
        refine At.quiet (q_load t38 rfl (Rd.loc (i := 0) rfl rfl)) rfl ?_
        refine At.open rfl rfl ?_
        refine At.quiet (q_len Try.underlying38 rfl) rfl ?_
        refine At.skim 1 rfl rfl ?_
        refine At.open rfl rfl ?_
        refine At.quiet (q_len Try.underlying38 rfl) rfl ?_
        refine At.skim 3 rfl rfl ?_
        refine At.say 177 (.bool false) rfl (congrArg Value.bool (decide_eq_false (by rw [hrg]; simp))) ?_
        refine At.open rfl rfl ?_
        refine At.quiet (q_loadS t40 rfl (RdS.loc (i := 0) rfl (m := 3) rfl) rfl) rfl ?_
        refine At.open rfl rfl ?_
        refine At.call en27 rfl (top27 _) (fun _ _ => trivial) (List.Perm.refl _) rfl ?_
        rintro _ _ _ ⟨rfl, rfl, rfl⟩
        refine At.skim 1 rfl rfl ?_
        refine At.open rfl rfl ?_
        refine At.quiet (q_len Try.underlying37 rfl) rfl ?_
        refine At.skim 1 rfl rfl ?_
        refine At.open rfl rfl ?_
        refine At.quiet (q_neqBool Try.underlying4 rfl rfl) rfl ?_
        refine At.skim 2 rfl rfl ?_
        refine At.say 185 (.bool false) rfl (congrArg Value.bool (by rw [hug, decide_len_zero]; simp)) ?_
        refine At.lenOf (hs := (.tail _ (.head _))) fun hlgr => ?_
        rw [List.length_map] at hlgr
        refine At.open rfl rfl ?_
        refine At.quiet (q_loadS t40 rfl (RdS.loc (i := 0) rfl (m := 3) rfl) rfl) rfl ?_
        refine At.open rfl rfl ?_
        refine At.call en32 rfl (right32 _) (fun _ h => ⟨h.2.2.2.1, trivial⟩) (List.Perm.refl _) rfl ?_
        rintro _ _ _ ⟨rfl, rfl, rfl⟩
        refine At.skim 1 rfl rfl ?_
        refine At.open rfl rfl ?_
        refine At.quiet (q_len Try.underlying38 rfl) rfl ?_
        refine At.skim 2 rfl rfl ?_
        refine At.splitP (d := 191) rfl (fun hg0 => ?_) (fun hg0 => ?_)
        · skip
          obtain ⟨j, hj⟩ : ∃ j : Nat, gr.l.length = j + 1 := ⟨gr.l.length - 1, by omega⟩
          obtain ⟨x, hx⟩ := get_of_lt (l := gr.l) (i := j) (by omega)
          refine At.skim 2 rfl rfl ?_
          refine At.open rfl rfl ?_
          refine At.quiet (q_len Try.underlying38 rfl) rfl ?_
          refine At.open rfl rfl ?_
          refine At.quiet (q_sub rfl rfl (by omega) (by omega)) rfl ?_
          refine At.open rfl rfl ?_
          refine At.quiet (q_index Try.underlying38 t4 rfl (.tail _ (.head _)) (by simp) rfl (by omega) (lt_of_get hx)) rfl ?_
          refine At.open rfl rfl ?_
          refine At.quiet (q_load t4 rfl (Rd.sl0 (.tail _ (.head _)) (map_get hx) rfl)) rfl ?_
          refine At.skim 1 rfl rfl ?_
          refine At.open rfl rfl ?_
          refine At.quiet (q_neqBool Try.underlying4 rfl rfl) rfl ?_
          refine At.skim 1 rfl rfl ?_
          refine At.nil ?_
          refine At.then ?_
          refine At.say 200 (.bool false) rfl (congrArg Value.bool (by rw [hrg, ← last_get hj hx]; simp)) ?_
          refine At.condF rfl ?_
          refine At.lenOf (hs := (.tail _ (.head _))) fun hlgr => ?_
          rw [List.length_map] at hlgr
          refine At.skip ?_
          refine At.then ?_
          refine At.seq ?_
          refine At.seq ?_
          refine At.region ?_
          refine At.skim 1 rfl rfl ?_
          refine At.quiet (q_len Try.underlying38 rfl) rfl ?_
          refine At.skim 1 rfl rfl ?_
          refine At.nil ?_
          refine At.then ?_
          refine At.block ?_
          refine At.loopK (ι := Nat) [12, 26, 203, 204, 205, 206, 207, 208, 209, 210, 211, 212, 213, 214, 215, 216] (fun k => [(203, .int .i64 (k : Int))]) (fun k => []) (fun k => []) _ (fun k => k ≤ gr.l.length) (fun k => gr.l.length - k) 0 (Nat.zero_le _) ⟨rfl, trivial⟩ (fun _ _ => trivial) (.refl _) ?_
          intro k hk0
          refine At.seq ?_
          refine At.region ?_
          refine At.skim 1 rfl rfl ?_
          refine At.nil ?_
          refine At.then ?_
          refine At.seq ?_
          refine At.if rfl (fun hk => ?_) (fun hk => ?_)
          · skip
            obtain ⟨x, hx⟩ := get_of_lt (l := gr.l) (i := k) (by omega)
            have hk1 := lt_of_get hx
            have hx2 : rs1.l[k]? = some x := by rw [hrg]; exact hx
            refine At.skip ?_
            refine At.then ?_
            refine At.seq ?_
            refine At.block ?_
            refine At.seq ?_
            refine At.region ?_
            refine At.skim 2 rfl rfl ?_
            refine At.nil ?_
            refine At.then ?_
            refine At.seq ?_
            refine At.draw 9 (.q 0 (.q 1 (.q 2 (.q 3 (.q 4 (.q 5 (.q 6 (.q 7 (.q 8 (.e)))))))))) _ (List.Sublist.refl _) mixed (by kernel_rfl) rfl ?_
            refine AtO.quiet rfl (q_move rfl) rfl (Calm.then (Calm.inBlock (Calm.then (Calm.then (Calm.inBlock (Calm.then Post.calm)))))) ?_
            refine AtO.quiet rfl (q_move rfl) rfl (Calm.then (Calm.inBlock (Calm.then (Calm.then (Calm.inBlock (Calm.then Post.calm)))))) ?_
            refine AtO.quiet rfl (q_index Try.underlying38 t4 rfl (.tail _ (.head _)) (by simp) rfl rfl (lt_of_get hx)) rfl (Calm.then (Calm.inBlock (Calm.then (Calm.then (Calm.inBlock (Calm.then Post.calm)))))) ?_
            refine AtO.quiet rfl (q_load t4 rfl (Rd.sl0 (.tail _ (.head _)) (map_get hx) rfl)) rfl (Calm.then (Calm.inBlock (Calm.then (Calm.then (Calm.inBlock (Calm.then Post.calm)))))) ?_
            refine AtO.quiet rfl (q_fieldAddr s40 rfl rfl rfl) rfl (Calm.then (Calm.inBlock (Calm.then (Calm.then (Calm.inBlock (Calm.then Post.calm)))))) ?_
            refine AtO.quiet rfl (q_load t38 rfl (Rd.loc (i := 0) rfl rfl)) rfl (Calm.then (Calm.inBlock (Calm.then (Calm.then (Calm.inBlock (Calm.then Post.calm)))))) ?_
            refine AtO.quiet rfl (q_move rfl) rfl (Calm.then (Calm.inBlock (Calm.then (Calm.then (Calm.inBlock (Calm.then Post.calm)))))) ?_
            refine AtO.quiet rfl (q_index Try.underlying38 t4 rfl (.tail _ (.tail _ (.tail _ (.head _)))) (by simp) rfl rfl (lt_of_get hx2)) rfl (Calm.then (Calm.inBlock (Calm.then (Calm.then (Calm.inBlock (Calm.then Post.calm)))))) ?_
            refine AtO.quiet rfl (q_load t4 rfl (Rd.sl0 (.tail _ (.tail _ (.tail _ (.head _)))) (map_get hx2) rfl)) rfl (Calm.then (Calm.inBlock (Calm.then (Calm.then (Calm.inBlock (Calm.then Post.calm)))))) ?_
            refine AtO.done ?_
            refine At.quiet (q_neqBool Try.underlying4 rfl rfl) rfl ?_
            refine At.nil ?_
            refine At.then ?_
            refine At.say 215 (.bool false) rfl (congrArg Value.bool (by simp)) ?_
            refine At.condF rfl ?_
            refine At.skip ?_
            refine At.inNormal ?_
            refine At.then ?_
            refine At.region ?_
            refine At.quiet (q_add rfl rfl (by omega) (by omega)) rfl ?_
            refine At.skim 1 rfl rfl ?_
            refine At.nil ?_
            refine At.then ?_
            exact At.againK (k + 1) hk1 (by (try dsimp only); omega) (Tells.end 17 ⟨rfl, trivial⟩ rfl rfl) (fun _ h => h) (.refl _)
          · skip
            refine At.exit ?_
            refine At.thenExit ?_
            refine At.thenExit ?_
            refine At.inHere rfl ?_
            refine At.then ?_
            refine At.seq ?_
            refine At.region ?_
            refine At.call en23 rfl (awake23) (fun _ _ => trivial) (List.Perm.refl _) rfl ?_
            rintro _ _ _ ⟨rfl, rfl, rfl⟩
            refine At.skim 1 rfl rfl ?_
            refine At.nil ?_
            refine At.then ?_
            refine At.ret ?_
            exact At.results (Γr := []) (M := []) rfl (RVals.cons (RVal.tmp rfl) RVals.nil) (.tail _ (.tail _ (.tail _ (.tail _ (.tail _ (.tail _ (.tail _ (.tail _ (.tail _ (.tail _ (.tail _ (.tail _ (.tail _ (.tail _ (.tail _ (.tail _ (.tail _ (.tail _ (.tail _ (.tail _ (.tail _ (.tail _ (.head _))))))))))))))))))))))) (fun _ _ => trivial) (.cons _ (.cons _ (.cons _ (.cons _ (.cons _ (.refl _)))))) ⟨rfl, rfl, rfl⟩
        · skip
          refine At.skim 7 rfl rfl ?_
          refine At.open rfl rfl ?_
          refine At.quiet (q_neqBool Try.underlying4 rfl rfl) rfl ?_
          refine At.skim 1 rfl rfl ?_
          refine At.nil ?_
          refine At.then ?_
          refine At.say 200 (.bool false) rfl (congrArg Value.bool (by rw [hrg, show gr.l = [] from List.eq_nil_of_length_eq_zero (by omega)]; rfl)) ?_
          refine At.condF rfl ?_
          refine At.lenOf (hs := (.tail _ (.head _))) fun hlgr => ?_
          rw [List.length_map] at hlgr
          refine At.skip ?_
          refine At.then ?_
          refine At.seq ?_
          refine At.seq ?_
          refine At.region ?_
          refine At.skim 1 rfl rfl ?_
          refine At.quiet (q_len Try.underlying38 rfl) rfl ?_
          refine At.skim 1 rfl rfl ?_
          refine At.nil ?_
          refine At.then ?_
          refine At.block ?_
          refine At.loopK (ι := Nat) [12, 26, 203, 204, 205, 206, 207, 208, 209, 210, 211, 212, 213, 214, 215, 216] (fun k => [(203, .int .i64 (k : Int))]) (fun k => []) (fun k => []) _ (fun k => k ≤ gr.l.length) (fun k => gr.l.length - k) 0 (Nat.zero_le _) ⟨rfl, trivial⟩ (fun _ _ => trivial) (.refl _) ?_
          intro k hk0
          refine At.seq ?_
          refine At.region ?_
          refine At.skim 1 rfl rfl ?_
          refine At.nil ?_
          refine At.then ?_
          refine At.seq ?_
          refine At.if rfl (fun hk => ?_) (fun hk => ?_)
          · skip
            obtain ⟨x, hx⟩ := get_of_lt (l := gr.l) (i := k) (by omega)
            have hk1 := lt_of_get hx
            have hx2 : rs1.l[k]? = some x := by rw [hrg]; exact hx
            refine At.skip ?_
            refine At.then ?_
            refine At.seq ?_
            refine At.block ?_
            refine At.seq ?_
            refine At.region ?_
            refine At.skim 2 rfl rfl ?_
            refine At.nil ?_
            refine At.then ?_
            refine At.seq ?_
            refine At.draw 9 (.q 0 (.q 1 (.q 2 (.q 3 (.q 4 (.q 5 (.q 6 (.q 7 (.q 8 (.e)))))))))) _ (List.Sublist.refl _) mixed (by kernel_rfl) rfl ?_
            refine AtO.quiet rfl (q_move rfl) rfl (Calm.then (Calm.inBlock (Calm.then (Calm.then (Calm.inBlock (Calm.then Post.calm)))))) ?_
            refine AtO.quiet rfl (q_move rfl) rfl (Calm.then (Calm.inBlock (Calm.then (Calm.then (Calm.inBlock (Calm.then Post.calm)))))) ?_
            refine AtO.quiet rfl (q_index Try.underlying38 t4 rfl (.tail _ (.head _)) (by simp) rfl rfl (lt_of_get hx)) rfl (Calm.then (Calm.inBlock (Calm.then (Calm.then (Calm.inBlock (Calm.then Post.calm)))))) ?_
            refine AtO.quiet rfl (q_load t4 rfl (Rd.sl0 (.tail _ (.head _)) (map_get hx) rfl)) rfl (Calm.then (Calm.inBlock (Calm.then (Calm.then (Calm.inBlock (Calm.then Post.calm)))))) ?_
            refine AtO.quiet rfl (q_fieldAddr s40 rfl rfl rfl) rfl (Calm.then (Calm.inBlock (Calm.then (Calm.then (Calm.inBlock (Calm.then Post.calm)))))) ?_
            refine AtO.quiet rfl (q_load t38 rfl (Rd.loc (i := 0) rfl rfl)) rfl (Calm.then (Calm.inBlock (Calm.then (Calm.then (Calm.inBlock (Calm.then Post.calm)))))) ?_
            refine AtO.quiet rfl (q_move rfl) rfl (Calm.then (Calm.inBlock (Calm.then (Calm.then (Calm.inBlock (Calm.then Post.calm)))))) ?_
            refine AtO.quiet rfl (q_index Try.underlying38 t4 rfl (.tail _ (.tail _ (.tail _ (.head _)))) (by simp) rfl rfl (lt_of_get hx2)) rfl (Calm.then (Calm.inBlock (Calm.then (Calm.then (Calm.inBlock (Calm.then Post.calm)))))) ?_
            refine AtO.quiet rfl (q_load t4 rfl (Rd.sl0 (.tail _ (.tail _ (.tail _ (.head _)))) (map_get hx2) rfl)) rfl (Calm.then (Calm.inBlock (Calm.then (Calm.then (Calm.inBlock (Calm.then Post.calm)))))) ?_
            refine AtO.done ?_
            refine At.quiet (q_neqBool Try.underlying4 rfl rfl) rfl ?_
            refine At.nil ?_
            refine At.then ?_
            refine At.say 215 (.bool false) rfl (congrArg Value.bool (by simp)) ?_
            refine At.condF rfl ?_
            refine At.skip ?_
            refine At.inNormal ?_
            refine At.then ?_
            refine At.region ?_
            refine At.quiet (q_add rfl rfl (by omega) (by omega)) rfl ?_
            refine At.skim 1 rfl rfl ?_
            refine At.nil ?_
            refine At.then ?_
            exact At.againK (k + 1) hk1 (by (try dsimp only); omega) (Tells.end 17 ⟨rfl, trivial⟩ rfl rfl) (fun _ h => h) (.refl _)
          · skip
            refine At.exit ?_
            refine At.thenExit ?_
            refine At.thenExit ?_
            refine At.inHere rfl ?_
            refine At.then ?_
            refine At.seq ?_
            refine At.region ?_
            refine At.call en23 rfl (awake23) (fun _ _ => trivial) (List.Perm.refl _) rfl ?_
            rintro _ _ _ ⟨rfl, rfl, rfl⟩
            refine At.skim 1 rfl rfl ?_
            refine At.nil ?_
            refine At.then ?_
            refine At.ret ?_
            exact At.results (Γr := []) (M := []) rfl (RVals.cons (RVal.tmp rfl) RVals.nil) (.tail _ (.tail _ (.tail _ (.tail _ (.tail _ (.tail _ (.tail _ (.tail _ (.tail _ (.tail _ (.tail _ (.tail _ (.tail _ (.tail _ (.tail _ (.tail _ (.tail _ (.tail _ (.tail _ (.tail _ (.tail _ (.tail _ (.head _))))))))))))))))))))))) (fun _ _ => trivial) (.cons _ (.cons _ (.cons _ (.cons _ (.cons _ (.refl _)))))) ⟨rfl, rfl, rfl⟩

end Go.Proofs.Ytmkodknmknfdkaa
