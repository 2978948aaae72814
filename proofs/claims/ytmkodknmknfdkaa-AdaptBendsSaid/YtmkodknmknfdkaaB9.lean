/- The walks of the laws of trees. -/
import Derived.Test.YtmkodknmknfdkaaB8
import Derived.Test.YtmkodknmknfdkaaP10
set_option linter.unusedVariables false
set_option linter.unusedSimpArgs false
namespace Go.Proofs.Ytmkodknmknfdkaa
open E
set_option maxRecDepth 4000

theorem en20 : Enters Try.prog 20 := Enters.mk' Try.func20 rfl rfl
theorem en22 : Enters Try.prog 22 := Enters.mk' Try.func22 rfl rfl
theorem en23 : Enters Try.prog 23 := Enters.mk' Try.func23 rfl rfl
theorem en29 : Enters Try.prog 29 := Enters.mk' Try.func29 rfl rfl
theorem en31 : Enters Try.prog 31 := Enters.mk' Try.func31 rfl rfl

theorem spoilt3 (t : Tr) (hz : ∀ n ∈ t.ns.l, n.ps.l.length ≤ 8796093022208) (at_ to : Int) : Con Try.prog 3 [t.val, .int .i64 at_, .int .i64 to] [ndsP t.ns, psP t.ns.l] [] (fun v Γ M => v = .bool true ∧ Γ = [] ∧ M = []) := by
  refine Con.body 91 Try.func3 rfl Try.ntmps3 rfl fun X H₀ L₀ => ?_
  refine At.seq ?_
  refine At.region ?_
  refine At.loud (l_box rfl) rfl ?_
  rintro _ _ _ ⟨b1, rfl, rfl, rfl⟩
  refine At.freeze 0 (φ := blk b1 _) rfl (fun _ h => blk_def.2 ⟨_, _, h⟩) ?_
  refine At.skim 1 rfl rfl ?_
  refine At.nil ?_
  refine At.then ?_
  refine At.seq ?_
  refine At.seq ?_
  refine At.region ?_
  refine At.quiet (q_loadS t24 rfl (RdS.blk (.head _) (m := 2) rfl) rfl) rfl ?_
  refine At.call en20 rfl (light20 _ (by assumption)) (fun _ h => ⟨h.2.2.1, trivial⟩) (List.Perm.refl _) rfl ?_
  rintro _ _ _ ⟨rfl, rfl, rfl⟩
  refine At.skim 2 rfl rfl ?_
  refine At.splitP (d := 14) rfl (fun hlg => ?_) (fun hlg => ?_)
  · skip
    refine At.skim 10 rfl rfl ?_
    refine At.nil ?_
    refine At.then ?_
    refine At.condT rfl ?_
    refine At.seq ?_
    refine At.region ?_
    refine At.call en23 rfl (awake23) (fun _ _ => trivial) (List.Perm.refl _) rfl ?_
    rintro _ _ _ ⟨rfl, rfl, rfl⟩
    refine At.skim 1 rfl rfl ?_
    refine At.nil ?_
    refine At.then ?_
    refine At.ret ?_
    refine At.thenRet ?_
    exact At.results (Γr := []) (M := []) rfl (RVals.cons (RVal.tmp rfl) RVals.nil) (.tail _ (.head _)) (fun _ _ => trivial) (.refl _) ⟨rfl, rfl, rfl⟩
  · skip
    have hli : lightT t.p = true := light_yes hlg
    obtain ⟨h450, hsm, hp2000⟩ := small_of_light hli
    have hN : t.p.ns.length = t.ns.l.length := by simp [Tr.p]
    refine At.open rfl rfl ?_
    refine At.quiet (q_loadS t24 rfl (RdS.blk (.head _) (m := 2) rfl) rfl) rfl ?_
    refine At.open rfl rfl ?_
    refine At.call en21 rfl (may21 _) (fun _ h => ⟨h.2.2.1, h.2.2.2.1, trivial⟩) (List.Perm.refl _) rfl ?_
    rintro _ _ _ ⟨rfl, rfl, rfl⟩
    refine At.skim 3 rfl rfl ?_
    refine At.split (d := 19) rfl (fun hmy => ?_) (fun hmy => ?_)
    · skip
      refine At.skim 5 rfl rfl ?_
      refine At.nil ?_
      refine At.then ?_
      refine At.condT rfl ?_
      refine At.seq ?_
      refine At.region ?_
      refine At.call en23 rfl (awake23) (fun _ _ => trivial) (List.Perm.refl _) rfl ?_
      rintro _ _ _ ⟨rfl, rfl, rfl⟩
      refine At.skim 1 rfl rfl ?_
      refine At.nil ?_
      refine At.then ?_
      refine At.ret ?_
      refine At.thenRet ?_
      exact At.results (Γr := []) (M := []) rfl (RVals.cons (RVal.tmp rfl) RVals.nil) (.tail _ (.head _)) (fun _ _ => trivial) (.refl _) ⟨rfl, rfl, rfl⟩
    · skip
      refine At.open rfl rfl ?_
      refine At.quiet (q_loadS t24 rfl (RdS.blk (.head _) (m := 2) rfl) rfl) rfl ?_
      refine At.open rfl rfl ?_
      refine At.quiet (q_loadS t24 rfl (RdS.blk (.head _) (m := 2) rfl) rfl) rfl ?_
      refine At.open rfl rfl ?_
      refine At.call en22 rfl (same22 _ _ (by assumption) (by assumption)) (fun _ h => ⟨h.2.2.1, h.2.2.2.1, h.2.2.1, h.2.2.2.1, trivial⟩) (List.Perm.refl _) rfl ?_
      rintro _ _ _ ⟨rfl, rfl, rfl⟩
      refine At.skim 2 rfl rfl ?_
      refine At.nil ?_
      refine At.then ?_
      refine At.cond rfl (fun hst => ?_) (fun hst => ?_)
      · skip
        refine At.seq ?_
        refine At.region ?_
        refine At.call en23 rfl (awake23) (fun _ _ => trivial) (List.Perm.refl _) rfl ?_
        rintro _ _ _ ⟨rfl, rfl, rfl⟩
        refine At.skim 1 rfl rfl ?_
        refine At.nil ?_
        refine At.then ?_
        refine At.ret ?_
        refine At.thenRet ?_
        exact At.results (Γr := []) (M := []) rfl (RVals.cons (RVal.tmp rfl) RVals.nil) (.tail _ (.head _)) (fun _ _ => trivial) (.refl _) ⟨rfl, rfl, rfl⟩
      · skip
        obtain ⟨s, hs⟩ := Option.isSome_iff_exists.1 (not_f hmy)
        have hpos := may_pos hs
        refine At.skip ?_
        refine At.then ?_
        refine At.seq ?_
        refine At.region ?_
        obtain ⟨i, hi, hie, hne⟩ := pick (a := at_) hpos (by omega)
        obtain ⟨x, hx⟩ := get_of_lt hi
        have hxp : t.p.ns[i]? = some x.p := map_get hx
        refine At.skim 1 rfl rfl ?_
        refine At.quiet (q_convInt Try.underlying3 Try.underlying29 rfl) rfl ?_
        refine At.fld s24 t22 rfl rfl rfl (Rd.blk (.head _) rfl) rfl rfl ?_
        refine At.quiet (q_len Try.underlying22 rfl) rfl ?_
        refine At.quiet (q_convInt Try.underlying3 Try.underlying29 rfl) rfl ?_
        refine At.quiet (q_rem rfl rfl (by omega)) rfl ?_
        refine At.quiet (q_convInt Try.underlying29 Try.underlying3 rfl) rfl ?_
        refine At.say 33 (.int .i64 (i : Int)) rfl (congrArg (Value.int .i64) hie) ?_
        refine At.skim 1 rfl rfl ?_
        refine At.nil ?_
        refine At.then ?_
        refine At.seq ?_
        refine At.region ?_
        refine At.quiet (q_loadS t24 rfl (RdS.blk (.head _) (m := 2) rfl) rfl) rfl ?_
        refine At.call en24 rfl (copy24 _ (by assumption) (by omega)) (fun _ h => ⟨h.2.2.1, h.2.2.2.1, trivial⟩) (List.Perm.refl _) rfl ?_
        rintro _ _ _ ⟨u, Mu, rfl, rfl, rfl, hu, hpu⟩
        refine At.loud (l_alloc t24) rfl ?_
        rintro _ _ _ ⟨b2, rfl, rfl, rfl⟩
        refine At.loudN (l_store t24 rfl rfl (i := 0) rfl rfl rfl rfl) ?_
        rintro _ _ _ ⟨rfl, rfl⟩
        refine At.nil ?_
        refine At.then ?_
        refine At.seq ?_
        refine At.region ?_
        have hul := p_len hpu
        refine At.know (prsP ⟨none, 0, []⟩) (fun _ h => sl_nil _ _ _ (Nat.zero_le _)) ?_
        refine At.fld s24 t22 rfl rfl rfl (Rd.loc (i := 0) rfl rfl) rfl rfl ?_
        refine At.quiet (q_build t33 s33 rfl rfl) rfl ?_
        refine At.loud (l_buildSlice Try.underlying22 t33 rfl rfl rfl rfl rfl) rfl ?_
        rintro _ _ _ ⟨b3, rfl, rfl, rfl⟩
        refine At.loud (l_append rfl Try.underlying22 t33 rfl rfl hu (by simp) (i := 2) rfl rfl (news := [rowN zeroN]) (by simp [rowN, zeroN, Nd.val, Sl.val]) (RdS.loc (i := 0) rfl (m := 6) rfl) rfl rfl rfl (by omega) (by unfold maxLen; omega)) rfl ?_
        rintro _ _ _ ⟨a2, c2, M2, rfl, ow2, rfl, rfl⟩
        refine At.quiet (q_fieldAddr s24 rfl rfl rfl) rfl ?_
        refine At.loudN (l_store t22 rfl rfl (i := 1) rfl rfl rfl rfl) ?_
        rintro _ _ _ ⟨rfl, rfl⟩
        refine At.nil ?_
        refine At.then ?_
        refine At.seq ?_
        refine At.seq ?_
        refine At.region ?_
        have hO2 : Own 33 6 ((u.ns.l ++ [zeroN]).map rowN) a2 c2 M2 := by simpa using ow2
        have hp2 := p_app (a := a2) (c := c2) (m := zeroN) hpu
        refine At.know (psP (u.ns.l ++ [zeroN])) (fun _ h => psP_snoc (n := zeroN) h.2.1 h.1) ?_
        refine At.freezeOwn 2 hO2 rfl ?_
        refine At.quiet (q_loadS t24 rfl (RdS.loc (i := 1) rfl (m := 2) rfl) rfl) rfl ?_
        refine At.say 42 (Tr.val ⟨u.root, ⟨a2, c2, u.ns.l ++ [zeroN]⟩⟩) rfl (by rw [app_val]; rfl) ?_
        refine At.call en21 rfl (may21 _) (fun _ h => ⟨h.1, h.2.1, trivial⟩) (List.Perm.refl _) rfl ?_
        rintro _ _ _ ⟨rfl, rfl, rfl⟩
        refine At.nil ?_
        refine At.then ?_
        refine At.say 43 (.bool false) rfl (congrArg Value.bool (by rw [hp2]; exact spoilt_more hs rfl)) ?_
        refine At.condF rfl ?_
        refine At.know (prsP x.ps) (fun _ h => psP_get h.2.2.2.2.2.2.2.1 hx) ?_
        refine At.skip ?_
        refine At.then ?_
        refine At.seq ?_
        refine At.seq ?_
        refine At.region ?_
        refine At.fld s24 t22 rfl rfl rfl (Rd.blk (.tail _ (.tail _ (.tail _ (.tail _ (.tail _ (.head _)))))) rfl) rfl rfl ?_
        refine At.skim 1 rfl rfl ?_
        refine At.quiet (q_index Try.underlying22 t33 rfl (.tail _ (.tail _ (.tail _ (.tail _ (.tail _ (.tail _ (.tail _ (.head _)))))))) (by simp) rfl rfl (lt_of_get hx)) rfl ?_
        refine At.fld s33 t4 rfl rfl rfl (Rd.sl (.tail _ (.tail _ (.tail _ (.tail _ (.tail _ (.tail _ (.tail _ (.head _)))))))) (map_get hx) rfl) rfl rfl ?_
        refine At.skim 2 rfl rfl ?_
        refine At.split (d := 51) rfl (fun hr => ?_) (fun hr => ?_)
        · skip
          refine At.skim 9 rfl rfl ?_
          refine At.nil ?_
          refine At.then ?_
          refine At.condT rfl ?_
          refine At.seq ?_
          refine At.region ?_
          refine At.call en23 rfl (awake23) (fun _ _ => trivial) (List.Perm.refl _) rfl ?_
          rintro _ _ _ ⟨rfl, rfl, rfl⟩
          refine At.skim 1 rfl rfl ?_
          refine At.nil ?_
          refine At.then ?_
          refine At.ret ?_
          refine At.thenRet ?_
          exact At.results (Γr := []) (M := []) rfl (RVals.cons (RVal.tmp rfl) RVals.nil) (.tail _ (.tail _ (.tail _ (.tail _ (.tail _ (.tail _ (.head _))))))) (fun _ _ => trivial) (.cons _ (.cons _ (.refl _))) ⟨rfl, rfl, rfl⟩
        · skip
          refine At.skim 1 rfl rfl ?_
          refine At.open rfl rfl ?_
          refine At.quiet (q_fieldAddr s24 rfl rfl rfl) rfl ?_
          refine At.open rfl rfl ?_
          refine At.quiet (q_load t22 rfl (Rd.blk (.tail _ (.tail _ (.tail _ (.tail _ (.tail _ (.head _)))))) rfl)) rfl ?_
          refine At.skim 1 rfl rfl ?_
          refine At.open rfl rfl ?_
          refine At.quiet (q_index Try.underlying22 t33 rfl (.tail _ (.tail _ (.tail _ (.tail _ (.tail _ (.tail _ (.tail _ (.head _)))))))) (by simp) rfl rfl (lt_of_get hx)) rfl ?_
          refine At.open rfl rfl ?_
          refine At.quiet (q_fieldAddr s33 rfl rfl rfl) rfl ?_
          refine At.open rfl rfl ?_
          refine At.quiet (q_load t3 rfl (Rd.sl (.tail _ (.tail _ (.tail _ (.tail _ (.tail _ (.tail _ (.tail _ (.head _)))))))) (map_get hx) rfl)) rfl ?_
          refine At.skim 2 rfl rfl ?_
          refine At.nil ?_
          refine At.then ?_
          refine At.if rfl (fun hto => ?_) (fun hto => ?_)
          · skip
            refine At.seq ?_
            refine At.region ?_
            refine At.call en23 rfl (awake23) (fun _ _ => trivial) (List.Perm.refl _) rfl ?_
            rintro _ _ _ ⟨rfl, rfl, rfl⟩
            refine At.skim 1 rfl rfl ?_
            refine At.nil ?_
            refine At.then ?_
            refine At.ret ?_
            refine At.thenRet ?_
            exact At.results (Γr := []) (M := []) rfl (RVals.cons (RVal.tmp rfl) RVals.nil) (.tail _ (.tail _ (.tail _ (.tail _ (.tail _ (.tail _ (.head _))))))) (fun _ _ => trivial) (.cons _ (.cons _ (.refl _))) ⟨rfl, rfl, rfl⟩
          · skip
            refine At.skip ?_
            refine At.then ?_
            refine At.seq ?_
            refine At.region ?_
            refine At.quiet (q_loadS t24 rfl (RdS.blk (.tail _ (.tail _ (.tail _ (.tail _ (.tail _ (.head _)))))) (m := 2) rfl) rfl) rfl ?_
            refine At.call en24 rfl (copy24 _ (by assumption) (by omega)) (fun _ h => ⟨h.2.2.2.2.2.2.2.1, h.2.2.2.2.2.2.2.2.1, trivial⟩) (List.Perm.refl _) rfl ?_
            rintro _ _ _ ⟨v, Mv, rfl, rfl, rfl, hv, hpv⟩
            refine At.loud (l_alloc t24) rfl ?_
            rintro _ _ _ ⟨b4, rfl, rfl, rfl⟩
            refine At.loudN (l_store t24 rfl rfl (i := 0) rfl rfl rfl rfl) ?_
            rintro _ _ _ ⟨rfl, rfl⟩
            refine At.nil ?_
            refine At.then ?_
            refine At.seq ?_
            refine At.region ?_
            obtain ⟨y, hy, hyp⟩ := p_get hpv hxp
            refine At.fld s24 t22 rfl rfl rfl (Rd.loc (i := 0) rfl rfl) rfl rfl ?_
            refine At.skim 2 rfl rfl ?_
            refine At.quiet (q_indexOwn Try.underlying22 t33 rfl hv (by simp) rfl rfl (lt_of_get hy)) rfl ?_
            refine At.quiet (q_fieldAddr s33 rfl rfl rfl) rfl ?_
            refine At.loudN (l_storeOwn t3 rfl rfl hv (i := 1) rfl (map_get hy) rfl rfl rfl) ?_
            rintro _ _ _ ⟨Mow1, ow1, rfl, rfl⟩
            refine At.nil ?_
            refine At.then ?_
            refine At.seq ?_
            refine At.region ?_
            have hO3 : Own 33 6 ((v.ns.l.set i { y with left := to }).map rowN) v.ns.a v.ns.c Mow1 := by rw [row_set]; exact ow1
            refine At.know (prsP y.ps) (fun _ h => psP_get h.1 hy) ?_
            refine At.know (psP (v.ns.l.set i { y with left := to })) (fun _ h => psP_set (n := { y with left := to }) h.2.1 h.1) ?_
            have hsn : smallP (v.ns.l.set i { y with left := to }) := small_set (small_of_p hpv hsm) (small_of_p hpv hsm y (List.mem_of_getElem? hy))
            have hp3 := p_set (a := v.ns.a) (c := v.ns.c) (i := i) (m := { y with left := to }) hpv
            have hsp : (mayT (⟨v.root, ⟨v.ns.a, v.ns.c, v.ns.l.set i { y with left := to }⟩⟩ : Tr).p).isSome = false := by
              rw [hp3]
              have h := spoilt_left (to := to) hs hxp (not_f hr) hto
              rw [← hyp] at h
              exact h
            refine At.freezeOwn 1 hO3 rfl ?_
            refine At.quiet (q_loadS t24 rfl (RdS.loc (i := 0) rfl (m := 2) rfl) rfl) rfl ?_
            refine At.say 71 (Tr.val ⟨v.root, ⟨v.ns.a, v.ns.c, v.ns.l.set i { y with left := to }⟩⟩) rfl (by rw [set_val]; rfl) ?_
            refine At.call en25 rfl (plain25 ⟨v.root, ⟨v.ns.a, v.ns.c, v.ns.l.set i { y with left := to }⟩⟩ (by assumption)) (fun _ h => ⟨h.1, h.2.1, trivial⟩) (List.Perm.refl _) rfl ?_
            rintro _ _ _ ⟨w, Mw, rfl, rfl, rfl, hw, hpw⟩
            refine At.skim 1 rfl rfl ?_
            refine At.quiet (q_extract rfl rfl) rfl ?_
            refine At.quiet (q_extract rfl rfl) rfl ?_
            refine At.loud (l_alloc t24) rfl ?_
            rintro _ _ _ ⟨b5, rfl, rfl, rfl⟩
            refine At.loudN (l_store t24 rfl rfl (i := 0) rfl rfl rfl rfl) ?_
            rintro _ _ _ ⟨rfl, rfl⟩
            refine At.skim 1 rfl rfl ?_
            refine At.nil ?_
            refine At.then ?_
            refine At.seq ?_
            refine At.region ?_
            refine At.quiet (q_loadS t24 rfl (RdS.loc (i := 2) rfl (m := 2) rfl) rfl) rfl ?_
            refine At.say 75 (Tr.val ⟨v.root, ⟨v.ns.a, v.ns.c, v.ns.l.set i { y with left := to }⟩⟩) rfl (by rw [set_val]; rfl) ?_
            refine At.call en21 rfl (may21 _) (fun _ h => ⟨h.2.1, h.2.2.1, trivial⟩) (List.Perm.refl _) rfl ?_
            rintro _ _ _ ⟨rfl, rfl, rfl⟩
            refine At.skim 2 rfl rfl ?_
            refine At.say 78 (.bool true) rfl (congrArg Value.bool (by rw [hsp]; rfl)) ?_
            refine At.skim 4 rfl rfl ?_
            refine At.say 82 (.bool true) rfl (congrArg Value.bool (by rw [hsp]; rfl)) ?_
            refine At.open rfl rfl ?_
            refine At.quiet (q_fieldAddr s24 rfl rfl rfl) rfl ?_
            refine At.open rfl rfl ?_
            refine At.quiet (q_load t22 rfl (Rd.loc (i := 0) rfl rfl)) rfl ?_
            refine At.open rfl rfl ?_
            refine At.quiet (q_len Try.underlying22 rfl) rfl ?_
            refine At.skim 3 rfl rfl ?_
            refine At.say 88 (.bool true) rfl (congrArg Value.bool (decide_eq_true (by rw [plain_none_len hsp hpw]; rfl))) ?_
            refine At.open rfl rfl ?_
            refine At.call en23 rfl (awake23) (fun _ _ => trivial) (List.Perm.refl _) rfl ?_
            rintro _ _ _ ⟨rfl, rfl, rfl⟩
            refine At.skim 2 rfl rfl ?_
            refine At.nil ?_
            refine At.then ?_
            refine At.ret ?_
            exact At.results (Γr := []) (M := []) rfl (RVals.cons (RVal.tmp rfl) RVals.nil) (.tail _ (.tail _ (.tail _ (.tail _ (.tail _ (.tail _ (.tail _ (.tail _ (.tail _ (.tail _ (.tail _ (.head _)))))))))))) (fun _ _ => trivial) (.cons _ (.cons _ (.cons _ (.cons _ (.cons _ (.refl _)))))) ⟨rfl, rfl, rfl⟩

theorem one5 (l : Sl Pr) (key : Int) : Con Try.prog 5 [l.val, .int .i64 key] [prsP l] [] (fun v Γ M => v = .bool true ∧ Γ = [] ∧ M = []) := by
  refine Con.body 59 Try.func5 rfl Try.ntmps5 rfl fun X H₀ L₀ => ?_
  refine At.seq ?_
  refine At.region ?_
  refine At.skim 1 rfl rfl ?_
  refine At.nil ?_
  refine At.then ?_
  refine At.seq ?_
  refine At.seq ?_
  refine At.region ?_
  refine At.skim 1 rfl rfl ?_
  refine At.quiet (q_len Try.underlying31 rfl) rfl ?_
  refine At.skim 1 rfl rfl ?_
  refine At.nil ?_
  refine At.then ?_
  refine At.if rfl (fun hn => ?_) (fun hn => ?_)
  · skip
    refine At.seq ?_
    refine At.region ?_
    refine At.call en23 rfl (awake23) (fun _ _ => trivial) (List.Perm.refl _) rfl ?_
    rintro _ _ _ ⟨rfl, rfl, rfl⟩
    refine At.skim 1 rfl rfl ?_
    refine At.nil ?_
    refine At.then ?_
    refine At.ret ?_
    refine At.thenRet ?_
    exact At.results (Γr := []) (M := []) rfl (RVals.cons (RVal.tmp rfl) RVals.nil) (.head _) (fun _ _ => trivial) (.refl _) ⟨rfl, rfl, rfl⟩
  · skip
    refine At.skip ?_
    refine At.then ?_
    refine At.seq ?_
    refine At.region ?_
    refine At.skim 1 rfl rfl ?_
    refine At.call en31 rfl (one31 _ (by omega)) (fun _ h => ⟨h.2.1, trivial⟩) (List.Perm.refl _) rfl ?_
    rintro _ _ _ ⟨u, rfl, rfl, rfl, hup⟩
    refine At.loud (l_alloc t24) rfl ?_
    rintro _ _ _ ⟨b1, rfl, rfl, rfl⟩
    refine At.loudN (l_store t24 rfl rfl (i := 0) rfl rfl rfl rfl) ?_
    rintro _ _ _ ⟨rfl, rfl⟩
    refine At.nil ?_
    refine At.then ?_
    refine At.seq ?_
    refine At.region ?_
    have hsm : smallP u.ns.l := small_one hup (by omega)
    refine At.quiet (q_loadS t24 rfl (RdS.loc (i := 0) rfl (m := 2) rfl) rfl) rfl ?_
    refine At.skim 1 rfl rfl ?_
    refine At.call en26 rfl (find26 _ _) (fun _ h => ⟨h.1, h.2.1, trivial⟩) (List.Perm.refl _) rfl ?_
    rintro _ _ _ ⟨us1, rs1, rfl, rfl, rfl, hus1, hrs1⟩
    refine At.skim 1 rfl rfl ?_
    refine At.quiet (q_extract rfl rfl) rfl ?_
    refine At.quiet (q_extract rfl rfl) rfl ?_
    refine At.loud (l_alloc t40) rfl ?_
    rintro _ _ _ ⟨b2, rfl, rfl, rfl⟩
    refine At.loudN (l_store t40 rfl rfl (i := 0) rfl rfl rfl rfl) ?_
    rintro _ _ _ ⟨rfl, rfl⟩
    refine At.skim 1 rfl rfl ?_
    refine At.nil ?_
    refine At.then ?_
    refine At.seq ?_
    refine At.region ?_
    refine At.skim 2 rfl rfl ?_
    refine At.nil ?_
    refine At.then ?_
    refine At.seq ?_
    refine At.seq ?_
    refine At.region ?_
    refine At.skim 1 rfl rfl ?_
    refine At.call en30 rfl (may30 _) (fun _ h => ⟨h.2.2.2.2.2.1, trivial⟩) (List.Perm.refl _) rfl ?_
    rintro _ _ _ ⟨rfl, rfl, rfl⟩
    refine At.skim 1 rfl rfl ?_
    refine At.nil ?_
    refine At.then ?_
    refine At.cond rfl (fun hr => ?_) (fun hr => ?_)
    · skip
      refine At.know (prsP ⟨none, 0, []⟩) (fun _ h => sl_nil _ _ _ (Nat.zero_le _)) ?_
      refine At.region ?_
      refine At.skim 1 rfl rfl ?_
      refine At.nil ?_
      refine At.then ?_
      refine At.seq ?_
      refine At.region ?_
      refine At.quiet (q_loadS t24 rfl (RdS.loc (i := 1) rfl (m := 2) rfl) rfl) rfl ?_
      refine At.call en21 rfl (may21 _) (fun _ h => ⟨h.2.2.2.1, h.2.2.2.2.1, trivial⟩) (List.Perm.refl _) rfl ?_
      rintro _ _ _ ⟨rfl, rfl, rfl⟩
      refine At.skim 1 rfl rfl ?_
      refine At.say 27 (.bool true) rfl (congrArg Value.bool (by rw [hup, one_may]; rfl)) ?_
      refine At.skim 3 rfl rfl ?_
      refine At.say 30 (.bool true) rfl (congrArg Value.bool (by rw [hup, one_may]; rfl)) ?_
      refine At.open rfl rfl ?_
      refine At.quiet (q_fieldAddr s40 rfl rfl rfl) rfl ?_
      refine At.open rfl rfl ?_
      refine At.quiet (q_load t3 rfl (Rd.loc (i := 0) rfl rfl)) rfl ?_
      refine At.skim 3 rfl rfl ?_
      refine At.say 35 (.bool true) rfl (congrArg Value.bool (decide_eq_true (by rw [hup, one_find]; rfl))) ?_
      refine At.open rfl rfl ?_
      refine At.quiet (q_loadS t40 rfl (RdS.loc (i := 0) rfl (m := 3) rfl) rfl) rfl ?_
      refine At.open rfl rfl ?_
      refine At.call en27 rfl (top27 _) (fun _ _ => trivial) (List.Perm.refl _) rfl ?_
      rintro _ _ _ ⟨rfl, rfl, rfl⟩
      refine At.skim 2 rfl rfl ?_
      refine At.say 39 (.bool true) rfl (congrArg Value.bool (decide_eq_true (by rw [hus1, hup, one_find]; rfl))) ?_
      refine At.open rfl rfl ?_
      refine At.quiet (q_loadS t40 rfl (RdS.loc (i := 0) rfl (m := 3) rfl) rfl) rfl ?_
      refine At.open rfl rfl ?_
      refine At.call en32 rfl (right32 _) (fun _ h => ⟨h.2.2.1, trivial⟩) (List.Perm.refl _) rfl ?_
      rintro _ _ _ ⟨rfl, rfl, rfl⟩
      refine At.skim 3 rfl rfl ?_
      refine At.say 44 (.bool true) rfl (congrArg Value.bool (by show (!(rs1.l.getLast?.getD false)) = true; rw [hrs1, hup, one_find]; rfl)) ?_
      refine At.open rfl rfl ?_
      refine At.quiet (q_loadS t24 rfl (RdS.loc (i := 1) rfl (m := 2) rfl) rfl) rfl ?_
      refine At.open rfl rfl ?_
      refine At.call en29 rfl (all29 _ (by assumption)) (fun _ h => ⟨h.2.2.2.1, h.2.2.2.2.1, trivial⟩) (List.Perm.refl _) rfl ?_
      rintro _ _ _ ⟨al, Mal, rfl, rfl, rfl, hal, hpal⟩
      refine At.skim 1 rfl rfl ?_
      refine At.freezeOwn 0 hal rfl ?_
      refine At.open rfl rfl ?_
      refine At.call en33 rfl (same33 _ ⟨none, 0, []⟩) (fun _ h => ⟨h.1, h.2.1, trivial⟩) (List.Perm.refl _) rfl ?_
      rintro _ _ _ ⟨rfl, rfl, rfl⟩
      refine At.skim 2 rfl rfl ?_
      refine At.say 50 (.bool true) rfl (congrArg Value.bool (decide_eq_true (by rw [hpal, hup, one_all, not_t hr]; rfl))) ?_
      refine At.open rfl rfl ?_
      refine At.quiet (q_loadS t24 rfl (RdS.loc (i := 1) rfl (m := 2) rfl) rfl) rfl ?_
      refine At.open rfl rfl ?_
      refine At.call en28 rfl (leaves28 _) (fun _ h => ⟨h.2.2.2.2.1, h.2.2.2.2.2.1, trivial⟩) (List.Perm.refl _) rfl ?_
      rintro _ _ _ ⟨lv, Mlv, rfl, rfl, rfl, hlv, hplv⟩
      refine At.open rfl rfl ?_
      refine At.quiet (q_len Try.underlying37 rfl) rfl ?_
      refine At.skim 3 rfl rfl ?_
      refine At.say 56 (.bool true) rfl (congrArg Value.bool (decide_eq_true (by rw [hplv, hup, one_leaves]; rfl))) ?_
      refine At.open rfl rfl ?_
      refine At.call en23 rfl (awake23) (fun _ _ => trivial) (List.Perm.refl _) rfl ?_
      rintro _ _ _ ⟨rfl, rfl, rfl⟩
      refine At.skim 2 rfl rfl ?_
      refine At.nil ?_
      refine At.then ?_
      refine At.ret ?_
      exact At.results (Γr := []) (M := []) rfl (RVals.cons (RVal.tmp rfl) RVals.nil) (.tail _ (.tail _ (.tail _ (.tail _ (.tail _ (.tail _ (.head _))))))) (fun _ _ => trivial) (.cons _ (.cons _ (.cons _ (.refl _)))) ⟨rfl, rfl, rfl⟩
    · skip
      refine At.skip ?_
      refine At.then ?_
      refine At.seq ?_
      refine At.region ?_
      refine At.quiet (q_loadS t24 rfl (RdS.loc (i := 1) rfl (m := 2) rfl) rfl) rfl ?_
      refine At.call en21 rfl (may21 _) (fun _ h => ⟨h.2.2.1, h.2.2.2.1, trivial⟩) (List.Perm.refl _) rfl ?_
      rintro _ _ _ ⟨rfl, rfl, rfl⟩
      refine At.skim 1 rfl rfl ?_
      refine At.say 27 (.bool true) rfl (congrArg Value.bool (by rw [hup, one_may]; rfl)) ?_
      refine At.skim 3 rfl rfl ?_
      refine At.say 30 (.bool true) rfl (congrArg Value.bool (by rw [hup, one_may]; rfl)) ?_
      refine At.open rfl rfl ?_
      refine At.quiet (q_fieldAddr s40 rfl rfl rfl) rfl ?_
      refine At.open rfl rfl ?_
      refine At.quiet (q_load t3 rfl (Rd.loc (i := 0) rfl rfl)) rfl ?_
      refine At.skim 3 rfl rfl ?_
      refine At.say 35 (.bool true) rfl (congrArg Value.bool (decide_eq_true (by rw [hup, one_find]; rfl))) ?_
      refine At.open rfl rfl ?_
      refine At.quiet (q_loadS t40 rfl (RdS.loc (i := 0) rfl (m := 3) rfl) rfl) rfl ?_
      refine At.open rfl rfl ?_
      refine At.call en27 rfl (top27 _) (fun _ _ => trivial) (List.Perm.refl _) rfl ?_
      rintro _ _ _ ⟨rfl, rfl, rfl⟩
      refine At.skim 2 rfl rfl ?_
      refine At.say 39 (.bool true) rfl (congrArg Value.bool (decide_eq_true (by rw [hus1, hup, one_find]; rfl))) ?_
      refine At.open rfl rfl ?_
      refine At.quiet (q_loadS t40 rfl (RdS.loc (i := 0) rfl (m := 3) rfl) rfl) rfl ?_
      refine At.open rfl rfl ?_
      refine At.call en32 rfl (right32 _) (fun _ h => ⟨h.2.1, trivial⟩) (List.Perm.refl _) rfl ?_
      rintro _ _ _ ⟨rfl, rfl, rfl⟩
      refine At.skim 3 rfl rfl ?_
      refine At.say 44 (.bool true) rfl (congrArg Value.bool (by show (!(rs1.l.getLast?.getD false)) = true; rw [hrs1, hup, one_find]; rfl)) ?_
      refine At.open rfl rfl ?_
      refine At.quiet (q_loadS t24 rfl (RdS.loc (i := 1) rfl (m := 2) rfl) rfl) rfl ?_
      refine At.open rfl rfl ?_
      refine At.call en29 rfl (all29 _ (by assumption)) (fun _ h => ⟨h.2.2.1, h.2.2.2.1, trivial⟩) (List.Perm.refl _) rfl ?_
      rintro _ _ _ ⟨al, Mal, rfl, rfl, rfl, hal, hpal⟩
      refine At.skim 1 rfl rfl ?_
      refine At.freezeOwn 0 hal rfl ?_
      refine At.open rfl rfl ?_
      refine At.call en33 rfl (same33 _ _) (fun _ h => ⟨h.1, h.2.2.2.2.2.2.1, trivial⟩) (List.Perm.refl _) rfl ?_
      rintro _ _ _ ⟨rfl, rfl, rfl⟩
      refine At.skim 2 rfl rfl ?_
      refine At.say 50 (.bool true) rfl (congrArg Value.bool (decide_eq_true (by rw [hpal, hup, one_all, not_f hr]; rfl))) ?_
      refine At.open rfl rfl ?_
      refine At.quiet (q_loadS t24 rfl (RdS.loc (i := 1) rfl (m := 2) rfl) rfl) rfl ?_
      refine At.open rfl rfl ?_
      refine At.call en28 rfl (leaves28 _) (fun _ h => ⟨h.2.2.2.1, h.2.2.2.2.1, trivial⟩) (List.Perm.refl _) rfl ?_
      rintro _ _ _ ⟨lv, Mlv, rfl, rfl, rfl, hlv, hplv⟩
      refine At.open rfl rfl ?_
      refine At.quiet (q_len Try.underlying37 rfl) rfl ?_
      refine At.skim 3 rfl rfl ?_
      refine At.say 56 (.bool true) rfl (congrArg Value.bool (decide_eq_true (by rw [hplv, hup, one_leaves]; rfl))) ?_
      refine At.open rfl rfl ?_
      refine At.call en23 rfl (awake23) (fun _ _ => trivial) (List.Perm.refl _) rfl ?_
      rintro _ _ _ ⟨rfl, rfl, rfl⟩
      refine At.skim 2 rfl rfl ?_
      refine At.nil ?_
      refine At.then ?_
      refine At.ret ?_
      exact At.results (Γr := []) (M := []) rfl (RVals.cons (RVal.tmp rfl) RVals.nil) (.tail _ (.tail _ (.tail _ (.tail _ (.tail _ (.head _)))))) (fun _ _ => trivial) (.cons _ (.cons _ (.cons _ (.refl _)))) ⟨rfl, rfl, rfl⟩

theorem counts4 (t : Tr) (hz : ∀ n ∈ t.ns.l, n.ps.l.length ≤ 8796093022208) : Con Try.prog 4 [t.val] [ndsP t.ns, psP t.ns.l] [] (fun v Γ M => v = .bool true ∧ Γ = [] ∧ M = []) := by
  refine Con.body 78 Try.func4 rfl Try.ntmps4 rfl fun X H₀ L₀ => ?_
  refine At.seq ?_
  refine At.region ?_
  refine At.loud (l_box rfl) rfl ?_
  rintro _ _ _ ⟨b1, rfl, rfl, rfl⟩
  refine At.freeze 0 (φ := blk b1 _) rfl (fun _ h => blk_def.2 ⟨_, _, h⟩) ?_
  refine At.skim 1 rfl rfl ?_
  refine At.nil ?_
  refine At.then ?_
  refine At.seq ?_
  refine At.seq ?_
  refine At.region ?_
  refine At.quiet (q_loadS t24 rfl (RdS.blk (.head _) (m := 2) rfl) rfl) rfl ?_
  refine At.call en20 rfl (light20 _ (by assumption)) (fun _ h => ⟨h.2.2.1, trivial⟩) (List.Perm.refl _) rfl ?_
  rintro _ _ _ ⟨rfl, rfl, rfl⟩
  refine At.skim 2 rfl rfl ?_
  refine At.splitP (d := 14) rfl (fun hlg => ?_) (fun hlg => ?_)
  · skip
    refine At.skim 10 rfl rfl ?_
    refine At.nil ?_
    refine At.then ?_
    refine At.condT rfl ?_
    refine At.seq ?_
    refine At.region ?_
    refine At.call en23 rfl (awake23) (fun _ _ => trivial) (List.Perm.refl _) rfl ?_
    rintro _ _ _ ⟨rfl, rfl, rfl⟩
    refine At.skim 1 rfl rfl ?_
    refine At.nil ?_
    refine At.then ?_
    refine At.ret ?_
    refine At.thenRet ?_
    exact At.results (Γr := []) (M := []) rfl (RVals.cons (RVal.tmp rfl) RVals.nil) (.tail _ (.head _)) (fun _ _ => trivial) (.refl _) ⟨rfl, rfl, rfl⟩
  · skip
    have hli : lightT t.p = true := light_yes hlg
    obtain ⟨h450, hsm, hp2000⟩ := small_of_light hli
    have hN : t.p.ns.length = t.ns.l.length := by simp [Tr.p]
    refine At.open rfl rfl ?_
    refine At.quiet (q_loadS t24 rfl (RdS.blk (.head _) (m := 2) rfl) rfl) rfl ?_
    refine At.open rfl rfl ?_
    refine At.call en21 rfl (may21 _) (fun _ h => ⟨h.2.2.1, h.2.2.2.1, trivial⟩) (List.Perm.refl _) rfl ?_
    rintro _ _ _ ⟨rfl, rfl, rfl⟩
    refine At.skim 3 rfl rfl ?_
    refine At.split (d := 19) rfl (fun hmy => ?_) (fun hmy => ?_)
    · skip
      refine At.skim 5 rfl rfl ?_
      refine At.nil ?_
      refine At.then ?_
      refine At.condT rfl ?_
      refine At.seq ?_
      refine At.region ?_
      refine At.call en23 rfl (awake23) (fun _ _ => trivial) (List.Perm.refl _) rfl ?_
      rintro _ _ _ ⟨rfl, rfl, rfl⟩
      refine At.skim 1 rfl rfl ?_
      refine At.nil ?_
      refine At.then ?_
      refine At.ret ?_
      refine At.thenRet ?_
      exact At.results (Γr := []) (M := []) rfl (RVals.cons (RVal.tmp rfl) RVals.nil) (.tail _ (.head _)) (fun _ _ => trivial) (.refl _) ⟨rfl, rfl, rfl⟩
    · skip
      refine At.open rfl rfl ?_
      refine At.quiet (q_loadS t24 rfl (RdS.blk (.head _) (m := 2) rfl) rfl) rfl ?_
      refine At.open rfl rfl ?_
      refine At.quiet (q_loadS t24 rfl (RdS.blk (.head _) (m := 2) rfl) rfl) rfl ?_
      refine At.open rfl rfl ?_
      refine At.call en22 rfl (same22 _ _ (by assumption) (by assumption)) (fun _ h => ⟨h.2.2.1, h.2.2.2.1, h.2.2.1, h.2.2.2.1, trivial⟩) (List.Perm.refl _) rfl ?_
      rintro _ _ _ ⟨rfl, rfl, rfl⟩
      refine At.skim 2 rfl rfl ?_
      refine At.nil ?_
      refine At.then ?_
      refine At.cond rfl (fun hst => ?_) (fun hst => ?_)
      · skip
        refine At.seq ?_
        refine At.region ?_
        refine At.call en23 rfl (awake23) (fun _ _ => trivial) (List.Perm.refl _) rfl ?_
        rintro _ _ _ ⟨rfl, rfl, rfl⟩
        refine At.skim 1 rfl rfl ?_
        refine At.nil ?_
        refine At.then ?_
        refine At.ret ?_
        refine At.thenRet ?_
        exact At.results (Γr := []) (M := []) rfl (RVals.cons (RVal.tmp rfl) RVals.nil) (.tail _ (.head _)) (fun _ _ => trivial) (.refl _) ⟨rfl, rfl, rfl⟩
      · skip
        obtain ⟨s, hs⟩ := Option.isSome_iff_exists.1 (not_f hmy)
        have hpos := may_pos hs
        refine At.skip ?_
        refine At.then ?_
        refine At.seq ?_
        refine At.region ?_
        refine At.skim 2 rfl rfl ?_
        refine At.nil ?_
        refine At.then ?_
        refine At.seq ?_
        refine At.seq ?_
        refine At.region ?_
        refine At.fld s24 t22 rfl rfl rfl (Rd.blk (.head _) rfl) rfl rfl ?_
        refine At.quiet (q_len Try.underlying22 rfl) rfl ?_
        refine At.skim 1 rfl rfl ?_
        refine At.nil ?_
        refine At.then ?_
        refine At.block ?_
        refine At.loopK (ι := Nat) [2, 3, 4, 6, 7, 8, 29, 30, 31, 32, 33, 34, 35, 36, 37, 38, 39, 40, 41, 42, 43, 44, 45, 46, 47, 48, 49, 50, 51, 52, 53, 54, 55] (fun k => [(29, .int .i64 (k : Int)), (3, .int .i64 (routesUpto t.p.ns k : Nat)), (4, .int .i64 (pairsUpto t.p.ns k : Nat))]) (fun k => []) (fun k => []) _ (fun k => k ≤ t.ns.l.length) (fun k => t.ns.l.length - k) 0 (Nat.zero_le _) ⟨rfl, rfl, rfl, trivial⟩ (fun _ _ => trivial) (.refl _) ?_
        intro k hk0
        refine At.seq ?_
        refine At.region ?_
        refine At.skim 1 rfl rfl ?_
        refine At.nil ?_
        refine At.then ?_
        refine At.seq ?_
        refine At.if rfl (fun hk => ?_) (fun hk => ?_)
        · skip
          obtain ⟨x, hx⟩ := get_of_lt (l := t.ns.l) (i := k) (by omega)
          have hk1 := lt_of_get hx
          have hxp : t.p.ns[k]? = some x.p := map_get hx
          have hst2 := routes_step hxp
          have hps := pairs_step hxp
          have hrl := routes_le t.p.ns k
          have hpm := pairs_mono t.p.ns (k + 1)
          have hpl : x.p.l.length = x.ps.l.length := rfl
          refine At.know (prsP x.ps) (fun _ h => psP_get h.2.2.2.1 hx) ?_
          refine At.skip ?_
          refine At.then ?_
          refine At.seq ?_
          refine At.block ?_
          refine At.seq ?_
          refine At.region ?_
          refine At.quiet (q_index Try.underlying22 t33 rfl (.tail _ (.tail _ (.tail _ (.head _)))) (by simp) rfl rfl (lt_of_get hx)) rfl ?_
          refine At.quiet (q_loadS t33 rfl (RdS.sl0 (.tail _ (.tail _ (.tail _ (.head _)))) (map_get hx)) rfl) rfl ?_
          refine At.loud (l_alloc t33) rfl ?_
          rintro _ _ _ ⟨b2, rfl, rfl, rfl⟩
          refine At.loudN (l_store t33 rfl rfl (i := 0) rfl rfl rfl rfl) ?_
          rintro _ _ _ ⟨rfl, rfl⟩
          refine At.nil ?_
          refine At.then ?_
          refine At.seq ?_
          refine At.seq ?_
          refine At.region ?_
          refine At.fld s33 t4 rfl rfl rfl (Rd.loc (i := 0) rfl rfl) rfl rfl ?_
          refine At.nil ?_
          refine At.then ?_
          refine At.cond rfl (fun hr => ?_) (fun hr => ?_)
          · skip
            refine At.seq ?_
            refine At.region ?_
            refine At.skim 1 rfl rfl ?_
            refine At.quiet (q_add rfl rfl (by omega) (by omega)) rfl ?_
            refine At.skim 1 rfl rfl ?_
            refine At.nil ?_
            refine At.then ?_
            refine At.seq ?_
            refine At.region ?_
            refine At.quiet (q_loadS t24 rfl (RdS.blk (.tail _ (.head _)) (m := 2) rfl) rfl) rfl ?_
            refine At.fld s33 t3 rfl rfl rfl (Rd.loc (i := 0) rfl rfl) rfl rfl ?_
            refine At.call en26 rfl (find26 _ _) (fun _ h => ⟨h.2.2.2.1, h.2.2.2.2.1, trivial⟩) (List.Perm.refl _) rfl ?_
            rintro _ _ _ ⟨us1, rs1, rfl, rfl, rfl, hus1, hrs1⟩
            refine At.skim 1 rfl rfl ?_
            refine At.quiet (q_extract rfl rfl) rfl ?_
            refine At.quiet (q_extract rfl rfl) rfl ?_
            refine At.loud (l_alloc t40) rfl ?_
            rintro _ _ _ ⟨b3, rfl, rfl, rfl⟩
            refine At.loudN (l_store t40 rfl rfl (i := 0) rfl rfl rfl rfl) ?_
            rintro _ _ _ ⟨rfl, rfl⟩
            refine At.skim 1 rfl rfl ?_
            refine At.nil ?_
            refine At.then ?_
            refine At.seq ?_
            refine At.region ?_
            refine At.skim 3 rfl rfl ?_
            refine At.say 46 (.bool false) rfl (congrArg Value.bool (by rw [hs]; rfl)) ?_
            refine At.open rfl rfl ?_
            refine At.quiet (q_loadS t40 rfl (RdS.loc (i := 0) rfl (m := 3) rfl) rfl) rfl ?_
            refine At.open rfl rfl ?_
            refine At.call en27 rfl (top27 _) (fun _ _ => trivial) (List.Perm.refl _) rfl ?_
            rintro _ _ _ ⟨rfl, rfl, rfl⟩
            refine At.skim 1 rfl rfl ?_
            refine At.nil ?_
            refine At.then ?_
            refine At.say 49 (.bool false) rfl (congrArg Value.bool (decide_eq_false (by rw [hus1]; exact toI_ne (ups_of_route hs hxp hr _)))) ?_
            refine At.condF rfl ?_
            refine At.skip ?_
            refine At.then ?_
            refine At.region ?_
            refine At.skim 1 rfl rfl ?_
            refine At.fld s33 t31 rfl rfl rfl (Rd.loc (i := 1) rfl rfl) rfl rfl ?_
            refine At.quiet (q_len Try.underlying31 rfl) rfl ?_
            refine At.quiet (q_add rfl rfl (by omega) (by omega)) rfl ?_
            refine At.skim 1 rfl rfl ?_
            refine At.nil ?_
            refine At.inNormal ?_
            refine At.then ?_
            refine At.region ?_
            refine At.quiet (q_add rfl rfl (by omega) (by omega)) rfl ?_
            refine At.skim 1 rfl rfl ?_
            refine At.nil ?_
            refine At.say 3 (.int .i64 (routesUpto t.p.ns (k + 1) : Nat)) rfl (congrArg (Value.int .i64) (by rw [hst2, show x.p.route = true from hr]; simp)) ?_
            refine At.say 4 (.int .i64 (pairsUpto t.p.ns (k + 1) : Nat)) rfl (congrArg (Value.int .i64) (by rw [hps, hpl]; simp)) ?_
            refine At.then ?_
            exact At.againK (k + 1) hk1 (by (try dsimp only); omega) (Tells.end 39 ⟨rfl, rfl, rfl, trivial⟩ rfl rfl) (fun _ h => h.2.2.2) (.cons _ (.cons _ (.refl _)))
          · skip
            refine At.skip ?_
            refine At.then ?_
            refine At.region ?_
            refine At.skim 1 rfl rfl ?_
            refine At.fld s33 t31 rfl rfl rfl (Rd.loc (i := 0) rfl rfl) rfl rfl ?_
            refine At.quiet (q_len Try.underlying31 rfl) rfl ?_
            refine At.quiet (q_add rfl rfl (by omega) (by omega)) rfl ?_
            refine At.skim 1 rfl rfl ?_
            refine At.nil ?_
            refine At.inNormal ?_
            refine At.then ?_
            refine At.region ?_
            refine At.quiet (q_add rfl rfl (by omega) (by omega)) rfl ?_
            refine At.skim 1 rfl rfl ?_
            refine At.nil ?_
            refine At.say 3 (.int .i64 (routesUpto t.p.ns (k + 1) : Nat)) rfl (congrArg (Value.int .i64) (by rw [hst2, show x.p.route = false from hr]; simp)) ?_
            refine At.say 4 (.int .i64 (pairsUpto t.p.ns (k + 1) : Nat)) rfl (congrArg (Value.int .i64) (by rw [hps, hpl]; simp)) ?_
            refine At.then ?_
            exact At.againK (k + 1) hk1 (by (try dsimp only); omega) (Tells.end 19 ⟨rfl, rfl, rfl, trivial⟩ rfl rfl) (fun _ h => h.2) (.cons _ (.refl _))
        · skip
          obtain rfl : k = t.ns.l.length := by omega
          have hrl := routes_le t.p.ns t.ns.l.length
          have hlr := leaves_routes hs
          have hap := all_pairs hs
          rw [hN] at hlr hap
          refine At.exit ?_
          refine At.thenExit ?_
          refine At.thenExit ?_
          refine At.inHere rfl ?_
          refine At.then ?_
          refine At.seq ?_
          refine At.region ?_
          refine At.quiet (q_loadS t24 rfl (RdS.blk (.head _) (m := 2) rfl) rfl) rfl ?_
          refine At.call en28 rfl (leaves28 _) (fun _ h => ⟨h.2.2.1, h.2.2.2.1, trivial⟩) (List.Perm.refl _) rfl ?_
          rintro _ _ _ ⟨lv, Mlv, rfl, rfl, rfl, hlv, hplv⟩
          refine At.skim 1 rfl rfl ?_
          refine At.nil ?_
          refine At.then ?_
          refine At.seq ?_
          refine At.region ?_
          refine At.quiet (q_loadS t24 rfl (RdS.blk (.head _) (m := 2) rfl) rfl) rfl ?_
          refine At.call en29 rfl (all29 _ (by assumption)) (fun _ h => ⟨h.2.2.1, h.2.2.2.1, trivial⟩) (List.Perm.refl _) rfl ?_
          rintro _ _ _ ⟨al, Mal, rfl, rfl, rfl, hal, hpal⟩
          refine At.skim 1 rfl rfl ?_
          refine At.nil ?_
          refine At.then ?_
          refine At.seq ?_
          refine At.region ?_
          refine At.skim 1 rfl rfl ?_
          refine At.quiet (q_len Try.underlying37 rfl) rfl ?_
          refine At.skim 1 rfl rfl ?_
          refine At.quiet (q_add rfl rfl (by omega) (by omega)) rfl ?_
          refine At.skim 2 rfl rfl ?_
          refine At.say 65 (.bool true) rfl (congrArg Value.bool (decide_eq_true (by rw [hplv, toI_length, hlr]; simp))) ?_
          refine At.skim 1 rfl rfl ?_
          refine At.open rfl rfl ?_
          refine At.quiet (q_len Try.underlying31 rfl) rfl ?_
          refine At.skim 4 rfl rfl ?_
          refine At.say 71 (.bool true) rfl (congrArg Value.bool (decide_eq_true (by rw [hpal, hap]))) ?_
          refine At.skim 1 rfl rfl ?_
          refine At.freezeOwn 0 hal rfl ?_
          refine At.open rfl rfl ?_
          refine At.call en30 rfl (may30 _) (fun _ h => ⟨h.1, trivial⟩) (List.Perm.refl _) rfl ?_
          rintro _ _ _ ⟨rfl, rfl, rfl⟩
          refine At.skim 2 rfl rfl ?_
          refine At.say 75 (.bool true) rfl (congrArg Value.bool (by rw [hpal]; exact all_rise _)) ?_
          refine At.open rfl rfl ?_
          refine At.call en23 rfl (awake23) (fun _ _ => trivial) (List.Perm.refl _) rfl ?_
          rintro _ _ _ ⟨rfl, rfl, rfl⟩
          refine At.skim 2 rfl rfl ?_
          refine At.nil ?_
          refine At.then ?_
          refine At.ret ?_
          exact At.results (Γr := []) (M := []) rfl (RVals.cons (RVal.tmp rfl) RVals.nil) (.tail _ (.tail _ (.head _))) (fun _ _ => trivial) (.cons _ (.refl _)) ⟨rfl, rfl, rfl⟩

end Go.Proofs.Ytmkodknmknfdkaa
