/- The walk of Set. -/
import Derived.Test.YtmkodknmknfdkaaB3
import Derived.Test.YtmkodknmknfdkaaP4
set_option linter.unusedVariables false
set_option linter.unusedSimpArgs false
namespace Go.Proofs.Ytmkodknmknfdkaa
open E
set_option maxRecDepth 4000



theorem set34 (t : Tr) (hsm : smallP t.ns.l) (at_ : Int) (l : Sl Pr) (hl : l.l.length ≤ 1000000) (stat : Int) : Con Try.prog 34 [t.val, .int .i64 at_, l.val, .int .i64 stat] [ndsP t.ns, psP t.ns.l, prsP l] [] (SetEnd t at_ l stat) := by
  refine Con.body 67 Try.func34 rfl Try.ntmps34 rfl fun X H₀ L₀ => ?_
  refine At.lenOf (hs := (.tail _ (.head _))) fun hlen => ?_
  rw [List.length_map] at hlen
  refine At.seq ?_
  refine At.region ?_
  refine At.loud (l_box rfl) rfl ?_
  rintro _ _ _ ⟨b1, rfl, rfl, rfl⟩
  refine At.freeze 0 (φ := blk b1 _) rfl (fun _ h => blk_def.2 ⟨_, _, h⟩) ?_
  refine At.loud (l_alloc t24) rfl ?_
  rintro _ _ _ ⟨b2, rfl, rfl, rfl⟩
  refine At.skim 1 rfl rfl ?_
  refine At.nil ?_
  refine At.then ?_
  refine At.seq ?_
  refine At.seq ?_
  refine At.region ?_
  refine At.quiet (q_loadS t24 rfl (RdS.blk (.head _) (m := 2) rfl) rfl) rfl ?_
  refine At.call en21 rfl (may21 _) (fun _ h => ⟨h.2.2.1, h.2.2.2.1, trivial⟩) (List.Perm.refl _) rfl ?_
  rintro _ _ _ ⟨rfl, rfl, rfl⟩
  refine At.skim 2 rfl rfl ?_
  refine At.split (d := 16) rfl (fun hm => ?_) (fun hm => ?_)
  · skip
    refine At.nilSeg ?_
    refine At.know (psP []) (fun _ h => psP_nil) ?_
    refine At.skim 18 rfl rfl ?_
    refine At.nil ?_
    refine At.then ?_
    refine At.condT rfl ?_
    refine At.seq ?_
    refine At.region ?_
    refine At.quiet (q_build t24 s24 rfl rfl) rfl ?_
    refine At.loudN (l_store t24 rfl rfl (i := 1) rfl rfl rfl rfl) ?_
    rintro _ _ _ ⟨rfl, rfl⟩
    refine At.skim 1 rfl rfl ?_
    refine At.nil ?_
    refine At.then ?_
    refine At.ret ?_
    refine At.thenRet ?_
    exact At.results (Γr := [psP []]) (M := [[]]) rfl (RVals.cons (RVal.cellS rfl t24 (RdS.loc (i := 1) rfl (m := 2) rfl) rfl) (RVals.cons (RVal.tmp rfl) RVals.nil)) (.tail _ (.tail _ (.head _))) (fun _ h => ⟨h.1, trivial⟩) (.cons_cons _ (.cons _ (.refl _))) ⟨⟨0, ⟨none, 0, []⟩⟩, [], by rw [set_no1 (not_t hm)]; rfl, rfl, rfl, Own.nil _ _, by rw [setD, set_no1 (not_t hm)]; rfl⟩
  · skip
    refine At.skim 4 rfl rfl ?_
    refine At.splitP (d := 20) rfl (fun hneg => ?_) (fun hneg => ?_)
    · skip
      refine At.nilSeg ?_
      refine At.know (psP []) (fun _ h => psP_nil) ?_
      refine At.skim 14 rfl rfl ?_
      refine At.nil ?_
      refine At.then ?_
      refine At.condT rfl ?_
      refine At.seq ?_
      refine At.region ?_
      refine At.quiet (q_build t24 s24 rfl rfl) rfl ?_
      refine At.loudN (l_store t24 rfl rfl (i := 1) rfl rfl rfl rfl) ?_
      rintro _ _ _ ⟨rfl, rfl⟩
      refine At.skim 1 rfl rfl ?_
      refine At.nil ?_
      refine At.then ?_
      refine At.ret ?_
      refine At.thenRet ?_
      exact At.results (Γr := [psP []]) (M := [[]]) rfl (RVals.cons (RVal.cellS rfl t24 (RdS.loc (i := 1) rfl (m := 2) rfl) rfl) (RVals.cons (RVal.tmp rfl) RVals.nil)) (.tail _ (.tail _ (.head _))) (fun _ h => ⟨h.1, trivial⟩) (.cons_cons _ (.cons _ (.refl _))) ⟨⟨0, ⟨none, 0, []⟩⟩, [], by rw [set_no2 hneg]; rfl, rfl, rfl, Own.nil _ _, by rw [setD, set_no2 hneg]; rfl⟩
    · skip
      obtain ⟨i, rfl⟩ := Int.eq_ofNat_of_zero_le (show 0 ≤ at_ by omega)
      refine At.skim 1 rfl rfl ?_
      refine At.open rfl rfl ?_
      refine At.quiet (q_fieldAddr s24 rfl rfl rfl) rfl ?_
      refine At.open rfl rfl ?_
      refine At.quiet (q_load t22 rfl (Rd.blk (.head _) rfl)) rfl ?_
      refine At.open rfl rfl ?_
      refine At.quiet (q_len Try.underlying22 rfl) rfl ?_
      refine At.skim 3 rfl rfl ?_
      refine At.splitP (d := 27) rfl (fun hout => ?_) (fun hout => ?_)
      · skip
        refine At.nilSeg ?_
        refine At.know (psP []) (fun _ h => psP_nil) ?_
        refine At.skim 7 rfl rfl ?_
        refine At.nil ?_
        refine At.then ?_
        refine At.condT rfl ?_
        refine At.seq ?_
        refine At.region ?_
        refine At.quiet (q_build t24 s24 rfl rfl) rfl ?_
        refine At.loudN (l_store t24 rfl rfl (i := 1) rfl rfl rfl rfl) ?_
        rintro _ _ _ ⟨rfl, rfl⟩
        refine At.skim 1 rfl rfl ?_
        refine At.nil ?_
        refine At.then ?_
        refine At.ret ?_
        refine At.thenRet ?_
        exact At.results (Γr := [psP []]) (M := [[]]) rfl (RVals.cons (RVal.cellS rfl t24 (RdS.loc (i := 1) rfl (m := 2) rfl) rfl) (RVals.cons (RVal.tmp rfl) RVals.nil)) (.tail _ (.tail _ (.head _))) (fun _ h => ⟨h.1, trivial⟩) (.cons_cons _ (.cons _ (.refl _))) ⟨⟨0, ⟨none, 0, []⟩⟩, [], by rw [set_no3 (by simp [Tr.p]; omega)]; rfl, rfl, rfl, Own.nil _ _, by rw [setD, set_no3 (by simp [Tr.p]; omega)]; rfl⟩
      · skip
        have hi : i < t.ns.l.length := by omega
        obtain ⟨x, hx⟩ := get_of_lt hi
        have hxp : t.p.ns[i]? = some x.p := map_get hx
        refine At.know (prsP x.ps) (fun _ h => psP_get h.2.2.2.1 hx) ?_
        refine At.open rfl rfl ?_
        refine At.quiet (q_fieldAddr s24 rfl rfl rfl) rfl ?_
        refine At.open rfl rfl ?_
        refine At.quiet (q_load t22 rfl (Rd.blk (.tail _ (.head _)) rfl)) rfl ?_
        refine At.skim 1 rfl rfl ?_
        refine At.open rfl rfl ?_
        refine At.quiet (q_index Try.underlying22 t33 rfl (.tail _ (.tail _ (.tail _ (.head _)))) (by simp) rfl rfl (lt_of_get hx)) rfl ?_
        refine At.open rfl rfl ?_
        refine At.quiet (q_fieldAddr s33 rfl rfl rfl) rfl ?_
        refine At.open rfl rfl ?_
        refine At.quiet (q_load t4 rfl (Rd.sl (.tail _ (.tail _ (.tail _ (.head _)))) (map_get hx) rfl)) rfl ?_
        refine At.skim 1 rfl rfl ?_
        refine At.nil ?_
        refine At.then ?_
        refine At.cond rfl (fun hr => ?_) (fun hr => ?_)
        · skip
          refine At.nilSeg ?_
          refine At.know (psP []) (fun _ h => psP_nil) ?_
          refine At.seq ?_
          refine At.region ?_
          refine At.quiet (q_build t24 s24 rfl rfl) rfl ?_
          refine At.loudN (l_store t24 rfl rfl (i := 1) rfl rfl rfl rfl) ?_
          rintro _ _ _ ⟨rfl, rfl⟩
          refine At.skim 1 rfl rfl ?_
          refine At.nil ?_
          refine At.then ?_
          refine At.ret ?_
          refine At.thenRet ?_
          exact At.results (Γr := [psP []]) (M := [[]]) rfl (RVals.cons (RVal.cellS rfl t24 (RdS.loc (i := 1) rfl (m := 2) rfl) rfl) (RVals.cons (RVal.tmp rfl) RVals.nil)) (.tail _ (.tail _ (.tail _ (.head _)))) (fun _ h => ⟨h.1, trivial⟩) (.cons_cons _ (.cons _ (.refl _))) ⟨⟨0, ⟨none, 0, []⟩⟩, [], by rw [set_no4 hxp hr]; rfl, rfl, rfl, Own.nil _ _, by rw [setD, set_no4 hxp hr]; rfl⟩
        · skip
          obtain ⟨s, hs⟩ := Option.isSome_iff_exists.1 (not_f hm)
          have hfew : t.ns.l.length ≤ 2000 := by have := (good_of hs).few; simpa [Tr.p] using this
          refine At.nilSeg ?_
          refine At.know (psP []) (fun _ h => psP_nil) ?_
          refine At.skip ?_
          refine At.then ?_
          refine At.seq ?_
          refine At.region ?_
          refine At.fld s24 t3 rfl rfl rfl (Rd.blk (.tail _ (.tail _ (.head _))) rfl) rfl rfl ?_
          refine At.quiet (q_build t24 s24 rfl rfl) rfl ?_
          refine At.loud (l_alloc t24) rfl ?_
          rintro _ _ _ ⟨b3, rfl, rfl, rfl⟩
          refine At.loudN (l_store t24 rfl rfl (i := 0) rfl rfl rfl rfl) ?_
          rintro _ _ _ ⟨rfl, rfl⟩
          refine At.nil ?_
          refine At.then ?_
          refine At.seq ?_
          refine At.seq ?_
          refine At.region ?_
          refine At.fld s24 t22 rfl rfl rfl (Rd.blk (.tail _ (.tail _ (.head _))) rfl) rfl rfl ?_
          refine At.quiet (q_len Try.underlying22 rfl) rfl ?_
          refine At.skim 1 rfl rfl ?_
          refine At.nil ?_
          refine At.then ?_
          refine At.block ?_
          refine At.front 1 rfl ?_
          refine At.front 1 rfl ?_
          refine At.loopK (ι := Nat × List Nd × Option Addr × Nat × Seg) [11, 12, 42, 43, 44, 45, 46, 47, 48, 49, 50, 51, 52, 53, 54, 55, 56, 57, 58, 59, 60, 61] (fun ⟨k, o, a, c, M⟩ => [(42, .int .i64 (k : Int))]) (fun ⟨k, o, a, c, M⟩ => [psP o]) (fun ⟨k, o, a, c, M⟩ => [[(b3, .cells #[.int .i64 t.root, .slice a k c] 24 (0, 0))], M]) _ (fun ⟨k, o, a, c, M⟩ => k ≤ t.ns.l.length ∧ Own 33 6 (o.map rowN) a c M ∧ o.length = k ∧ o.map Nd.p = (t.p.ns.set i { x.p with l := l.l, stat := stat }).take k) (fun ⟨k, o, a, c, M⟩ => t.ns.l.length - k) (0, [], none, 0, []) ⟨Nat.zero_le _, Own.nil _ _, rfl, by simp⟩ ⟨rfl, trivial⟩ (fun _ _ => ⟨psP_nil, trivial⟩) (.cons_cons _ (.cons_cons _ (.refl _))) ?_
          intro i0 hI0
          obtain ⟨k, o, a, c, M⟩ := i0
          obtain ⟨hkl, hO, hok, hoe⟩ := hI0
          refine At.seq ?_
          refine At.region ?_
          refine At.skim 1 rfl rfl ?_
          refine At.nil ?_
          refine At.then ?_
          refine At.seq ?_
          refine At.if rfl (fun hk => ?_) (fun hk => ?_)
          · skip
            obtain ⟨y, hy⟩ := get_of_lt (l := t.ns.l) (i := k) (by omega)
            have hk1 := lt_of_get hy
            refine At.know (prsP y.ps) (fun _ h => psP_get h.2.2.2.2.2.2.1 hy) ?_
            refine At.skip ?_
            refine At.then ?_
            refine At.seq ?_
            refine At.block ?_
            refine At.seq ?_
            refine At.region ?_
            refine At.skim 1 rfl rfl ?_
            refine At.quiet (q_index Try.underlying22 t33 rfl (.tail _ (.tail _ (.tail _ (.tail _ (.tail _ (.tail _ (.head _))))))) (by simp) rfl rfl (lt_of_get hy)) rfl ?_
            refine At.quiet (q_loadS t33 rfl (RdS.sl0 (.tail _ (.tail _ (.tail _ (.tail _ (.tail _ (.tail _ (.head _))))))) (map_get hy)) rfl) rfl ?_
            refine At.loud (l_alloc t33) rfl ?_
            rintro _ _ _ ⟨b4, rfl, rfl, rfl⟩
            refine At.skim 1 rfl rfl ?_
            refine At.loudN (l_store t33 rfl rfl (i := 0) rfl rfl rfl rfl) ?_
            rintro _ _ _ ⟨rfl, rfl⟩
            refine At.nil ?_
            refine At.then ?_
            refine At.seq ?_
            refine At.seq ?_
            refine At.region ?_
            refine At.skim 3 rfl rfl ?_
            refine At.nil ?_
            refine At.then ?_
            refine At.if rfl (fun hki => ?_) (fun hki => ?_)
            · skip
              obtain rfl : k = i := by omega
              obtain rfl : x = y := by rw [hx] at hy; exact Option.some.inj hy
              refine At.region ?_
              refine At.skim 2 rfl rfl ?_
              refine At.quiet (q_fieldAddr s33 rfl rfl rfl) rfl ?_
              refine At.loudN (l_store t31 rfl rfl (i := 0) rfl rfl rfl rfl) ?_
              rintro _ _ _ ⟨rfl, rfl⟩
              refine At.quiet (q_fieldAddr s33 rfl rfl rfl) rfl ?_
              refine At.loudN (l_store t3 rfl rfl (i := 0) rfl rfl rfl rfl) ?_
              rintro _ _ _ ⟨rfl, rfl⟩
              refine At.nil ?_
              refine At.then ?_
              refine At.draw 5 (.q 0 (.q 1 (.q 2 (.o 3 (.o 4 (.e)))))) _ (List.Sublist.refl _) mixed (by kernel_rfl) rfl ?_
              refine AtO.quiet rfl (q_fieldAddr s24 rfl rfl rfl) rfl (Calm.inBlock (Calm.then (Calm.then (Calm.inBlock (Calm.then Post.calm))))) ?_
              refine AtO.quiet rfl (q_load t22 rfl (Rd.loc (i := 1) rfl rfl)) rfl (Calm.inBlock (Calm.then (Calm.then (Calm.inBlock (Calm.then Post.calm))))) ?_
              refine AtO.quiet rfl (q_loadS t33 rfl (RdS.loc (i := 0) rfl (m := 6) rfl) rfl) rfl (Calm.inBlock (Calm.then (Calm.then (Calm.inBlock (Calm.then Post.calm))))) ?_
              refine AtO.callA rfl en73 rfl (copy73 { x with ps := l, stat := stat } (by simpa using hl)) (fun _ h => ⟨h.2.2.2.2.2.2.2.2.1, trivial⟩) (List.Perm.refl _) rfl (.refl _) ?_
              rintro _ _ _ ⟨s0, rfl, hs0, rfl, rfl⟩
              refine AtO.loudA rfl (l_buildSlice Try.underlying22 t33 rfl rfl rfl rfl rfl) rfl (by rintro _ _ _ ⟨_, rfl, rfl, rfl⟩; exact ⟨fun _ h => h, .cons _ (.refl _)⟩) ?_
              rintro _ _ _ ⟨b5, rfl, rfl, rfl⟩
              refine AtO.done ?_
              refine At.loud (l_append rfl Try.underlying22 t33 rfl rfl hO (by simp; omega) (i := 3) rfl rfl (news := [rowN { { x with ps := l, stat := stat } with ps := s0 }]) (by simp [rowN]) (RdS.loc (i := 0) rfl (m := 6) rfl) rfl rfl rfl (by omega) (by unfold maxLen; omega)) rfl ?_
              rintro _ _ _ ⟨a2, c2, M2, rfl, ow, rfl, rfl⟩
              refine At.quiet (q_fieldAddr s24 rfl rfl rfl) rfl ?_
              refine At.loudN (l_store t22 rfl rfl (i := 2) rfl rfl rfl rfl) ?_
              rintro _ _ _ ⟨rfl, rfl⟩
              refine At.nil ?_
              refine At.inNormal ?_
              refine At.then ?_
              refine At.region ?_
              refine At.know (psP (o ++ [{ { x with ps := l, stat := stat } with ps := s0 }])) (fun _ h => psP_snoc (n := { { x with ps := l, stat := stat } with ps := s0 }) h.2.2.1 h.1) ?_
              refine At.quiet (q_add rfl rfl (by omega) (by omega)) rfl ?_
              refine At.skim 1 rfl rfl ?_
              refine At.nil ?_
              refine At.front 3 rfl ?_
              refine At.front 3 rfl ?_
              refine At.then ?_
              exact At.againK (k + 1, o ++ [{ { x with ps := l, stat := stat } with ps := s0 }], a2, c2, M2) ⟨hk1, by simpa using ow, by simp; omega, set_step_at hoe hs0 hxp⟩ (by (try dsimp only); omega) (Tells.end 23 ⟨rfl, trivial⟩ rfl rfl) (fun _ h => ⟨h.1, h.2.2.2.2⟩) (.cons_cons _ (.cons_cons _ (.cons _ (.cons _ (.refl _)))))
            · skip
              refine At.skip ?_
              refine At.then ?_
              refine At.draw 5 (.q 0 (.q 1 (.q 2 (.o 3 (.o 4 (.e)))))) _ (List.Sublist.refl _) mixed (by kernel_rfl) rfl ?_
              refine AtO.quiet rfl (q_fieldAddr s24 rfl rfl rfl) rfl (Calm.inBlock (Calm.then (Calm.then (Calm.inBlock (Calm.then Post.calm))))) ?_
              refine AtO.quiet rfl (q_load t22 rfl (Rd.loc (i := 1) rfl rfl)) rfl (Calm.inBlock (Calm.then (Calm.then (Calm.inBlock (Calm.then Post.calm))))) ?_
              refine AtO.quiet rfl (q_loadS t33 rfl (RdS.loc (i := 0) rfl (m := 6) rfl) rfl) rfl (Calm.inBlock (Calm.then (Calm.then (Calm.inBlock (Calm.then Post.calm))))) ?_
              refine AtO.callA rfl en73 rfl (copy73 y (hsm y (List.mem_of_getElem? hy))) (fun _ h => ⟨h.1, trivial⟩) (List.Perm.refl _) rfl (.refl _) ?_
              rintro _ _ _ ⟨s0, rfl, hs0, rfl, rfl⟩
              refine AtO.loudA rfl (l_buildSlice Try.underlying22 t33 rfl rfl rfl rfl rfl) rfl (by rintro _ _ _ ⟨_, rfl, rfl, rfl⟩; exact ⟨fun _ h => h, .cons _ (.refl _)⟩) ?_
              rintro _ _ _ ⟨b6, rfl, rfl, rfl⟩
              refine AtO.done ?_
              refine At.loud (l_append rfl Try.underlying22 t33 rfl rfl hO (by simp; omega) (i := 3) rfl rfl (news := [rowN { y with ps := s0 }]) (by simp [rowN]) (RdS.loc (i := 0) rfl (m := 6) rfl) rfl rfl rfl (by omega) (by unfold maxLen; omega)) rfl ?_
              rintro _ _ _ ⟨a2, c2, M2, rfl, ow, rfl, rfl⟩
              refine At.quiet (q_fieldAddr s24 rfl rfl rfl) rfl ?_
              refine At.loudN (l_store t22 rfl rfl (i := 2) rfl rfl rfl rfl) ?_
              rintro _ _ _ ⟨rfl, rfl⟩
              refine At.nil ?_
              refine At.inNormal ?_
              refine At.then ?_
              refine At.region ?_
              refine At.know (psP (o ++ [{ y with ps := s0 }])) (fun _ h => psP_snoc (n := { y with ps := s0 }) h.2.2.1 h.1) ?_
              refine At.quiet (q_add rfl rfl (by omega) (by omega)) rfl ?_
              refine At.skim 1 rfl rfl ?_
              refine At.nil ?_
              refine At.front 3 rfl ?_
              refine At.front 3 rfl ?_
              refine At.then ?_
              exact At.againK (k + 1, o ++ [{ y with ps := s0 }], a2, c2, M2) ⟨hk1, by simpa using ow, by simp; omega, set_step_ne hoe hs0 (map_get hy) (by omega)⟩ (by (try dsimp only); omega) (Tells.end 19 ⟨rfl, trivial⟩ rfl rfl) (fun _ h => ⟨h.1, h.2.2.2.2⟩) (.cons_cons _ (.cons_cons _ (.cons _ (.cons _ (.refl _)))))
          · skip
            have hoe2 : o.map Nd.p = (t.p.ns.set i { x.p with l := l.l, stat := stat }) := by rw [hoe, List.take_of_length_le (by simp [Tr.p]; omega)]
            have hu : (⟨t.root, ⟨a, c, o⟩⟩ : Tr).p = ⟨t.p.root, (t.p.ns.set i { x.p with l := l.l, stat := stat })⟩ := by simp only [Tr.p]; exact congrArg (PT.mk t.root) hoe2
            subst hok
            refine At.exit ?_
            refine At.thenExit ?_
            refine At.thenExit ?_
            refine At.inHere rfl ?_
            refine At.then ?_
            refine At.seq ?_
            refine At.seq ?_
            refine At.region ?_
            refine At.quiet (q_loadS t24 rfl (RdS.loc (i := 0) rfl (m := 2) rfl) rfl) rfl ?_
            refine At.callB en21 rfl (may21 ⟨t.root, ⟨a, c, o⟩⟩) hO (i := 1) rfl (fun _ h => ⟨h.1, h.2.1, trivial⟩) (List.Perm.refl _) rfl ?_
            rintro _ _ _ ⟨rfl, rfl, rfl⟩
            refine At.skim 1 rfl rfl ?_
            refine At.nil ?_
            refine At.then ?_
            refine At.cond rfl (fun hm2 => ?_) (fun hm2 => ?_)
            · skip
              refine At.nilSeg ?_
              refine At.know (psP []) (fun _ h => psP_nil) ?_
              refine At.seq ?_
              refine At.region ?_
              refine At.quiet (q_build t24 s24 rfl rfl) rfl ?_
              refine At.loudN (l_store t24 rfl rfl (i := 3) rfl rfl rfl rfl) ?_
              rintro _ _ _ ⟨rfl, rfl⟩
              refine At.skim 1 rfl rfl ?_
              refine At.nil ?_
              refine At.then ?_
              refine At.ret ?_
              refine At.thenRet ?_
              exact At.results (Γr := [psP []]) (M := [[]]) rfl (RVals.cons (RVal.cellS rfl t24 (RdS.loc (i := 3) rfl (m := 2) rfl) rfl) (RVals.cons (RVal.tmp rfl) RVals.nil)) (.tail _ (.tail _ (.tail _ (.tail _ (.tail _ (.head _)))))) (fun _ h => ⟨h.1, trivial⟩) (.cons_cons _ (.cons _ (.cons _ (.cons _ (.refl _))))) ⟨⟨0, ⟨none, 0, []⟩⟩, [], by rw [set_no5 hxp hr (by rw [← hu]; exact not_t hm2)]; rfl, rfl, rfl, Own.nil _ _, by rw [setD, set_no5 hxp hr (by rw [← hu]; exact not_t hm2)]; rfl⟩
            · skip
              refine At.skip ?_
              refine At.then ?_
              refine At.seq ?_
              refine At.region ?_
              refine At.quiet (q_loadS t24 rfl (RdS.loc (i := 1) rfl (m := 2) rfl) rfl) rfl ?_
              refine At.loudN (l_store t24 rfl rfl (i := 2) rfl rfl rfl rfl) ?_
              rintro _ _ _ ⟨rfl, rfl⟩
              refine At.skim 1 rfl rfl ?_
              refine At.nil ?_
              refine At.then ?_
              refine At.ret ?_
              exact At.results (Γr := [psP o]) (M := [M]) rfl (RVals.cons (RVal.cellS rfl t24 (RdS.loc (i := 2) rfl (m := 2) rfl) rfl) (RVals.cons (RVal.tmp rfl) RVals.nil)) (.tail _ (.tail _ (.tail _ (.tail _ (.head _))))) (fun _ h => ⟨h.1, trivial⟩) (.cons_cons _ (.cons _ (.cons _ (.refl _)))) ⟨⟨t.root, ⟨a, c, o⟩⟩, M, by rw [set_ok hs hxp hr (by rw [← hu]; exact not_f hm2)]; rfl, rfl, rfl, hO, by rw [setD, set_ok hs hxp hr (by rw [← hu]; exact not_f hm2), hu]; rfl⟩

end Go.Proofs.Ytmkodknmknfdkaa
