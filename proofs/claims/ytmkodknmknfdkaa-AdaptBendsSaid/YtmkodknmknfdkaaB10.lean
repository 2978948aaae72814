/- The walks of the laws of trees, more. -/
import Derived.Test.YtmkodknmknfdkaaB9
set_option linter.unusedVariables false
set_option linter.unusedSimpArgs false
namespace Go.Proofs.Ytmkodknmknfdkaa
open E
set_option maxRecDepth 4000

theorem en34 : Enters Try.prog 34 := Enters.mk' Try.func34 rfl rfl
theorem en35 : Enters Try.prog 35 := Enters.mk' Try.func35 rfl rfl
theorem en37 : Enters Try.prog 37 := Enters.mk' Try.func37 rfl rfl

theorem leaves28f (t : Tr) : Con Try.prog 28 [t.val] [ndsP t.ns, psP t.ns.l] [] (IntsEndF (toI (leavesT t.p))) := by
  refine Con.body 10 Try.func28 rfl Try.ntmps28 rfl fun X H₀ L₀ => ?_
  refine At.seq ?_
  refine At.region ?_
  refine At.loud (l_box rfl) rfl ?_
  rintro _ _ _ ⟨b1, rfl, rfl, rfl⟩
  refine At.freeze 0 (φ := blk b1 _) rfl (fun _ h => blk_def.2 ⟨_, _, h⟩) ?_
  refine At.skim 1 rfl rfl ?_
  refine At.nil ?_
  refine At.then ?_
  refine At.seq ?_
  refine At.seq ?_
  refine At.region ?_
  refine At.quiet (q_loadS t24 rfl (RdS.blk (.head _) (m := 2) rfl) rfl) rfl ?_
  refine At.call en21 rfl (may21 _) (fun _ h => ⟨h.2.2.1, h.2.2.2.1, trivial⟩) (List.Perm.refl _) rfl ?_
  rintro _ _ _ ⟨rfl, rfl, rfl⟩
  refine At.skim 1 rfl rfl ?_
  refine At.nil ?_
  refine At.then ?_
  refine At.cond rfl (fun hm => ?_) (fun hm => ?_)
  · skip
    refine At.know (intsP ⟨none, 0, []⟩) (fun _ h => sl_nil _ _ _ (Nat.zero_le _)) ?_
    refine At.seq ?_
    refine At.region ?_
    refine At.skim 1 rfl rfl ?_
    refine At.nil ?_
    refine At.then ?_
    refine At.ret ?_
    refine At.thenRet ?_
    exact At.results (Γr := [_]) (M := []) rfl (RVals.cons (RVal.tmp rfl) RVals.nil) (.tail _ (.tail _ (.head _))) (fun _ h => ⟨h.1, trivial⟩) (.refl _) ⟨⟨none, 0, []⟩, rfl, rfl, rfl, by rw [leavesT, none_of (not_t hm)]; rfl⟩
  · skip
    obtain ⟨s, hs⟩ := Option.isSome_iff_exists.1 (not_f hm)
    have hg := good_of hs
    have hsz : s.size ≤ 2000 := by have h1 := hg.size; have h2 := hg.few; omega
    refine At.nilSeg ?_
    refine At.skip ?_
    refine At.then ?_
    refine At.seq ?_
    refine At.region ?_
    refine At.quiet (q_loadS t24 rfl (RdS.blk (.head _) (m := 2) rfl) rfl) rfl ?_
    refine At.fld s24 t3 rfl rfl rfl (Rd.blk (.head _) rfl) rfl rfl ?_
    refine At.call en70 rfl (leaves70 t s t.root hg.hangs [] none 0 [] (Own.nil _ _) (by simp; omega)) (fun _ h => ⟨h.2.2.1, h.2.2.2.1, trivial⟩) (List.Perm.refl _) rfl ?_
    rintro _ _ _ ⟨a1, c1, M1, rfl, rfl, rfl, hO⟩
    refine At.freezeOwn 0 (show Own 3 1 ((toI s.leaves).map rowI) a1 c1 M1 by simpa using hO) rfl ?_
    refine At.skim 1 rfl rfl ?_
    refine At.nil ?_
    refine At.then ?_
    refine At.ret ?_
    exact At.results (Γr := [_]) (M := []) rfl (RVals.cons (RVal.tmp rfl) RVals.nil) (.tail _ (.tail _ (.head _))) (fun _ h => ⟨h.1, trivial⟩) (.refl _) ⟨⟨a1, c1, toI s.leaves⟩, by simp [Sl.val, resVal], rfl, rfl, by rw [leavesT, hs]⟩

theorem leaves41f (t : Tr) (hsm : smallP t.ns.l) : Con Try.prog 41 [t.val] [ndsP t.ns, psP t.ns.l] [] (IntsEndF (toI (leavesT t.p))) := by
  refine Con.body 16 Try.func41 rfl Try.ntmps41 rfl fun X H₀ L₀ => ?_
  refine At.seq ?_
  refine At.region ?_
  refine At.loud (l_box rfl) rfl ?_
  rintro _ _ _ ⟨b1, rfl, rfl, rfl⟩
  refine At.freeze 0 (φ := blk b1 _) rfl (fun _ h => blk_def.2 ⟨_, _, h⟩) ?_
  refine At.skim 1 rfl rfl ?_
  refine At.nil ?_
  refine At.then ?_
  refine At.seq ?_
  refine At.seq ?_
  refine At.region ?_
  refine At.quiet (q_loadS t24 rfl (RdS.blk (.head _) (m := 2) rfl) rfl) rfl ?_
  refine At.call en38 rfl (plain38 _ (by assumption)) (fun _ h => ⟨h.2.2.1, h.2.2.2.1, trivial⟩) (List.Perm.refl _) rfl ?_
  rintro _ _ _ ⟨u1, Mu1, rfl, rfl, rfl, hu1, hup1⟩
  refine At.skim 1 rfl rfl ?_
  refine At.quiet (q_extract rfl rfl) rfl ?_
  refine At.quiet (q_extract rfl rfl) rfl ?_
  refine At.loud (l_alloc t24) rfl ?_
  rintro _ _ _ ⟨b2, rfl, rfl, rfl⟩
  refine At.loudN (l_store t24 rfl rfl (i := 0) rfl rfl rfl rfl) ?_
  rintro _ _ _ ⟨rfl, rfl⟩
  refine At.skim 1 rfl rfl ?_
  refine At.nil ?_
  refine At.then ?_
  refine At.seq ?_
  refine At.region ?_
  refine At.skim 2 rfl rfl ?_
  refine At.nil ?_
  refine At.then ?_
  refine At.cond rfl (fun hm => ?_) (fun hm => ?_)
  · skip
    refine At.know (intsP ⟨none, 0, []⟩) (fun _ h => sl_nil _ _ _ (Nat.zero_le _)) ?_
    refine At.seq ?_
    refine At.region ?_
    refine At.skim 1 rfl rfl ?_
    refine At.nil ?_
    refine At.then ?_
    refine At.ret ?_
    refine At.thenRet ?_
    exact At.results (Γr := [_]) (M := []) rfl (RVals.cons (RVal.tmp rfl) RVals.nil) (.tail _ (.tail _ (.tail _ (.head _)))) (fun _ h => ⟨h.1, trivial⟩) (.cons _ (.cons _ (.refl _))) ⟨⟨none, 0, []⟩, rfl, rfl, rfl, by rw [leavesT, none_of (not_t hm)]; rfl⟩
  · skip
    obtain ⟨s, hs⟩ := Option.isSome_iff_exists.1 (not_f hm)
    have hg := good_of hs
    have hsz : s.size ≤ 2000 := by have h1 := hg.size; have h2 := hg.few; omega
    refine At.nilSeg ?_
    refine At.skip ?_
    refine At.then ?_
    refine At.seq ?_
    refine At.region ?_
    refine At.quiet (q_loadS t24 rfl (RdS.blk (.tail _ (.head _)) (m := 2) rfl) rfl) rfl ?_
    refine At.fld s24 t3 rfl rfl rfl (Rd.blk (.tail _ (.head _)) rfl) rfl rfl ?_
    refine At.call en79 rfl (leaves79 t s t.root hg.hangs [] none 0 [] (Own.nil _ _) (by simp; omega)) (fun _ h => ⟨h.2.2.2.1, h.2.2.2.2.1, trivial⟩) (List.Perm.refl _) rfl ?_
    rintro _ _ _ ⟨a1, c1, M1, rfl, rfl, rfl, hO⟩
    refine At.freezeOwn 0 (show Own 3 1 ((toI s.leaves).map rowI) a1 c1 M1 by simpa using hO) rfl ?_
    refine At.skim 1 rfl rfl ?_
    refine At.nil ?_
    refine At.then ?_
    refine At.ret ?_
    exact At.results (Γr := [_]) (M := []) rfl (RVals.cons (RVal.tmp rfl) RVals.nil) (.tail _ (.tail _ (.tail _ (.head _)))) (fun _ h => ⟨h.1, trivial⟩) (.cons _ (.cons _ (.refl _))) ⟨⟨a1, c1, toI s.leaves⟩, by simp [Sl.val, resVal], rfl, rfl, by rw [leavesT, hs]⟩

theorem all29f (t : Tr) (hsm : smallP t.ns.l) : Con Try.prog 29 [t.val] [ndsP t.ns, psP t.ns.l] [] (PairsEndF (allT t.p)) := by
  refine Con.body 23 Try.func29 rfl Try.ntmps29 rfl fun X H₀ L₀ => ?_
  refine At.lenOf (hs := (.tail _ (.head _))) fun hlen => ?_
  rw [List.length_map] at hlen
  refine At.seq ?_
  refine At.region ?_
  refine At.loud (l_box rfl) rfl ?_
  rintro _ _ _ ⟨b1, rfl, rfl, rfl⟩
  refine At.freeze 0 (φ := blk b1 _) rfl (fun _ h => blk_def.2 ⟨_, _, h⟩) ?_
  refine At.skim 1 rfl rfl ?_
  refine At.nil ?_
  refine At.then ?_
  refine At.seq ?_
  refine At.region ?_
  refine At.skim 1 rfl rfl ?_
  refine At.nil ?_
  refine At.then ?_
  refine At.seq ?_
  refine At.seq ?_
  refine At.region ?_
  refine At.quiet (q_loadS t24 rfl (RdS.blk (.head _) (m := 2) rfl) rfl) rfl ?_
  refine At.call en28 rfl (leaves28f _) (fun _ h => ⟨h.2.2.1, h.2.2.2.1, trivial⟩) (List.Perm.refl _) rfl ?_
  rintro _ _ _ ⟨u, rfl, rfl, rfl, hul⟩
  refine At.quiet (q_len Try.underlying37 rfl) rfl ?_
  have hll := leavesT_len t.p
  have hul2 : u.l.length = (leavesT t.p).length := by rw [hul, toI_length]
  refine At.nilSeg ?_
  refine At.skim 1 rfl rfl ?_
  refine At.nil ?_
  refine At.then ?_
  refine At.block ?_
  refine At.loopK (ι := Nat × Option Addr × Nat × Seg) [3, 5, 9, 10, 11, 12, 13, 14, 15, 16, 17, 18, 19, 20, 21] (fun ⟨k, a, c, M⟩ => [(9, .int .i64 (k : Int)), (3, .slice a (outs t.p k).length c)]) (fun ⟨k, a, c, M⟩ => []) (fun ⟨k, a, c, M⟩ => [M]) _ (fun ⟨k, a, c, M⟩ => k ≤ u.l.length ∧ Own 50 2 ((outs t.p k).map rowP) a c M ∧ (outs t.p k).length ≤ k * 1000000) (fun ⟨k, a, c, M⟩ => u.l.length - k) (0, none, 0, []) ⟨Nat.zero_le _, Own.nil _ _, by simp [outs]⟩ ⟨rfl, rfl, trivial⟩ (fun _ _ => trivial) (.cons_cons _ (.refl _)) ?_
  intro i0 hI0
  obtain ⟨k, a, c, M⟩ := i0
  obtain ⟨hkl, hO, hob⟩ := hI0
  refine At.seq ?_
  refine At.region ?_
  refine At.skim 1 rfl rfl ?_
  refine At.nil ?_
  refine At.then ?_
  refine At.seq ?_
  refine At.if rfl (fun hk => ?_) (fun hk => ?_)
  · skip
    obtain ⟨i, hi⟩ := get_of_lt (l := leavesT t.p) (i := k) (by omega)
    have hui : u.l[k]? = some (i : Int) := by rw [hul]; exact toI_get hi
    obtain ⟨x, hx, _, hxg⟩ := Tr.get (leavesT_lt (List.mem_of_getElem? hi))
    have hxs := hsm x (List.mem_of_getElem? hx)
    have hst := outs_step hi hxg
    refine At.know (prsP x.ps) (fun _ h => psP_get h.2.2.2.2.1 hx) ?_
    refine At.skip ?_
    refine At.then ?_
    refine At.seq ?_
    refine At.block ?_
    refine At.seq ?_
    refine At.region ?_
    refine At.quiet (q_index Try.underlying37 t3 rfl (.tail _ (.head _)) (by simp) rfl rfl (lt_of_get hui)) rfl ?_
    refine At.quiet (q_load t3 rfl (Rd.sl0 (.tail _ (.head _)) (map_get hui) rfl)) rfl ?_
    refine At.skim 1 rfl rfl ?_
    refine At.nil ?_
    refine At.then ?_
    refine At.region ?_
    refine At.skim 1 rfl rfl ?_
    refine At.fld s24 t22 rfl rfl rfl (Rd.blk (.tail _ (.tail _ (.head _))) rfl) rfl rfl ?_
    refine At.skim 1 rfl rfl ?_
    refine At.quiet (q_index Try.underlying22 t33 rfl (.tail _ (.tail _ (.tail _ (.tail _ (.head _))))) (by simp) rfl rfl (lt_of_get hx)) rfl ?_
    refine At.fld s33 t31 rfl rfl rfl (Rd.sl (.tail _ (.tail _ (.tail _ (.tail _ (.head _))))) (map_get hx) rfl) rfl rfl ?_
    refine At.loud (l_appendSl rfl Try.underlying31 t50 rfl rfl hO (by simp) (i := 0) rfl (.head _) (by simp) (one_map (fun _ => rfl) _) rfl rfl (by omega) (by unfold maxLen; omega)) rfl ?_
    rintro _ _ _ ⟨a2, c2, M2, rfl, ow, rfl, rfl⟩
    refine At.skim 1 rfl rfl ?_
    refine At.nil ?_
    refine At.inNormal ?_
    refine At.then ?_
    refine At.region ?_
    refine At.quiet (q_add rfl rfl (by omega) (by omega)) rfl ?_
    refine At.skim 1 rfl rfl ?_
    refine At.nil ?_
    refine At.say 3 (.slice a2 (outs t.p (k + 1)).length c2) rfl (by rw [hst, List.length_append]; rfl) ?_
    refine At.then ?_
    exact At.againK (k + 1, a2, c2, M2) ⟨by omega, by rw [hst, List.map_append]; exact ow, by rw [hst, List.length_append]; show _ + x.ps.l.length ≤ _; omega⟩ (by (try dsimp only); omega) (Tells.end 18 ⟨rfl, rfl, trivial⟩ rfl rfl) (fun _ h => h.2) (.cons_cons _ (.refl _))
  · skip
    refine At.freezeOwn 0 hO rfl ?_
    refine At.exit ?_
    refine At.thenExit ?_
    refine At.thenExit ?_
    refine At.inHere rfl ?_
    refine At.then ?_
    refine At.seq ?_
    refine At.region ?_
    refine At.skim 2 rfl rfl ?_
    refine At.nil ?_
    refine At.then ?_
    refine At.ret ?_
    exact At.results (Γr := [prsP ⟨a, c, outs t.p k⟩]) (M := []) rfl (RVals.cons (RVal.tmp rfl) RVals.nil) (.tail _ (.tail _ (.tail _ (.head _)))) (fun _ h => ⟨h.1, trivial⟩) (.refl _) ⟨⟨a, c, outs t.p k⟩, rfl, rfl, rfl, outs_all (by omega)⟩

theorem all42f (t : Tr) (hsm : smallP t.ns.l) : Con Try.prog 42 [t.val] [ndsP t.ns, psP t.ns.l] [] (PairsEndF (allT t.p)) := by
  refine Con.body 23 Try.func42 rfl Try.ntmps42 rfl fun X H₀ L₀ => ?_
  refine At.lenOf (hs := (.tail _ (.head _))) fun hlen => ?_
  rw [List.length_map] at hlen
  refine At.seq ?_
  refine At.region ?_
  refine At.loud (l_box rfl) rfl ?_
  rintro _ _ _ ⟨b1, rfl, rfl, rfl⟩
  refine At.freeze 0 (φ := blk b1 _) rfl (fun _ h => blk_def.2 ⟨_, _, h⟩) ?_
  refine At.skim 1 rfl rfl ?_
  refine At.nil ?_
  refine At.then ?_
  refine At.seq ?_
  refine At.region ?_
  refine At.skim 1 rfl rfl ?_
  refine At.nil ?_
  refine At.then ?_
  refine At.seq ?_
  refine At.seq ?_
  refine At.region ?_
  refine At.quiet (q_loadS t24 rfl (RdS.blk (.head _) (m := 2) rfl) rfl) rfl ?_
  refine At.call en41 rfl (leaves41f _ (by assumption)) (fun _ h => ⟨h.2.2.1, h.2.2.2.1, trivial⟩) (List.Perm.refl _) rfl ?_
  rintro _ _ _ ⟨u, rfl, rfl, rfl, hul⟩
  refine At.quiet (q_len Try.underlying37 rfl) rfl ?_
  have hll := leavesT_len t.p
  have hul2 : u.l.length = (leavesT t.p).length := by rw [hul, toI_length]
  refine At.nilSeg ?_
  refine At.skim 1 rfl rfl ?_
  refine At.nil ?_
  refine At.then ?_
  refine At.block ?_
  refine At.loopK (ι := Nat × Option Addr × Nat × Seg) [3, 5, 9, 10, 11, 12, 13, 14, 15, 16, 17, 18, 19, 20, 21] (fun ⟨k, a, c, M⟩ => [(9, .int .i64 (k : Int)), (3, .slice a (outs t.p k).length c)]) (fun ⟨k, a, c, M⟩ => []) (fun ⟨k, a, c, M⟩ => [M]) _ (fun ⟨k, a, c, M⟩ => k ≤ u.l.length ∧ Own 50 2 ((outs t.p k).map rowP) a c M ∧ (outs t.p k).length ≤ k * 1000000) (fun ⟨k, a, c, M⟩ => u.l.length - k) (0, none, 0, []) ⟨Nat.zero_le _, Own.nil _ _, by simp [outs]⟩ ⟨rfl, rfl, trivial⟩ (fun _ _ => trivial) (.cons_cons _ (.refl _)) ?_
  intro i0 hI0
  obtain ⟨k, a, c, M⟩ := i0
  obtain ⟨hkl, hO, hob⟩ := hI0
  refine At.seq ?_
  refine At.region ?_
  refine At.skim 1 rfl rfl ?_
  refine At.nil ?_
  refine At.then ?_
  refine At.seq ?_
  refine At.if rfl (fun hk => ?_) (fun hk => ?_)
  · skip
    obtain ⟨i, hi⟩ := get_of_lt (l := leavesT t.p) (i := k) (by omega)
    have hui : u.l[k]? = some (i : Int) := by rw [hul]; exact toI_get hi
    obtain ⟨x, hx, _, hxg⟩ := Tr.get (leavesT_lt (List.mem_of_getElem? hi))
    have hxs := hsm x (List.mem_of_getElem? hx)
    have hst := outs_step hi hxg
    refine At.know (prsP x.ps) (fun _ h => psP_get h.2.2.2.2.1 hx) ?_
    refine At.skip ?_
    refine At.then ?_
    refine At.seq ?_
    refine At.block ?_
    refine At.seq ?_
    refine At.region ?_
    refine At.quiet (q_index Try.underlying37 t3 rfl (.tail _ (.head _)) (by simp) rfl rfl (lt_of_get hui)) rfl ?_
    refine At.quiet (q_load t3 rfl (Rd.sl0 (.tail _ (.head _)) (map_get hui) rfl)) rfl ?_
    refine At.skim 1 rfl rfl ?_
    refine At.nil ?_
    refine At.then ?_
    refine At.region ?_
    refine At.skim 1 rfl rfl ?_
    refine At.fld s24 t22 rfl rfl rfl (Rd.blk (.tail _ (.tail _ (.head _))) rfl) rfl rfl ?_
    refine At.skim 1 rfl rfl ?_
    refine At.quiet (q_index Try.underlying22 t33 rfl (.tail _ (.tail _ (.tail _ (.tail _ (.head _))))) (by simp) rfl rfl (lt_of_get hx)) rfl ?_
    refine At.fld s33 t31 rfl rfl rfl (Rd.sl (.tail _ (.tail _ (.tail _ (.tail _ (.head _))))) (map_get hx) rfl) rfl rfl ?_
    refine At.loud (l_appendSl rfl Try.underlying31 t50 rfl rfl hO (by simp) (i := 0) rfl (.head _) (by simp) (one_map (fun _ => rfl) _) rfl rfl (by omega) (by unfold maxLen; omega)) rfl ?_
    rintro _ _ _ ⟨a2, c2, M2, rfl, ow, rfl, rfl⟩
    refine At.skim 1 rfl rfl ?_
    refine At.nil ?_
    refine At.inNormal ?_
    refine At.then ?_
    refine At.region ?_
    refine At.quiet (q_add rfl rfl (by omega) (by omega)) rfl ?_
    refine At.skim 1 rfl rfl ?_
    refine At.nil ?_
    refine At.say 3 (.slice a2 (outs t.p (k + 1)).length c2) rfl (by rw [hst, List.length_append]; rfl) ?_
    refine At.then ?_
    exact At.againK (k + 1, a2, c2, M2) ⟨by omega, by rw [hst, List.map_append]; exact ow, by rw [hst, List.length_append]; show _ + x.ps.l.length ≤ _; omega⟩ (by (try dsimp only); omega) (Tells.end 18 ⟨rfl, rfl, trivial⟩ rfl rfl) (fun _ h => h.2) (.cons_cons _ (.refl _))
  · skip
    refine At.freezeOwn 0 hO rfl ?_
    refine At.exit ?_
    refine At.thenExit ?_
    refine At.thenExit ?_
    refine At.inHere rfl ?_
    refine At.then ?_
    refine At.seq ?_
    refine At.region ?_
    refine At.skim 2 rfl rfl ?_
    refine At.nil ?_
    refine At.then ?_
    refine At.ret ?_
    exact At.results (Γr := [prsP ⟨a, c, outs t.p k⟩]) (M := []) rfl (RVals.cons (RVal.tmp rfl) RVals.nil) (.tail _ (.tail _ (.tail _ (.head _)))) (fun _ h => ⟨h.1, trivial⟩) (.refl _) ⟨⟨a, c, outs t.p k⟩, rfl, rfl, rfl, outs_all (by omega)⟩

theorem with35f (l : Sl Pr) (p : Pr) (hl : l.l.length ≤ 1000000) : Con Try.prog 35 [l.val, p.val] [prsP l] [] (PairsEndF (withT l.l p)) := by
  refine Con.body 45 Try.func35 rfl Try.ntmps35 rfl fun X H₀ L₀ => ?_
  refine At.nilSeg ?_
  refine At.seq ?_
  refine At.region ?_
  refine At.loud (l_box rfl) rfl ?_
  rintro _ _ _ ⟨b1, rfl, rfl, rfl⟩
  refine At.freeze 0 (φ := blk b1 _) rfl (fun _ h => blk_def.2 ⟨_, _, h⟩) ?_
  refine At.skim 1 rfl rfl ?_
  refine At.nil ?_
  refine At.then ?_
  refine At.seq ?_
  refine At.region ?_
  refine At.skim 1 rfl rfl ?_
  refine At.nil ?_
  refine At.then ?_
  refine At.seq ?_
  refine At.region ?_
  refine At.skim 1 rfl rfl ?_
  refine At.nil ?_
  refine At.then ?_
  refine At.seq ?_
  refine At.seq ?_
  refine At.region ?_
  refine At.skim 1 rfl rfl ?_
  refine At.quiet (q_len Try.underlying31 rfl) rfl ?_
  refine At.skim 1 rfl rfl ?_
  refine At.nil ?_
  refine At.then ?_
  refine At.block ?_
  refine At.loopK (ι := Nat × Bool × Nat × List Pr × Option Addr × Nat × Seg) [5, 6, 8, 11, 12, 13, 14, 15, 16, 17, 18, 19, 20, 21, 22, 23, 24, 25, 26, 27, 28, 29, 30, 31, 32, 33, 34, 35, 36, 37] (fun ⟨k, d, n0, o, a, c, M⟩ => [(11, .int .i64 (k : Int)), (6, .bool d), (5, .slice a n0 c)]) (fun ⟨k, d, n0, o, a, c, M⟩ => []) (fun ⟨k, d, n0, o, a, c, M⟩ => [M]) _ (fun ⟨k, d, n0, o, a, c, M⟩ => k ≤ l.l.length ∧ withT l.l p = o ++ withGo p (l.l.drop k) d ∧ Own 50 2 (o.map rowP) a c M ∧ n0 = o.length ∧ n0 ≤ 2 * k) (fun ⟨k, d, n0, o, a, c, M⟩ => l.l.length - k) (0, false, 0, [], none, 0, []) ⟨Nat.zero_le _, rfl, Own.nil _ _, rfl, Nat.le_refl _⟩ ⟨rfl, rfl, rfl, trivial⟩ (fun _ _ => trivial) (.cons_cons _ (.refl _)) ?_
  intro i0 hI0
  obtain ⟨k, d, n0, o, a, c, M⟩ := i0
  obtain ⟨hkl, hW, hO, hn0, hnk⟩ := hI0
  refine At.seq ?_
  refine At.region ?_
  refine At.skim 1 rfl rfl ?_
  refine At.nil ?_
  refine At.then ?_
  refine At.seq ?_
  refine At.if rfl (fun hk => ?_) (fun hk => ?_)
  · skip
    obtain ⟨x, hx⟩ := get_of_lt (l := l.l) (i := k) (by omega)
    have hk1 := lt_of_get hx
    refine At.skip ?_
    refine At.then ?_
    refine At.seq ?_
    refine At.block ?_
    refine At.seq ?_
    refine At.region ?_
    refine At.quiet (q_index Try.underlying31 t50 rfl (.tail _ (.tail _ (.head _))) (by simp) rfl rfl (lt_of_get hx)) rfl ?_
    refine At.quiet (q_loadS t50 rfl (RdS.sl0 (.tail _ (.tail _ (.head _))) (map_get hx)) rfl) rfl ?_
    refine At.loud (l_alloc t50) rfl ?_
    rintro _ _ _ ⟨b2, rfl, rfl, rfl⟩
    refine At.loudN (l_store t50 rfl rfl (i := 0) rfl rfl rfl rfl) ?_
    rintro _ _ _ ⟨rfl, rfl⟩
    refine At.nil ?_
    refine At.then ?_
    refine At.seq ?_
    refine At.seq ?_
    refine At.region ?_
    refine At.skim 3 rfl rfl ?_
    refine At.split (d := 17) rfl (fun hd => ?_) (fun hd => ?_)
    · skip
      have hd0 := not_t hd
      refine At.open rfl rfl ?_
      refine At.quiet (q_fieldAddr s50 rfl rfl rfl) rfl ?_
      refine At.open rfl rfl ?_
      refine At.quiet (q_load t3 rfl (Rd.loc (i := 0) rfl rfl)) rfl ?_
      refine At.open rfl rfl ?_
      refine At.quiet (q_fieldAddr s50 rfl rfl rfl) rfl ?_
      refine At.open rfl rfl ?_
      refine At.quiet (q_load t3 rfl (Rd.blk (.head _) rfl)) rfl ?_
      refine At.skim 2 rfl rfl ?_
      refine At.nil ?_
      refine At.then ?_
      refine At.if rfl (fun hc => ?_) (fun hc => ?_)
      · skip
        refine At.seq ?_
        refine At.region ?_
        refine At.skim 1 rfl rfl ?_
        refine At.quiet (q_loadS t50 rfl (RdS.blk (.head _) (m := 2) rfl) rfl) rfl ?_
        refine At.loud (l_buildSlice Try.underlying31 t50 rfl rfl rfl rfl rfl) rfl ?_
        rintro _ _ _ ⟨b3, rfl, rfl, rfl⟩
        refine At.loud (l_append rfl Try.underlying31 t50 rfl rfl hO (by simp; omega) (i := 2) rfl rfl (news := [rowP p]) (by simp [rowP]) (RdS.loc (i := 0) rfl (m := 2) rfl) rfl rfl rfl (by omega) (by unfold maxLen; omega)) rfl ?_
        rintro _ _ _ ⟨a4, c4, M4, rfl, ow4, rfl, rfl⟩
        refine At.skim 1 rfl rfl ?_
        refine At.nil ?_
        refine At.then ?_
        refine At.region ?_
        refine At.skim 1 rfl rfl ?_
        refine At.nil ?_
        refine At.then ?_
        refine At.seq ?_
        refine At.region ?_
        refine At.fld s50 t3 rfl rfl rfl (Rd.loc (i := 1) rfl rfl) rfl rfl ?_
        refine At.fld s50 t3 rfl rfl rfl (Rd.blk (.head _) rfl) rfl rfl ?_
        refine At.skim 1 rfl rfl ?_
        refine At.nil ?_
        refine At.then ?_
        refine At.if rfl (fun hn => ?_) (fun hn => ?_)
        · skip
          refine At.region ?_
          refine At.skim 1 rfl rfl ?_
          refine At.quiet (q_loadS t50 rfl (RdS.loc (i := 1) rfl (m := 2) rfl) rfl) rfl ?_
          refine At.loud (l_buildSlice Try.underlying31 t50 rfl rfl rfl rfl rfl) rfl ?_
          rintro _ _ _ ⟨b4, rfl, rfl, rfl⟩
          refine At.loud (l_append rfl Try.underlying31 t50 rfl rfl ow4 (by simp; omega) (i := 3) rfl rfl (news := [rowP x]) (by simp [rowP]) (RdS.loc (i := 0) rfl (m := 2) rfl) rfl rfl rfl (by omega) (by unfold maxLen; omega)) rfl ?_
          rintro _ _ _ ⟨a5, c5, M5, rfl, ow5, rfl, rfl⟩
          refine At.skim 1 rfl rfl ?_
          refine At.nil ?_
          refine At.inNormal ?_
          refine At.then ?_
          refine At.region ?_
          refine At.quiet (q_add rfl rfl (by omega) (by omega)) rfl ?_
          refine At.skim 1 rfl rfl ?_
          refine At.nil ?_
          refine At.front 3 rfl ?_
          refine At.then ?_
          exact At.againK (k + 1, true, n0 + 1 + 1, o ++ ([p] ++ [x]), a5, c5, M5) ⟨hk1, with_step hx hW (by rw [hd0]; simp [hc]) (by rw [hd0]; simp [hc, hn]), by simpa using ow5, by (try simp); omega, by omega⟩ (by (try dsimp only); omega) (Tells.end 35 ⟨rfl, rfl, rfl, trivial⟩ rfl rfl) (fun _ h => h) (.cons_cons _ (.cons _ (.cons _ (.cons _ (.refl _)))))
        · skip
          refine At.skip ?_
          refine At.inNormal ?_
          refine At.then ?_
          refine At.region ?_
          refine At.quiet (q_add rfl rfl (by omega) (by omega)) rfl ?_
          refine At.skim 1 rfl rfl ?_
          refine At.nil ?_
          refine At.front 2 rfl ?_
          refine At.then ?_
          exact At.againK (k + 1, true, n0 + 1, o ++ ([p] ++ []), a4, c4, M4) ⟨hk1, with_step hx hW (by rw [hd0]; simp [hc]) (by rw [hd0]; simp [hc, show x.k = p.k by omega]), by simpa using ow4, by (try simp); omega, by omega⟩ (by (try dsimp only); omega) (Tells.end 30 ⟨rfl, rfl, rfl, trivial⟩ rfl rfl) (fun _ h => h) (.cons_cons _ (.cons _ (.cons _ (.refl _))))
      · skip
        refine At.skip ?_
        refine At.then ?_
        refine At.seq ?_
        refine At.region ?_
        refine At.fld s50 t3 rfl rfl rfl (Rd.loc (i := 0) rfl rfl) rfl rfl ?_
        refine At.fld s50 t3 rfl rfl rfl (Rd.blk (.head _) rfl) rfl rfl ?_
        refine At.skim 1 rfl rfl ?_
        refine At.nil ?_
        refine At.then ?_
        refine At.if rfl (fun hn => ?_) (fun hn => ?_)
        · skip
          refine At.region ?_
          refine At.skim 1 rfl rfl ?_
          refine At.quiet (q_loadS t50 rfl (RdS.loc (i := 0) rfl (m := 2) rfl) rfl) rfl ?_
          refine At.loud (l_buildSlice Try.underlying31 t50 rfl rfl rfl rfl rfl) rfl ?_
          rintro _ _ _ ⟨b5, rfl, rfl, rfl⟩
          refine At.loud (l_append rfl Try.underlying31 t50 rfl rfl hO (by simp; omega) (i := 2) rfl rfl (news := [rowP x]) (by simp [rowP]) (RdS.loc (i := 0) rfl (m := 2) rfl) rfl rfl rfl (by omega) (by unfold maxLen; omega)) rfl ?_
          rintro _ _ _ ⟨a5, c5, M5, rfl, ow5, rfl, rfl⟩
          refine At.skim 1 rfl rfl ?_
          refine At.nil ?_
          refine At.inNormal ?_
          refine At.then ?_
          refine At.region ?_
          refine At.quiet (q_add rfl rfl (by omega) (by omega)) rfl ?_
          refine At.skim 1 rfl rfl ?_
          refine At.nil ?_
          refine At.front 2 rfl ?_
          refine At.then ?_
          exact At.againK (k + 1, d, n0 + 1, o ++ ([] ++ [x]), a5, c5, M5) ⟨hk1, with_step hx hW (by simp [hc]) (by simp [hc, hn]), by simpa using ow5, by (try simp); omega, by omega⟩ (by (try dsimp only); omega) (Tells.end 29 ⟨rfl, rfl, rfl, trivial⟩ rfl rfl) (fun _ h => h) (.cons_cons _ (.cons _ (.cons _ (.refl _))))
        · skip
          exfalso; omega
    · skip
      have hd0 := not_f hd
      refine At.skim 6 rfl rfl ?_
      refine At.nil ?_
      refine At.then ?_
      refine At.condF rfl ?_
      refine At.skip ?_
      refine At.then ?_
      refine At.seq ?_
      refine At.region ?_
      refine At.fld s50 t3 rfl rfl rfl (Rd.loc (i := 0) rfl rfl) rfl rfl ?_
      refine At.fld s50 t3 rfl rfl rfl (Rd.blk (.head _) rfl) rfl rfl ?_
      refine At.skim 1 rfl rfl ?_
      refine At.nil ?_
      refine At.then ?_
      refine At.if rfl (fun hn => ?_) (fun hn => ?_)
      · skip
        refine At.region ?_
        refine At.skim 1 rfl rfl ?_
        refine At.quiet (q_loadS t50 rfl (RdS.loc (i := 0) rfl (m := 2) rfl) rfl) rfl ?_
        refine At.loud (l_buildSlice Try.underlying31 t50 rfl rfl rfl rfl rfl) rfl ?_
        rintro _ _ _ ⟨b6, rfl, rfl, rfl⟩
        refine At.loud (l_append rfl Try.underlying31 t50 rfl rfl hO (by simp; omega) (i := 2) rfl rfl (news := [rowP x]) (by simp [rowP]) (RdS.loc (i := 0) rfl (m := 2) rfl) rfl rfl rfl (by omega) (by unfold maxLen; omega)) rfl ?_
        rintro _ _ _ ⟨a5, c5, M5, rfl, ow5, rfl, rfl⟩
        refine At.skim 1 rfl rfl ?_
        refine At.nil ?_
        refine At.inNormal ?_
        refine At.then ?_
        refine At.region ?_
        refine At.quiet (q_add rfl rfl (by omega) (by omega)) rfl ?_
        refine At.skim 1 rfl rfl ?_
        refine At.nil ?_
        refine At.front 2 rfl ?_
        refine At.then ?_
        exact At.againK (k + 1, d, n0 + 1, o ++ ([] ++ [x]), a5, c5, M5) ⟨hk1, with_step hx hW (by rw [hd0]; simp) (by rw [hd0]; simp [hn]), by simpa using ow5, by (try simp); omega, by omega⟩ (by (try dsimp only); omega) (Tells.end 29 ⟨rfl, rfl, rfl, trivial⟩ rfl rfl) (fun _ h => h) (.cons_cons _ (.cons _ (.cons _ (.refl _))))
      · skip
        refine At.skip ?_
        refine At.inNormal ?_
        refine At.then ?_
        refine At.region ?_
        refine At.quiet (q_add rfl rfl (by omega) (by omega)) rfl ?_
        refine At.skim 1 rfl rfl ?_
        refine At.nil ?_
        refine At.front 1 rfl ?_
        refine At.then ?_
        exact At.againK (k + 1, d, n0, o ++ ([] ++ []), a, c, M) ⟨hk1, with_step hx hW (by rw [hd0]; simp) (by rw [hd0]; simp [show x.k = p.k by omega]), by simpa using hO, by (try simp); omega, by omega⟩ (by (try dsimp only); omega) (Tells.end 24 ⟨rfl, rfl, rfl, trivial⟩ rfl rfl) (fun _ h => h) (.cons_cons _ (.cons _ (.refl _)))
  · skip
    have hW2 := with_end (by omega) hW
    refine At.exit ?_
    refine At.thenExit ?_
    refine At.thenExit ?_
    refine At.inHere rfl ?_
    refine At.then ?_
    refine At.seq ?_
    refine At.seq ?_
    refine At.region ?_
    refine At.skim 2 rfl rfl ?_
    refine At.nil ?_
    refine At.then ?_
    refine At.cond rfl (fun hd => ?_) (fun hd => ?_)
    · skip
      refine At.region ?_
      refine At.skim 1 rfl rfl ?_
      refine At.quiet (q_loadS t50 rfl (RdS.blk (.head _) (m := 2) rfl) rfl) rfl ?_
      refine At.loud (l_buildSlice Try.underlying31 t50 rfl rfl rfl rfl rfl) rfl ?_
      rintro _ _ _ ⟨b7, rfl, rfl, rfl⟩
      refine At.loud (l_append rfl Try.underlying31 t50 rfl rfl hO (by simp; omega) (i := 1) rfl rfl (news := [rowP p]) (by simp [rowP]) (RdS.loc (i := 0) rfl (m := 2) rfl) rfl rfl rfl (by omega) (by unfold maxLen; omega)) rfl ?_
      rintro _ _ _ ⟨a4, c4, M4, rfl, ow4, rfl, rfl⟩
      refine At.skim 1 rfl rfl ?_
      refine At.nil ?_
      refine At.then ?_
      refine At.seq ?_
      refine At.region ?_
      refine At.freezeOwn 1 (show Own 50 2 ((o ++ [p]).map rowP) a4 c4 M4 by simpa using ow4) rfl ?_
      refine At.skim 2 rfl rfl ?_
      refine At.nil ?_
      refine At.then ?_
      refine At.ret ?_
      exact At.results (Γr := [_]) (M := []) rfl (RVals.cons (RVal.tmp rfl) RVals.nil) (.tail _ (.tail _ (.head _))) (fun _ h => ⟨h.1, trivial⟩) (.cons _ (.refl _)) ⟨⟨a4, c4, o ++ [p]⟩, by simp [Sl.val, resVal, hn0], rfl, rfl, by rw [hW2, not_t hd]; rfl⟩
    · skip
      refine At.skip ?_
      refine At.then ?_
      refine At.seq ?_
      refine At.region ?_
      refine At.freezeOwn 0 hO rfl ?_
      refine At.skim 2 rfl rfl ?_
      refine At.nil ?_
      refine At.then ?_
      refine At.ret ?_
      exact At.results (Γr := [_]) (M := []) rfl (RVals.cons (RVal.tmp rfl) RVals.nil) (.tail _ (.tail _ (.head _))) (fun _ h => ⟨h.1, trivial⟩) (.refl _) ⟨⟨a, c, o⟩, by simp [Sl.val, resVal, hn0], rfl, rfl, by rw [hW2, not_f hd]; simp⟩

set_option maxHeartbeats 1000000 in
theorem only6 (t : Tr) (hz : ∀ n ∈ t.ns.l, n.ps.l.length ≤ 8796093022208) (p : Pr) (at_ : Int) : Con Try.prog 6 [t.val, p.val, .int .i64 at_] [ndsP t.ns, psP t.ns.l] [] (fun v Γ M => v = .bool true ∧ Γ = [] ∧ M = []) := by
  refine Con.body 152 Try.func6 rfl Try.ntmps6 rfl fun X H₀ L₀ => ?_
  refine At.seq ?_
  refine At.region ?_
  refine At.loud (l_box rfl) rfl ?_
  rintro _ _ _ ⟨b1, rfl, rfl, rfl⟩
  refine At.freeze 0 (φ := blk b1 _) rfl (fun _ h => blk_def.2 ⟨_, _, h⟩) ?_
  refine At.loud (l_box rfl) rfl ?_
  rintro _ _ _ ⟨b2, rfl, rfl, rfl⟩
  refine At.freeze 0 (φ := blk b2 _) rfl (fun _ h => blk_def.2 ⟨_, _, h⟩) ?_
  refine At.skim 1 rfl rfl ?_
  refine At.nil ?_
  refine At.then ?_
  refine At.seq ?_
  refine At.seq ?_
  refine At.region ?_
  refine At.quiet (q_loadS t24 rfl (RdS.blk (.tail _ (.head _)) (m := 2) rfl) rfl) rfl ?_
  refine At.call en20 rfl (light20 _ (by assumption)) (fun _ h => ⟨h.2.2.2.1, trivial⟩) (List.Perm.refl _) rfl ?_
  rintro _ _ _ ⟨rfl, rfl, rfl⟩
  refine At.skim 2 rfl rfl ?_
  refine At.splitP (d := 21) rfl (fun hlg => ?_) (fun hlg => ?_)
  · skip
    refine At.skim 4 rfl rfl ?_
    refine At.nil ?_
    refine At.then ?_
    refine At.condT rfl ?_
    refine At.seq ?_
    refine At.region ?_
    refine At.quiet (q_loadS t24 rfl (RdS.blk (.tail _ (.head _)) (m := 2) rfl) rfl) rfl ?_
    refine At.call en20 rfl (light20 _ (by assumption)) (fun _ h => ⟨h.2.2.2.1, trivial⟩) (List.Perm.refl _) rfl ?_
    rintro _ _ _ ⟨rfl, rfl, rfl⟩
    refine At.skim 2 rfl rfl ?_
    refine At.say 29 (.bool true) rfl (congrArg Value.bool (decide_eq_true hlg)) ?_
    refine At.skim 6 rfl rfl ?_
    refine At.open rfl rfl ?_
    refine At.call en23 rfl (awake23) (fun _ _ => trivial) (List.Perm.refl _) rfl ?_
    rintro _ _ _ ⟨rfl, rfl, rfl⟩
    refine At.skim 2 rfl rfl ?_
    refine At.nil ?_
    refine At.then ?_
    refine At.ret ?_
    refine At.thenRet ?_
    exact At.results (Γr := []) (M := []) rfl (RVals.cons (RVal.tmp rfl) RVals.nil) (.tail _ (.tail _ (.head _))) (fun _ _ => trivial) (.refl _) ⟨rfl, rfl, rfl⟩
  · skip
    have hli : lightT t.p = true := light_yes hlg
    obtain ⟨h450, hsm, hp2000⟩ := small_of_light hli
    have hN : t.p.ns.length = t.ns.l.length := by simp [Tr.p]
    refine At.open rfl rfl ?_
    refine At.quiet (q_loadS t24 rfl (RdS.blk (.tail _ (.head _)) (m := 2) rfl) rfl) rfl ?_
    refine At.open rfl rfl ?_
    refine At.call en21 rfl (may21 _) (fun _ h => ⟨h.2.2.2.1, h.2.2.2.2.1, trivial⟩) (List.Perm.refl _) rfl ?_
    rintro _ _ _ ⟨rfl, rfl, rfl⟩
    refine At.skim 2 rfl rfl ?_
    refine At.nil ?_
    refine At.then ?_
    refine At.cond rfl (fun hmy => ?_) (fun hmy => ?_)
    · skip
      refine At.seq ?_
      refine At.region ?_
      refine At.quiet (q_loadS t24 rfl (RdS.blk (.tail _ (.head _)) (m := 2) rfl) rfl) rfl ?_
      refine At.call en20 rfl (light20 _ (by assumption)) (fun _ h => ⟨h.2.2.2.1, trivial⟩) (List.Perm.refl _) rfl ?_
      rintro _ _ _ ⟨rfl, rfl, rfl⟩
      refine At.skim 2 rfl rfl ?_
      refine At.say 29 (.bool false) rfl (congrArg Value.bool (decide_eq_false hlg)) ?_
      refine At.open rfl rfl ?_
      refine At.quiet (q_loadS t24 rfl (RdS.blk (.tail _ (.head _)) (m := 2) rfl) rfl) rfl ?_
      refine At.open rfl rfl ?_
      refine At.quiet (q_loadS t24 rfl (RdS.blk (.tail _ (.head _)) (m := 2) rfl) rfl) rfl ?_
      refine At.open rfl rfl ?_
      refine At.call en22 rfl (same22 _ _ (by assumption) (by assumption)) (fun _ h => ⟨h.2.2.2.1, h.2.2.2.2.1, h.2.2.2.1, h.2.2.2.2.1, trivial⟩) (List.Perm.refl _) rfl ?_
      rintro _ _ _ ⟨rfl, rfl, rfl⟩
      refine At.skim 3 rfl rfl ?_
      refine At.say 35 (.bool true) rfl (congrArg Value.bool (by unfold sameT; rw [not_t hmy]; rfl)) ?_
      refine At.open rfl rfl ?_
      refine At.call en23 rfl (awake23) (fun _ _ => trivial) (List.Perm.refl _) rfl ?_
      rintro _ _ _ ⟨rfl, rfl, rfl⟩
      refine At.skim 2 rfl rfl ?_
      refine At.nil ?_
      refine At.then ?_
      refine At.ret ?_
      refine At.thenRet ?_
      exact At.results (Γr := []) (M := []) rfl (RVals.cons (RVal.tmp rfl) RVals.nil) (.tail _ (.tail _ (.head _))) (fun _ _ => trivial) (.refl _) ⟨rfl, rfl, rfl⟩
    · skip
      obtain ⟨s, hs⟩ := Option.isSome_iff_exists.1 (not_f hmy)
      have hpos := may_pos hs
      refine At.skip ?_
      refine At.then ?_
      refine At.seq ?_
      refine At.region ?_
      refine At.quiet (q_loadS t24 rfl (RdS.blk (.tail _ (.head _)) (m := 2) rfl) rfl) rfl ?_
      refine At.call en28 rfl (leaves28f _) (fun _ h => ⟨h.2.2.2.1, h.2.2.2.2.1, trivial⟩) (List.Perm.refl _) rfl ?_
      rintro _ _ _ ⟨lv, rfl, rfl, rfl, hplv⟩
      refine At.skim 1 rfl rfl ?_
      refine At.nil ?_
      refine At.then ?_
      refine At.seq ?_
      refine At.seq ?_
      refine At.region ?_
      have hlp := leavesT_pos hs
      have hll : lv.l.length = (leavesT t.p).length := by rw [hplv, toI_length]
      have hle := leavesT_len t.p
      refine At.skim 1 rfl rfl ?_
      refine At.quiet (q_len Try.underlying37 rfl) rfl ?_
      refine At.skim 1 rfl rfl ?_
      refine At.nil ?_
      refine At.then ?_
      refine At.say 42 (.bool false) rfl (congrArg Value.bool (decide_eq_false (by omega))) ?_
      refine At.condF rfl ?_
      refine At.skip ?_
      refine At.then ?_
      refine At.seq ?_
      refine At.region ?_
      obtain ⟨j, hj, hje, hjne⟩ := pick (a := at_) (n := lv.l.length) (by omega) (by omega)
      obtain ⟨i, hi⟩ := get_of_lt (l := leavesT t.p) (i := j) (by omega)
      have hui : lv.l[j]? = some (i : Int) := by rw [hplv]; exact toI_get hi
      have hmem := List.mem_of_getElem? hi
      have hilt := leavesT_lt hmem
      obtain ⟨x, hx⟩ := get_of_lt (l := t.ns.l) (i := i) (by omega)
      have hxp : t.p.ns[i]? = some x.p := map_get hx
      have hfl := find_lt hs p.k
      refine At.skim 2 rfl rfl ?_
      refine At.quiet (q_convInt Try.underlying3 Try.underlying29 rfl) rfl ?_
      refine At.skim 1 rfl rfl ?_
      refine At.quiet (q_len Try.underlying37 rfl) rfl ?_
      refine At.quiet (q_convInt Try.underlying3 Try.underlying29 rfl) rfl ?_
      refine At.quiet (q_rem rfl rfl (by omega)) rfl ?_
      refine At.quiet (q_convInt Try.underlying29 Try.underlying3 rfl) rfl ?_
      refine At.say 50 (.int .i64 (j : Int)) rfl (congrArg (Value.int .i64) hje) ?_
      refine At.quiet (q_index Try.underlying37 t3 rfl (.head _) (by simp) rfl rfl (lt_of_get hui)) rfl ?_
      refine At.quiet (q_load t3 rfl (Rd.sl0 (.head _) (map_get hui) rfl)) rfl ?_
      refine At.skim 1 rfl rfl ?_
      refine At.nil ?_
      refine At.then ?_
      refine At.seq ?_
      refine At.region ?_
      refine At.quiet (q_loadS t24 rfl (RdS.blk (.tail _ (.tail _ (.head _))) (m := 2) rfl) rfl) rfl ?_
      refine At.fld s50 t3 rfl rfl rfl (Rd.blk (.tail _ (.head _)) rfl) rfl rfl ?_
      refine At.call en26 rfl (find26 _ _) (fun _ h => ⟨h.2.2.2.2.1, h.2.2.2.2.2.1, trivial⟩) (List.Perm.refl _) rfl ?_
      rintro _ _ _ ⟨us1, rs1, rfl, rfl, rfl, hus1, hrs1⟩
      refine At.skim 1 rfl rfl ?_
      refine At.quiet (q_extract rfl rfl) rfl ?_
      refine At.quiet (q_extract rfl rfl) rfl ?_
      refine At.loud (l_alloc t40) rfl ?_
      rintro _ _ _ ⟨b3, rfl, rfl, rfl⟩
      refine At.loudN (l_store t40 rfl rfl (i := 0) rfl rfl rfl rfl) ?_
      rintro _ _ _ ⟨rfl, rfl⟩
      refine At.skim 1 rfl rfl ?_
      refine At.nil ?_
      refine At.then ?_
      refine At.seq ?_
      refine At.seq ?_
      refine At.region ?_
      refine At.skim 3 rfl rfl ?_
      refine At.say 62 (.bool false) rfl (congrArg Value.bool (by rw [hs]; rfl)) ?_
      refine At.skim 4 rfl rfl ?_
      refine At.say 66 (.bool false) rfl (congrArg Value.bool (decide_eq_false (by omega))) ?_
      refine At.skim 1 rfl rfl ?_
      refine At.open rfl rfl ?_
      refine At.quiet (q_fieldAddr s24 rfl rfl rfl) rfl ?_
      refine At.open rfl rfl ?_
      refine At.quiet (q_load t22 rfl (Rd.blk (.tail _ (.tail _ (.tail _ (.tail _ (.head _))))) rfl)) rfl ?_
      refine At.open rfl rfl ?_
      refine At.quiet (q_len Try.underlying22 rfl) rfl ?_
      refine At.skim 3 rfl rfl ?_
      refine At.say 73 (.bool false) rfl (congrArg Value.bool (decide_eq_false (by omega))) ?_
      refine At.open rfl rfl ?_
      refine At.quiet (q_fieldAddr s40 rfl rfl rfl) rfl ?_
      refine At.open rfl rfl ?_
      refine At.quiet (q_load t3 rfl (Rd.loc (i := 0) rfl rfl)) rfl ?_
      refine At.skim 3 rfl rfl ?_
      refine At.say 78 (.bool false) rfl (congrArg Value.bool (decide_eq_false (by dsimp only; omega))) ?_
      refine At.open rfl rfl ?_
      refine At.quiet (q_fieldAddr s40 rfl rfl rfl) rfl ?_
      refine At.open rfl rfl ?_
      refine At.quiet (q_load t3 rfl (Rd.loc (i := 0) rfl rfl)) rfl ?_
      refine At.open rfl rfl ?_
      refine At.quiet (q_fieldAddr s24 rfl rfl rfl) rfl ?_
      refine At.open rfl rfl ?_
      refine At.quiet (q_load t22 rfl (Rd.blk (.tail _ (.tail _ (.tail _ (.tail _ (.head _))))) rfl)) rfl ?_
      refine At.open rfl rfl ?_
      refine At.quiet (q_len Try.underlying22 rfl) rfl ?_
      refine At.skim 2 rfl rfl ?_
      refine At.nil ?_
      refine At.then ?_
      refine At.say 85 (.bool false) rfl (congrArg Value.bool (decide_eq_false (by dsimp only; omega))) ?_
      refine At.condF rfl ?_
      refine At.skip ?_
      refine At.then ?_
      refine At.seq ?_
      refine At.seq ?_
      refine At.region ?_
      refine At.skim 1 rfl rfl ?_
      refine At.quiet (q_len Try.underlying37 rfl) rfl ?_
      refine At.skim 1 rfl rfl ?_
      refine At.nil ?_
      refine At.then ?_
      refine At.block ?_
      refine At.loopK (ι := Nat) [6, 11, 13, 14, 15, 88, 89, 90, 91, 92, 93, 94, 95, 96, 97, 98, 99, 100, 101, 102, 103, 104, 105, 106, 107, 108, 109, 110, 111, 112, 113, 114, 115, 116, 117, 118, 119, 120, 121, 122, 123, 124, 125, 126, 127, 128] (fun k => [(88, .int .i64 (k : Int))]) (fun k => []) (fun k => []) _ (fun k => k ≤ lv.l.length) (fun k => lv.l.length - k) 0 (Nat.zero_le _) ⟨rfl, trivial⟩ (fun _ _ => trivial) (.refl _) ?_
      intro k hk0
      refine At.seq ?_
      refine At.region ?_
      refine At.skim 1 rfl rfl ?_
      refine At.nil ?_
      refine At.then ?_
      refine At.seq ?_
      refine At.if rfl (fun hkl => ?_) (fun hkl => ?_)
      · skip
        obtain ⟨i2, hi2⟩ := get_of_lt (l := leavesT t.p) (i := k) (by omega)
        have hui2 : lv.l[k]? = some (i2 : Int) := by rw [hplv]; exact toI_get hi2
        have hm2 := List.mem_of_getElem? hi2
        have hl2 := leavesT_lt hm2
        obtain ⟨y, hy⟩ := get_of_lt (l := t.ns.l) (i := i2) (by omega)
        have hyp : t.p.ns[i2]? = some y.p := map_get hy
        have hk1 : k + 1 ≤ lv.l.length := by omega
        refine At.skip ?_
        refine At.then ?_
        refine At.seq ?_
        refine At.block ?_
        refine At.seq ?_
        refine At.region ?_
        refine At.quiet (q_index Try.underlying37 t3 rfl (.tail _ (.tail _ (.head _))) (by simp) rfl rfl (lt_of_get hui2)) rfl ?_
        refine At.quiet (q_load t3 rfl (Rd.sl0 (.tail _ (.tail _ (.head _))) (map_get hui2) rfl)) rfl ?_
        refine At.skim 1 rfl rfl ?_
        refine At.nil ?_
        refine At.then ?_
        refine At.seq ?_
        refine At.seq ?_
        refine At.region ?_
        refine At.skim 3 rfl rfl ?_
        refine At.say 94 (.bool false) rfl (congrArg Value.bool (decide_eq_false (by omega))) ?_
        refine At.skim 1 rfl rfl ?_
        refine At.open rfl rfl ?_
        refine At.quiet (q_fieldAddr s24 rfl rfl rfl) rfl ?_
        refine At.open rfl rfl ?_
        refine At.quiet (q_load t22 rfl (Rd.blk (.tail _ (.tail _ (.tail _ (.tail _ (.head _))))) rfl)) rfl ?_
        refine At.open rfl rfl ?_
        refine At.quiet (q_len Try.underlying22 rfl) rfl ?_
        refine At.skim 2 rfl rfl ?_
        refine At.nil ?_
        refine At.then ?_
        refine At.say 100 (.bool false) rfl (congrArg Value.bool (decide_eq_false (by omega))) ?_
        refine At.condF rfl ?_
        refine At.know (prsP y.ps) (fun _ h => psP_get h.2.2.2.2.2.2.2.1 hy) ?_
        refine At.skip ?_
        refine At.then ?_
        refine At.seq ?_
        refine At.region ?_
        refine At.fld s24 t22 rfl rfl rfl (Rd.blk (.tail _ (.tail _ (.tail _ (.tail _ (.tail _ (.head _)))))) rfl) rfl rfl ?_
        refine At.skim 1 rfl rfl ?_
        refine At.quiet (q_index Try.underlying22 t33 rfl (.tail _ (.tail _ (.tail _ (.tail _ (.tail _ (.tail _ (.tail _ (.head _)))))))) (by simp) rfl rfl (lt_of_get hy)) rfl ?_
        refine At.lenOf (hs := (.head _)) fun hly => ?_
        rw [List.length_map] at hly
        refine At.fld s33 t31 rfl rfl rfl (Rd.sl (.tail _ (.tail _ (.tail _ (.tail _ (.tail _ (.tail _ (.tail _ (.head _)))))))) (map_get hy) rfl) rfl rfl ?_
        refine At.quiet (q_len Try.underlying31 rfl) rfl ?_
        refine At.skim 1 rfl rfl ?_
        refine At.nil ?_
        refine At.then ?_
        refine At.block ?_
        refine At.loopK (ι := Nat) [6, 13, 14, 15, 108, 109, 110, 111, 112, 113, 114, 115, 116, 117, 118, 119, 120, 121, 122, 123, 124, 125, 126, 127] (fun m => [(108, .int .i64 (m : Int))]) (fun m => []) (fun m => []) _ (fun m => m ≤ y.ps.l.length) (fun m => y.ps.l.length - m) 0 (Nat.zero_le _) ⟨rfl, trivial⟩ (fun _ _ => trivial) (.refl _) ?_
        intro m hm0
        refine At.seq ?_
        refine At.region ?_
        refine At.skim 1 rfl rfl ?_
        refine At.nil ?_
        refine At.then ?_
        refine At.seq ?_
        refine At.if rfl (fun hmk => ?_) (fun hmk => ?_)
        · skip
          obtain ⟨q, hq⟩ := get_of_lt (l := y.ps.l) (i := m) (by omega)
          have hm1 := lt_of_get hq
          refine At.skip ?_
          refine At.then ?_
          refine At.seq ?_
          refine At.block ?_
          refine At.seq ?_
          refine At.region ?_
          refine At.quiet (q_index Try.underlying31 t50 rfl (.head _) (by simp) rfl rfl (lt_of_get hq)) rfl ?_
          refine At.quiet (q_loadS t50 rfl (RdS.sl0 (.head _) (map_get hq)) rfl) rfl ?_
          refine At.loud (l_alloc t50) rfl ?_
          rintro _ _ _ ⟨b4, rfl, rfl, rfl⟩
          refine At.loudN (l_store t50 rfl rfl (i := 0) rfl rfl rfl rfl) ?_
          rintro _ _ _ ⟨rfl, rfl⟩
          refine At.nil ?_
          refine At.then ?_
          refine At.seq ?_
          refine At.region ?_
          refine At.quiet (q_loadS t24 rfl (RdS.blk (.tail _ (.tail _ (.tail _ (.tail _ (.tail _ (.head _)))))) (m := 2) rfl) rfl) rfl ?_
          refine At.fld s50 t3 rfl rfl rfl (Rd.loc (i := 0) rfl rfl) rfl rfl ?_
          refine At.call en26 rfl (find26 _ _) (fun _ h => ⟨h.2.2.2.2.2.2.2.1, h.2.2.2.2.2.2.2.2.1, trivial⟩) (List.Perm.refl _) rfl ?_
          rintro _ _ _ ⟨us2, rs2, rfl, rfl, rfl, hus2, hrs2⟩
          refine At.skim 1 rfl rfl ?_
          refine At.quiet (q_extract rfl rfl) rfl ?_
          refine At.quiet (q_extract rfl rfl) rfl ?_
          refine At.loud (l_alloc t40) rfl ?_
          rintro _ _ _ ⟨b5, rfl, rfl, rfl⟩
          refine At.loudN (l_store t40 rfl rfl (i := 0) rfl rfl rfl rfl) ?_
          rintro _ _ _ ⟨rfl, rfl⟩
          refine At.skim 1 rfl rfl ?_
          refine At.nil ?_
          refine At.then ?_
          refine At.seq ?_
          refine At.region ?_
          refine At.skim 3 rfl rfl ?_
          refine At.say 121 (.bool false) rfl (congrArg Value.bool (by rw [hs]; rfl)) ?_
          refine At.open rfl rfl ?_
          refine At.quiet (q_fieldAddr s40 rfl rfl rfl) rfl ?_
          refine At.open rfl rfl ?_
          refine At.quiet (q_load t3 rfl (Rd.loc (i := 0) rfl rfl)) rfl ?_
          refine At.skim 3 rfl rfl ?_
          refine At.nil ?_
          refine At.then ?_
          refine At.say 126 (.bool false) rfl (congrArg Value.bool (decide_eq_false (by rw [only_find hs hm2 hyp (List.mem_of_getElem? hq)]; simp))) ?_
          refine At.condF rfl ?_
          refine At.skip ?_
          refine At.inNormal ?_
          refine At.then ?_
          refine At.region ?_
          refine At.quiet (q_add rfl rfl (by omega) (by omega)) rfl ?_
          refine At.skim 1 rfl rfl ?_
          refine At.nil ?_
          refine At.then ?_
          exact At.againK (m + 1) hm1 (by (try dsimp only); omega) (Tells.end 26 ⟨rfl, trivial⟩ rfl rfl) (fun _ h => h.2.2) (.cons _ (.cons _ (.refl _)))
        · skip
          refine At.exit ?_
          refine At.thenExit ?_
          refine At.thenExit ?_
          refine At.inHere rfl ?_
          refine At.inNormal ?_
          refine At.then ?_
          refine At.region ?_
          refine At.quiet (q_add rfl rfl (by omega) (by omega)) rfl ?_
          refine At.skim 1 rfl rfl ?_
          refine At.nil ?_
          refine At.then ?_
          exact At.againK (k + 1) hk1 (by (try dsimp only); omega) (Tells.end 27 ⟨rfl, trivial⟩ rfl rfl) (fun _ h => h.2) (.refl _)
      · skip
        refine At.know (prsP x.ps) (fun _ h => psP_get h.2.2.2.2.2.2.2.1 hx) ?_
        have hxs := hsm x (List.mem_of_getElem? hx)
        have hwl := with_len p x.ps.l
        have hpm := pairs_mono t.p.ns (i + 1)
        rw [pairs_step hxp] at hpm
        have hpl : x.p.l.length = x.ps.l.length := rfl
        refine At.exit ?_
        refine At.thenExit ?_
        refine At.thenExit ?_
        refine At.inHere rfl ?_
        refine At.then ?_
        refine At.seq ?_
        refine At.draw 16 (.q 0 (.q 1 (.q 2 (.q 3 (.q 4 (.q 5 (.q 6 (.q 7 (.q 8 (.t 9 (.t 10 (.q 11 (.q 12 (.q 13 (.o 14 (.o 15 (.e)))))) 14 (.o 10 (.q 11 (.q 12 (.q 13 (.o 15 (.e))))))) 14 (.o 9 (.o 10 (.q 11 (.q 12 (.q 13 (.o 15 (.e))))))))))))))))) _ (List.Sublist.refl _) mixed (by kernel_rfl) rfl ?_
        refine AtO.quiet rfl (q_loadS t24 rfl (RdS.blk (.tail _ (.tail _ (.tail _ (.tail _ (.tail _ (.head _)))))) (m := 2) rfl) rfl) rfl (Calm.then Post.calm) ?_
        refine AtO.quiet rfl (q_move rfl) rfl (Calm.then Post.calm) ?_
        refine AtO.quiet rfl (q_fieldAddr s24 rfl rfl rfl) rfl (Calm.then Post.calm) ?_
        refine AtO.quiet rfl (q_load t22 rfl (Rd.blk (.tail _ (.tail _ (.tail _ (.tail _ (.tail _ (.head _)))))) rfl)) rfl (Calm.then Post.calm) ?_
        refine AtO.quiet rfl (q_move rfl) rfl (Calm.then Post.calm) ?_
        refine AtO.quiet rfl (q_index Try.underlying22 t33 rfl (.tail _ (.tail _ (.tail _ (.tail _ (.tail _ (.tail _ (.tail _ (.head _)))))))) (by simp) rfl rfl (lt_of_get hx)) rfl (Calm.then Post.calm) ?_
        refine AtO.quiet rfl (q_fieldAddr s33 rfl rfl rfl) rfl (Calm.then Post.calm) ?_
        refine AtO.quiet rfl (q_load t31 rfl (Rd.sl (.tail _ (.tail _ (.tail _ (.tail _ (.tail _ (.tail _ (.tail _ (.head _)))))))) (map_get hx) rfl)) rfl (Calm.then Post.calm) ?_
        refine AtO.quiet rfl (q_loadS t50 rfl (RdS.blk (.tail _ (.tail _ (.tail _ (.tail _ (.head _))))) (m := 2) rfl) rfl) rfl (Calm.then Post.calm) ?_
        refine AtO.two ?_ ?_
        · skip
          refine AtO.call rfl en35 rfl (with35f _ _ hxs) (fun _ h => ⟨h.1, trivial⟩) (List.Perm.refl _) rfl (.refl _) ?_
          rintro _ _ _ ⟨wl, rfl, rfl, rfl, hwe⟩
          refine AtO.two ?_ ?_
          · skip
            refine AtO.call rfl en34 rfl (set34 _ (by assumption) _ _ (by rw [hwe]; omega) _) (fun _ h => ⟨h.2.2.2.2.2.2.2.2.1, h.2.2.2.2.2.2.2.2.2.1, h.1, trivial⟩) (List.Perm.refl _) rfl (.refl _) ?_
            rintro _ _ _ ⟨w1, Mw1, rfl, rfl, rfl, hw1, hwp1⟩
            refine AtO.quiet rfl (q_move rfl) rfl (Calm.then Post.calm) ?_
            refine AtO.quiet rfl (q_extract rfl rfl) rfl (Calm.then Post.calm) ?_
            refine AtO.quiet rfl (q_extract rfl rfl) rfl (Calm.then Post.calm) ?_
            refine AtO.loud rfl (l_alloc t24) rfl (by rintro _ _ _ ⟨_, rfl, rfl, rfl⟩; exact ⟨fun _ h => h, .cons _ (.cons _ (.cons_cons _ (.refl _)))⟩) ?_
            rintro _ _ _ ⟨b6, rfl, rfl, rfl⟩
            refine AtO.loudNA rfl (l_store t24 rfl rfl (i := 0) rfl rfl rfl rfl) (by rintro _ _ _ ⟨rfl, rfl⟩; exact ⟨fun _ h => h, (.cons _ (.cons _ (.cons_cons _ (.refl _))))⟩) ?_
            rintro _ _ _ ⟨rfl, rfl⟩
            refine AtO.done ?_
            refine At.skim 1 rfl rfl ?_
            refine At.nil ?_
            refine At.then ?_
            refine At.seq ?_
            refine At.region ?_
            refine At.skim 2 rfl rfl ?_
            refine At.fld s40 t3 rfl rfl rfl (Rd.loc (i := 2) rfl rfl) rfl rfl ?_
            refine At.skim 1 rfl rfl ?_
            refine At.quiet (q_eqBool Try.underlying4 rfl rfl) rfl ?_
            refine At.skim 1 rfl rfl ?_
            refine At.say 149 (.bool true) rfl (congrArg Value.bool (only_end hwe hs hmem hxp)) ?_
            refine At.open rfl rfl ?_
            refine At.call en23 rfl (awake23) (fun _ _ => trivial) (List.Perm.refl _) rfl ?_
            rintro _ _ _ ⟨rfl, rfl, rfl⟩
            refine At.skim 2 rfl rfl ?_
            refine At.nil ?_
            refine At.then ?_
            refine At.ret ?_
            exact At.results (Γr := []) (M := []) rfl (RVals.cons (RVal.tmp rfl) RVals.nil) (.tail _ (.tail _ (.tail _ (.tail _ (.tail _ (.tail _ (.tail _ (.tail _ (.head _))))))))) (fun _ _ => trivial) (.cons _ (.cons _ (.cons _ (.refl _)))) ⟨rfl, rfl, rfl⟩
          · skip
            refine AtO.loud rfl (l_alloc t24) rfl (by rintro _ _ _ ⟨_, rfl, rfl, rfl⟩; exact ⟨fun _ h => h, .cons _ (.refl _)⟩) ?_
            rintro _ _ _ ⟨b7, rfl, rfl, rfl⟩
            refine AtO.call rfl en34 rfl (set34 _ (by assumption) _ _ (by rw [hwe]; omega) _) (fun _ h => ⟨h.2.2.2.2.2.2.2.2.1, h.2.2.2.2.2.2.2.2.2.1, h.1, trivial⟩) (List.Perm.refl _) rfl (.cons _ (.cons_cons _ (.refl _))) ?_
            rintro _ _ _ ⟨w1, Mw1, rfl, rfl, rfl, hw1, hwp1⟩
            refine AtO.quiet rfl (q_move rfl) rfl (Calm.then Post.calm) ?_
            refine AtO.quiet rfl (q_extract rfl rfl) rfl (Calm.then Post.calm) ?_
            refine AtO.quiet rfl (q_extract rfl rfl) rfl (Calm.then Post.calm) ?_
            refine AtO.loudNA rfl (l_store t24 rfl rfl (i := 1) rfl rfl rfl rfl) (by rintro _ _ _ ⟨rfl, rfl⟩; exact ⟨fun _ h => h, (.cons _ (.cons _ (.cons_cons _ (.refl _))))⟩) ?_
            rintro _ _ _ ⟨rfl, rfl⟩
            refine AtO.done ?_
            refine At.skim 1 rfl rfl ?_
            refine At.nil ?_
            refine At.then ?_
            refine At.seq ?_
            refine At.region ?_
            refine At.skim 2 rfl rfl ?_
            refine At.fld s40 t3 rfl rfl rfl (Rd.loc (i := 2) rfl rfl) rfl rfl ?_
            refine At.skim 1 rfl rfl ?_
            refine At.quiet (q_eqBool Try.underlying4 rfl rfl) rfl ?_
            refine At.skim 1 rfl rfl ?_
            refine At.say 149 (.bool true) rfl (congrArg Value.bool (only_end hwe hs hmem hxp)) ?_
            refine At.open rfl rfl ?_
            refine At.call en23 rfl (awake23) (fun _ _ => trivial) (List.Perm.refl _) rfl ?_
            rintro _ _ _ ⟨rfl, rfl, rfl⟩
            refine At.skim 2 rfl rfl ?_
            refine At.nil ?_
            refine At.then ?_
            refine At.ret ?_
            exact At.results (Γr := []) (M := []) rfl (RVals.cons (RVal.tmp rfl) RVals.nil) (.tail _ (.tail _ (.tail _ (.tail _ (.tail _ (.tail _ (.tail _ (.tail _ (.head _))))))))) (fun _ _ => trivial) (.cons _ (.cons _ (.cons _ (.refl _)))) ⟨rfl, rfl, rfl⟩
        · skip
          refine AtO.loud rfl (l_alloc t24) rfl (by rintro _ _ _ ⟨_, rfl, rfl, rfl⟩; exact ⟨fun _ h => h, .cons _ (.refl _)⟩) ?_
          rintro _ _ _ ⟨b8, rfl, rfl, rfl⟩
          refine AtO.call rfl en35 rfl (with35f _ _ hxs) (fun _ h => ⟨h.1, trivial⟩) (List.Perm.refl _) rfl (.cons _ (.cons_cons _ (.refl _))) ?_
          rintro _ _ _ ⟨wl, rfl, rfl, rfl, hwe⟩
          refine AtO.call rfl en34 rfl (set34 _ (by assumption) _ _ (by rw [hwe]; omega) _) (fun _ h => ⟨h.2.2.2.2.2.2.2.2.1, h.2.2.2.2.2.2.2.2.2.1, h.1, trivial⟩) (List.Perm.refl _) rfl (.cons _ (.cons_cons _ (.refl _))) ?_
          rintro _ _ _ ⟨w1, Mw1, rfl, rfl, rfl, hw1, hwp1⟩
          refine AtO.quiet rfl (q_move rfl) rfl (Calm.then Post.calm) ?_
          refine AtO.quiet rfl (q_extract rfl rfl) rfl (Calm.then Post.calm) ?_
          refine AtO.quiet rfl (q_extract rfl rfl) rfl (Calm.then Post.calm) ?_
          refine AtO.loudNA rfl (l_store t24 rfl rfl (i := 1) rfl rfl rfl rfl) (by rintro _ _ _ ⟨rfl, rfl⟩; exact ⟨fun _ h => h, (.cons _ (.cons _ (.cons_cons _ (.refl _))))⟩) ?_
          rintro _ _ _ ⟨rfl, rfl⟩
          refine AtO.done ?_
          refine At.skim 1 rfl rfl ?_
          refine At.nil ?_
          refine At.then ?_
          refine At.seq ?_
          refine At.region ?_
          refine At.skim 2 rfl rfl ?_
          refine At.fld s40 t3 rfl rfl rfl (Rd.loc (i := 2) rfl rfl) rfl rfl ?_
          refine At.skim 1 rfl rfl ?_
          refine At.quiet (q_eqBool Try.underlying4 rfl rfl) rfl ?_
          refine At.skim 1 rfl rfl ?_
          refine At.say 149 (.bool true) rfl (congrArg Value.bool (only_end hwe hs hmem hxp)) ?_
          refine At.open rfl rfl ?_
          refine At.call en23 rfl (awake23) (fun _ _ => trivial) (List.Perm.refl _) rfl ?_
          rintro _ _ _ ⟨rfl, rfl, rfl⟩
          refine At.skim 2 rfl rfl ?_
          refine At.nil ?_
          refine At.then ?_
          refine At.ret ?_
          exact At.results (Γr := []) (M := []) rfl (RVals.cons (RVal.tmp rfl) RVals.nil) (.tail _ (.tail _ (.tail _ (.tail _ (.tail _ (.tail _ (.tail _ (.tail _ (.head _))))))))) (fun _ _ => trivial) (.cons _ (.cons _ (.cons _ (.refl _)))) ⟨rfl, rfl, rfl⟩

set_option maxHeartbeats 1000000 in
theorem plain7 (t : Tr) (hz : ∀ n ∈ t.ns.l, n.ps.l.length ≤ 8796093022208) (turn : Int) : Con Try.prog 7 [t.val, .int .i64 turn] [ndsP t.ns, psP t.ns.l] [] (fun v Γ M => v = .bool true ∧ Γ = [] ∧ M = []) := by
  refine Con.body 122 Try.func7 rfl Try.ntmps7 rfl fun X H₀ L₀ => ?_
  refine At.seq ?_
  refine At.region ?_
  refine At.loud (l_box rfl) rfl ?_
  rintro _ _ _ ⟨b1, rfl, rfl, rfl⟩
  refine At.freeze 0 (φ := blk b1 _) rfl (fun _ h => blk_def.2 ⟨_, _, h⟩) ?_
  refine At.skim 1 rfl rfl ?_
  refine At.nil ?_
  refine At.then ?_
  refine At.seq ?_
  refine At.seq ?_
  refine At.region ?_
  refine At.quiet (q_loadS t24 rfl (RdS.blk (.head _) (m := 2) rfl) rfl) rfl ?_
  refine At.call en20 rfl (light20 _ (by assumption)) (fun _ h => ⟨h.2.2.1, trivial⟩) (List.Perm.refl _) rfl ?_
  rintro _ _ _ ⟨rfl, rfl, rfl⟩
  refine At.skim 1 rfl rfl ?_
  refine At.nil ?_
  refine At.then ?_
  refine At.if rfl (fun hlg => ?_) (fun hlg => ?_)
  · skip
    refine At.seq ?_
    refine At.region ?_
    refine At.call en23 rfl (awake23) (fun _ _ => trivial) (List.Perm.refl _) rfl ?_
    rintro _ _ _ ⟨rfl, rfl, rfl⟩
    refine At.skim 1 rfl rfl ?_
    refine At.nil ?_
    refine At.then ?_
    refine At.ret ?_
    refine At.thenRet ?_
    exact At.results (Γr := []) (M := []) rfl (RVals.cons (RVal.tmp rfl) RVals.nil) (.tail _ (.head _)) (fun _ _ => trivial) (.refl _) ⟨rfl, rfl, rfl⟩
  · skip
    have hli : lightT t.p = true := light_yes hlg
    obtain ⟨h450, hsm, hp2000⟩ := small_of_light hli
    have hN : t.p.ns.length = t.ns.l.length := by simp [Tr.p]
    refine At.skip ?_
    refine At.then ?_
    refine At.seq ?_
    refine At.region ?_
    refine At.quiet (q_loadS t24 rfl (RdS.blk (.head _) (m := 2) rfl) rfl) rfl ?_
    refine At.call en25 rfl (plain25 _ (by assumption)) (fun _ h => ⟨h.2.2.1, h.2.2.2.1, trivial⟩) (List.Perm.refl _) rfl ?_
    rintro _ _ _ ⟨p, Mp, rfl, rfl, rfl, hp, hpp⟩
    refine At.skim 1 rfl rfl ?_
    refine At.quiet (q_extract rfl rfl) rfl ?_
    refine At.quiet (q_extract rfl rfl) rfl ?_
    refine At.loud (l_alloc t24) rfl ?_
    rintro _ _ _ ⟨b2, rfl, rfl, rfl⟩
    refine At.loudN (l_store t24 rfl rfl (i := 0) rfl rfl rfl rfl) ?_
    rintro _ _ _ ⟨rfl, rfl⟩
    refine At.skim 1 rfl rfl ?_
    refine At.nil ?_
    refine At.then ?_
    refine At.seq ?_
    refine At.seq ?_
    refine At.region ?_
    refine At.skim 2 rfl rfl ?_
    refine At.nil ?_
    refine At.then ?_
    refine At.cond rfl (fun hm => ?_) (fun hm => ?_)
    · skip
      refine At.seq ?_
      refine At.region ?_
      refine At.fld s24 t22 rfl rfl rfl (Rd.loc (i := 0) rfl rfl) rfl rfl ?_
      refine At.quiet (q_len Try.underlying22 rfl) rfl ?_
      refine At.skim 2 rfl rfl ?_
      refine At.say 29 (.bool true) rfl (congrArg Value.bool (decide_eq_true (by rw [plain_none_len (not_t hm) hpp]; rfl))) ?_
      refine At.open rfl rfl ?_
      refine At.quiet (q_loadS t24 rfl (RdS.blk (.tail _ (.head _)) (m := 2) rfl) rfl) rfl ?_
      refine At.open rfl rfl ?_
      refine At.call en21 rfl (may21 _) (fun _ h => ⟨h.2.2.2.1, h.2.2.2.2.1, trivial⟩) (List.Perm.refl _) rfl ?_
      rintro _ _ _ ⟨rfl, rfl, rfl⟩
      refine At.skim 3 rfl rfl ?_
      refine At.say 34 (.bool true) rfl (congrArg Value.bool (hm)) ?_
      refine At.open rfl rfl ?_
      refine At.call en23 rfl (awake23) (fun _ _ => trivial) (List.Perm.refl _) rfl ?_
      rintro _ _ _ ⟨rfl, rfl, rfl⟩
      refine At.skim 2 rfl rfl ?_
      refine At.nil ?_
      refine At.then ?_
      refine At.ret ?_
      refine At.thenRet ?_
      exact At.results (Γr := []) (M := []) rfl (RVals.cons (RVal.tmp rfl) RVals.nil) (.tail _ (.tail _ (.head _))) (fun _ _ => trivial) (.cons _ (.cons _ (.refl _))) ⟨rfl, rfl, rfl⟩
    · skip
      refine At.skip ?_
      refine At.then ?_
      refine At.seq ?_
      refine At.region ?_
      obtain ⟨s, hs⟩ := Option.isSome_iff_exists.1 (not_f hm)
      have hpos := may_pos hs
      have hpl := plain_len hs hpp
      have hr0 : p.root = 0 := (congrArg PT.root hpp).trans (plainD_root _)
      refine At.freezeOwn 1 hp rfl ?_
      refine At.fld s24 t22 rfl rfl rfl (Rd.loc (i := 0) rfl rfl) rfl rfl ?_
      refine At.quiet (q_len Try.underlying22 rfl) rfl ?_
      refine At.skim 1 rfl rfl ?_
      refine At.nil ?_
      refine At.then ?_
      refine At.seq ?_
      refine At.seq ?_
      refine At.region ?_
      refine At.skim 2 rfl rfl ?_
      refine At.nil ?_
      refine At.then ?_
      refine At.say 41 (.bool false) rfl (congrArg Value.bool (decide_eq_false (by omega))) ?_
      refine At.condF rfl ?_
      refine At.skip ?_
      refine At.then ?_
      refine At.seq ?_
      refine At.region ?_
      obtain ⟨k, hk, hke, hkne⟩ := pick (a := turn) (n := p.ns.l.length) (by omega) (by omega)
      refine At.skim 1 rfl rfl ?_
      refine At.quiet (q_convInt Try.underlying3 Try.underlying29 rfl) rfl ?_
      refine At.skim 1 rfl rfl ?_
      refine At.quiet (q_convInt Try.underlying3 Try.underlying29 rfl) rfl ?_
      refine At.quiet (q_rem rfl rfl (by omega)) rfl ?_
      refine At.quiet (q_convInt Try.underlying29 Try.underlying3 rfl) rfl ?_
      refine At.say 47 (.int .i64 (k : Int)) rfl (congrArg (Value.int .i64) hke) ?_
      refine At.skim 1 rfl rfl ?_
      refine At.nil ?_
      refine At.then ?_
      refine At.cutD (ι := Nat × Nat × Seg) .z [9, 48, 49, 50, 51, 52, 53, 54, 55, 56] (fun ⟨b9, bm, Mm⟩ => [(9, .pointer (some ⟨b9, 0, none⟩))]) (fun ⟨b9, bm, Mm⟩ => []) (fun ⟨b9, bm, Mm⟩ => [[(b9, .cells #[.int .i64 (Int.tmod (p.root + (k : Int)) (p.ns.l.length : Int)), .slice (some ⟨bm, 0, none⟩) p.ns.l.length p.ns.l.length] 24 (0, 0))], Mm]) (fun ⟨b9, bm, Mm⟩ => Own 33 6 ((List.replicate p.ns.l.length zeroN).map rowN) (some ⟨bm, 0, none⟩) p.ns.l.length Mm) ?_ ?_
      · skip
        refine At.draw 10 (.q 0 (.q 1 (.q 2 (.q 3 (.q 4 (.q 5 (.q 6 (.t 7 (.q 8 (.o 9 (.e))) 9 (.o 7 (.q 8 (.e))))))))))) _ (List.Sublist.refl _) mixed (by kernel_rfl) rfl ?_
        refine AtO.quiet rfl (q_fieldAddr s24 rfl rfl rfl) rfl (Calm.then Post.calm) ?_
        refine AtO.quiet rfl (q_load t3 rfl (Rd.loc (i := 0) rfl rfl)) rfl (Calm.then Post.calm) ?_
        refine AtO.quiet rfl (q_move rfl) rfl (Calm.then Post.calm) ?_
        refine AtO.quiet rfl (q_add rfl rfl (by omega) (by omega)) rfl (Calm.then Post.calm) ?_
        refine AtO.quiet rfl (q_move rfl) rfl (Calm.then Post.calm) ?_
        refine AtO.quiet rfl (q_rem rfl rfl (by omega)) rfl (Calm.then Post.calm) ?_
        refine AtO.quiet rfl (q_move rfl) rfl (Calm.then Post.calm) ?_
        refine AtO.two ?_ ?_
        · skip
          refine AtO.loudA rfl (l_makeSlice (m := p.ns.l.length) Try.underlying22 t33 rfl rfl rfl rfl rfl (by omega) (by unfold maxLen; omega)) rfl (by rintro _ _ _ ⟨_, _, rfl, _, rfl, rfl⟩; exact ⟨fun _ h => h, .cons _ (.refl _)⟩) ?_
          rintro _ _ _ ⟨bm, m, rfl, hO, rfl, rfl⟩
          refine AtO.quiet rfl (q_build t24 s24 rfl rfl) rfl (Calm.then Post.calm) ?_
          refine AtO.loudA rfl (l_alloc t24) rfl (by rintro _ _ _ ⟨_, rfl, rfl, rfl⟩; exact ⟨fun _ h => h, .cons _ (.refl _)⟩) ?_
          rintro _ _ _ ⟨b3, rfl, rfl, rfl⟩
          refine AtO.done ?_
          refine At.loudN (l_store t24 rfl rfl (i := 0) rfl rfl rfl rfl) ?_
          rintro _ _ _ ⟨rfl, rfl⟩
          refine At.nil ?_
          refine At.front 1 rfl ?_
          refine At.front 1 rfl ?_
          refine At.then ?_
          exact At.meetK (b3, bm, m) (by rw [← zero_rows]; exact hO) (Tells.meet 10 ⟨rfl, trivial⟩ rfl rfl) (fun _ h => h) (.cons_cons _ (.cons_cons _ (.refl _)))
        · skip
          refine AtO.loudA rfl (l_alloc t24) rfl (by rintro _ _ _ ⟨_, rfl, rfl, rfl⟩; exact ⟨fun _ h => h, .cons _ (.refl _)⟩) ?_
          rintro _ _ _ ⟨b4, rfl, rfl, rfl⟩
          refine AtO.loudA rfl (l_makeSlice (m := p.ns.l.length) Try.underlying22 t33 rfl rfl rfl rfl rfl (by omega) (by unfold maxLen; omega)) rfl (by rintro _ _ _ ⟨_, _, rfl, _, rfl, rfl⟩; exact ⟨fun _ h => h, .cons _ (.refl _)⟩) ?_
          rintro _ _ _ ⟨bm, m, rfl, hO, rfl, rfl⟩
          refine AtO.quiet rfl (q_build t24 s24 rfl rfl) rfl (Calm.then Post.calm) ?_
          refine AtO.done ?_
          refine At.loudN (l_store t24 rfl rfl (i := 1) rfl rfl rfl rfl) ?_
          rintro _ _ _ ⟨rfl, rfl⟩
          refine At.nil ?_
          refine At.front 0 rfl ?_
          refine At.front 1 rfl ?_
          refine At.then ?_
          exact At.meetK (b4, bm, m) (by rw [← zero_rows]; exact hO) (Tells.meet 10 ⟨rfl, trivial⟩ rfl rfl) (fun _ h => h) (.cons_cons _ (.cons_cons _ (.refl _)))
      intro j0 hO9
      obtain ⟨b9, bm, Mm⟩ := j0
      refine At.seq ?_
      refine At.seq ?_
      refine At.region ?_
      refine At.fld s24 t22 rfl rfl rfl (Rd.loc (i := 2) rfl rfl) rfl rfl ?_
      refine At.quiet (q_len Try.underlying22 rfl) rfl ?_
      refine At.skim 1 rfl rfl ?_
      refine At.nil ?_
      refine At.then ?_
      refine At.block ?_
      refine At.front 1 rfl ?_
      refine At.loopK (ι := Nat × List Nd × Seg) [10, 11, 60, 61, 62, 63, 64, 65, 66, 67, 68, 69, 70, 71, 72, 73, 74, 75, 76, 77, 78, 79, 80, 81, 82, 83, 84, 85, 86, 87, 88, 89, 90] (fun ⟨i, o, M⟩ => [(60, .int .i64 (i : Int))]) (fun ⟨i, o, M⟩ => [psP o]) (fun ⟨i, o, M⟩ => [M]) _ (fun ⟨i, o, M⟩ => i ≤ p.ns.l.length ∧ Own 33 6 (o.map rowN) (some ⟨bm, 0, none⟩) p.ns.l.length M ∧ Turn p k o i ∧ smallP o) (fun ⟨i, o, M⟩ => p.ns.l.length - i) (0, List.replicate p.ns.l.length zeroN, Mm) ⟨Nat.zero_le _, hO9, turn_zero p k, small_zero _⟩ ⟨rfl, trivial⟩ (fun _ _ => ⟨psP_zero _, trivial⟩) (.cons_cons _ (.refl _)) ?_
      intro i0 hI0
      obtain ⟨i, o, M⟩ := i0
      obtain ⟨hil, hO, hT, hso⟩ := hI0
      refine At.seq ?_
      refine At.region ?_
      refine At.skim 1 rfl rfl ?_
      refine At.nil ?_
      refine At.then ?_
      refine At.seq ?_
      refine At.if rfl (fun hki => ?_) (fun hki => ?_)
      · skip
        obtain ⟨y, hy⟩ := get_of_lt (l := p.ns.l) (i := i) (by omega)
        have hi1 := lt_of_get hy
        have hsy := small_plain hs hpp hsm y (List.mem_of_getElem? hy)
        have hol := hT.1
        obtain ⟨z, hz⟩ := get_of_lt (l := o) (i := ((i + k) % p.ns.l.length)) (by rw [hol]; exact Nat.mod_lt _ (by omega))
        have hzl : ((i + k) % p.ns.l.length) < p.ns.l.length := Nat.mod_lt _ (by omega)
        refine At.know (prsP y.ps) (fun _ h => psP_get h.2.2.1 hy) ?_
        refine At.skip ?_
        refine At.then ?_
        refine At.seq ?_
        refine At.block ?_
        refine At.seq ?_
        refine At.region ?_
        refine At.skim 1 rfl rfl ?_
        refine At.quiet (q_index Try.underlying22 t33 rfl (.tail _ (.tail _ (.head _))) (by simp) rfl rfl (lt_of_get hy)) rfl ?_
        refine At.quiet (q_loadS t33 rfl (RdS.sl0 (.tail _ (.tail _ (.head _))) (map_get hy)) rfl) rfl ?_
        refine At.loud (l_alloc t33) rfl ?_
        rintro _ _ _ ⟨b5, rfl, rfl, rfl⟩
        refine At.skim 1 rfl rfl ?_
        refine At.loudN (l_store t33 rfl rfl (i := 0) rfl rfl rfl rfl) ?_
        rintro _ _ _ ⟨rfl, rfl⟩
        refine At.nil ?_
        refine At.then ?_
        refine At.seq ?_
        refine At.seq ?_
        refine At.region ?_
        refine At.fld s33 t4 rfl rfl rfl (Rd.loc (i := 0) rfl rfl) rfl rfl ?_
        refine At.nil ?_
        refine At.then ?_
        refine At.cond rfl (fun hr => ?_) (fun hr => ?_)
        · skip
          obtain ⟨k1, k2, k3, k4⟩ := plain_kids hs hpp hy hr
          refine At.draw 14 (.q 0 (.q 2 (.q 4 (.q 6 (.q 8 (.q 10 (.t 1 (.q 3 (.q 5 (.o 7 (.q 9 (.q 11 (.q 12 (.o 13 (.e)))))))) 7 (.q 9 (.q 11 (.o 1 (.q 3 (.q 5 (.q 12 (.o 13 (.e))))))))))))))) (_ :: _ :: _ :: L₀) (.cons _ (.cons_cons _ (.cons_cons _ (.cons_cons _ (.refl _))))) mixed (by kernel_rfl) rfl ?_
          refine AtO.quiet rfl (q_fieldAddr s33 rfl rfl rfl) rfl (Calm.then (Calm.inBlock (Calm.then (Calm.then (Calm.inBlock (Calm.then Post.calm)))))) ?_
          refine AtO.quiet rfl (q_move rfl) rfl (Calm.then (Calm.inBlock (Calm.then (Calm.then (Calm.inBlock (Calm.then Post.calm)))))) ?_
          refine AtO.quiet rfl (q_move rfl) rfl (Calm.then (Calm.inBlock (Calm.then (Calm.then (Calm.inBlock (Calm.then Post.calm)))))) ?_
          refine AtO.quiet rfl (q_fieldAddr s33 rfl rfl rfl) rfl (Calm.then (Calm.inBlock (Calm.then (Calm.then (Calm.inBlock (Calm.then Post.calm)))))) ?_
          refine AtO.quiet rfl (q_move rfl) rfl (Calm.then (Calm.inBlock (Calm.then (Calm.then (Calm.inBlock (Calm.then Post.calm)))))) ?_
          refine AtO.quiet rfl (q_move rfl) rfl (Calm.then (Calm.inBlock (Calm.then (Calm.then (Calm.inBlock (Calm.then Post.calm)))))) ?_
          refine AtO.two ?_ ?_
          · skip
            refine AtO.loud rfl (Quiet.loud (q_load t3 rfl (Rd.loc (i := 0) rfl rfl))) rfl (by rintro _ _ _ ⟨rfl, rfl, rfl⟩; exact ⟨fun _ h => h, (.cons _ (.cons_cons _ (.cons_cons _ (.cons_cons _ (.refl _)))))⟩) ?_
            rintro _ _ _ ⟨rfl, rfl, rfl⟩
            refine AtO.quiet rfl (q_add rfl rfl (by omega) (by omega)) rfl (Calm.then (Calm.inBlock (Calm.then (Calm.then (Calm.inBlock (Calm.then Post.calm)))))) ?_
            refine AtO.quiet rfl (q_rem rfl rfl (by omega)) rfl (Calm.then (Calm.inBlock (Calm.then (Calm.then (Calm.inBlock (Calm.then Post.calm)))))) ?_
            refine AtO.loud rfl (Quiet.loud (q_load t3 rfl (Rd.loc (i := 0) rfl rfl))) rfl (by rintro _ _ _ ⟨rfl, rfl, rfl⟩; exact ⟨fun _ h => h, (.cons _ (.cons_cons _ (.cons_cons _ (.cons_cons _ (.refl _)))))⟩) ?_
            rintro _ _ _ ⟨rfl, rfl, rfl⟩
            refine AtO.quiet rfl (q_add rfl rfl (by omega) (by omega)) rfl (Calm.then (Calm.inBlock (Calm.then (Calm.then (Calm.inBlock (Calm.then Post.calm)))))) ?_
            refine AtO.quiet rfl (q_rem rfl rfl (by omega)) rfl (Calm.then (Calm.inBlock (Calm.then (Calm.then (Calm.inBlock (Calm.then Post.calm)))))) ?_
            refine AtO.quiet rfl (q_fieldAddr s33 rfl rfl rfl) rfl (Calm.then (Calm.inBlock (Calm.then (Calm.then (Calm.inBlock (Calm.then Post.calm)))))) ?_
            refine AtO.loudNA rfl (l_store t3 rfl rfl (i := 0) rfl rfl rfl rfl) (by rintro _ _ _ ⟨rfl, rfl⟩; exact ⟨fun _ h => h, (.cons _ (.cons_cons _ (.cons_cons _ (.cons_cons _ (.refl _)))))⟩) ?_
            rintro _ _ _ ⟨rfl, rfl⟩
            refine AtO.done ?_
            refine At.quiet (q_fieldAddr s33 rfl rfl rfl) rfl ?_
            refine At.loudN (l_store t3 rfl rfl (i := 0) rfl rfl rfl rfl) ?_
            rintro _ _ _ ⟨rfl, rfl⟩
            refine At.nil ?_
            refine At.then ?_
            refine At.draw 8 (.q 0 (.q 1 (.q 2 (.q 3 (.q 4 (.q 5 (.q 6 (.q 7 (.e))))))))) _ (List.Sublist.refl _) mixed (by kernel_rfl) rfl ?_
            refine AtO.quiet rfl (q_fieldAddr s24 rfl rfl rfl) rfl (Calm.inBlock (Calm.then (Calm.then (Calm.inBlock (Calm.then Post.calm))))) ?_
            refine AtO.quiet rfl (q_load t22 rfl (Rd.loc (i := 2) rfl rfl)) rfl (Calm.inBlock (Calm.then (Calm.then (Calm.inBlock (Calm.then Post.calm))))) ?_
            refine AtO.quiet rfl (q_move rfl) rfl (Calm.inBlock (Calm.then (Calm.then (Calm.inBlock (Calm.then Post.calm))))) ?_
            refine AtO.quiet rfl (q_move rfl) rfl (Calm.inBlock (Calm.then (Calm.then (Calm.inBlock (Calm.then Post.calm))))) ?_
            refine AtO.quiet rfl (q_add rfl rfl (by omega) (by omega)) rfl (Calm.inBlock (Calm.then (Calm.then (Calm.inBlock (Calm.then Post.calm))))) ?_
            refine AtO.quiet rfl (q_move rfl) rfl (Calm.inBlock (Calm.then (Calm.then (Calm.inBlock (Calm.then Post.calm))))) ?_
            refine AtO.quiet rfl (q_rem rfl rfl (by omega)) rfl (Calm.inBlock (Calm.then (Calm.then (Calm.inBlock (Calm.then Post.calm))))) ?_
            refine AtO.say 87 (.int .i64 ((((i + k) % p.ns.l.length) : Nat) : Int)) rfl (congrArg (Value.int .i64) (by rw [← Int.natCast_add]; rfl)) ?_
            refine AtO.quiet rfl (q_loadS t33 rfl (RdS.loc (i := 0) rfl (m := 6) rfl) rfl) rfl (Calm.inBlock (Calm.then (Calm.then (Calm.inBlock (Calm.then Post.calm))))) ?_
            refine AtO.done ?_
            refine At.quiet (q_indexOwn Try.underlying22 t33 rfl hO (by simp [hol]) rfl rfl hzl) rfl ?_
            refine At.loudN (l_storeOwn0 t33 rfl rfl hO (i := 1) rfl (map_get hz) rfl rfl rfl) ?_
            rintro _ _ _ ⟨Mow1, ow1, rfl, rfl⟩
            refine At.nil ?_
            refine At.inNormal ?_
            refine At.then ?_
            refine At.region ?_
            have hO2 : Own 33 6 ((o.set ((i + k) % p.ns.l.length) { y with left := Int.tmod (y.left + (k : Int)) (p.ns.l.length : Int), right := Int.tmod (y.right + (k : Int)) (p.ns.l.length : Int) }).map rowN) (some ⟨bm, 0, none⟩) p.ns.l.length Mow1 := by rw [row_set]; exact ow1
            refine At.know (psP (o.set ((i + k) % p.ns.l.length) { y with left := Int.tmod (y.left + (k : Int)) (p.ns.l.length : Int), right := Int.tmod (y.right + (k : Int)) (p.ns.l.length : Int) })) (fun _ h => psP_set (n := { y with left := Int.tmod (y.left + (k : Int)) (p.ns.l.length : Int), right := Int.tmod (y.right + (k : Int)) (p.ns.l.length : Int) }) h.2.1 h.1) ?_
            refine At.quiet (q_add rfl rfl (by omega) (by omega)) rfl ?_
            refine At.skim 1 rfl rfl ?_
            refine At.nil ?_
            refine At.front 1 rfl ?_
            refine At.then ?_
            exact At.againK (i + 1, o.set ((i + k) % p.ns.l.length) { y with left := Int.tmod (y.left + (k : Int)) (p.ns.l.length : Int), right := Int.tmod (y.right + (k : Int)) (p.ns.l.length : Int) }, _) ⟨hi1, hO2, hT.step hy (turnN_route hr k1 k3), small_set hso hsy⟩ (by (try dsimp only); omega) (Tells.end 35 ⟨rfl, trivial⟩ rfl rfl) (fun _ h => ⟨h.1, h.2.2.2⟩) (.cons_cons _ (.cons _ (.refl _)))
          · skip
            refine AtO.loud rfl (Quiet.loud (q_load t3 rfl (Rd.loc (i := 0) rfl rfl))) rfl (by rintro _ _ _ ⟨rfl, rfl, rfl⟩; exact ⟨fun _ h => h, (.cons _ (.cons_cons _ (.cons_cons _ (.cons_cons _ (.refl _)))))⟩) ?_
            rintro _ _ _ ⟨rfl, rfl, rfl⟩
            refine AtO.quiet rfl (q_add rfl rfl (by omega) (by omega)) rfl (Calm.then (Calm.inBlock (Calm.then (Calm.then (Calm.inBlock (Calm.then Post.calm)))))) ?_
            refine AtO.quiet rfl (q_rem rfl rfl (by omega)) rfl (Calm.then (Calm.inBlock (Calm.then (Calm.then (Calm.inBlock (Calm.then Post.calm)))))) ?_
            refine AtO.loud rfl (Quiet.loud (q_load t3 rfl (Rd.loc (i := 0) rfl rfl))) rfl (by rintro _ _ _ ⟨rfl, rfl, rfl⟩; exact ⟨fun _ h => h, (.cons _ (.cons_cons _ (.cons_cons _ (.cons_cons _ (.refl _)))))⟩) ?_
            rintro _ _ _ ⟨rfl, rfl, rfl⟩
            refine AtO.quiet rfl (q_add rfl rfl (by omega) (by omega)) rfl (Calm.then (Calm.inBlock (Calm.then (Calm.then (Calm.inBlock (Calm.then Post.calm)))))) ?_
            refine AtO.quiet rfl (q_rem rfl rfl (by omega)) rfl (Calm.then (Calm.inBlock (Calm.then (Calm.then (Calm.inBlock (Calm.then Post.calm)))))) ?_
            refine AtO.quiet rfl (q_fieldAddr s33 rfl rfl rfl) rfl (Calm.then (Calm.inBlock (Calm.then (Calm.then (Calm.inBlock (Calm.then Post.calm)))))) ?_
            refine AtO.loudNA rfl (l_store t3 rfl rfl (i := 0) rfl rfl rfl rfl) (by rintro _ _ _ ⟨rfl, rfl⟩; exact ⟨fun _ h => h, (.cons _ (.cons_cons _ (.cons_cons _ (.cons_cons _ (.refl _)))))⟩) ?_
            rintro _ _ _ ⟨rfl, rfl⟩
            refine AtO.done ?_
            refine At.quiet (q_fieldAddr s33 rfl rfl rfl) rfl ?_
            refine At.loudN (l_store t3 rfl rfl (i := 0) rfl rfl rfl rfl) ?_
            rintro _ _ _ ⟨rfl, rfl⟩
            refine At.nil ?_
            refine At.then ?_
            refine At.draw 8 (.q 0 (.q 1 (.q 2 (.q 3 (.q 4 (.q 5 (.q 6 (.q 7 (.e))))))))) _ (List.Sublist.refl _) mixed (by kernel_rfl) rfl ?_
            refine AtO.quiet rfl (q_fieldAddr s24 rfl rfl rfl) rfl (Calm.inBlock (Calm.then (Calm.then (Calm.inBlock (Calm.then Post.calm))))) ?_
            refine AtO.quiet rfl (q_load t22 rfl (Rd.loc (i := 2) rfl rfl)) rfl (Calm.inBlock (Calm.then (Calm.then (Calm.inBlock (Calm.then Post.calm))))) ?_
            refine AtO.quiet rfl (q_move rfl) rfl (Calm.inBlock (Calm.then (Calm.then (Calm.inBlock (Calm.then Post.calm))))) ?_
            refine AtO.quiet rfl (q_move rfl) rfl (Calm.inBlock (Calm.then (Calm.then (Calm.inBlock (Calm.then Post.calm))))) ?_
            refine AtO.quiet rfl (q_add rfl rfl (by omega) (by omega)) rfl (Calm.inBlock (Calm.then (Calm.then (Calm.inBlock (Calm.then Post.calm))))) ?_
            refine AtO.quiet rfl (q_move rfl) rfl (Calm.inBlock (Calm.then (Calm.then (Calm.inBlock (Calm.then Post.calm))))) ?_
            refine AtO.quiet rfl (q_rem rfl rfl (by omega)) rfl (Calm.inBlock (Calm.then (Calm.then (Calm.inBlock (Calm.then Post.calm))))) ?_
            refine AtO.say 87 (.int .i64 ((((i + k) % p.ns.l.length) : Nat) : Int)) rfl (congrArg (Value.int .i64) (by rw [← Int.natCast_add]; rfl)) ?_
            refine AtO.quiet rfl (q_loadS t33 rfl (RdS.loc (i := 0) rfl (m := 6) rfl) rfl) rfl (Calm.inBlock (Calm.then (Calm.then (Calm.inBlock (Calm.then Post.calm))))) ?_
            refine AtO.done ?_
            refine At.quiet (q_indexOwn Try.underlying22 t33 rfl hO (by simp [hol]) rfl rfl hzl) rfl ?_
            refine At.loudN (l_storeOwn0 t33 rfl rfl hO (i := 1) rfl (map_get hz) rfl rfl rfl) ?_
            rintro _ _ _ ⟨Mow2, ow2, rfl, rfl⟩
            refine At.nil ?_
            refine At.inNormal ?_
            refine At.then ?_
            refine At.region ?_
            have hO2 : Own 33 6 ((o.set ((i + k) % p.ns.l.length) { y with left := Int.tmod (y.left + (k : Int)) (p.ns.l.length : Int), right := Int.tmod (y.right + (k : Int)) (p.ns.l.length : Int) }).map rowN) (some ⟨bm, 0, none⟩) p.ns.l.length Mow2 := by rw [row_set]; exact ow2
            refine At.know (psP (o.set ((i + k) % p.ns.l.length) { y with left := Int.tmod (y.left + (k : Int)) (p.ns.l.length : Int), right := Int.tmod (y.right + (k : Int)) (p.ns.l.length : Int) })) (fun _ h => psP_set (n := { y with left := Int.tmod (y.left + (k : Int)) (p.ns.l.length : Int), right := Int.tmod (y.right + (k : Int)) (p.ns.l.length : Int) }) h.2.1 h.1) ?_
            refine At.quiet (q_add rfl rfl (by omega) (by omega)) rfl ?_
            refine At.skim 1 rfl rfl ?_
            refine At.nil ?_
            refine At.front 1 rfl ?_
            refine At.then ?_
            exact At.againK (i + 1, o.set ((i + k) % p.ns.l.length) { y with left := Int.tmod (y.left + (k : Int)) (p.ns.l.length : Int), right := Int.tmod (y.right + (k : Int)) (p.ns.l.length : Int) }, _) ⟨hi1, hO2, hT.step hy (turnN_route hr k1 k3), small_set hso hsy⟩ (by (try dsimp only); omega) (Tells.end 35 ⟨rfl, trivial⟩ rfl rfl) (fun _ h => ⟨h.1, h.2.2.2⟩) (.cons_cons _ (.cons _ (.refl _)))
        · skip
          refine At.skip ?_
          refine At.then ?_
          refine At.draw 8 (.q 0 (.q 1 (.q 2 (.q 3 (.q 4 (.q 5 (.q 6 (.q 7 (.e))))))))) _ (List.Sublist.refl _) mixed (by kernel_rfl) rfl ?_
          refine AtO.quiet rfl (q_fieldAddr s24 rfl rfl rfl) rfl (Calm.inBlock (Calm.then (Calm.then (Calm.inBlock (Calm.then Post.calm))))) ?_
          refine AtO.quiet rfl (q_load t22 rfl (Rd.loc (i := 2) rfl rfl)) rfl (Calm.inBlock (Calm.then (Calm.then (Calm.inBlock (Calm.then Post.calm))))) ?_
          refine AtO.quiet rfl (q_move rfl) rfl (Calm.inBlock (Calm.then (Calm.then (Calm.inBlock (Calm.then Post.calm))))) ?_
          refine AtO.quiet rfl (q_move rfl) rfl (Calm.inBlock (Calm.then (Calm.then (Calm.inBlock (Calm.then Post.calm))))) ?_
          refine AtO.quiet rfl (q_add rfl rfl (by omega) (by omega)) rfl (Calm.inBlock (Calm.then (Calm.then (Calm.inBlock (Calm.then Post.calm))))) ?_
          refine AtO.quiet rfl (q_move rfl) rfl (Calm.inBlock (Calm.then (Calm.then (Calm.inBlock (Calm.then Post.calm))))) ?_
          refine AtO.quiet rfl (q_rem rfl rfl (by omega)) rfl (Calm.inBlock (Calm.then (Calm.then (Calm.inBlock (Calm.then Post.calm))))) ?_
          refine AtO.say 87 (.int .i64 ((((i + k) % p.ns.l.length) : Nat) : Int)) rfl (congrArg (Value.int .i64) (by rw [← Int.natCast_add]; rfl)) ?_
          refine AtO.quiet rfl (q_loadS t33 rfl (RdS.loc (i := 0) rfl (m := 6) rfl) rfl) rfl (Calm.inBlock (Calm.then (Calm.then (Calm.inBlock (Calm.then Post.calm))))) ?_
          refine AtO.done ?_
          refine At.quiet (q_indexOwn Try.underlying22 t33 rfl hO (by simp [hol]) rfl rfl hzl) rfl ?_
          refine At.loudN (l_storeOwn0 t33 rfl rfl hO (i := 1) rfl (map_get hz) rfl rfl rfl) ?_
          rintro _ _ _ ⟨Mow3, ow3, rfl, rfl⟩
          refine At.nil ?_
          refine At.inNormal ?_
          refine At.then ?_
          refine At.region ?_
          have hO2 : Own 33 6 ((o.set ((i + k) % p.ns.l.length) y).map rowN) (some ⟨bm, 0, none⟩) p.ns.l.length Mow3 := by rw [row_set]; exact ow3
          refine At.know (psP (o.set ((i + k) % p.ns.l.length) y)) (fun _ h => psP_set (n := y) h.2.1 h.1) ?_
          refine At.quiet (q_add rfl rfl (by omega) (by omega)) rfl ?_
          refine At.skim 1 rfl rfl ?_
          refine At.nil ?_
          refine At.front 1 rfl ?_
          refine At.then ?_
          exact At.againK (i + 1, o.set ((i + k) % p.ns.l.length) y, _) ⟨hi1, hO2, hT.step hy (turnN_leaf hr), small_set hso hsy⟩ (by (try dsimp only); omega) (Tells.end 21 ⟨rfl, trivial⟩ rfl rfl) (fun _ h => ⟨h.1, h.2.2.2⟩) (.cons_cons _ (.cons _ (.refl _)))
      · skip
        refine At.exit ?_
        refine At.thenExit ?_
        refine At.thenExit ?_
        refine At.inHere rfl ?_
        refine At.then ?_
        refine At.seq ?_
        refine At.region ?_
        obtain rfl : i = p.ns.l.length := by omega
        obtain ⟨hmu, hpu⟩ := Turn.done (u := ⟨Int.tmod (p.root + (k : Int)) (p.ns.l.length : Int), ⟨some ⟨bm, 0, none⟩, p.ns.l.length, o⟩⟩) hs hpp hT (by show Int.tmod (p.root + (k : Int)) (p.ns.l.length : Int) = _; rw [hr0, Int.zero_add]; rfl)
        refine At.freezeOwn 0 hO rfl ?_
        refine At.quiet (q_loadS t24 rfl (RdS.loc (i := 0) rfl (m := 2) rfl) rfl) rfl ?_
        refine At.say 92 (Tr.val ⟨Int.tmod (p.root + (k : Int)) (p.ns.l.length : Int), ⟨some ⟨bm, 0, none⟩, p.ns.l.length, o⟩⟩) rfl (by rw [turn_val hT.1]; rfl) ?_
        refine At.call en25 rfl (plain25 ⟨Int.tmod (p.root + (k : Int)) (p.ns.l.length : Int), ⟨some ⟨bm, 0, none⟩, p.ns.l.length, o⟩⟩ (by assumption)) (fun _ h => ⟨h.1, h.2.1, trivial⟩) (List.Perm.refl _) rfl ?_
        rintro _ _ _ ⟨q, Mq, rfl, rfl, rfl, hq, hpq⟩
        refine At.skim 1 rfl rfl ?_
        refine At.quiet (q_extract rfl rfl) rfl ?_
        refine At.quiet (q_extract rfl rfl) rfl ?_
        refine At.loud (l_alloc t24) rfl ?_
        rintro _ _ _ ⟨b6, rfl, rfl, rfl⟩
        refine At.loudN (l_store t24 rfl rfl (i := 0) rfl rfl rfl rfl) ?_
        rintro _ _ _ ⟨rfl, rfl⟩
        refine At.skim 1 rfl rfl ?_
        refine At.nil ?_
        refine At.then ?_
        refine At.seq ?_
        refine At.freezeOwn 1 hq rfl ?_
        refine At.draw 15 (.q 0 (.q 1 (.q 2 (.q 3 (.o 4 (.q 5 (.q 6 (.q 7 (.q 8 (.o 9 (.q 10 (.q 11 (.q 12 (.q 14 (.o 13 (.e)))))))))))))))) _ (List.Sublist.refl _) mixed (by kernel_rfl) rfl ?_
        refine AtO.quiet rfl (q_move rfl) rfl (Calm.then Post.calm) ?_
        refine AtO.quiet rfl (q_move rfl) rfl (Calm.then Post.calm) ?_
        refine AtO.say 97 (.bool true) rfl (congrArg Value.bool (hmu)) ?_
        refine AtO.quietG rfl rfl rfl (q_loadS t24 rfl (RdS.loc (i := 2) rfl (m := 2) rfl) rfl) rfl (Calm.then Post.calm) ?_
        refine AtO.quietG rfl rfl rfl (q_loadS t24 rfl (RdS.loc (i := 0) rfl (m := 2) rfl) rfl) rfl (Calm.then Post.calm) ?_
        refine AtO.callGA rfl rfl rfl en36 rfl (same36 _ _) (fun _ h => ⟨h.2.2.2.2.1, h.2.2.2.2.2.1, h.1, h.2.1, trivial⟩) (List.Perm.refl _) rfl (.refl _) ?_
        rintro _ _ _ ⟨rfl, rfl, rfl⟩
        refine AtO.quiet rfl (q_pickT rfl rfl) rfl (Calm.then Post.calm) ?_
        refine AtO.quiet rfl (q_move rfl) rfl (Calm.then Post.calm) ?_
        refine AtO.say 102 (.bool true) rfl (congrArg Value.bool (decide_eq_true (hpp.trans (hpu.symm.trans hpq.symm)))) ?_
        refine AtO.quietG rfl rfl rfl (q_loadS t24 rfl (RdS.blk (.tail _ (.tail _ (.tail _ (.tail _ (.tail _ (.tail _ (.head _))))))) (m := 2) rfl) rfl) rfl (Calm.then Post.calm) ?_
        refine AtO.quietG rfl rfl rfl (q_loadS t24 rfl (RdS.loc (i := 1) rfl (m := 2) rfl) rfl) rfl (Calm.then Post.calm) ?_
        refine AtO.say 104 (Tr.val ⟨Int.tmod (p.root + (k : Int)) (p.ns.l.length : Int), ⟨some ⟨bm, 0, none⟩, p.ns.l.length, o⟩⟩) rfl ((turn_val hT.1).symm) ?_
        refine AtO.callGA rfl rfl rfl en37 rfl (same37 t ⟨Int.tmod (p.root + (k : Int)) (p.ns.l.length : Int), ⟨some ⟨bm, 0, none⟩, p.ns.l.length, o⟩⟩ (by assumption) (by assumption)) (fun _ h => ⟨h.2.2.2.2.2.2.2.2.1, h.2.2.2.2.2.2.2.2.2.1, h.2.2.1, h.2.2.2.1, trivial⟩) (List.Perm.refl _) rfl (.refl _) ?_
        rintro _ _ _ ⟨rfl, rfl, rfl⟩
        refine AtO.quiet rfl (q_pickT rfl rfl) rfl (Calm.then Post.calm) ?_
        refine AtO.quiet rfl (q_move rfl) rfl (Calm.then Post.calm) ?_
        refine AtO.say 107 (.bool true) rfl (congrArg Value.bool (same_true (by rw [hs]; rfl) hmu hpu)) ?_
        refine AtO.quietG rfl rfl rfl (q_loadS t24 rfl (RdS.blk (.tail _ (.tail _ (.tail _ (.tail _ (.tail _ (.tail _ (.head _))))))) (m := 2) rfl) rfl) rfl (Calm.then Post.calm) ?_
        refine AtO.quietG rfl rfl rfl (q_loadS t24 rfl (RdS.loc (i := 1) rfl (m := 2) rfl) rfl) rfl (Calm.then Post.calm) ?_
        refine AtO.callGA rfl rfl rfl en29 rfl (all29f t (by assumption)) (fun _ h => ⟨h.2.2.2.2.2.2.2.2.1, h.2.2.2.2.2.2.2.2.2.1, trivial⟩) (List.Perm.refl _) rfl (.refl _) ?_
        rintro _ _ _ ⟨al, rfl, rfl, rfl, hpal⟩
        refine AtO.done ?_
        refine At.say 110 (Tr.val ⟨Int.tmod (p.root + (k : Int)) (p.ns.l.length : Int), ⟨some ⟨bm, 0, none⟩, p.ns.l.length, o⟩⟩) rfl ((turn_val hT.1).symm) ?_
        refine At.open rfl rfl ?_
        refine At.call en29 rfl (all29f ⟨Int.tmod (p.root + (k : Int)) (p.ns.l.length : Int), ⟨some ⟨bm, 0, none⟩, p.ns.l.length, o⟩⟩ (by assumption)) (fun _ h => ⟨h.2.2.2.1, h.2.2.2.2.1, trivial⟩) (List.Perm.refl _) rfl ?_
        rintro _ _ _ ⟨bl, rfl, rfl, rfl, hpbl⟩
        refine At.open rfl rfl ?_
        refine At.call en33 rfl (same33 _ _) (fun _ h => ⟨h.2.1, h.1, trivial⟩) (List.Perm.refl _) rfl ?_
        rintro _ _ _ ⟨rfl, rfl, rfl⟩
        refine At.skim 2 rfl rfl ?_
        refine At.say 114 (.bool true) rfl (congrArg Value.bool (decide_eq_true (by rw [hpal, hpbl, all_plain, all_plain, hpu]))) ?_
        refine At.open rfl rfl ?_
        refine At.quiet (q_fieldAddr s24 rfl rfl rfl) rfl ?_
        refine At.open rfl rfl ?_
        refine At.quiet (q_load t3 rfl (Rd.loc (i := 2) rfl rfl)) rfl ?_
        refine At.skim 3 rfl rfl ?_
        refine At.say 119 (.bool true) rfl (congrArg Value.bool (decide_eq_true hr0)) ?_
        refine At.open rfl rfl ?_
        refine At.call en23 rfl (awake23) (fun _ _ => trivial) (List.Perm.refl _) rfl ?_
        rintro _ _ _ ⟨rfl, rfl, rfl⟩
        refine At.skim 2 rfl rfl ?_
        refine At.nil ?_
        refine At.then ?_
        refine At.ret ?_
        exact At.results (Γr := []) (M := []) rfl (RVals.cons (RVal.tmp rfl) RVals.nil) (.tail _ (.tail _ (.tail _ (.tail _ (.tail _ (.tail _ (.tail _ (.tail _ (.tail _ (.head _)))))))))) (fun _ _ => trivial) (.cons _ (.cons _ (.cons _ (.refl _)))) ⟨rfl, rfl, rfl⟩

end Go.Proofs.Ytmkodknmknfdkaa
