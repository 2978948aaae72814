/- Contracts that give slices that turn no more. -/
import Derived.Test.YtmkodknmknfdkaaB8
import Derived.Test.YtmkodknmknfdkaaP10
set_option linter.unusedVariables false
set_option linter.unusedSimpArgs false
namespace Go.Proofs.Ytmkodknmknfdkaa
open E
set_option maxRecDepth 4000

theorem en20 : Enters Try.prog 20 := Enters.mk' Try.func20 rfl rfl
theorem en22 : Enters Try.prog 22 := Enters.mk' Try.func22 rfl rfl
theorem en23 : Enters Try.prog 23 := Enters.mk' Try.func23 rfl rfl
theorem en29 : Enters Try.prog 29 := Enters.mk' Try.func29 rfl rfl
theorem en31 : Enters Try.prog 31 := Enters.mk' Try.func31 rfl rfl

theorem leaves28f (t : Tr) : Con Try.prog 28 [t.val] [ndsP t.ns, psP t.ns.l] [] (IntsEndF (toI (leavesT t.p))) := by
  refine Con.body 10 Try.func28 rfl Try.ntmps28 rfl fun X H₀ L₀ => ?_
  refine At.seq ?_
  refine At.region ?_
  refine At.loud (l_box rfl) rfl ?_
  rintro _ _ _ ⟨b1, rfl, rfl, rfl⟩
  refine At.freeze 0 (φ := blk b1 _) rfl (fun _ h => blk_def.2 ⟨_, _, h⟩) ?_
  refine At.skim 1 rfl rfl ?_
  refine At.nil ?_
  refine At.then ?_
  refine At.seq ?_
  refine At.seq ?_
  refine At.region ?_
  refine At.quiet (q_loadS t24 rfl (RdS.blk (.head _) (m := 2) rfl) rfl) rfl ?_
  refine At.call en21 rfl (may21 _) (fun _ h => ⟨h.2.2.1, h.2.2.2.1, trivial⟩) (List.Perm.refl _) rfl ?_
  rintro _ _ _ ⟨rfl, rfl, rfl⟩
  refine At.skim 1 rfl rfl ?_
  refine At.nil ?_
  refine At.then ?_
  refine At.cond rfl (fun hm => ?_) (fun hm => ?_)
  · skip
    refine At.know (intsP ⟨none, 0, []⟩) (fun _ h => sl_nil _ _ _ (Nat.zero_le _)) ?_
    refine At.seq ?_
    refine At.region ?_
    refine At.skim 1 rfl rfl ?_
    refine At.nil ?_
    refine At.then ?_
    refine At.ret ?_
    refine At.thenRet ?_
    exact At.results (Γr := [_]) (M := []) rfl (RVals.cons (RVal.tmp rfl) RVals.nil) (.tail _ (.tail _ (.head _))) (fun _ h => ⟨h.1, trivial⟩) (.refl _) ⟨⟨none, 0, []⟩, rfl, rfl, rfl, by rw [leavesT, none_of (not_t hm)]; rfl⟩
  · skip
    obtain ⟨s, hs⟩ := Option.isSome_iff_exists.1 (not_f hm)
    have hg := good_of hs
    have hsz : s.size ≤ 2000 := by have h1 := hg.size; have h2 := hg.few; omega
    refine At.nilSeg ?_
    refine At.skip ?_
    refine At.then ?_
    refine At.seq ?_
    refine At.region ?_
    refine At.quiet (q_loadS t24 rfl (RdS.blk (.head _) (m := 2) rfl) rfl) rfl ?_
    refine At.fld s24 t3 rfl rfl rfl (Rd.blk (.head _) rfl) rfl rfl ?_
    refine At.call en70 rfl (leaves70 t s t.root hg.hangs [] none 0 [] (Own.nil _ _) (by simp; omega)) (fun _ h => ⟨h.2.2.1, h.2.2.2.1, trivial⟩) (List.Perm.refl _) rfl ?_
    rintro _ _ _ ⟨a1, c1, M1, rfl, rfl, rfl, hO⟩
    refine At.freezeOwn 0 (show Own 3 1 ((toI s.leaves).map rowI) a1 c1 M1 by simpa using hO) rfl ?_
    refine At.skim 1 rfl rfl ?_
    refine At.nil ?_
    refine At.then ?_
    refine At.ret ?_
    exact At.results (Γr := [_]) (M := []) rfl (RVals.cons (RVal.tmp rfl) RVals.nil) (.tail _ (.tail _ (.head _))) (fun _ h => ⟨h.1, trivial⟩) (.refl _) ⟨⟨a1, c1, toI s.leaves⟩, by simp [Sl.val, resVal], rfl, rfl, by rw [leavesT, hs]⟩

theorem leaves41f (t : Tr) (hsm : smallP t.ns.l) : Con Try.prog 41 [t.val] [ndsP t.ns, psP t.ns.l] [] (IntsEndF (toI (leavesT t.p))) := by
  refine Con.body 16 Try.func41 rfl Try.ntmps41 rfl fun X H₀ L₀ => ?_
  refine At.seq ?_
  refine At.region ?_
  refine At.loud (l_box rfl) rfl ?_
  rintro _ _ _ ⟨b1, rfl, rfl, rfl⟩
  refine At.freeze 0 (φ := blk b1 _) rfl (fun _ h => blk_def.2 ⟨_, _, h⟩) ?_
  refine At.skim 1 rfl rfl ?_
  refine At.nil ?_
  refine At.then ?_
  refine At.seq ?_
  refine At.seq ?_
  refine At.region ?_
  refine At.quiet (q_loadS t24 rfl (RdS.blk (.head _) (m := 2) rfl) rfl) rfl ?_
  refine At.call en38 rfl (plain38 _ (by assumption)) (fun _ h => ⟨h.2.2.1, h.2.2.2.1, trivial⟩) (List.Perm.refl _) rfl ?_
  rintro _ _ _ ⟨u1, Mu1, rfl, rfl, rfl, hu1, hup1⟩
  refine At.skim 1 rfl rfl ?_
  refine At.quiet (q_extract rfl rfl) rfl ?_
  refine At.quiet (q_extract rfl rfl) rfl ?_
  refine At.loud (l_alloc t24) rfl ?_
  rintro _ _ _ ⟨b2, rfl, rfl, rfl⟩
  refine At.loudN (l_store t24 rfl rfl (i := 0) rfl rfl rfl rfl) ?_
  rintro _ _ _ ⟨rfl, rfl⟩
  refine At.skim 1 rfl rfl ?_
  refine At.nil ?_
  refine At.then ?_
  refine At.seq ?_
  refine At.region ?_
  refine At.skim 2 rfl rfl ?_
  refine At.nil ?_
  refine At.then ?_
  refine At.cond rfl (fun hm => ?_) (fun hm => ?_)
  · skip
    refine At.know (intsP ⟨none, 0, []⟩) (fun _ h => sl_nil _ _ _ (Nat.zero_le _)) ?_
    refine At.seq ?_
    refine At.region ?_
    refine At.skim 1 rfl rfl ?_
    refine At.nil ?_
    refine At.then ?_
    refine At.ret ?_
    refine At.thenRet ?_
    exact At.results (Γr := [_]) (M := []) rfl (RVals.cons (RVal.tmp rfl) RVals.nil) (.tail _ (.tail _ (.tail _ (.head _)))) (fun _ h => ⟨h.1, trivial⟩) (.cons _ (.cons _ (.refl _))) ⟨⟨none, 0, []⟩, rfl, rfl, rfl, by rw [leavesT, none_of (not_t hm)]; rfl⟩
  · skip
    obtain ⟨s, hs⟩ := Option.isSome_iff_exists.1 (not_f hm)
    have hg := good_of hs
    have hsz : s.size ≤ 2000 := by have h1 := hg.size; have h2 := hg.few; omega
    refine At.nilSeg ?_
    refine At.skip ?_
    refine At.then ?_
    refine At.seq ?_
    refine At.region ?_
    refine At.quiet (q_loadS t24 rfl (RdS.blk (.tail _ (.head _)) (m := 2) rfl) rfl) rfl ?_
    refine At.fld s24 t3 rfl rfl rfl (Rd.blk (.tail _ (.head _)) rfl) rfl rfl ?_
    refine At.call en79 rfl (leaves79 t s t.root hg.hangs [] none 0 [] (Own.nil _ _) (by simp; omega)) (fun _ h => ⟨h.2.2.2.1, h.2.2.2.2.1, trivial⟩) (List.Perm.refl _) rfl ?_
    rintro _ _ _ ⟨a1, c1, M1, rfl, rfl, rfl, hO⟩
    refine At.freezeOwn 0 (show Own 3 1 ((toI s.leaves).map rowI) a1 c1 M1 by simpa using hO) rfl ?_
    refine At.skim 1 rfl rfl ?_
    refine At.nil ?_
    refine At.then ?_
    refine At.ret ?_
    exact At.results (Γr := [_]) (M := []) rfl (RVals.cons (RVal.tmp rfl) RVals.nil) (.tail _ (.tail _ (.tail _ (.head _)))) (fun _ h => ⟨h.1, trivial⟩) (.cons _ (.cons _ (.refl _))) ⟨⟨a1, c1, toI s.leaves⟩, by simp [Sl.val, resVal], rfl, rfl, by rw [leavesT, hs]⟩

theorem all29f (t : Tr) (hsm : smallP t.ns.l) : Con Try.prog 29 [t.val] [ndsP t.ns, psP t.ns.l] [] (PairsEndF (allT t.p)) := by
  refine Con.body 23 Try.func29 rfl Try.ntmps29 rfl fun X H₀ L₀ => ?_
  refine At.lenOf (hs := (.tail _ (.head _))) fun hlen => ?_
  rw [List.length_map] at hlen
  refine At.seq ?_
  refine At.region ?_
  refine At.loud (l_box rfl) rfl ?_
  rintro _ _ _ ⟨b1, rfl, rfl, rfl⟩
  refine At.freeze 0 (φ := blk b1 _) rfl (fun _ h => blk_def.2 ⟨_, _, h⟩) ?_
  refine At.skim 1 rfl rfl ?_
  refine At.nil ?_
  refine At.then ?_
  refine At.seq ?_
  refine At.region ?_
  refine At.skim 1 rfl rfl ?_
  refine At.nil ?_
  refine At.then ?_
  refine At.seq ?_
  refine At.seq ?_
  refine At.region ?_
  refine At.quiet (q_loadS t24 rfl (RdS.blk (.head _) (m := 2) rfl) rfl) rfl ?_
  refine At.call en28 rfl (leaves28f _) (fun _ h => ⟨h.2.2.1, h.2.2.2.1, trivial⟩) (List.Perm.refl _) rfl ?_
  rintro _ _ _ ⟨u, rfl, rfl, rfl, hul⟩
  refine At.quiet (q_len Try.underlying37 rfl) rfl ?_
  have hll := leavesT_len t.p
  have hul2 : u.l.length = (leavesT t.p).length := by rw [hul, toI_length]
  refine At.nilSeg ?_
  refine At.skim 1 rfl rfl ?_
  refine At.nil ?_
  refine At.then ?_
  refine At.block ?_
  refine At.loopK (ι := Nat × Option Addr × Nat × Seg) [3, 5, 9, 10, 11, 12, 13, 14, 15, 16, 17, 18, 19, 20, 21] (fun ⟨k, a, c, M⟩ => [(9, .int .i64 (k : Int)), (3, .slice a (outs t.p k).length c)]) (fun ⟨k, a, c, M⟩ => []) (fun ⟨k, a, c, M⟩ => [M]) _ (fun ⟨k, a, c, M⟩ => k ≤ u.l.length ∧ Own 50 2 ((outs t.p k).map rowP) a c M ∧ (outs t.p k).length ≤ k * 1000000) (fun ⟨k, a, c, M⟩ => u.l.length - k) (0, none, 0, []) ⟨Nat.zero_le _, Own.nil _ _, by simp [outs]⟩ ⟨rfl, rfl, trivial⟩ (fun _ _ => trivial) (.cons_cons _ (.refl _)) ?_
  intro i0 hI0
  obtain ⟨k, a, c, M⟩ := i0
  obtain ⟨hkl, hO, hob⟩ := hI0
  refine At.seq ?_
  refine At.region ?_
  refine At.skim 1 rfl rfl ?_
  refine At.nil ?_
  refine At.then ?_
  refine At.seq ?_
  refine At.if rfl (fun hk => ?_) (fun hk => ?_)
  · skip
    obtain ⟨i, hi⟩ := get_of_lt (l := leavesT t.p) (i := k) (by omega)
    have hui : u.l[k]? = some (i : Int) := by rw [hul]; exact toI_get hi
    obtain ⟨x, hx, _, hxg⟩ := Tr.get (leavesT_lt (List.mem_of_getElem? hi))
    have hxs := hsm x (List.mem_of_getElem? hx)
    have hst := outs_step hi hxg
    refine At.know (prsP x.ps) (fun _ h => psP_get h.2.2.2.2.1 hx) ?_
    refine At.skip ?_
    refine At.then ?_
    refine At.seq ?_
    refine At.block ?_
    refine At.seq ?_
    refine At.region ?_
    refine At.quiet (q_index Try.underlying37 t3 rfl (.tail _ (.head _)) (by simp) rfl rfl (lt_of_get hui)) rfl ?_
    refine At.quiet (q_load t3 rfl (Rd.sl0 (.tail _ (.head _)) (map_get hui) rfl)) rfl ?_
    refine At.skim 1 rfl rfl ?_
    refine At.nil ?_
    refine At.then ?_
    refine At.region ?_
    refine At.skim 1 rfl rfl ?_
    refine At.fld s24 t22 rfl rfl rfl (Rd.blk (.tail _ (.tail _ (.head _))) rfl) rfl rfl ?_
    refine At.skim 1 rfl rfl ?_
    refine At.quiet (q_index Try.underlying22 t33 rfl (.tail _ (.tail _ (.tail _ (.tail _ (.head _))))) (by simp) rfl rfl (lt_of_get hx)) rfl ?_
    refine At.fld s33 t31 rfl rfl rfl (Rd.sl (.tail _ (.tail _ (.tail _ (.tail _ (.head _))))) (map_get hx) rfl) rfl rfl ?_
    refine At.loud (l_appendSl rfl Try.underlying31 t50 rfl rfl hO (by simp) (i := 0) rfl (.head _) (by simp) (one_map (fun _ => rfl) _) rfl rfl (by omega) (by unfold maxLen; omega)) rfl ?_
    rintro _ _ _ ⟨a2, c2, M2, rfl, ow, rfl, rfl⟩
    refine At.skim 1 rfl rfl ?_
    refine At.nil ?_
    refine At.inNormal ?_
    refine At.then ?_
    refine At.region ?_
    refine At.quiet (q_add rfl rfl (by omega) (by omega)) rfl ?_
    refine At.skim 1 rfl rfl ?_
    refine At.nil ?_
    refine At.say 3 (.slice a2 (outs t.p (k + 1)).length c2) rfl (by rw [hst, List.length_append]; rfl) ?_
    refine At.then ?_
    exact At.againK (k + 1, a2, c2, M2) ⟨by omega, by rw [hst, List.map_append]; exact ow, by rw [hst, List.length_append]; show _ + x.ps.l.length ≤ _; omega⟩ (by (try dsimp only); omega) (Tells.end 18 ⟨rfl, rfl, trivial⟩ rfl rfl) (fun _ h => h.2) (.cons_cons _ (.refl _))
  · skip
    refine At.freezeOwn 0 hO rfl ?_
    refine At.exit ?_
    refine At.thenExit ?_
    refine At.thenExit ?_
    refine At.inHere rfl ?_
    refine At.then ?_
    refine At.seq ?_
    refine At.region ?_
    refine At.skim 2 rfl rfl ?_
    refine At.nil ?_
    refine At.then ?_
    refine At.ret ?_
    exact At.results (Γr := [prsP ⟨a, c, outs t.p k⟩]) (M := []) rfl (RVals.cons (RVal.tmp rfl) RVals.nil) (.tail _ (.tail _ (.tail _ (.head _)))) (fun _ h => ⟨h.1, trivial⟩) (.refl _) ⟨⟨a, c, outs t.p k⟩, rfl, rfl, rfl, outs_all (by omega)⟩

theorem all42f (t : Tr) (hsm : smallP t.ns.l) : Con Try.prog 42 [t.val] [ndsP t.ns, psP t.ns.l] [] (PairsEndF (allT t.p)) := by
  refine Con.body 23 Try.func42 rfl Try.ntmps42 rfl fun X H₀ L₀ => ?_
  refine At.lenOf (hs := (.tail _ (.head _))) fun hlen => ?_
  rw [List.length_map] at hlen
  refine At.seq ?_
  refine At.region ?_
  refine At.loud (l_box rfl) rfl ?_
  rintro _ _ _ ⟨b1, rfl, rfl, rfl⟩
  refine At.freeze 0 (φ := blk b1 _) rfl (fun _ h => blk_def.2 ⟨_, _, h⟩) ?_
  refine At.skim 1 rfl rfl ?_
  refine At.nil ?_
  refine At.then ?_
  refine At.seq ?_
  refine At.region ?_
  refine At.skim 1 rfl rfl ?_
  refine At.nil ?_
  refine At.then ?_
  refine At.seq ?_
  refine At.seq ?_
  refine At.region ?_
  refine At.quiet (q_loadS t24 rfl (RdS.blk (.head _) (m := 2) rfl) rfl) rfl ?_
  refine At.call en41 rfl (leaves41f _ (by assumption)) (fun _ h => ⟨h.2.2.1, h.2.2.2.1, trivial⟩) (List.Perm.refl _) rfl ?_
  rintro _ _ _ ⟨u, rfl, rfl, rfl, hul⟩
  refine At.quiet (q_len Try.underlying37 rfl) rfl ?_
  have hll := leavesT_len t.p
  have hul2 : u.l.length = (leavesT t.p).length := by rw [hul, toI_length]
  refine At.nilSeg ?_
  refine At.skim 1 rfl rfl ?_
  refine At.nil ?_
  refine At.then ?_
  refine At.block ?_
  refine At.loopK (ι := Nat × Option Addr × Nat × Seg) [3, 5, 9, 10, 11, 12, 13, 14, 15, 16, 17, 18, 19, 20, 21] (fun ⟨k, a, c, M⟩ => [(9, .int .i64 (k : Int)), (3, .slice a (outs t.p k).length c)]) (fun ⟨k, a, c, M⟩ => []) (fun ⟨k, a, c, M⟩ => [M]) _ (fun ⟨k, a, c, M⟩ => k ≤ u.l.length ∧ Own 50 2 ((outs t.p k).map rowP) a c M ∧ (outs t.p k).length ≤ k * 1000000) (fun ⟨k, a, c, M⟩ => u.l.length - k) (0, none, 0, []) ⟨Nat.zero_le _, Own.nil _ _, by simp [outs]⟩ ⟨rfl, rfl, trivial⟩ (fun _ _ => trivial) (.cons_cons _ (.refl _)) ?_
  intro i0 hI0
  obtain ⟨k, a, c, M⟩ := i0
  obtain ⟨hkl, hO, hob⟩ := hI0
  refine At.seq ?_
  refine At.region ?_
  refine At.skim 1 rfl rfl ?_
  refine At.nil ?_
  refine At.then ?_
  refine At.seq ?_
  refine At.if rfl (fun hk => ?_) (fun hk => ?_)
  · skip
    obtain ⟨i, hi⟩ := get_of_lt (l := leavesT t.p) (i := k) (by omega)
    have hui : u.l[k]? = some (i : Int) := by rw [hul]; exact toI_get hi
    obtain ⟨x, hx, _, hxg⟩ := Tr.get (leavesT_lt (List.mem_of_getElem? hi))
    have hxs := hsm x (List.mem_of_getElem? hx)
    have hst := outs_step hi hxg
    refine At.know (prsP x.ps) (fun _ h => psP_get h.2.2.2.2.1 hx) ?_
    refine At.skip ?_
    refine At.then ?_
    refine At.seq ?_
    refine At.block ?_
    refine At.seq ?_
    refine At.region ?_
    refine At.quiet (q_index Try.underlying37 t3 rfl (.tail _ (.head _)) (by simp) rfl rfl (lt_of_get hui)) rfl ?_
    refine At.quiet (q_load t3 rfl (Rd.sl0 (.tail _ (.head _)) (map_get hui) rfl)) rfl ?_
    refine At.skim 1 rfl rfl ?_
    refine At.nil ?_
    refine At.then ?_
    refine At.region ?_
    refine At.skim 1 rfl rfl ?_
    refine At.fld s24 t22 rfl rfl rfl (Rd.blk (.tail _ (.tail _ (.head _))) rfl) rfl rfl ?_
    refine At.skim 1 rfl rfl ?_
    refine At.quiet (q_index Try.underlying22 t33 rfl (.tail _ (.tail _ (.tail _ (.tail _ (.head _))))) (by simp) rfl rfl (lt_of_get hx)) rfl ?_
    refine At.fld s33 t31 rfl rfl rfl (Rd.sl (.tail _ (.tail _ (.tail _ (.tail _ (.head _))))) (map_get hx) rfl) rfl rfl ?_
    refine At.loud (l_appendSl rfl Try.underlying31 t50 rfl rfl hO (by simp) (i := 0) rfl (.head _) (by simp) (one_map (fun _ => rfl) _) rfl rfl (by omega) (by unfold maxLen; omega)) rfl ?_
    rintro _ _ _ ⟨a2, c2, M2, rfl, ow, rfl, rfl⟩
    refine At.skim 1 rfl rfl ?_
    refine At.nil ?_
    refine At.inNormal ?_
    refine At.then ?_
    refine At.region ?_
    refine At.quiet (q_add rfl rfl (by omega) (by omega)) rfl ?_
    refine At.skim 1 rfl rfl ?_
    refine At.nil ?_
    refine At.say 3 (.slice a2 (outs t.p (k + 1)).length c2) rfl (by rw [hst, List.length_append]; rfl) ?_
    refine At.then ?_
    exact At.againK (k + 1, a2, c2, M2) ⟨by omega, by rw [hst, List.map_append]; exact ow, by rw [hst, List.length_append]; show _ + x.ps.l.length ≤ _; omega⟩ (by (try dsimp only); omega) (Tells.end 18 ⟨rfl, rfl, trivial⟩ rfl rfl) (fun _ h => h.2) (.cons_cons _ (.refl _))
  · skip
    refine At.freezeOwn 0 hO rfl ?_
    refine At.exit ?_
    refine At.thenExit ?_
    refine At.thenExit ?_
    refine At.inHere rfl ?_
    refine At.then ?_
    refine At.seq ?_
    refine At.region ?_
    refine At.skim 2 rfl rfl ?_
    refine At.nil ?_
    refine At.then ?_
    refine At.ret ?_
    exact At.results (Γr := [prsP ⟨a, c, outs t.p k⟩]) (M := []) rfl (RVals.cons (RVal.tmp rfl) RVals.nil) (.tail _ (.tail _ (.tail _ (.head _)))) (fun _ h => ⟨h.1, trivial⟩) (.refl _) ⟨⟨a, c, outs t.p k⟩, rfl, rfl, rfl, outs_all (by omega)⟩

theorem with35f (l : Sl Pr) (p : Pr) (hl : l.l.length ≤ 1000000) : Con Try.prog 35 [l.val, p.val] [prsP l] [] (PairsEndF (withT l.l p)) := by
  refine Con.body 45 Try.func35 rfl Try.ntmps35 rfl fun X H₀ L₀ => ?_
  refine At.nilSeg ?_
  refine At.seq ?_
  refine At.region ?_
  refine At.loud (l_box rfl) rfl ?_
  rintro _ _ _ ⟨b1, rfl, rfl, rfl⟩
  refine At.freeze 0 (φ := blk b1 _) rfl (fun _ h => blk_def.2 ⟨_, _, h⟩) ?_
  refine At.skim 1 rfl rfl ?_
  refine At.nil ?_
  refine At.then ?_
  refine At.seq ?_
  refine At.region ?_
  refine At.skim 1 rfl rfl ?_
  refine At.nil ?_
  refine At.then ?_
  refine At.seq ?_
  refine At.region ?_
  refine At.skim 1 rfl rfl ?_
  refine At.nil ?_
  refine At.then ?_
  refine At.seq ?_
  refine At.seq ?_
  refine At.region ?_
  refine At.skim 1 rfl rfl ?_
  refine At.quiet (q_len Try.underlying31 rfl) rfl ?_
  refine At.skim 1 rfl rfl ?_
  refine At.nil ?_
  refine At.then ?_
  refine At.block ?_
  refine At.loopK (ι := Nat × Bool × Nat × List Pr × Option Addr × Nat × Seg) [5, 6, 8, 11, 12, 13, 14, 15, 16, 17, 18, 19, 20, 21, 22, 23, 24, 25, 26, 27, 28, 29, 30, 31, 32, 33, 34, 35, 36, 37] (fun ⟨k, d, n0, o, a, c, M⟩ => [(11, .int .i64 (k : Int)), (6, .bool d), (5, .slice a n0 c)]) (fun ⟨k, d, n0, o, a, c, M⟩ => []) (fun ⟨k, d, n0, o, a, c, M⟩ => [M]) _ (fun ⟨k, d, n0, o, a, c, M⟩ => k ≤ l.l.length ∧ withT l.l p = o ++ withGo p (l.l.drop k) d ∧ Own 50 2 (o.map rowP) a c M ∧ n0 = o.length ∧ n0 ≤ 2 * k) (fun ⟨k, d, n0, o, a, c, M⟩ => l.l.length - k) (0, false, 0, [], none, 0, []) ⟨Nat.zero_le _, rfl, Own.nil _ _, rfl, Nat.le_refl _⟩ ⟨rfl, rfl, rfl, trivial⟩ (fun _ _ => trivial) (.cons_cons _ (.refl _)) ?_
  intro i0 hI0
  obtain ⟨k, d, n0, o, a, c, M⟩ := i0
  obtain ⟨hkl, hW, hO, hn0, hnk⟩ := hI0
  refine At.seq ?_
  refine At.region ?_
  refine At.skim 1 rfl rfl ?_
  refine At.nil ?_
  refine At.then ?_
  refine At.seq ?_
  refine At.if rfl (fun hk => ?_) (fun hk => ?_)
  · skip
    obtain ⟨x, hx⟩ := get_of_lt (l := l.l) (i := k) (by omega)
    have hk1 := lt_of_get hx
    refine At.skip ?_
    refine At.then ?_
    refine At.seq ?_
    refine At.block ?_
    refine At.seq ?_
    refine At.region ?_
    refine At.quiet (q_index Try.underlying31 t50 rfl (.tail _ (.tail _ (.head _))) (by simp) rfl rfl (lt_of_get hx)) rfl ?_
    refine At.quiet (q_loadS t50 rfl (RdS.sl0 (.tail _ (.tail _ (.head _))) (map_get hx)) rfl) rfl ?_
    refine At.loud (l_alloc t50) rfl ?_
    rintro _ _ _ ⟨b2, rfl, rfl, rfl⟩
    refine At.loudN (l_store t50 rfl rfl (i := 0) rfl rfl rfl rfl) ?_
    rintro _ _ _ ⟨rfl, rfl⟩
    refine At.nil ?_
    refine At.then ?_
    refine At.seq ?_
    refine At.seq ?_
    refine At.region ?_
    refine At.skim 3 rfl rfl ?_
    refine At.split (d := 17) rfl (fun hd => ?_) (fun hd => ?_)
    · skip
      have hd0 := not_t hd
      refine At.open rfl rfl ?_
      refine At.quiet (q_fieldAddr s50 rfl rfl rfl) rfl ?_
      refine At.open rfl rfl ?_
      refine At.quiet (q_load t3 rfl (Rd.loc (i := 0) rfl rfl)) rfl ?_
      refine At.open rfl rfl ?_
      refine At.quiet (q_fieldAddr s50 rfl rfl rfl) rfl ?_
      refine At.open rfl rfl ?_
      refine At.quiet (q_load t3 rfl (Rd.blk (.head _) rfl)) rfl ?_
      refine At.skim 2 rfl rfl ?_
      refine At.nil ?_
      refine At.then ?_
      refine At.if rfl (fun hc => ?_) (fun hc => ?_)
      · skip
        refine At.seq ?_
        refine At.region ?_
        refine At.skim 1 rfl rfl ?_
        refine At.quiet (q_loadS t50 rfl (RdS.blk (.head _) (m := 2) rfl) rfl) rfl ?_
        refine At.loud (l_buildSlice Try.underlying31 t50 rfl rfl rfl rfl rfl) rfl ?_
        rintro _ _ _ ⟨b3, rfl, rfl, rfl⟩
        refine At.loud (l_append rfl Try.underlying31 t50 rfl rfl hO (by simp; omega) (i := 2) rfl rfl (news := [rowP p]) (by simp [rowP]) (RdS.loc (i := 0) rfl (m := 2) rfl) rfl rfl rfl (by omega) (by unfold maxLen; omega)) rfl ?_
        rintro _ _ _ ⟨a4, c4, M4, rfl, ow4, rfl, rfl⟩
        refine At.skim 1 rfl rfl ?_
        refine At.nil ?_
        refine At.then ?_
        refine At.region ?_
        refine At.skim 1 rfl rfl ?_
        refine At.nil ?_
        refine At.then ?_
        refine At.seq ?_
        refine At.region ?_
        refine At.fld s50 t3 rfl rfl rfl (Rd.loc (i := 1) rfl rfl) rfl rfl ?_
        refine At.fld s50 t3 rfl rfl rfl (Rd.blk (.head _) rfl) rfl rfl ?_
        refine At.skim 1 rfl rfl ?_
        refine At.nil ?_
        refine At.then ?_
        refine At.if rfl (fun hn => ?_) (fun hn => ?_)
        · skip
          refine At.region ?_
          refine At.skim 1 rfl rfl ?_
          refine At.quiet (q_loadS t50 rfl (RdS.loc (i := 1) rfl (m := 2) rfl) rfl) rfl ?_
          refine At.loud (l_buildSlice Try.underlying31 t50 rfl rfl rfl rfl rfl) rfl ?_
          rintro _ _ _ ⟨b4, rfl, rfl, rfl⟩
          refine At.loud (l_append rfl Try.underlying31 t50 rfl rfl ow4 (by simp; omega) (i := 3) rfl rfl (news := [rowP x]) (by simp [rowP]) (RdS.loc (i := 0) rfl (m := 2) rfl) rfl rfl rfl (by omega) (by unfold maxLen; omega)) rfl ?_
          rintro _ _ _ ⟨a5, c5, M5, rfl, ow5, rfl, rfl⟩
          refine At.skim 1 rfl rfl ?_
          refine At.nil ?_
          refine At.inNormal ?_
          refine At.then ?_
          refine At.region ?_
          refine At.quiet (q_add rfl rfl (by omega) (by omega)) rfl ?_
          refine At.skim 1 rfl rfl ?_
          refine At.nil ?_
          refine At.front 3 rfl ?_
          refine At.then ?_
          exact At.againK (k + 1, true, n0 + 1 + 1, o ++ ([p] ++ [x]), a5, c5, M5) ⟨hk1, with_step hx hW (by rw [hd0]; simp [hc]) (by rw [hd0]; simp [hc, hn]), by simpa using ow5, by (try simp); omega, by omega⟩ (by (try dsimp only); omega) (Tells.end 35 ⟨rfl, rfl, rfl, trivial⟩ rfl rfl) (fun _ h => h) (.cons_cons _ (.cons _ (.cons _ (.cons _ (.refl _)))))
        · skip
          refine At.skip ?_
          refine At.inNormal ?_
          refine At.then ?_
          refine At.region ?_
          refine At.quiet (q_add rfl rfl (by omega) (by omega)) rfl ?_
          refine At.skim 1 rfl rfl ?_
          refine At.nil ?_
          refine At.front 2 rfl ?_
          refine At.then ?_
          exact At.againK (k + 1, true, n0 + 1, o ++ ([p] ++ []), a4, c4, M4) ⟨hk1, with_step hx hW (by rw [hd0]; simp [hc]) (by rw [hd0]; simp [hc, show x.k = p.k by omega]), by simpa using ow4, by (try simp); omega, by omega⟩ (by (try dsimp only); omega) (Tells.end 30 ⟨rfl, rfl, rfl, trivial⟩ rfl rfl) (fun _ h => h) (.cons_cons _ (.cons _ (.cons _ (.refl _))))
      · skip
        refine At.skip ?_
        refine At.then ?_
        refine At.seq ?_
        refine At.region ?_
        refine At.fld s50 t3 rfl rfl rfl (Rd.loc (i := 0) rfl rfl) rfl rfl ?_
        refine At.fld s50 t3 rfl rfl rfl (Rd.blk (.head _) rfl) rfl rfl ?_
        refine At.skim 1 rfl rfl ?_
        refine At.nil ?_
        refine At.then ?_
        refine At.if rfl (fun hn => ?_) (fun hn => ?_)
        · skip
          refine At.region ?_
          refine At.skim 1 rfl rfl ?_
          refine At.quiet (q_loadS t50 rfl (RdS.loc (i := 0) rfl (m := 2) rfl) rfl) rfl ?_
          refine At.loud (l_buildSlice Try.underlying31 t50 rfl rfl rfl rfl rfl) rfl ?_
          rintro _ _ _ ⟨b5, rfl, rfl, rfl⟩
          refine At.loud (l_append rfl Try.underlying31 t50 rfl rfl hO (by simp; omega) (i := 2) rfl rfl (news := [rowP x]) (by simp [rowP]) (RdS.loc (i := 0) rfl (m := 2) rfl) rfl rfl rfl (by omega) (by unfold maxLen; omega)) rfl ?_
          rintro _ _ _ ⟨a5, c5, M5, rfl, ow5, rfl, rfl⟩
          refine At.skim 1 rfl rfl ?_
          refine At.nil ?_
          refine At.inNormal ?_
          refine At.then ?_
          refine At.region ?_
          refine At.quiet (q_add rfl rfl (by omega) (by omega)) rfl ?_
          refine At.skim 1 rfl rfl ?_
          refine At.nil ?_
          refine At.front 2 rfl ?_
          refine At.then ?_
          exact At.againK (k + 1, d, n0 + 1, o ++ ([] ++ [x]), a5, c5, M5) ⟨hk1, with_step hx hW (by simp [hc]) (by simp [hc, hn]), by simpa using ow5, by (try simp); omega, by omega⟩ (by (try dsimp only); omega) (Tells.end 29 ⟨rfl, rfl, rfl, trivial⟩ rfl rfl) (fun _ h => h) (.cons_cons _ (.cons _ (.cons _ (.refl _))))
        · skip
          exfalso; omega
    · skip
      have hd0 := not_f hd
      refine At.skim 6 rfl rfl ?_
      refine At.nil ?_
      refine At.then ?_
      refine At.condF rfl ?_
      refine At.skip ?_
      refine At.then ?_
      refine At.seq ?_
      refine At.region ?_
      refine At.fld s50 t3 rfl rfl rfl (Rd.loc (i := 0) rfl rfl) rfl rfl ?_
      refine At.fld s50 t3 rfl rfl rfl (Rd.blk (.head _) rfl) rfl rfl ?_
      refine At.skim 1 rfl rfl ?_
      refine At.nil ?_
      refine At.then ?_
      refine At.if rfl (fun hn => ?_) (fun hn => ?_)
      · skip
        refine At.region ?_
        refine At.skim 1 rfl rfl ?_
        refine At.quiet (q_loadS t50 rfl (RdS.loc (i := 0) rfl (m := 2) rfl) rfl) rfl ?_
        refine At.loud (l_buildSlice Try.underlying31 t50 rfl rfl rfl rfl rfl) rfl ?_
        rintro _ _ _ ⟨b6, rfl, rfl, rfl⟩
        refine At.loud (l_append rfl Try.underlying31 t50 rfl rfl hO (by simp; omega) (i := 2) rfl rfl (news := [rowP x]) (by simp [rowP]) (RdS.loc (i := 0) rfl (m := 2) rfl) rfl rfl rfl (by omega) (by unfold maxLen; omega)) rfl ?_
        rintro _ _ _ ⟨a5, c5, M5, rfl, ow5, rfl, rfl⟩
        refine At.skim 1 rfl rfl ?_
        refine At.nil ?_
        refine At.inNormal ?_
        refine At.then ?_
        refine At.region ?_
        refine At.quiet (q_add rfl rfl (by omega) (by omega)) rfl ?_
        refine At.skim 1 rfl rfl ?_
        refine At.nil ?_
        refine At.front 2 rfl ?_
        refine At.then ?_
        exact At.againK (k + 1, d, n0 + 1, o ++ ([] ++ [x]), a5, c5, M5) ⟨hk1, with_step hx hW (by rw [hd0]; simp) (by rw [hd0]; simp [hn]), by simpa using ow5, by (try simp); omega, by omega⟩ (by (try dsimp only); omega) (Tells.end 29 ⟨rfl, rfl, rfl, trivial⟩ rfl rfl) (fun _ h => h) (.cons_cons _ (.cons _ (.cons _ (.refl _))))
      · skip
        refine At.skip ?_
        refine At.inNormal ?_
        refine At.then ?_
        refine At.region ?_
        refine At.quiet (q_add rfl rfl (by omega) (by omega)) rfl ?_
        refine At.skim 1 rfl rfl ?_
        refine At.nil ?_
        refine At.front 1 rfl ?_
        refine At.then ?_
        exact At.againK (k + 1, d, n0, o ++ ([] ++ []), a, c, M) ⟨hk1, with_step hx hW (by rw [hd0]; simp) (by rw [hd0]; simp [show x.k = p.k by omega]), by simpa using hO, by (try simp); omega, by omega⟩ (by (try dsimp only); omega) (Tells.end 24 ⟨rfl, rfl, rfl, trivial⟩ rfl rfl) (fun _ h => h) (.cons_cons _ (.cons _ (.refl _)))
  · skip
    have hW2 := with_end (by omega) hW
    refine At.exit ?_
    refine At.thenExit ?_
    refine At.thenExit ?_
    refine At.inHere rfl ?_
    refine At.then ?_
    refine At.seq ?_
    refine At.seq ?_
    refine At.region ?_
    refine At.skim 2 rfl rfl ?_
    refine At.nil ?_
    refine At.then ?_
    refine At.cond rfl (fun hd => ?_) (fun hd => ?_)
    · skip
      refine At.region ?_
      refine At.skim 1 rfl rfl ?_
      refine At.quiet (q_loadS t50 rfl (RdS.blk (.head _) (m := 2) rfl) rfl) rfl ?_
      refine At.loud (l_buildSlice Try.underlying31 t50 rfl rfl rfl rfl rfl) rfl ?_
      rintro _ _ _ ⟨b7, rfl, rfl, rfl⟩
      refine At.loud (l_append rfl Try.underlying31 t50 rfl rfl hO (by simp; omega) (i := 1) rfl rfl (news := [rowP p]) (by simp [rowP]) (RdS.loc (i := 0) rfl (m := 2) rfl) rfl rfl rfl (by omega) (by unfold maxLen; omega)) rfl ?_
      rintro _ _ _ ⟨a4, c4, M4, rfl, ow4, rfl, rfl⟩
      refine At.skim 1 rfl rfl ?_
      refine At.nil ?_
      refine At.then ?_
      refine At.seq ?_
      refine At.region ?_
      refine At.freezeOwn 1 (show Own 50 2 ((o ++ [p]).map rowP) a4 c4 M4 by simpa using ow4) rfl ?_
      refine At.skim 2 rfl rfl ?_
      refine At.nil ?_
      refine At.then ?_
      refine At.ret ?_
      exact At.results (Γr := [_]) (M := []) rfl (RVals.cons (RVal.tmp rfl) RVals.nil) (.tail _ (.tail _ (.head _))) (fun _ h => ⟨h.1, trivial⟩) (.cons _ (.refl _)) ⟨⟨a4, c4, o ++ [p]⟩, by simp [Sl.val, resVal, hn0], rfl, rfl, by rw [hW2, not_t hd]; rfl⟩
    · skip
      refine At.skip ?_
      refine At.then ?_
      refine At.seq ?_
      refine At.region ?_
      refine At.freezeOwn 0 hO rfl ?_
      refine At.skim 2 rfl rfl ?_
      refine At.nil ?_
      refine At.then ?_
      refine At.ret ?_
      exact At.results (Γr := [_]) (M := []) rfl (RVals.cons (RVal.tmp rfl) RVals.nil) (.tail _ (.tail _ (.head _))) (fun _ h => ⟨h.1, trivial⟩) (.refl _) ⟨⟨a, c, o⟩, by simp [Sl.val, resVal, hn0], rfl, rfl, by rw [hW2, not_f hd]; simp⟩

end Go.Proofs.Ytmkodknmknfdkaa
