/- The walks of adapt: leaves, ways, neighbours. -/
import Derived.Test.YtmkodknmknfdkaaB10
import Derived.Test.YtmkodknmknfdkaaP12
import Derived.Test.YtmkodknmknfdkaaE13
set_option linter.unusedVariables false
set_option linter.unusedSimpArgs false
namespace Go.Proofs.Ytmkodknmknfdkaa
open E
set_option maxRecDepth 4000

theorem en34 : Enters Try.prog 34 := Enters.mk' Try.func34 rfl rfl
theorem en35 : Enters Try.prog 35 := Enters.mk' Try.func35 rfl rfl
theorem en37 : Enters Try.prog 37 := Enters.mk' Try.func37 rfl rfl
theorem en39 : Enters Try.prog 39 := Enters.mk' Try.func39 rfl rfl
theorem en40 : Enters Try.prog 40 := Enters.mk' Try.func40 rfl rfl
theorem en42 : Enters Try.prog 42 := Enters.mk' Try.func42 rfl rfl
theorem en43 : Enters Try.prog 43 := Enters.mk' Try.func43 rfl rfl
theorem en44 : Enters Try.prog 44 := Enters.mk' Try.func44 rfl rfl
theorem en80 : Enters Try.prog 80 := Enters.mk' Try.func80 rfl rfl
theorem en81 : Enters Try.prog 81 := Enters.mk' Try.func81 rfl rfl
theorem en82 : Enters Try.prog 82 := Enters.mk' Try.func82 rfl rfl
theorem en83 : Enters Try.prog 83 := Enters.mk' Try.func83 rfl rfl
theorem en107 : Enters Try.prog 107 := Enters.mk' Try.func107 rfl rfl
theorem en108 : Enters Try.prog 108 := Enters.mk' Try.func108 rfl rfl

theorem leaf80 (t : Tr) (at_ : Int) : Con Try.prog 80 [t.val, .int .i64 at_] [ndsP t.ns, psP t.ns.l] [] (fun v Γ M => v = .bool (leafT t.p at_) ∧ Γ = [] ∧ M = []) := by
  refine Con.body 27 Try.func80 rfl Try.ntmps80 rfl fun X H₀ L₀ => ?_
  refine At.seq ?_
  refine At.region ?_
  refine At.loud (l_box rfl) rfl ?_
  rintro _ _ _ ⟨b1, rfl, rfl, rfl⟩
  refine At.freeze 0 (φ := blk b1 _) rfl (fun _ h => blk_def.2 ⟨_, _, h⟩) ?_
  refine At.skim 1 rfl rfl ?_
  refine At.nil ?_
  refine At.then ?_
  refine At.seq ?_
  refine At.region ?_
  refine At.quiet (q_loadS t24 rfl (RdS.blk (.head _) (m := 2) rfl) rfl) rfl ?_
  refine At.call en21 rfl (may21 _) (fun _ h => ⟨h.2.2.1, h.2.2.2.1, trivial⟩) (List.Perm.refl _) rfl ?_
  rintro _ _ _ ⟨rfl, rfl, rfl⟩
  refine At.skim 1 rfl rfl ?_
  refine At.split (d := 7) rfl (fun hm => ?_) (fun hm => ?_)
  · skip
    refine At.skim 4 rfl rfl ?_
    refine At.splitP (d := 11) rfl (fun hge => ?_) (fun hge => ?_)
    · skip
      obtain ⟨i, rfl⟩ := Int.eq_ofNat_of_zero_le (show 0 ≤ at_ by omega)
      refine At.skim 1 rfl rfl ?_
      refine At.open rfl rfl ?_
      refine At.quiet (q_fieldAddr s24 rfl rfl rfl) rfl ?_
      refine At.open rfl rfl ?_
      refine At.quiet (q_load t22 rfl (Rd.blk (.head _) rfl)) rfl ?_
      refine At.open rfl rfl ?_
      refine At.quiet (q_len Try.underlying22 rfl) rfl ?_
      refine At.skim 3 rfl rfl ?_
      refine At.splitP (d := 18) rfl (fun hlt => ?_) (fun hlt => ?_)
      · skip
        have hi : i < t.ns.l.length := by omega
        obtain ⟨x, hx⟩ := get_of_lt hi
        have hxp : t.p.ns[i]? = some x.p := map_get hx
        refine At.know (prsP x.ps) (fun _ h => psP_get h.2.2.2.1 hx) ?_
        refine At.open rfl rfl ?_
        refine At.quiet (q_fieldAddr s24 rfl rfl rfl) rfl ?_
        refine At.open rfl rfl ?_
        refine At.quiet (q_load t22 rfl (Rd.blk (.tail _ (.head _)) rfl)) rfl ?_
        refine At.skim 1 rfl rfl ?_
        refine At.open rfl rfl ?_
        refine At.quiet (q_index Try.underlying22 t33 rfl (.tail _ (.tail _ (.tail _ (.head _)))) (by simp) rfl rfl (lt_of_get hx)) rfl ?_
        refine At.open rfl rfl ?_
        refine At.quiet (q_fieldAddr s33 rfl rfl rfl) rfl ?_
        refine At.open rfl rfl ?_
        refine At.quiet (q_load t4 rfl (Rd.sl (.tail _ (.tail _ (.tail _ (.head _)))) (map_get hx) rfl)) rfl ?_
        refine At.skim 3 rfl rfl ?_
        refine At.nil ?_
        refine At.then ?_
        refine At.ret ?_
        exact At.results (Γr := []) (M := []) rfl (RVals.cons (RVal.tmp rfl) RVals.nil) (.tail _ (.tail _ (.head _))) (fun _ _ => trivial) (.refl _) ⟨congrArg Value.bool ((leaf_at hm hxp).symm), rfl, rfl⟩
      · skip
        refine At.skim 9 rfl rfl ?_
        refine At.nil ?_
        refine At.then ?_
        refine At.ret ?_
        exact At.results (Γr := []) (M := []) rfl (RVals.cons (RVal.tmp rfl) RVals.nil) (.tail _ (.head _)) (fun _ _ => trivial) (.refl _) ⟨congrArg Value.bool ((leaf_out (by simp [Tr.p]; omega)).symm), rfl, rfl⟩
    · skip
      refine At.skim 16 rfl rfl ?_
      refine At.nil ?_
      refine At.then ?_
      refine At.ret ?_
      exact At.results (Γr := []) (M := []) rfl (RVals.cons (RVal.tmp rfl) RVals.nil) (.tail _ (.head _)) (fun _ _ => trivial) (.refl _) ⟨congrArg Value.bool ((leaf_neg (by omega)).symm), rfl, rfl⟩
  · skip
    refine At.skim 20 rfl rfl ?_
    refine At.nil ?_
    refine At.then ?_
    refine At.ret ?_
    exact At.results (Γr := []) (M := []) rfl (RVals.cons (RVal.tmp rfl) RVals.nil) (.tail _ (.head _)) (fun _ _ => trivial) (.refl _) ⟨congrArg Value.bool ((leaf_no hm).symm), rfl, rfl⟩

theorem end82 (t : Tr) (s : Sh) (at_ : Int) (rg : Bool) (hH : Hangs t.p.ns s at_) : Con Try.prog 82 [t.val, .int .i64 at_, .bool rg] [ndsP t.ns, psP t.ns.l] [] (fun v Γ M => v = .int .i64 ((if rg then s.last else s.first : Nat) : Int) ∧ Γ = [] ∧ M = []) := by
  refine Con.body 25 Try.func82 rfl Try.ntmps82 rfl fun X H₀ L₀ => ?_
  refine At.seq ?_
  refine At.region ?_
  refine At.loud (l_box rfl) rfl ?_
  rintro _ _ _ ⟨b1, rfl, rfl, rfl⟩
  refine At.freeze 0 (φ := blk b1 _) rfl (fun _ h => blk_def.2 ⟨_, _, h⟩) ?_
  refine At.skim 1 rfl rfl ?_
  refine At.nil ?_
  refine At.then ?_
  refine At.seq ?_
  refine At.block ?_
  refine At.loopK (ι := Sh × Int) [1, 7, 8, 9, 10, 11, 12, 13, 14, 15, 16, 17, 18, 19, 20, 21, 22, 23] (fun ⟨s1, at1⟩ => [(1, .int .i64 at1)]) (fun ⟨s1, at1⟩ => []) (fun ⟨s1, at1⟩ => []) _ (fun ⟨s1, at1⟩ => Hangs t.p.ns s1 at1 ∧ (if rg then s1.last else s1.first) = (if rg then s.last else s.first)) (fun ⟨s1, at1⟩ => s1.size) (s, at_) ⟨hH, rfl⟩ ⟨rfl, trivial⟩ (fun _ _ => trivial) (.refl _) ?_
  intro i0 hI0
  obtain ⟨s1, at1⟩ := i0
  obtain ⟨hH1, he⟩ := hI0
  obtain ⟨i, x, rfl, hx, hxg, hc⟩ := hH1.at
  refine At.know (prsP x.ps) (fun _ h => psP_get h.2.2.2.1 hx) ?_
  refine At.seq ?_
  refine At.seq ?_
  refine At.region ?_
  refine At.fld s24 t22 rfl rfl rfl (Rd.blk (.tail _ (.head _)) rfl) rfl rfl ?_
  refine At.skim 1 rfl rfl ?_
  refine At.quiet (q_index Try.underlying22 t33 rfl (.tail _ (.tail _ (.tail _ (.head _)))) (by simp) rfl rfl (lt_of_get hx)) rfl ?_
  refine At.fld s33 t4 rfl rfl rfl (Rd.sl (.tail _ (.tail _ (.tail _ (.head _)))) (map_get hx) rfl) rfl rfl ?_
  refine At.nil ?_
  refine At.then ?_
  refine At.cond rfl (fun hr => ?_) (fun hr => ?_)
  · skip
    obtain ⟨l, r, rfl, hl, hr2⟩ : ∃ l r, s1 = .node i l r ∧ Hangs t.p.ns l x.left ∧ Hangs t.p.ns r x.right := by
      rcases hc with ⟨h, _⟩ | ⟨_, h⟩
      · rw [show x.route = true from hr] at h; cases h
      · exact h
    refine At.skip ?_
    refine At.then ?_
    refine At.block ?_
    refine At.seq ?_
    refine At.region ?_
    refine At.fld s24 t22 rfl rfl rfl (Rd.blk (.tail _ (.head _)) rfl) rfl rfl ?_
    refine At.skim 1 rfl rfl ?_
    refine At.quiet (q_index Try.underlying22 t33 rfl (.tail _ (.tail _ (.tail _ (.head _)))) (by simp) rfl rfl (lt_of_get hx)) rfl ?_
    refine At.quiet (q_loadS t33 rfl (RdS.sl0 (.tail _ (.tail _ (.tail _ (.head _)))) (map_get hx)) rfl) rfl ?_
    refine At.loud (l_alloc t33) rfl ?_
    rintro _ _ _ ⟨b2, rfl, rfl, rfl⟩
    refine At.loudN (l_store t33 rfl rfl (i := 0) rfl rfl rfl rfl) ?_
    rintro _ _ _ ⟨rfl, rfl⟩
    refine At.nil ?_
    refine At.then ?_
    refine At.seq ?_
    refine At.region ?_
    refine At.skim 1 rfl rfl ?_
    refine At.nil ?_
    refine At.then ?_
    refine At.cond rfl (fun hg => ?_) (fun hg => ?_)
    · skip
      refine At.region ?_
      refine At.fld s33 t3 rfl rfl rfl (Rd.loc (i := 0) rfl rfl) rfl rfl ?_
      refine At.skim 1 rfl rfl ?_
      refine At.nil ?_
      refine At.inNormal ?_
      refine At.then ?_
      exact At.againK (r, x.right) ⟨hr2, by rw [← he, hg]; rfl⟩ (by simp only [Sh.size]; omega) (Tells.end 17 ⟨rfl, trivial⟩ rfl rfl) (fun _ h => h.2) (.cons _ (.refl _))
    · skip
      refine At.region ?_
      refine At.fld s33 t3 rfl rfl rfl (Rd.loc (i := 0) rfl rfl) rfl rfl ?_
      refine At.skim 1 rfl rfl ?_
      refine At.nil ?_
      refine At.inNormal ?_
      refine At.then ?_
      exact At.againK (l, x.left) ⟨hl, by rw [← he, hg]; rfl⟩ (by simp only [Sh.size]; omega) (Tells.end 17 ⟨rfl, trivial⟩ rfl rfl) (fun _ h => h.2) (.cons _ (.refl _))
  · skip
    obtain rfl : s1 = .leaf i := by
      rcases hc with ⟨_, h⟩ | ⟨h, _⟩
      · exact h
      · rw [show x.route = false from hr] at h; cases h
    refine At.exit ?_
    refine At.thenExit ?_
    refine At.thenExit ?_
    refine At.inHere rfl ?_
    refine At.then ?_
    refine At.seq ?_
    refine At.region ?_
    refine At.skim 2 rfl rfl ?_
    refine At.nil ?_
    refine At.then ?_
    refine At.ret ?_
    exact At.results (Γr := []) (M := []) rfl (RVals.cons (RVal.tmp rfl) RVals.nil) (.tail _ (.tail _ (.head _))) (fun _ _ => trivial) (.refl _) ⟨congrArg (Value.int .i64) (congrArg Int.ofNat (by rw [← he]; cases rg <;> rfl)), rfl, rfl⟩

theorem other83 (t : Tr) (us : Sl Int) (rs : Sl Bool) (leaf : Int) (q : Nat) (u : List Nat) (x : Nd) (hu : us.l = toI (u ++ [q])) (hx : t.ns.l[q]? = some x) : Con Try.prog 83 [t.val, PathS.val ⟨leaf, us, rs⟩] [ndsP t.ns, psP t.ns.l, intsP us, boolsP rs] [] (fun v Γ M => v = .int .i64 (if rs.l.getLast?.getD false then x.left else x.right) ∧ Γ = [] ∧ M = []) := by
  refine Con.body 24 Try.func83 rfl Try.ntmps83 rfl fun X H₀ L₀ => ?_
  have hul : us.l.length = u.length + 1 := by rw [hu, toI_length]; simp
  have hlast : us.l[u.length]? = some (q : Int) := by rw [hu, toI_snoc]; simp [toI]
  refine At.lenOf (hs := (.tail _ (.tail _ (.tail _ (.head _))))) fun hlus => ?_
  rw [List.length_map] at hlus
  refine At.know (prsP x.ps) (fun _ h => psP_get h.2.2.1 hx) ?_
  refine At.seq ?_
  refine At.region ?_
  refine At.loud (l_box rfl) rfl ?_
  rintro _ _ _ ⟨b1, rfl, rfl, rfl⟩
  refine At.freeze 0 (φ := blk b1 _) rfl (fun _ h => blk_def.2 ⟨_, _, h⟩) ?_
  refine At.loud (l_box rfl) rfl ?_
  rintro _ _ _ ⟨b2, rfl, rfl, rfl⟩
  refine At.freeze 0 (φ := blk b2 _) rfl (fun _ h => blk_def.2 ⟨_, _, h⟩) ?_
  refine At.skim 1 rfl rfl ?_
  refine At.nil ?_
  refine At.then ?_
  refine At.seq ?_
  refine At.draw 13 (.q 0 (.q 1 (.q 2 (.q 3 (.q 4 (.q 5 (.q 6 (.q 7 (.q 8 (.q 9 (.q 10 (.q 11 (.o 12 (.e)))))))))))))) _ (List.Sublist.refl _) mixed (by kernel_rfl) rfl ?_
  refine AtO.quiet rfl (q_fieldAddr s24 rfl rfl rfl) rfl (Calm.then Post.calm) ?_
  refine AtO.quiet rfl (q_load t22 rfl (Rd.blk (.tail _ (.head _)) rfl)) rfl (Calm.then Post.calm) ?_
  refine AtO.quiet rfl (q_fieldAddr s40 rfl rfl rfl) rfl (Calm.then Post.calm) ?_
  refine AtO.quiet rfl (q_load t37 rfl (Rd.blk (.head _) rfl)) rfl (Calm.then Post.calm) ?_
  refine AtO.quiet rfl (q_fieldAddr s40 rfl rfl rfl) rfl (Calm.then Post.calm) ?_
  refine AtO.quiet rfl (q_load t37 rfl (Rd.blk (.head _) rfl)) rfl (Calm.then Post.calm) ?_
  refine AtO.quiet rfl (q_len Try.underlying37 rfl) rfl (Calm.then Post.calm) ?_
  refine AtO.quiet rfl (q_sub rfl rfl (by dsimp only; omega) (by dsimp only; omega)) rfl (Calm.then Post.calm) ?_
  refine AtO.quiet rfl (q_index Try.underlying37 t3 rfl (.tail _ (.tail _ (.tail _ (.tail _ (.tail _ (.tail _ (.head _))))))) (by simp) rfl (by dsimp only; omega) (lt_of_get hlast)) rfl (Calm.then Post.calm) ?_
  refine AtO.quiet rfl (q_load t3 rfl (Rd.sl0 (.tail _ (.tail _ (.tail _ (.tail _ (.tail _ (.tail _ (.head _))))))) (map_get hlast) rfl)) rfl (Calm.then Post.calm) ?_
  refine AtO.quiet rfl (q_index Try.underlying22 t33 rfl (.tail _ (.tail _ (.tail _ (.tail _ (.head _))))) (by simp) rfl rfl (lt_of_get hx)) rfl (Calm.then Post.calm) ?_
  refine AtO.quiet rfl (q_loadS t33 rfl (RdS.sl0 (.tail _ (.tail _ (.tail _ (.tail _ (.head _))))) (map_get hx)) rfl) rfl (Calm.then Post.calm) ?_
  refine AtO.loudA rfl (l_alloc t33) rfl (by rintro _ _ _ ⟨_, rfl, rfl, rfl⟩; exact ⟨fun _ h => h, .cons _ (.refl _)⟩) ?_
  rintro _ _ _ ⟨b3, rfl, rfl, rfl⟩
  refine AtO.done ?_
  refine At.loudN (l_store t33 rfl rfl (i := 0) rfl rfl rfl rfl) ?_
  rintro _ _ _ ⟨rfl, rfl⟩
  refine At.nil ?_
  refine At.then ?_
  refine At.seq ?_
  refine At.seq ?_
  refine At.region ?_
  refine At.quiet (q_loadS t40 rfl (RdS.blk (.head _) (m := 3) rfl) rfl) rfl ?_
  refine At.call en32 rfl (right32 ⟨leaf, us, rs⟩) (fun _ h => ⟨h.2.2.2.2.2.2.2.1, trivial⟩) (List.Perm.refl _) rfl ?_
  rintro _ _ _ ⟨rfl, rfl, rfl⟩
  refine At.nil ?_
  refine At.then ?_
  refine At.cond rfl (fun hr => ?_) (fun hr => ?_)
  · skip
    refine At.seq ?_
    refine At.region ?_
    refine At.fld s33 t3 rfl rfl rfl (Rd.loc (i := 0) rfl rfl) rfl rfl ?_
    refine At.skim 1 rfl rfl ?_
    refine At.nil ?_
    refine At.then ?_
    refine At.ret ?_
    refine At.thenRet ?_
    exact At.results (Γr := []) (M := []) rfl (RVals.cons (RVal.tmp rfl) RVals.nil) (.tail _ (.tail _ (.tail _ (.head _)))) (fun _ _ => trivial) (.cons _ (.refl _)) ⟨congrArg (Value.int .i64) (by rw [show rs.l.getLast?.getD false = true from hr]; rfl), rfl, rfl⟩
  · skip
    refine At.skip ?_
    refine At.then ?_
    refine At.seq ?_
    refine At.region ?_
    refine At.fld s33 t3 rfl rfl rfl (Rd.loc (i := 0) rfl rfl) rfl rfl ?_
    refine At.skim 1 rfl rfl ?_
    refine At.nil ?_
    refine At.then ?_
    refine At.ret ?_
    exact At.results (Γr := []) (M := []) rfl (RVals.cons (RVal.tmp rfl) RVals.nil) (.tail _ (.tail _ (.tail _ (.head _)))) (fun _ _ => trivial) (.cons _ (.refl _)) ⟨congrArg (Value.int .i64) (by rw [show rs.l.getLast?.getD false = false from hr]; rfl), rfl, rfl⟩

theorem copied84 (t : Tr) (hsm : smallP t.ns.l) (hfew : t.ns.l.length ≤ 100000) : Con Try.prog 84 [t.val] [ndsP t.ns, psP t.ns.l] [] (CopyEnd t) := by
  refine Con.body 28 Try.func84 rfl Try.ntmps84 rfl fun X H₀ L₀ => ?_
  refine At.nilSeg ?_
  refine At.know (psP []) (fun _ h => psP_nil) ?_
  refine At.seq ?_
  refine At.region ?_
  refine At.loud (l_box rfl) rfl ?_
  rintro _ _ _ ⟨b1, rfl, rfl, rfl⟩
  refine At.freeze 0 (φ := blk b1 _) rfl (fun _ h => blk_def.2 ⟨_, _, h⟩) ?_
  refine At.loud (l_alloc t24) rfl ?_
  rintro _ _ _ ⟨b2, rfl, rfl, rfl⟩
  refine At.nil ?_
  refine At.then ?_
  refine At.seq ?_
  refine At.region ?_
  refine At.fld s24 t3 rfl rfl rfl (Rd.blk (.head _) rfl) rfl rfl ?_
  refine At.quiet (q_build t24 s24 rfl rfl) rfl ?_
  refine At.loud (l_alloc t24) rfl ?_
  rintro _ _ _ ⟨b3, rfl, rfl, rfl⟩
  refine At.loudN (l_store t24 rfl rfl (i := 0) rfl rfl rfl rfl) ?_
  rintro _ _ _ ⟨rfl, rfl⟩
  refine At.nil ?_
  refine At.then ?_
  refine At.seq ?_
  refine At.seq ?_
  refine At.region ?_
  refine At.fld s24 t22 rfl rfl rfl (Rd.blk (.head _) rfl) rfl rfl ?_
  refine At.quiet (q_len Try.underlying22 rfl) rfl ?_
  refine At.skim 1 rfl rfl ?_
  refine At.nil ?_
  refine At.then ?_
  refine At.block ?_
  refine At.front 2 rfl ?_
  refine At.front 1 rfl ?_
  refine At.loopK (ι := Nat × List Nd × Option Addr × Nat × Seg) [5, 12, 13, 14, 15, 16, 17, 18, 19, 20, 21, 22, 23, 24, 25, 26] (fun ⟨k, o, a, c, M⟩ => [(12, .int .i64 (k : Int))]) (fun ⟨k, o, a, c, M⟩ => [psP o]) (fun ⟨k, o, a, c, M⟩ => [[(b3, .cells #[.int .i64 t.root, .slice a k c] 24 (0, 0))], M]) _ (fun ⟨k, o, a, c, M⟩ => k ≤ t.ns.l.length ∧ Own 33 6 (o.map rowN) a c M ∧ o.length = k ∧ o.map Nd.p = t.p.ns.take k) (fun ⟨k, o, a, c, M⟩ => t.ns.l.length - k) (0, [], none, 0, []) ⟨Nat.zero_le _, Own.nil _ _, rfl, by simp⟩ ⟨rfl, trivial⟩ (fun _ _ => ⟨psP_nil, trivial⟩) (.cons_cons _ (.cons_cons _ (.refl _))) ?_
  intro i0 hI0
  obtain ⟨k, o, a, c, M⟩ := i0
  obtain ⟨hkl, hO, hok, hoe⟩ := hI0
  refine At.seq ?_
  refine At.region ?_
  refine At.skim 1 rfl rfl ?_
  refine At.nil ?_
  refine At.then ?_
  refine At.seq ?_
  refine At.if rfl (fun hk => ?_) (fun hk => ?_)
  · skip
    obtain ⟨y, hy⟩ := get_of_lt (l := t.ns.l) (i := k) (by omega)
    have hk1 := lt_of_get hy
    have hys := hsm y (List.mem_of_getElem? hy)
    refine At.know (prsP y.ps) (fun _ h => psP_get h.2.2.2.2.2.1 hy) ?_
    refine At.skip ?_
    refine At.then ?_
    refine At.seq ?_
    refine At.block ?_
    refine At.seq ?_
    refine At.region ?_
    refine At.quiet (q_index Try.underlying22 t33 rfl (.tail _ (.tail _ (.tail _ (.tail _ (.tail _ (.head _)))))) (by simp) rfl rfl (lt_of_get hy)) rfl ?_
    refine At.quiet (q_loadS t33 rfl (RdS.sl0 (.tail _ (.tail _ (.tail _ (.tail _ (.tail _ (.head _)))))) (map_get hy)) rfl) rfl ?_
    refine At.loud (l_alloc t33) rfl ?_
    rintro _ _ _ ⟨b4, rfl, rfl, rfl⟩
    refine At.loudN (l_store t33 rfl rfl (i := 0) rfl rfl rfl rfl) ?_
    rintro _ _ _ ⟨rfl, rfl⟩
    refine At.nil ?_
    refine At.then ?_
    refine At.seq ?_
    refine At.region ?_
    refine At.fld s33 t31 rfl rfl rfl (Rd.loc (i := 0) rfl rfl) rfl rfl ?_
    refine At.call en72 rfl (clone72 y.ps hys) (fun _ h => ⟨h.1, trivial⟩) (List.Perm.refl _) rfl ?_
    rintro _ _ _ ⟨s0, rfl, hs0, rfl, rfl⟩
    refine At.quiet (q_fieldAddr s33 rfl rfl rfl) rfl ?_
    refine At.loudN (l_store t31 rfl rfl (i := 0) rfl rfl rfl rfl) ?_
    rintro _ _ _ ⟨rfl, rfl⟩
    refine At.nil ?_
    refine At.then ?_
    refine At.region ?_
    refine At.fld s24 t22 rfl rfl rfl (Rd.loc (i := 1) rfl rfl) rfl rfl ?_
    refine At.quiet (q_loadS t33 rfl (RdS.loc (i := 0) rfl (m := 6) rfl) rfl) rfl ?_
    refine At.loud (l_buildSlice Try.underlying22 t33 rfl rfl rfl rfl rfl) rfl ?_
    rintro _ _ _ ⟨b5, rfl, rfl, rfl⟩
    refine At.loud (l_append rfl Try.underlying22 t33 rfl rfl hO (by simp; omega) (i := 3) rfl rfl (news := [rowN { y with ps := s0 }]) (by simp [rowN]) (RdS.loc (i := 0) rfl (m := 6) rfl) rfl rfl rfl (by omega) (by unfold maxLen; omega)) rfl ?_
    rintro _ _ _ ⟨a2, c2, M2, rfl, ow, rfl, rfl⟩
    refine At.quiet (q_fieldAddr s24 rfl rfl rfl) rfl ?_
    refine At.loudN (l_store t22 rfl rfl (i := 2) rfl rfl rfl rfl) ?_
    rintro _ _ _ ⟨rfl, rfl⟩
    refine At.nil ?_
    refine At.inNormal ?_
    refine At.then ?_
    refine At.region ?_
    refine At.know (psP (o ++ [{ y with ps := s0 }])) (fun _ h => psP_snoc (n := { y with ps := s0 }) h.2.2.1 h.1) ?_
    refine At.quiet (q_add rfl rfl (by omega) (by omega)) rfl ?_
    refine At.skim 1 rfl rfl ?_
    refine At.nil ?_
    refine At.front 3 rfl ?_
    refine At.front 3 rfl ?_
    refine At.then ?_
    exact At.againK (k + 1, o ++ [{ y with ps := s0 }], a2, c2, M2) ⟨hk1, by simpa using ow, by simp; omega, copy_step (s0 := s0) hoe hs0 (map_get hy)⟩ (by (try dsimp only); omega) (Tells.end 17 ⟨rfl, trivial⟩ rfl rfl) (fun _ h => ⟨h.1, h.2.2.2.2⟩) (.cons_cons _ (.cons_cons _ (.cons _ (.cons _ (.refl _)))))
  · skip
    have hoe2 : o.map Nd.p = t.p.ns := by rw [hoe, List.take_of_length_le (by simp [Tr.p]; omega)]
    subst hok
    refine At.exit ?_
    refine At.thenExit ?_
    refine At.thenExit ?_
    refine At.inHere rfl ?_
    refine At.then ?_
    refine At.seq ?_
    refine At.region ?_
    refine At.quiet (q_loadS t24 rfl (RdS.loc (i := 0) rfl (m := 2) rfl) rfl) rfl ?_
    refine At.loudN (l_store t24 rfl rfl (i := 2) rfl rfl rfl rfl) ?_
    rintro _ _ _ ⟨rfl, rfl⟩
    refine At.nil ?_
    refine At.then ?_
    refine At.ret ?_
    exact At.results (Γr := [psP o]) (M := [M]) rfl (RVals.cons (RVal.cellS rfl t24 (RdS.loc (i := 2) rfl (m := 2) rfl) rfl) RVals.nil) (.tail _ (.tail _ (.tail _ (.head _)))) (fun _ h => ⟨h.1, trivial⟩) (.cons _ (.cons_cons _ (.cons _ (.refl _)))) ⟨⟨t.root, ⟨a, c, o⟩⟩, M, rfl, rfl, rfl, hO, by simp only [Tr.p]; exact congrArg (PT.mk t.root) hoe2⟩

theorem rev107 (l : List Int) (a : Option Addr) (c : Nat) (M0 : Seg) (hO0 : Own 3 1 (l.map rowI) a c M0) (hl : l.length ≤ 4000000) : Con Try.prog 107 [.slice a l.length c] [] [M0] (fun v Γ M => ∃ M1, Γ = [] ∧ M = [M1] ∧ Own 3 1 (l.reverse.map rowI) a c M1) := by
  refine Con.body 28 Try.func107 rfl Try.ntmps107 rfl fun X H₀ L₀ => ?_
  refine At.seq ?_
  refine At.region ?_
  refine At.skim 1 rfl rfl ?_
  refine At.quiet (q_len Try.underlying37 rfl) rfl ?_
  refine At.quiet (q_sub rfl rfl (by omega) (by omega)) rfl ?_
  refine At.skim 2 rfl rfl ?_
  refine At.nil ?_
  refine At.then ?_
  refine At.block ?_
  refine At.say 3 (.int .i64 ((l.length : Int) - 1 - ((0 : Nat) : Int))) rfl (congrArg (Value.int .i64) (by simp)) ?_
  refine At.loopK (ι := Nat × List Int × Seg) [2, 3, 7, 8, 9, 10, 11, 12, 13, 14, 15, 16, 17, 18, 19, 20, 21, 22, 23, 24, 25, 26, 27] (fun ⟨i, o, M⟩ => [(2, .int .i64 (i : Int)), (3, .int .i64 ((l.length : Int) - 1 - (i : Int)))]) (fun ⟨i, o, M⟩ => []) (fun ⟨i, o, M⟩ => [M]) _ (fun ⟨i, o, M⟩ => RevAt l o i ∧ Own 3 1 (o.map rowI) a c M ∧ i + i ≤ l.length + 1) (fun ⟨i, o, M⟩ => l.length + 1 - i - i) (0, l, M0) ⟨RevAt.start l, hO0, by omega⟩ ⟨rfl, rfl, trivial⟩ (fun _ _ => trivial) (.cons_cons _ (.refl _)) ?_
  intro i0 hI0
  obtain ⟨i, o, M⟩ := i0
  obtain ⟨hR, hO, hi2⟩ := hI0
  refine At.seq ?_
  refine At.seq ?_
  refine At.region ?_
  refine At.skim 3 rfl rfl ?_
  refine At.nil ?_
  refine At.then ?_
  refine At.if rfl (fun hlt => ?_) (fun hlt => ?_)
  · skip
    obtain ⟨k, hk⟩ : ∃ k : Nat, k + i + 1 = l.length := ⟨l.length - 1 - i, by omega⟩
    have hik : i < k := by omega
    have hol := hR.1
    obtain ⟨x, hx⟩ := get_of_lt (l := o) (i := i) (by omega)
    obtain ⟨y, hy⟩ := get_of_lt (l := o) (i := k) (by omega)
    have hi3 : i < l.length := by omega
    have hk3 : k < l.length := by omega
    refine At.skip ?_
    refine At.then ?_
    refine At.seq ?_
    refine At.block ?_
    refine At.draw 14 (.q 0 (.q 1 (.q 2 (.q 3 (.q 4 (.q 5 (.q 6 (.q 8 (.q 9 (.q 10 (.t 7 (.o 11 (.q 12 (.o 13 (.e)))) 11 (.o 7 (.q 12 (.o 13 (.e))))))))))))))) (L₀) (.cons _ (.refl _)) mixed (by kernel_rfl) rfl ?_
    refine AtO.quiet rfl (q_move rfl) rfl (Calm.inBlock (Calm.then (Calm.then (Calm.inBlock Post.calm)))) ?_
    refine AtO.quiet rfl (q_move rfl) rfl (Calm.inBlock (Calm.then (Calm.then (Calm.inBlock Post.calm)))) ?_
    refine AtO.quiet rfl (q_move rfl) rfl (Calm.inBlock (Calm.then (Calm.then (Calm.inBlock Post.calm)))) ?_
    refine AtO.quiet rfl (q_move rfl) rfl (Calm.inBlock (Calm.then (Calm.then (Calm.inBlock Post.calm)))) ?_
    refine AtO.quiet rfl (q_move rfl) rfl (Calm.inBlock (Calm.then (Calm.then (Calm.inBlock Post.calm)))) ?_
    refine AtO.quiet rfl (q_move rfl) rfl (Calm.inBlock (Calm.then (Calm.then (Calm.inBlock Post.calm)))) ?_
    refine AtO.quiet rfl (q_indexOwn Try.underlying37 t3 rfl hO (by simp [hol]) rfl (by omega) hk3) rfl (Calm.inBlock (Calm.then (Calm.then (Calm.inBlock Post.calm)))) ?_
    refine AtO.quiet rfl (q_move rfl) rfl (Calm.inBlock (Calm.then (Calm.then (Calm.inBlock Post.calm)))) ?_
    refine AtO.quiet rfl (q_move rfl) rfl (Calm.inBlock (Calm.then (Calm.then (Calm.inBlock Post.calm)))) ?_
    refine AtO.quiet rfl (q_indexOwn Try.underlying37 t3 rfl hO (by simp [hol]) rfl rfl hi3) rfl (Calm.inBlock (Calm.then (Calm.then (Calm.inBlock Post.calm)))) ?_
    refine AtO.two ?_ ?_
    · skip
      refine AtO.loud rfl (Quiet.loud (q_load t3 rfl (Rd.own0 hO (i := 0) rfl (map_get hy) rfl))) rfl (by rintro _ _ _ ⟨rfl, rfl, rfl⟩; exact ⟨fun _ h => h, (.cons _ (.refl _))⟩) ?_
      rintro _ _ _ ⟨rfl, rfl, rfl⟩
      refine AtO.loud rfl (Quiet.loud (q_load t3 rfl (Rd.own0 hO (i := 0) rfl (map_get hx) rfl))) rfl (by rintro _ _ _ ⟨rfl, rfl, rfl⟩; exact ⟨fun _ h => h, (.cons _ (.refl _))⟩) ?_
      rintro _ _ _ ⟨rfl, rfl, rfl⟩
      refine AtO.quiet rfl (q_indexOwn Try.underlying37 t3 rfl hO (by simp [hol]) rfl rfl hi3) rfl (Calm.inBlock (Calm.then (Calm.then (Calm.inBlock Post.calm)))) ?_
      refine AtO.loudNA rfl (l_storeOwn0 t3 rfl rfl hO (i := 0) rfl (map_get hx) rfl rfl rfl) (by rintro _ _ _ ⟨_, _, rfl, rfl⟩; exact ⟨fun _ h => h, (.cons _ (.refl _))⟩) ?_
      rintro _ _ _ ⟨Mow1, ow1, rfl, rfl⟩
      refine AtO.done ?_
      refine At.quiet (q_indexOwn Try.underlying37 t3 rfl hO (by simp [hol]) rfl (by omega) hk3) rfl ?_
      refine At.loudN (l_storeOwn0 t3 rfl rfl (show Own 3 1 ((o.set i y).map rowI) a c _ by rw [List.map_set]; exact ow1) (i := 0) rfl (map_get (show (o.set i y)[k]? = some y by rw [List.getElem?_set_ne (by omega)]; exact hy)) rfl rfl rfl) ?_
      rintro _ _ _ ⟨Mow2, ow2, rfl, rfl⟩
      refine At.nil ?_
      refine At.inNormal ?_
      refine At.then ?_
      refine At.region ?_
      have hO2 : Own 3 1 (((o.set i y).set k x).map rowI) a c Mow2 := by rw [List.map_set]; exact ow2
      refine At.skim 1 rfl rfl ?_
      refine At.quiet (q_add rfl rfl (by omega) (by omega)) rfl ?_
      refine At.skim 1 rfl rfl ?_
      refine At.quiet (q_sub rfl rfl (by omega) (by omega)) rfl ?_
      refine At.skim 2 rfl rfl ?_
      refine At.nil ?_
      refine At.say 3 (.int .i64 ((l.length : Int) - 1 - ((i + 1 : Nat) : Int))) rfl (congrArg (Value.int .i64) (by omega)) ?_
      refine At.then ?_
      exact At.againK (i + 1, (o.set i y).set k x, _) ⟨hR.step hk hik hx hy, hO2, by omega⟩ (by (try dsimp only); omega) (Tells.end 26 ⟨rfl, rfl, trivial⟩ rfl rfl) (fun _ h => h) (.cons_cons _ (.refl _))
    · skip
      refine AtO.loud rfl (Quiet.loud (q_load t3 rfl (Rd.own0 hO (i := 0) rfl (map_get hx) rfl))) rfl (by rintro _ _ _ ⟨rfl, rfl, rfl⟩; exact ⟨fun _ h => h, (.cons _ (.refl _))⟩) ?_
      rintro _ _ _ ⟨rfl, rfl, rfl⟩
      refine AtO.loud rfl (Quiet.loud (q_load t3 rfl (Rd.own0 hO (i := 0) rfl (map_get hy) rfl))) rfl (by rintro _ _ _ ⟨rfl, rfl, rfl⟩; exact ⟨fun _ h => h, (.cons _ (.refl _))⟩) ?_
      rintro _ _ _ ⟨rfl, rfl, rfl⟩
      refine AtO.quiet rfl (q_indexOwn Try.underlying37 t3 rfl hO (by simp [hol]) rfl rfl hi3) rfl (Calm.inBlock (Calm.then (Calm.then (Calm.inBlock Post.calm)))) ?_
      refine AtO.loudNA rfl (l_storeOwn0 t3 rfl rfl hO (i := 0) rfl (map_get hx) rfl rfl rfl) (by rintro _ _ _ ⟨_, _, rfl, rfl⟩; exact ⟨fun _ h => h, (.cons _ (.refl _))⟩) ?_
      rintro _ _ _ ⟨Mow3, ow3, rfl, rfl⟩
      refine AtO.done ?_
      refine At.quiet (q_indexOwn Try.underlying37 t3 rfl hO (by simp [hol]) rfl (by omega) hk3) rfl ?_
      refine At.loudN (l_storeOwn0 t3 rfl rfl (show Own 3 1 ((o.set i y).map rowI) a c _ by rw [List.map_set]; exact ow3) (i := 0) rfl (map_get (show (o.set i y)[k]? = some y by rw [List.getElem?_set_ne (by omega)]; exact hy)) rfl rfl rfl) ?_
      rintro _ _ _ ⟨Mow4, ow4, rfl, rfl⟩
      refine At.nil ?_
      refine At.inNormal ?_
      refine At.then ?_
      refine At.region ?_
      have hO2 : Own 3 1 (((o.set i y).set k x).map rowI) a c Mow4 := by rw [List.map_set]; exact ow4
      refine At.skim 1 rfl rfl ?_
      refine At.quiet (q_add rfl rfl (by omega) (by omega)) rfl ?_
      refine At.skim 1 rfl rfl ?_
      refine At.quiet (q_sub rfl rfl (by omega) (by omega)) rfl ?_
      refine At.skim 2 rfl rfl ?_
      refine At.nil ?_
      refine At.say 3 (.int .i64 ((l.length : Int) - 1 - ((i + 1 : Nat) : Int))) rfl (congrArg (Value.int .i64) (by omega)) ?_
      refine At.then ?_
      exact At.againK (i + 1, (o.set i y).set k x, _) ⟨hR.step hk hik hx hy, hO2, by omega⟩ (by (try dsimp only); omega) (Tells.end 26 ⟨rfl, rfl, trivial⟩ rfl rfl) (fun _ h => h) (.cons_cons _ (.refl _))
  · skip
    obtain rfl := hR.done (by omega)
    refine At.exit ?_
    refine At.thenExit ?_
    refine At.thenExit ?_
    refine At.inHere rfl ?_
    exact At.resultsN (Γr := []) (M := [M]) rfl RVals.nil (.head _) (fun _ _ => trivial) (.cons_cons _ (.refl _)) ⟨M, rfl, rfl, hO⟩

theorem rev108 (l : List Bool) (a : Option Addr) (c : Nat) (M0 : Seg) (hO0 : Own 4 1 (l.map rowB) a c M0) (hl : l.length ≤ 4000000) : Con Try.prog 108 [.slice a l.length c] [] [M0] (fun v Γ M => ∃ M1, Γ = [] ∧ M = [M1] ∧ Own 4 1 (l.reverse.map rowB) a c M1) := by
  refine Con.body 28 Try.func108 rfl Try.ntmps108 rfl fun X H₀ L₀ => ?_
  refine At.seq ?_
  refine At.region ?_
  refine At.skim 1 rfl rfl ?_
  refine At.quiet (q_len Try.underlying38 rfl) rfl ?_
  refine At.quiet (q_sub rfl rfl (by omega) (by omega)) rfl ?_
  refine At.skim 2 rfl rfl ?_
  refine At.nil ?_
  refine At.then ?_
  refine At.block ?_
  refine At.say 3 (.int .i64 ((l.length : Int) - 1 - ((0 : Nat) : Int))) rfl (congrArg (Value.int .i64) (by simp)) ?_
  refine At.loopK (ι := Nat × List Bool × Seg) [2, 3, 7, 8, 9, 10, 11, 12, 13, 14, 15, 16, 17, 18, 19, 20, 21, 22, 23, 24, 25, 26, 27] (fun ⟨i, o, M⟩ => [(2, .int .i64 (i : Int)), (3, .int .i64 ((l.length : Int) - 1 - (i : Int)))]) (fun ⟨i, o, M⟩ => []) (fun ⟨i, o, M⟩ => [M]) _ (fun ⟨i, o, M⟩ => RevAt l o i ∧ Own 4 1 (o.map rowB) a c M ∧ i + i ≤ l.length + 1) (fun ⟨i, o, M⟩ => l.length + 1 - i - i) (0, l, M0) ⟨RevAt.start l, hO0, by omega⟩ ⟨rfl, rfl, trivial⟩ (fun _ _ => trivial) (.cons_cons _ (.refl _)) ?_
  intro i0 hI0
  obtain ⟨i, o, M⟩ := i0
  obtain ⟨hR, hO, hi2⟩ := hI0
  refine At.seq ?_
  refine At.seq ?_
  refine At.region ?_
  refine At.skim 3 rfl rfl ?_
  refine At.nil ?_
  refine At.then ?_
  refine At.if rfl (fun hlt => ?_) (fun hlt => ?_)
  · skip
    obtain ⟨k, hk⟩ : ∃ k : Nat, k + i + 1 = l.length := ⟨l.length - 1 - i, by omega⟩
    have hik : i < k := by omega
    have hol := hR.1
    obtain ⟨x, hx⟩ := get_of_lt (l := o) (i := i) (by omega)
    obtain ⟨y, hy⟩ := get_of_lt (l := o) (i := k) (by omega)
    have hi3 : i < l.length := by omega
    have hk3 : k < l.length := by omega
    refine At.skip ?_
    refine At.then ?_
    refine At.seq ?_
    refine At.block ?_
    refine At.draw 14 (.q 0 (.q 1 (.q 2 (.q 3 (.q 4 (.q 5 (.q 6 (.q 8 (.q 9 (.q 10 (.t 7 (.o 11 (.q 12 (.o 13 (.e)))) 11 (.o 7 (.q 12 (.o 13 (.e))))))))))))))) (L₀) (.cons _ (.refl _)) mixed (by kernel_rfl) rfl ?_
    refine AtO.quiet rfl (q_move rfl) rfl (Calm.inBlock (Calm.then (Calm.then (Calm.inBlock Post.calm)))) ?_
    refine AtO.quiet rfl (q_move rfl) rfl (Calm.inBlock (Calm.then (Calm.then (Calm.inBlock Post.calm)))) ?_
    refine AtO.quiet rfl (q_move rfl) rfl (Calm.inBlock (Calm.then (Calm.then (Calm.inBlock Post.calm)))) ?_
    refine AtO.quiet rfl (q_move rfl) rfl (Calm.inBlock (Calm.then (Calm.then (Calm.inBlock Post.calm)))) ?_
    refine AtO.quiet rfl (q_move rfl) rfl (Calm.inBlock (Calm.then (Calm.then (Calm.inBlock Post.calm)))) ?_
    refine AtO.quiet rfl (q_move rfl) rfl (Calm.inBlock (Calm.then (Calm.then (Calm.inBlock Post.calm)))) ?_
    refine AtO.quiet rfl (q_indexOwn Try.underlying38 t4 rfl hO (by simp [hol]) rfl (by omega) hk3) rfl (Calm.inBlock (Calm.then (Calm.then (Calm.inBlock Post.calm)))) ?_
    refine AtO.quiet rfl (q_move rfl) rfl (Calm.inBlock (Calm.then (Calm.then (Calm.inBlock Post.calm)))) ?_
    refine AtO.quiet rfl (q_move rfl) rfl (Calm.inBlock (Calm.then (Calm.then (Calm.inBlock Post.calm)))) ?_
    refine AtO.quiet rfl (q_indexOwn Try.underlying38 t4 rfl hO (by simp [hol]) rfl rfl hi3) rfl (Calm.inBlock (Calm.then (Calm.then (Calm.inBlock Post.calm)))) ?_
    refine AtO.two ?_ ?_
    · skip
      refine AtO.loud rfl (Quiet.loud (q_load t4 rfl (Rd.own0 hO (i := 0) rfl (map_get hy) rfl))) rfl (by rintro _ _ _ ⟨rfl, rfl, rfl⟩; exact ⟨fun _ h => h, (.cons _ (.refl _))⟩) ?_
      rintro _ _ _ ⟨rfl, rfl, rfl⟩
      refine AtO.loud rfl (Quiet.loud (q_load t4 rfl (Rd.own0 hO (i := 0) rfl (map_get hx) rfl))) rfl (by rintro _ _ _ ⟨rfl, rfl, rfl⟩; exact ⟨fun _ h => h, (.cons _ (.refl _))⟩) ?_
      rintro _ _ _ ⟨rfl, rfl, rfl⟩
      refine AtO.quiet rfl (q_indexOwn Try.underlying38 t4 rfl hO (by simp [hol]) rfl rfl hi3) rfl (Calm.inBlock (Calm.then (Calm.then (Calm.inBlock Post.calm)))) ?_
      refine AtO.loudNA rfl (l_storeOwn0 t4 rfl rfl hO (i := 0) rfl (map_get hx) rfl rfl rfl) (by rintro _ _ _ ⟨_, _, rfl, rfl⟩; exact ⟨fun _ h => h, (.cons _ (.refl _))⟩) ?_
      rintro _ _ _ ⟨Mow1, ow1, rfl, rfl⟩
      refine AtO.done ?_
      refine At.quiet (q_indexOwn Try.underlying38 t4 rfl hO (by simp [hol]) rfl (by omega) hk3) rfl ?_
      refine At.loudN (l_storeOwn0 t4 rfl rfl (show Own 4 1 ((o.set i y).map rowB) a c _ by rw [List.map_set]; exact ow1) (i := 0) rfl (map_get (show (o.set i y)[k]? = some y by rw [List.getElem?_set_ne (by omega)]; exact hy)) rfl rfl rfl) ?_
      rintro _ _ _ ⟨Mow2, ow2, rfl, rfl⟩
      refine At.nil ?_
      refine At.inNormal ?_
      refine At.then ?_
      refine At.region ?_
      have hO2 : Own 4 1 (((o.set i y).set k x).map rowB) a c Mow2 := by rw [List.map_set]; exact ow2
      refine At.skim 1 rfl rfl ?_
      refine At.quiet (q_add rfl rfl (by omega) (by omega)) rfl ?_
      refine At.skim 1 rfl rfl ?_
      refine At.quiet (q_sub rfl rfl (by omega) (by omega)) rfl ?_
      refine At.skim 2 rfl rfl ?_
      refine At.nil ?_
      refine At.say 3 (.int .i64 ((l.length : Int) - 1 - ((i + 1 : Nat) : Int))) rfl (congrArg (Value.int .i64) (by omega)) ?_
      refine At.then ?_
      exact At.againK (i + 1, (o.set i y).set k x, _) ⟨hR.step hk hik hx hy, hO2, by omega⟩ (by (try dsimp only); omega) (Tells.end 26 ⟨rfl, rfl, trivial⟩ rfl rfl) (fun _ h => h) (.cons_cons _ (.refl _))
    · skip
      refine AtO.loud rfl (Quiet.loud (q_load t4 rfl (Rd.own0 hO (i := 0) rfl (map_get hx) rfl))) rfl (by rintro _ _ _ ⟨rfl, rfl, rfl⟩; exact ⟨fun _ h => h, (.cons _ (.refl _))⟩) ?_
      rintro _ _ _ ⟨rfl, rfl, rfl⟩
      refine AtO.loud rfl (Quiet.loud (q_load t4 rfl (Rd.own0 hO (i := 0) rfl (map_get hy) rfl))) rfl (by rintro _ _ _ ⟨rfl, rfl, rfl⟩; exact ⟨fun _ h => h, (.cons _ (.refl _))⟩) ?_
      rintro _ _ _ ⟨rfl, rfl, rfl⟩
      refine AtO.quiet rfl (q_indexOwn Try.underlying38 t4 rfl hO (by simp [hol]) rfl rfl hi3) rfl (Calm.inBlock (Calm.then (Calm.then (Calm.inBlock Post.calm)))) ?_
      refine AtO.loudNA rfl (l_storeOwn0 t4 rfl rfl hO (i := 0) rfl (map_get hx) rfl rfl rfl) (by rintro _ _ _ ⟨_, _, rfl, rfl⟩; exact ⟨fun _ h => h, (.cons _ (.refl _))⟩) ?_
      rintro _ _ _ ⟨Mow3, ow3, rfl, rfl⟩
      refine AtO.done ?_
      refine At.quiet (q_indexOwn Try.underlying38 t4 rfl hO (by simp [hol]) rfl (by omega) hk3) rfl ?_
      refine At.loudN (l_storeOwn0 t4 rfl rfl (show Own 4 1 ((o.set i y).map rowB) a c _ by rw [List.map_set]; exact ow3) (i := 0) rfl (map_get (show (o.set i y)[k]? = some y by rw [List.getElem?_set_ne (by omega)]; exact hy)) rfl rfl rfl) ?_
      rintro _ _ _ ⟨Mow4, ow4, rfl, rfl⟩
      refine At.nil ?_
      refine At.inNormal ?_
      refine At.then ?_
      refine At.region ?_
      have hO2 : Own 4 1 (((o.set i y).set k x).map rowB) a c Mow4 := by rw [List.map_set]; exact ow4
      refine At.skim 1 rfl rfl ?_
      refine At.quiet (q_add rfl rfl (by omega) (by omega)) rfl ?_
      refine At.skim 1 rfl rfl ?_
      refine At.quiet (q_sub rfl rfl (by omega) (by omega)) rfl ?_
      refine At.skim 2 rfl rfl ?_
      refine At.nil ?_
      refine At.say 3 (.int .i64 ((l.length : Int) - 1 - ((i + 1 : Nat) : Int))) rfl (congrArg (Value.int .i64) (by omega)) ?_
      refine At.then ?_
      exact At.againK (i + 1, (o.set i y).set k x, _) ⟨hR.step hk hik hx hy, hO2, by omega⟩ (by (try dsimp only); omega) (Tells.end 26 ⟨rfl, rfl, trivial⟩ rfl rfl) (fun _ h => h) (.cons_cons _ (.refl _))
  · skip
    obtain rfl := hR.done (by omega)
    refine At.exit ?_
    refine At.thenExit ?_
    refine At.thenExit ?_
    refine At.inHere rfl ?_
    exact At.resultsN (Γr := []) (M := [M]) rfl RVals.nil (.head _) (fun _ _ => trivial) (.cons_cons _ (.refl _)) ⟨M, rfl, rfl, hO⟩

theorem path81 (t : Tr) (s : Sh) (hs : mayT t.p = some s) (i : Nat) (hi : i < t.p.ns.length) : Con Try.prog 81 [t.val, .int .i64 (i : Int)] [ndsP t.ns, psP t.ns.l] [] (PathEndA t i) := by
  refine Con.body 66 Try.func81 rfl Try.ntmps81 rfl fun X H₀ L₀ => ?_
  refine At.lenOf (hs := (.tail _ (.head _))) fun hlen => ?_
  rw [List.length_map] at hlen
  have hN : t.p.ns.length = t.ns.l.length := by simp [Tr.p]
  have hg := good_of hs
  obtain ⟨U, B, hW0, hUl, hBl⟩ := way_of hs hi
  refine At.seq ?_
  refine At.region ?_
  refine At.loud (l_box rfl) rfl ?_
  rintro _ _ _ ⟨b1, rfl, rfl, rfl⟩
  refine At.freeze 0 (φ := blk b1 _) rfl (fun _ h => blk_def.2 ⟨_, _, h⟩) ?_
  refine At.loud (l_alloc t40) rfl ?_
  rintro _ _ _ ⟨b2, rfl, rfl, rfl⟩
  refine At.nil ?_
  refine At.then ?_
  refine At.seq ?_
  refine At.region ?_
  refine At.loud (l_makeMap) rfl ?_
  rintro _ _ _ ⟨bm, mp, rfl, hM0, rfl, rfl⟩
  refine At.skim 1 rfl rfl ?_
  refine At.nil ?_
  refine At.then ?_
  refine At.seq ?_
  refine At.seq ?_
  refine At.region ?_
  refine At.fld s24 t22 rfl rfl rfl (Rd.blk (.head _) rfl) rfl rfl ?_
  refine At.quiet (q_len Try.underlying22 rfl) rfl ?_
  refine At.skim 1 rfl rfl ?_
  refine At.nil ?_
  refine At.then ?_
  refine At.block ?_
  refine At.loopK (ι := Nat × Seg) [6, 7, 14, 15, 16, 17, 18, 19, 20, 21, 22, 23, 24, 25, 26, 27, 28, 29] (fun ⟨k, M⟩ => [(14, .int .i64 (k : Int))]) (fun ⟨k, M⟩ => []) (fun ⟨k, M⟩ => [M]) _ (fun ⟨k, M⟩ => k ≤ t.ns.l.length ∧ OwnMap (parUpto t.p.ns k) bm M) (fun ⟨k, M⟩ => t.ns.l.length - k) (0, mp) ⟨Nat.zero_le _, hM0⟩ ⟨rfl, trivial⟩ (fun _ _ => trivial) (.cons_cons _ (.refl _)) ?_
  intro i0 hI0
  obtain ⟨k, M⟩ := i0
  obtain ⟨hkN, hM⟩ := hI0
  refine At.seq ?_
  refine At.region ?_
  refine At.skim 1 rfl rfl ?_
  refine At.nil ?_
  refine At.then ?_
  refine At.seq ?_
  refine At.if rfl (fun hk => ?_) (fun hk => ?_)
  · skip
    obtain ⟨x, hx⟩ := get_of_lt (l := t.ns.l) (i := k) (by omega)
    have hk1 := lt_of_get hx
    have hxp : t.p.ns[k]? = some x.p := map_get hx
    refine At.know (prsP x.ps) (fun _ h => psP_get h.2.2.2.1 hx) ?_
    refine At.skip ?_
    refine At.then ?_
    refine At.seq ?_
    refine At.block ?_
    refine At.seq ?_
    refine At.region ?_
    refine At.skim 1 rfl rfl ?_
    refine At.quiet (q_index Try.underlying22 t33 rfl (.tail _ (.tail _ (.tail _ (.head _)))) (by simp) rfl rfl (lt_of_get hx)) rfl ?_
    refine At.quiet (q_loadS t33 rfl (RdS.sl0 (.tail _ (.tail _ (.tail _ (.head _)))) (map_get hx)) rfl) rfl ?_
    refine At.loud (l_alloc t33) rfl ?_
    rintro _ _ _ ⟨b3, rfl, rfl, rfl⟩
    refine At.skim 1 rfl rfl ?_
    refine At.loudN (l_store t33 rfl rfl (i := 0) rfl rfl rfl rfl) ?_
    rintro _ _ _ ⟨rfl, rfl⟩
    refine At.nil ?_
    refine At.then ?_
    refine At.seq ?_
    refine At.region ?_
    refine At.fld s33 t4 rfl rfl rfl (Rd.loc (i := 0) rfl rfl) rfl rfl ?_
    refine At.nil ?_
    refine At.then ?_
    refine At.cond rfl (fun hr => ?_) (fun hr => ?_)
    · skip
      refine At.draw 9 (.q 0 (.q 1 (.q 2 (.q 3 (.q 4 (.q 5 (.q 6 (.q 7 (.o 8 (.e)))))))))) (_ :: _ :: L₀) (.cons_cons _ (.cons _ (.cons_cons _ (.refl _)))) mixed (by kernel_rfl) rfl ?_
      refine AtO.quiet rfl (q_move rfl) rfl (Calm.inBlock (Calm.then (Calm.then (Calm.inBlock (Calm.then Post.calm))))) ?_
      refine AtO.quiet rfl (q_fieldAddr s33 rfl rfl rfl) rfl (Calm.inBlock (Calm.then (Calm.then (Calm.inBlock (Calm.then Post.calm))))) ?_
      refine AtO.quiet rfl (q_load t3 rfl (Rd.loc (i := 0) rfl rfl)) rfl (Calm.inBlock (Calm.then (Calm.then (Calm.inBlock (Calm.then Post.calm))))) ?_
      refine AtO.quiet rfl (q_move rfl) rfl (Calm.inBlock (Calm.then (Calm.then (Calm.inBlock (Calm.then Post.calm))))) ?_
      refine AtO.quiet rfl (q_fieldAddr s33 rfl rfl rfl) rfl (Calm.inBlock (Calm.then (Calm.then (Calm.inBlock (Calm.then Post.calm))))) ?_
      refine AtO.quiet rfl (q_load t3 rfl (Rd.loc (i := 0) rfl rfl)) rfl (Calm.inBlock (Calm.then (Calm.then (Calm.inBlock (Calm.then Post.calm))))) ?_
      refine AtO.quiet rfl (q_move rfl) rfl (Calm.inBlock (Calm.then (Calm.then (Calm.inBlock (Calm.then Post.calm))))) ?_
      refine AtO.quiet rfl (q_move rfl) rfl (Calm.inBlock (Calm.then (Calm.then (Calm.inBlock (Calm.then Post.calm))))) ?_
      refine AtO.loudNA rfl (l_mapUpdate Try.underlying70 Try.underlying3 rfl rfl rfl hM (i := 1) rfl) (by rintro _ _ _ ⟨_, _, rfl, rfl⟩; exact ⟨fun _ h => h, (.cons_cons _ (.cons _ (.cons_cons _ (.refl _))))⟩) ?_
      rintro _ _ _ ⟨Mmp1, mp1, rfl, rfl⟩
      refine AtO.done ?_
      refine At.loudN (l_mapUpdate Try.underlying70 Try.underlying3 rfl rfl rfl mp1 (i := 1) rfl) ?_
      rintro _ _ _ ⟨Mmp2, mp2, rfl, rfl⟩
      refine At.nil ?_
      refine At.inNormal ?_
      refine At.then ?_
      refine At.region ?_
      have hM2 : OwnMap (parUpto t.p.ns (k + 1)) bm Mmp2 := by rw [← par_route hxp hr]; exact mp2
      refine At.quiet (q_add rfl rfl (by omega) (by omega)) rfl ?_
      refine At.skim 1 rfl rfl ?_
      refine At.nil ?_
      refine At.front 1 rfl ?_
      refine At.then ?_
      exact At.againK (k + 1, _) ⟨hk1, hM2⟩ (by (try dsimp only); omega) (Tells.end 19 ⟨rfl, trivial⟩ rfl rfl) (fun _ h => h.2) (.cons_cons _ (.cons _ (.refl _)))
    · skip
      refine At.skip ?_
      refine At.inNormal ?_
      refine At.then ?_
      refine At.region ?_
      refine At.quiet (q_add rfl rfl (by omega) (by omega)) rfl ?_
      refine At.skim 1 rfl rfl ?_
      refine At.nil ?_
      refine At.front 1 rfl ?_
      refine At.then ?_
      exact At.againK (k + 1, M) ⟨hk1, by rw [← par_leaf hxp hr]; exact hM⟩ (by (try dsimp only); omega) (Tells.end 11 ⟨rfl, trivial⟩ rfl rfl) (fun _ h => h.2) (.cons_cons _ (.cons _ (.refl _)))
  · skip
    obtain rfl : k = t.ns.l.length := by omega
    have hMf : OwnMap (parUpto t.p.ns t.p.ns.length) bm M := by rw [hN]; exact hM
    refine At.nilSeg ?_
    refine At.nilSeg ?_
    refine At.exit ?_
    refine At.thenExit ?_
    refine At.thenExit ?_
    refine At.inHere rfl ?_
    refine At.then ?_
    refine At.seq ?_
    refine At.region ?_
    refine At.skim 1 rfl rfl ?_
    refine At.quiet (q_build t40 s40 rfl rfl) rfl ?_
    refine At.loud (l_alloc t40) rfl ?_
    rintro _ _ _ ⟨b4, rfl, rfl, rfl⟩
    refine At.loudN (l_store t40 rfl rfl (i := 0) rfl rfl rfl rfl) ?_
    rintro _ _ _ ⟨rfl, rfl⟩
    refine At.nil ?_
    refine At.then ?_
    refine At.seq ?_
    refine At.block ?_
    refine At.front 2 rfl ?_
    refine At.front 2 rfl ?_
    refine At.front 2 rfl ?_
    refine At.loopK (ι := (Nat × List Nat × List Bool) × (Nat × List Nat × Option Addr × Nat × Seg) × (Nat × List Bool × Option Addr × Nat × Seg)) [1, 9, 32, 33, 34, 35, 36, 37, 38, 39, 40, 41, 42, 43, 44, 45, 46, 47, 48, 49, 50, 51, 52, 53, 54, 55, 56, 57, 58] (fun ⟨⟨p, wu, wb⟩, ⟨n1, us, a1, c1, M1⟩, ⟨n2, rs, a2, c2, M2⟩⟩ => [(1, .int .i64 (p : Int))]) (fun ⟨⟨p, wu, wb⟩, ⟨n1, us, a1, c1, M1⟩, ⟨n2, rs, a2, c2, M2⟩⟩ => []) (fun ⟨⟨p, wu, wb⟩, ⟨n1, us, a1, c1, M1⟩, ⟨n2, rs, a2, c2, M2⟩⟩ => [[(b4, .cells #[.int .i64 (i : Int), .slice a1 n1 c1, .slice a2 n2 c2] 40 (0, 0))], M1, M2]) _ (fun ⟨⟨p, wu, wb⟩, ⟨n1, us, a1, c1, M1⟩, ⟨n2, rs, a2, c2, M2⟩⟩ => WayTo t.p.ns t.p.root wu wb (p : Int) ∧ U = wu ++ us.reverse ∧ B = wb ++ rs.reverse ∧ Own 3 1 ((toI us).map rowI) a1 c1 M1 ∧ Own 4 1 (rs.map rowB) a2 c2 M2 ∧ wu.length + us.length ≤ 2000 ∧ rs.length = us.length ∧ n1 = us.length ∧ n2 = rs.length) (fun ⟨⟨p, wu, wb⟩, ⟨n1, us, a1, c1, M1⟩, ⟨n2, rs, a2, c2, M2⟩⟩ => wu.length) ((i, U, B), (0, [], none, 0, []), (0, [], none, 0, [])) ⟨hW0, by simp, by simp, Own.nil _ _, Own.nil _ _, by simpa using hUl, rfl, rfl, rfl⟩ ⟨rfl, trivial⟩ (fun _ _ => trivial) (.cons_cons _ (.cons_cons _ (.cons_cons _ (.refl _)))) ?_
    intro i1 hI1
    obtain ⟨⟨p, wu, wb⟩, ⟨n1, us, a1, c1, M1⟩, ⟨n2, rs, a2, c2, M2⟩⟩ := i1
    obtain ⟨hW, hU, hB, hO1, hO2, hsz, hrl, hn1, hn2⟩ := hI1
    refine At.seq ?_
    refine At.seq ?_
    refine At.region ?_
    refine At.skim 1 rfl rfl ?_
    refine At.fld s24 t3 rfl rfl rfl (Rd.blk (.head _) rfl) rfl rfl ?_
    refine At.skim 1 rfl rfl ?_
    refine At.nil ?_
    refine At.then ?_
    refine At.if rfl (fun hne => ?_) (fun hne => ?_)
    · skip
      obtain ⟨wu2, wb2, q, n, rfl, hW2, hn, hnr, rfl, hpar⟩ := way_up hg hW hne
      obtain ⟨y, hy, hyp⟩ := p_get (u := t) rfl hn
      refine At.skip ?_
      refine At.then ?_
      refine At.block ?_
      refine At.seq ?_
      refine At.region ?_
      refine At.skim 2 rfl rfl ?_
      refine At.quiet (q_lookup Try.underlying70 Try.underlying3 t3 rfl rfl hMf (i := 3) rfl) rfl ?_
      refine At.say 38 (.int .i64 (q : Int)) rfl (congrArg (Value.int .i64) (by rw [hpar]; rfl)) ?_
      refine At.skim 1 rfl rfl ?_
      refine At.nil ?_
      refine At.then ?_
      refine At.front 2 rfl ?_
      refine At.front 2 rfl ?_
      refine At.front 2 rfl ?_
      refine At.cutD (ι := (Option Addr × Nat × Seg) × (Option Addr × Nat × Seg)) (.s (.s (.s .z))) [39, 40, 41, 42, 43, 44, 45, 46, 47, 48, 49, 50, 51, 52, 53, 54, 55, 56, 57] (fun ⟨⟨a3, c3, M3⟩, ⟨a4, c4, M4⟩⟩ => []) (fun ⟨⟨a3, c3, M3⟩, ⟨a4, c4, M4⟩⟩ => []) (fun ⟨⟨a3, c3, M3⟩, ⟨a4, c4, M4⟩⟩ => [[(b4, .cells #[.int .i64 (i : Int), .slice a3 (n1 + 1) c3, .slice a4 (n2 + 1) c4] 40 (0, 0))], M3, M4]) (fun ⟨⟨a3, c3, M3⟩, ⟨a4, c4, M4⟩⟩ => Own 3 1 ((toI (us ++ [q])).map rowI) a3 c3 M3 ∧ Own 4 1 ((rs ++ [decide (n.right = (p : Int))]).map rowB) a4 c4 M4) ?_ ?_
      · skip
        have hyr : y.right = n.right := by rw [← hyp]; rfl
        refine At.know (prsP y.ps) (fun _ h => psP_get h.2.2.2.1 hy) ?_
        refine At.draw 18 (.q 0 (.q 1 (.q 2 (.q 5 (.q 6 (.q 7 (.q 8 (.q 9 (.q 10 (.q 11 (.q 12 (.q 13 (.q 14 (.t 3 (.t 4 (.q 17 (.o 15 (.o 16 (.e)))) 15 (.o 4 (.q 17 (.o 16 (.e))))) 15 (.o 3 (.o 4 (.q 17 (.o 16 (.e))))))))))))))))))) (_ :: _ :: L₀) (.cons_cons _ (.cons _ (.cons _ (.cons _ (.cons_cons _ (.refl _)))))) mixed (by kernel_rfl) rfl ?_
        refine AtO.quiet rfl (q_fieldAddr s40 rfl rfl rfl) rfl (Calm.then (Calm.inBlock (Calm.then (Calm.inBlock (Calm.then Post.calm))))) ?_
        refine AtO.quiet rfl (q_load t37 rfl (Rd.loc (i := 0) rfl rfl)) rfl (Calm.then (Calm.inBlock (Calm.then (Calm.inBlock (Calm.then Post.calm))))) ?_
        refine AtO.quiet rfl (q_move rfl) rfl (Calm.then (Calm.inBlock (Calm.then (Calm.inBlock (Calm.then Post.calm))))) ?_
        refine AtO.quiet rfl (q_fieldAddr s40 rfl rfl rfl) rfl (Calm.then (Calm.inBlock (Calm.then (Calm.inBlock (Calm.then Post.calm))))) ?_
        refine AtO.quiet rfl (q_load t38 rfl (Rd.loc (i := 0) rfl rfl)) rfl (Calm.then (Calm.inBlock (Calm.then (Calm.inBlock (Calm.then Post.calm))))) ?_
        refine AtO.quiet rfl (q_fieldAddr s24 rfl rfl rfl) rfl (Calm.then (Calm.inBlock (Calm.then (Calm.inBlock (Calm.then Post.calm))))) ?_
        refine AtO.quiet rfl (q_load t22 rfl (Rd.blk (.tail _ (.head _)) rfl)) rfl (Calm.then (Calm.inBlock (Calm.then (Calm.inBlock (Calm.then Post.calm))))) ?_
        refine AtO.quiet rfl (q_move rfl) rfl (Calm.then (Calm.inBlock (Calm.then (Calm.inBlock (Calm.then Post.calm))))) ?_
        refine AtO.quiet rfl (q_index Try.underlying22 t33 rfl (.tail _ (.tail _ (.tail _ (.head _)))) (by simp) rfl rfl (lt_of_get hy)) rfl (Calm.then (Calm.inBlock (Calm.then (Calm.inBlock (Calm.then Post.calm))))) ?_
        refine AtO.quiet rfl (q_fieldAddr s33 rfl rfl rfl) rfl (Calm.then (Calm.inBlock (Calm.then (Calm.inBlock (Calm.then Post.calm))))) ?_
        refine AtO.quiet rfl (q_load t3 rfl (Rd.sl (.tail _ (.tail _ (.tail _ (.head _)))) (map_get hy) rfl)) rfl (Calm.then (Calm.inBlock (Calm.then (Calm.inBlock (Calm.then Post.calm))))) ?_
        refine AtO.quiet rfl (q_move rfl) rfl (Calm.then (Calm.inBlock (Calm.then (Calm.inBlock (Calm.then Post.calm))))) ?_
        refine AtO.quiet rfl (q_eql rfl rfl) rfl (Calm.then (Calm.inBlock (Calm.then (Calm.inBlock (Calm.then Post.calm))))) ?_
        refine AtO.two ?_ ?_
        · skip
          refine AtO.loud rfl (l_buildSlice Try.underlying37 t3 rfl rfl rfl rfl rfl) rfl (by rintro _ _ _ ⟨_, rfl, rfl, rfl⟩; exact ⟨fun _ h => h, .cons _ (.cons_cons _ (.cons _ (.cons _ (.cons _ (.cons_cons _ (.refl _))))))⟩) ?_
          rintro _ _ _ ⟨b5, rfl, rfl, rfl⟩
          refine AtO.two ?_ ?_
          · skip
            refine AtO.loud rfl (l_append rfl Try.underlying37 t3 rfl rfl hO1 (by simp [toI]; omega) (i := 2) rfl rfl (news := [rowI (q : Int)]) (by simp [rowI]) (RdS.loc (i := 0) rfl (m := 1) rfl) rfl rfl rfl (by omega) (by unfold maxLen; omega)) rfl (by rintro _ _ _ ⟨_, _, _, rfl, _, rfl, rfl⟩; exact ⟨fun _ h => h, (.cons _ (.cons_cons _ (.cons _ (.cons _ (.cons _ (.cons_cons _ (.refl _)))))))⟩) ?_
            rintro _ _ _ ⟨a3, c3, M3, rfl, ow3, rfl, rfl⟩
            refine AtO.quiet rfl (q_fieldAddr s40 rfl rfl rfl) rfl (Calm.then (Calm.inBlock (Calm.then (Calm.inBlock (Calm.then Post.calm))))) ?_
            refine AtO.loud rfl (l_buildSlice Try.underlying38 t4 rfl rfl rfl rfl rfl) rfl (by rintro _ _ _ ⟨_, rfl, rfl, rfl⟩; exact ⟨fun _ h => h, .cons _ (.cons _ (.cons_cons _ (.cons _ (.cons _ (.cons _ (.cons_cons _ (.refl _)))))))⟩) ?_
            rintro _ _ _ ⟨b6, rfl, rfl, rfl⟩
            refine AtO.loudA rfl (l_append rfl Try.underlying38 t4 rfl rfl hO2 (by simp; omega) (i := 4) rfl rfl (news := [rowB (decide (y.right = (p : Int)))]) (by simp [rowB]) (RdS.loc (i := 0) rfl (m := 1) rfl) rfl rfl rfl (by omega) (by unfold maxLen; omega)) rfl (by rintro _ _ _ ⟨_, _, _, rfl, _, rfl, rfl⟩; exact ⟨fun _ h => h, (.cons _ (.cons _ (.cons_cons _ (.cons _ (.cons _ (.cons _ (.cons_cons _ (.refl _))))))))⟩) ?_
            rintro _ _ _ ⟨a4, c4, M4, rfl, ow4, rfl, rfl⟩
            refine AtO.done ?_
            refine At.loudN (l_store t37 rfl rfl (i := 2) rfl rfl rfl rfl) ?_
            rintro _ _ _ ⟨rfl, rfl⟩
            refine At.quiet (q_fieldAddr s40 rfl rfl rfl) rfl ?_
            refine At.loudN (l_store t38 rfl rfl (i := 2) rfl rfl rfl rfl) ?_
            rintro _ _ _ ⟨rfl, rfl⟩
            refine At.nil ?_
            refine At.front 4 rfl ?_
            refine At.front 4 rfl ?_
            refine At.front 4 rfl ?_
            refine At.then ?_
            exact At.meetK (⟨a3, c3, M3⟩, ⟨a4, c4, M4⟩) ⟨by rw [toI_snoc]; simpa using ow3, by rw [← hyr]; simpa using ow4⟩ (Tells.meet 19 trivial rfl rfl) (fun _ h => h.2) (.cons_cons _ (.cons_cons _ (.cons_cons _ (.cons _ (.cons _ (.refl _))))))
          · skip
            refine AtO.loud rfl (l_buildSlice Try.underlying38 t4 rfl rfl rfl rfl rfl) rfl (by rintro _ _ _ ⟨_, rfl, rfl, rfl⟩; exact ⟨fun _ h => h, .cons _ (.cons _ (.cons_cons _ (.cons _ (.cons _ (.cons _ (.cons_cons _ (.refl _)))))))⟩) ?_
            rintro _ _ _ ⟨b7, rfl, rfl, rfl⟩
            refine AtO.loud rfl (l_append rfl Try.underlying37 t3 rfl rfl hO1 (by simp [toI]; omega) (i := 3) rfl rfl (news := [rowI (q : Int)]) (by simp [rowI]) (RdS.loc (i := 1) rfl (m := 1) rfl) rfl rfl rfl (by omega) (by unfold maxLen; omega)) rfl (by rintro _ _ _ ⟨_, _, _, rfl, _, rfl, rfl⟩; exact ⟨fun _ h => h, (.cons _ (.cons _ (.cons_cons _ (.cons _ (.cons _ (.cons _ (.cons_cons _ (.refl _))))))))⟩) ?_
            rintro _ _ _ ⟨a3, c3, M3, rfl, ow3, rfl, rfl⟩
            refine AtO.quiet rfl (q_fieldAddr s40 rfl rfl rfl) rfl (Calm.then (Calm.inBlock (Calm.then (Calm.inBlock (Calm.then Post.calm))))) ?_
            refine AtO.loudA rfl (l_append rfl Try.underlying38 t4 rfl rfl hO2 (by simp; omega) (i := 4) rfl rfl (news := [rowB (decide (y.right = (p : Int)))]) (by simp [rowB]) (RdS.loc (i := 0) rfl (m := 1) rfl) rfl rfl rfl (by omega) (by unfold maxLen; omega)) rfl (by rintro _ _ _ ⟨_, _, _, rfl, _, rfl, rfl⟩; exact ⟨fun _ h => h, (.cons _ (.cons _ (.cons_cons _ (.cons _ (.cons _ (.cons _ (.cons_cons _ (.refl _))))))))⟩) ?_
            rintro _ _ _ ⟨a4, c4, M4, rfl, ow4, rfl, rfl⟩
            refine AtO.done ?_
            refine At.loudN (l_store t37 rfl rfl (i := 2) rfl rfl rfl rfl) ?_
            rintro _ _ _ ⟨rfl, rfl⟩
            refine At.quiet (q_fieldAddr s40 rfl rfl rfl) rfl ?_
            refine At.loudN (l_store t38 rfl rfl (i := 2) rfl rfl rfl rfl) ?_
            rintro _ _ _ ⟨rfl, rfl⟩
            refine At.nil ?_
            refine At.front 4 rfl ?_
            refine At.front 4 rfl ?_
            refine At.front 4 rfl ?_
            refine At.then ?_
            exact At.meetK (⟨a3, c3, M3⟩, ⟨a4, c4, M4⟩) ⟨by rw [toI_snoc]; simpa using ow3, by rw [← hyr]; simpa using ow4⟩ (Tells.meet 19 trivial rfl rfl) (fun _ h => h.2) (.cons_cons _ (.cons_cons _ (.cons_cons _ (.cons _ (.cons _ (.refl _))))))
        · skip
          refine AtO.loud rfl (l_buildSlice Try.underlying38 t4 rfl rfl rfl rfl rfl) rfl (by rintro _ _ _ ⟨_, rfl, rfl, rfl⟩; exact ⟨fun _ h => h, .cons _ (.cons_cons _ (.cons _ (.cons _ (.cons _ (.cons_cons _ (.refl _))))))⟩) ?_
          rintro _ _ _ ⟨b8, rfl, rfl, rfl⟩
          refine AtO.loud rfl (l_buildSlice Try.underlying37 t3 rfl rfl rfl rfl rfl) rfl (by rintro _ _ _ ⟨_, rfl, rfl, rfl⟩; exact ⟨fun _ h => h, .cons _ (.cons _ (.cons_cons _ (.cons _ (.cons _ (.cons _ (.cons_cons _ (.refl _)))))))⟩) ?_
          rintro _ _ _ ⟨b9, rfl, rfl, rfl⟩
          refine AtO.loud rfl (l_append rfl Try.underlying37 t3 rfl rfl hO1 (by simp [toI]; omega) (i := 3) rfl rfl (news := [rowI (q : Int)]) (by simp [rowI]) (RdS.loc (i := 0) rfl (m := 1) rfl) rfl rfl rfl (by omega) (by unfold maxLen; omega)) rfl (by rintro _ _ _ ⟨_, _, _, rfl, _, rfl, rfl⟩; exact ⟨fun _ h => h, (.cons _ (.cons _ (.cons_cons _ (.cons _ (.cons _ (.cons _ (.cons_cons _ (.refl _))))))))⟩) ?_
          rintro _ _ _ ⟨a3, c3, M3, rfl, ow3, rfl, rfl⟩
          refine AtO.quiet rfl (q_fieldAddr s40 rfl rfl rfl) rfl (Calm.then (Calm.inBlock (Calm.then (Calm.inBlock (Calm.then Post.calm))))) ?_
          refine AtO.loudA rfl (l_append rfl Try.underlying38 t4 rfl rfl hO2 (by simp; omega) (i := 4) rfl rfl (news := [rowB (decide (y.right = (p : Int)))]) (by simp [rowB]) (RdS.loc (i := 1) rfl (m := 1) rfl) rfl rfl rfl (by omega) (by unfold maxLen; omega)) rfl (by rintro _ _ _ ⟨_, _, _, rfl, _, rfl, rfl⟩; exact ⟨fun _ h => h, (.cons _ (.cons _ (.cons_cons _ (.cons _ (.cons _ (.cons _ (.cons_cons _ (.refl _))))))))⟩) ?_
          rintro _ _ _ ⟨a4, c4, M4, rfl, ow4, rfl, rfl⟩
          refine AtO.done ?_
          refine At.loudN (l_store t37 rfl rfl (i := 2) rfl rfl rfl rfl) ?_
          rintro _ _ _ ⟨rfl, rfl⟩
          refine At.quiet (q_fieldAddr s40 rfl rfl rfl) rfl ?_
          refine At.loudN (l_store t38 rfl rfl (i := 2) rfl rfl rfl rfl) ?_
          rintro _ _ _ ⟨rfl, rfl⟩
          refine At.nil ?_
          refine At.front 4 rfl ?_
          refine At.front 4 rfl ?_
          refine At.front 4 rfl ?_
          refine At.then ?_
          exact At.meetK (⟨a3, c3, M3⟩, ⟨a4, c4, M4⟩) ⟨by rw [toI_snoc]; simpa using ow3, by rw [← hyr]; simpa using ow4⟩ (Tells.meet 19 trivial rfl rfl) (fun _ h => h.2) (.cons_cons _ (.cons_cons _ (.cons_cons _ (.cons _ (.cons _ (.refl _))))))
      intro j0 hMt
      obtain ⟨⟨a3, c3, M3⟩, ⟨a4, c4, M4⟩⟩ := j0
      obtain ⟨hO3, hO4⟩ := hMt
      refine At.region ?_
      refine At.skim 2 rfl rfl ?_
      refine At.nil ?_
      refine At.inNormal ?_
      refine At.front 2 rfl ?_
      refine At.front 2 rfl ?_
      refine At.front 2 rfl ?_
      refine At.then ?_
      exact At.againK ((q, wu2, wb2), (n1 + 1, us ++ [q], a3, c3, M3), (n2 + 1, rs ++ [decide (n.right = (p : Int))], a4, c4, M4)) ⟨hW2, by rw [hU]; simp, by rw [hB]; simp, hO3, hO4, by simp at hsz ⊢; omega, by simp [hrl], by simp [hn1], by simp [hn2]⟩ (by simp) (Tells.end 12 ⟨rfl, trivial⟩ rfl rfl) (fun _ h => h) (.cons_cons _ (.cons_cons _ (.cons_cons _ (.refl _))))
    · skip
      have hpr : (p : Int) = t.p.root := Classical.not_not.1 hne
      rw [hpr] at hW
      obtain ⟨rfl, rfl⟩ := way_root hg hW
      subst hn1
      subst hn2
      have hlu : (toI us).length = us.length := toI_length us
      refine At.exit ?_
      refine At.thenExit ?_
      refine At.thenExit ?_
      refine At.inHere rfl ?_
      refine At.then ?_
      refine At.seq ?_
      refine At.region ?_
      refine At.fld s40 t37 rfl rfl rfl (Rd.loc (i := 0) rfl rfl) rfl rfl ?_
      refine At.say 60 (.slice a1 (toI us).length c1) rfl (by rw [hlu]; rfl) ?_
      refine At.front 1 rfl ?_
      refine At.call en107 rfl (rev107 (toI us) a1 c1 M1 hO1 (by rw [hlu]; simp at hsz; omega)) (fun _ _ => trivial) (List.Perm.refl _) rfl ?_
      rintro _ _ _ ⟨M5, rfl, rfl, hO5⟩
      refine At.nil ?_
      refine At.then ?_
      refine At.seq ?_
      refine At.region ?_
      refine At.fld s40 t38 rfl rfl rfl (Rd.loc (i := 1) rfl rfl) rfl rfl ?_
      refine At.front 2 rfl ?_
      refine At.call en108 rfl (rev108 rs a2 c2 M2 hO2 (by simp at hsz; omega)) (fun _ _ => trivial) (List.Perm.refl _) rfl ?_
      rintro _ _ _ ⟨M6, rfl, rfl, hO6⟩
      refine At.nil ?_
      refine At.then ?_
      refine At.seq ?_
      refine At.region ?_
      rw [toI_rev] at hO5
      refine At.freezeOwn 1 hO5 rfl ?_
      refine At.freezeOwn 0 hO6 rfl ?_
      refine At.quiet (q_loadS t40 rfl (RdS.loc (i := 0) rfl (m := 3) rfl) rfl) rfl ?_
      refine At.loudN (l_store t40 rfl rfl (i := 2) rfl rfl rfl rfl) ?_
      rintro _ _ _ ⟨rfl, rfl⟩
      refine At.nil ?_
      refine At.then ?_
      refine At.ret ?_
      exact At.results (Γr := [intsP ⟨a1, c1, toI us.reverse⟩, boolsP ⟨a2, c2, rs.reverse⟩]) (M := []) rfl (RVals.cons (RVal.cellS rfl t40 (RdS.loc (i := 2) rfl (m := 3) rfl) rfl) RVals.nil) (.tail _ (.tail _ (.tail _ (.head _)))) (fun _ h => ⟨h.2.1, h.1, trivial⟩) (.cons _ (.cons _ (.cons _ (.refl _)))) ⟨⟨a1, c1, toI us.reverse⟩, ⟨a2, c2, rs.reverse⟩, U, B, by rw [path_val]; rfl, rfl, rfl, by rw [hU]; rfl, by rw [hB]; rfl, hW0⟩

theorem next46 (t : Tr) (at_ : Int) : Con Try.prog 46 [t.val, .int .i64 at_] [ndsP t.ns, psP t.ns.l] [] (fun v Γ M => v = .tuple #[.int .i64 ((nextT t.p at_).getD 0 : Nat), .bool (nextT t.p at_).isSome] ∧ Γ = [] ∧ M = []) := by
  refine Con.body 23 Try.func46 rfl Try.ntmps46 rfl fun X H₀ L₀ => ?_
  refine At.seq ?_
  refine At.region ?_
  refine At.loud (l_box rfl) rfl ?_
  rintro _ _ _ ⟨b1, rfl, rfl, rfl⟩
  refine At.freeze 0 (φ := blk b1 _) rfl (fun _ h => blk_def.2 ⟨_, _, h⟩) ?_
  refine At.skim 2 rfl rfl ?_
  refine At.nil ?_
  refine At.then ?_
  refine At.seq ?_
  refine At.seq ?_
  refine At.region ?_
  refine At.quiet (q_loadS t24 rfl (RdS.blk (.head _) (m := 2) rfl) rfl) rfl ?_
  refine At.skim 1 rfl rfl ?_
  refine At.call en80 rfl (leaf80 _ _) (fun _ h => ⟨h.2.2.1, h.2.2.2.1, trivial⟩) (List.Perm.refl _) rfl ?_
  rintro _ _ _ ⟨rfl, rfl, rfl⟩
  refine At.skim 1 rfl rfl ?_
  refine At.nil ?_
  refine At.then ?_
  refine At.cond rfl (fun hlf => ?_) (fun hlf => ?_)
  · skip
    refine At.seq ?_
    refine At.region ?_
    refine At.skim 2 rfl rfl ?_
    refine At.nil ?_
    refine At.then ?_
    refine At.ret ?_
    refine At.thenRet ?_
    exact At.results (Γr := []) (M := []) rfl (RVals.cons (RVal.tmp rfl) (RVals.cons (RVal.tmp rfl) RVals.nil)) (.tail _ (.head _)) (fun _ _ => trivial) (.refl _) ⟨by rw [next_no (not_t hlf)]; rfl, rfl, rfl⟩
  · skip
    obtain ⟨s, i, n, hs, rfl, hn, hnr⟩ := leaf_yes (not_f hlf)
    have hil := lt_of_get hn
    have hnx := next_eq hs (not_f hlf)
    refine At.skip ?_
    refine At.then ?_
    refine At.seq ?_
    refine At.region ?_
    refine At.quiet (q_loadS t24 rfl (RdS.blk (.head _) (m := 2) rfl) rfl) rfl ?_
    refine At.skim 1 rfl rfl ?_
    refine At.call en81 rfl (path81 t s hs i hil) (fun _ h => ⟨h.2.2.1, h.2.2.2.1, trivial⟩) (List.Perm.refl _) rfl ?_
    rintro _ _ _ ⟨us, rs, u, b, rfl, rfl, rfl, hus, hrs, hW⟩
    refine At.loud (l_alloc t40) rfl ?_
    rintro _ _ _ ⟨b2, rfl, rfl, rfl⟩
    refine At.loudN (l_store t40 rfl rfl (i := 0) rfl rfl rfl rfl) ?_
    rintro _ _ _ ⟨rfl, rfl⟩
    refine At.nil ?_
    refine At.then ?_
    refine At.seq ?_
    refine At.seq ?_
    refine At.region ?_
    refine At.quiet (q_loadS t40 rfl (RdS.loc (i := 0) rfl (m := 3) rfl) rfl) rfl ?_
    refine At.call en27 rfl (top27 _) (fun _ _ => trivial) (List.Perm.refl _) rfl ?_
    rintro _ _ _ ⟨rfl, rfl, rfl⟩
    refine At.nil ?_
    refine At.then ?_
    refine At.cond rfl (fun htop => ?_) (fun htop => ?_)
    · skip
      have hu0 : u = [] := by
        have h := of_decide_eq_true htop
        rw [show us.l = toI u from hus] at h
        exact List.map_eq_nil_iff.1 h
      have e3 : s.nb i = none := by
        rcases way_nb hs hn hnr hW with ⟨_, _, e3⟩ | ⟨u2, b2, q, m, side, l, r, e, _⟩
        · exact e3
        · rw [hu0] at e; simp at e
      rw [e3] at hnx
      refine At.seq ?_
      refine At.region ?_
      refine At.skim 2 rfl rfl ?_
      refine At.nil ?_
      refine At.then ?_
      refine At.ret ?_
      refine At.thenRet ?_
      exact At.results (Γr := []) (M := []) rfl (RVals.cons (RVal.tmp rfl) (RVals.cons (RVal.tmp rfl) RVals.nil)) (.tail _ (.tail _ (.tail _ (.head _)))) (fun _ _ => trivial) (.cons _ (.refl _)) ⟨by rw [hnx]; rfl, rfl, rfl⟩
    · skip
      rcases way_nb hs hn hnr hW with ⟨e1, _, _⟩ | ⟨u2, b2, q, m, side, l, r, rfl, rfl, hm, hmr, he, hl, hr, hnb⟩
      · exact absurd (show us.l = [] by rw [hus, e1]; rfl) (of_decide_eq_false htop)
      obtain ⟨y, hy, hyp⟩ := p_get (u := t) rfl hm
      have hsd : rs.l.getLast?.getD false = side := by rw [hrs]; exact last_snoc _ _
      have hH : Hangs t.p.ns (if side then l else r) (if rs.l.getLast?.getD false then y.left else y.right) := by
        rw [hsd]
        have e1 : y.left = m.left := by rw [← hyp]; rfl
        have e2 : y.right = m.right := by rw [← hyp]; rfl
        cases side
        · simpa [e2] using hr
        · simpa [e1] using hl
      rw [hnb] at hnx
      refine At.skip ?_
      refine At.then ?_
      refine At.seq ?_
      refine At.draw 6 (.q 0 (.q 1 (.q 2 (.q 4 (.o 3 (.o 5 (.e))))))) _ (List.Sublist.refl _) mixed (by kernel_rfl) rfl ?_
      refine AtO.quiet rfl (q_loadS t24 rfl (RdS.blk (.tail _ (.tail _ (.head _))) (m := 2) rfl) rfl) rfl (Calm.then Post.calm) ?_
      refine AtO.quiet rfl (q_loadS t24 rfl (RdS.blk (.tail _ (.tail _ (.head _))) (m := 2) rfl) rfl) rfl (Calm.then Post.calm) ?_
      refine AtO.quiet rfl (q_loadS t40 rfl (RdS.loc (i := 0) rfl (m := 3) rfl) rfl) rfl (Calm.then Post.calm) ?_
      refine AtO.quiet rfl (q_loadS t40 rfl (RdS.loc (i := 0) rfl (m := 3) rfl) rfl) rfl (Calm.then Post.calm) ?_
      refine AtO.callA rfl en83 rfl (other83 t us rs (i : Int) q u2 y hus hy) (fun _ h => ⟨h.2.2.2.2.1, h.2.2.2.2.2.1, h.1, h.2.1, trivial⟩) (List.Perm.refl _) rfl (.refl _) ?_
      rintro _ _ _ ⟨rfl, rfl, rfl⟩
      refine AtO.callA rfl en32 rfl (right32 ⟨(i : Int), us, rs⟩) (fun _ h => ⟨h.2.1, trivial⟩) (List.Perm.refl _) rfl (.refl _) ?_
      rintro _ _ _ ⟨rfl, rfl, rfl⟩
      refine AtO.done ?_
      refine At.call en82 rfl (end82 t (if side then l else r) _ _ hH) (fun _ h => ⟨h.2.2.2.2.1, h.2.2.2.2.2.1, trivial⟩) (List.Perm.refl _) rfl ?_
      rintro _ _ _ ⟨rfl, rfl, rfl⟩
      refine At.skim 2 rfl rfl ?_
      refine At.nil ?_
      refine At.then ?_
      refine At.ret ?_
      exact At.results (Γr := []) (M := []) rfl (RVals.cons (RVal.tmp rfl) (RVals.cons (RVal.tmp rfl) RVals.nil)) (.tail _ (.tail _ (.tail _ (.head _)))) (fun _ _ => trivial) (.cons _ (.refl _)) ⟨end_next hnx hsd, rfl, rfl⟩

end Go.Proofs.Ytmkodknmknfdkaa
