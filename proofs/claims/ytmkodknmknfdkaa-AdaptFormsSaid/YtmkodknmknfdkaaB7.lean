/- The walks of the reference, trees. -/
import Derived.Test.YtmkodknmknfdkaaB6
import Derived.Test.YtmkodknmknfdkaaP7
set_option linter.unusedVariables false
set_option linter.unusedSimpArgs false
namespace Go.Proofs.Ytmkodknmknfdkaa
open E
set_option maxRecDepth 4000

theorem en36 : Enters Try.prog 36 := Enters.mk' Try.func36 rfl rfl
theorem en38 : Enters Try.prog 38 := Enters.mk' Try.func38 rfl rfl
theorem en41 : Enters Try.prog 41 := Enters.mk' Try.func41 rfl rfl

theorem node77 (t : Tr) (hsm : smallP t.ns.l) : ∀ f, Node77 t f
  | 0 => fun _ _ _ _ _ _ _ _ _ _ _ _ _ h => absurd h (Nat.not_lt_zero _)
  | f + 1 => node77_step t hsm f (node77 t hsm f)

theorem plain38 (t : Tr) (hsm : smallP t.ns.l) : Con Try.prog 38 [t.val] [ndsP t.ns, psP t.ns.l] [] (PlainEnd t) := by
  refine Con.body 42 Try.func38 rfl Try.ntmps38 rfl fun X H₀ L₀ => ?_
  have hN : t.p.ns.length = t.ns.l.length := by simp [Tr.p]
  refine At.seq ?_
  refine At.region ?_
  refine At.loud (l_box rfl) rfl ?_
  rintro _ _ _ ⟨b1, rfl, rfl, rfl⟩
  refine At.freeze 0 (φ := blk b1 _) rfl (fun _ h => blk_def.2 ⟨_, _, h⟩) ?_
  refine At.loud (l_alloc t24) rfl ?_
  rintro _ _ _ ⟨b2, rfl, rfl, rfl⟩
  refine At.skim 1 rfl rfl ?_
  refine At.nil ?_
  refine At.then ?_
  refine At.seq ?_
  refine At.seq ?_
  refine At.region ?_
  refine At.fld s24 t22 rfl rfl rfl (Rd.blk (.head _) rfl) rfl rfl ?_
  refine At.quiet (q_len Try.underlying22 rfl) rfl ?_
  refine At.skim 1 rfl rfl ?_
  refine At.nil ?_
  refine At.then ?_
  refine At.if rfl (fun hbig => ?_) (fun hbig => ?_)
  · skip
    refine At.nilSeg ?_
    refine At.know (psP []) (fun _ h => psP_nil) ?_
    refine At.seq ?_
    refine At.region ?_
    refine At.quiet (q_build t24 s24 rfl rfl) rfl ?_
    refine At.loudN (l_store t24 rfl rfl (i := 1) rfl rfl rfl rfl) ?_
    rintro _ _ _ ⟨rfl, rfl⟩
    refine At.skim 1 rfl rfl ?_
    refine At.nil ?_
    refine At.then ?_
    refine At.ret ?_
    refine At.thenRet ?_
    exact At.results (Γr := [psP []]) (M := [[]]) rfl (RVals.cons (RVal.cellS rfl t24 (RdS.loc (i := 1) rfl (m := 2) rfl) rfl) (RVals.cons (RVal.tmp rfl) RVals.nil)) (.tail _ (.tail _ (.head _))) (fun _ h => ⟨h.1, trivial⟩) (.cons_cons _ (.cons _ (.refl _))) ⟨⟨0, ⟨none, 0, []⟩⟩, [], by rw [may_big (t := t.p) (by omega)]; rfl, rfl, rfl, Own.nil _ _, by rw [plainD, plainT, none_of (may_big (t := t.p) (by omega))]; rfl⟩
  · skip
    refine At.skip ?_
    refine At.then ?_
    refine At.seq ?_
    refine At.draw 5 (.q 0 (.q 1 (.q 2 (.q 3 (.o 4 (.e)))))) _ (List.Sublist.refl _) mixed (by kernel_rfl) rfl ?_
    refine AtO.quiet rfl (q_loadS t24 rfl (RdS.blk (.head _) (m := 2) rfl) rfl) rfl (Calm.then Post.calm) ?_
    refine AtO.quiet rfl (q_fieldAddr s24 rfl rfl rfl) rfl (Calm.then Post.calm) ?_
    refine AtO.quiet rfl (q_load t22 rfl (Rd.blk (.head _) rfl)) rfl (Calm.then Post.calm) ?_
    refine AtO.quiet rfl (q_len Try.underlying22 rfl) rfl (Calm.then Post.calm) ?_
    refine AtO.loudA rfl (l_makeSlice (m := t.ns.l.length) Try.underlying38 t4 rfl rfl rfl rfl rfl (by omega) (by unfold maxLen; omega)) rfl (by rintro _ _ _ ⟨_, _, rfl, _, rfl, rfl⟩; exact ⟨fun _ h => h, .cons _ (.refl _)⟩) ?_
    rintro _ _ _ ⟨bm, m, rfl, hO, rfl, rfl⟩
    refine AtO.done ?_
    have hO2 : Own 4 1 ((bits t.ns.l.length []).map rowB) (some ⟨bm, 0, none⟩) t.ns.l.length m := by rw [bits_nil]; exact hO
    have hc0 := count_all (bits t.ns.l.length [])
    rw [bits_length] at hc0
    refine At.nilSeg ?_
    refine At.know (intsP ⟨none, 0, []⟩) (fun _ h => sl_nil _ _ _ (Nat.zero_le _)) ?_
    refine At.know (psP []) (fun _ h => psP_nil) ?_
    refine At.quiet (q_build t109 s109 rfl rfl) rfl ?_
    refine At.loud (l_box rfl) rfl ?_
    rintro _ _ _ ⟨b3, rfl, rfl, rfl⟩
    refine At.skim 1 rfl rfl ?_
    refine At.nil ?_
    refine At.then ?_
    refine At.seq ?_
    refine At.region ?_
    refine At.pieces (L' := planBox t b3 none 0 0 (some ⟨bm, 0, none⟩) t.ns.l.length false :: [] :: m :: _) rfl ?_
    have hcall := node77 t hsm (t.p.ns.length + 1) [] t.root Kb.all ⟨none, 0, []⟩ ⟨none, 0, []⟩ b3 [] none 0 [] (some ⟨bm, 0, none⟩) t.ns.l.length m (by omega) (Own.nil _ _) hO2 (by simp only [List.length_nil]; omega) rfl rfl
    refine At.skim 1 rfl rfl ?_
    refine At.fld s24 t3 rfl rfl rfl (Rd.blk (.tail _ (.tail _ (.head _))) rfl) rfl rfl ?_
    refine At.front 2 rfl ?_
    refine At.front 2 rfl ?_
    refine At.front 2 rfl ?_
    refine At.call en77 rfl (hcall) (fun _ h => ⟨h.2.2.2.2.1, h.2.2.2.2.2.1, h.2.1, h.2.1, h.1, trivial⟩) (List.Perm.refl _) rfl ?_
    rintro _ _ _ ⟨q, a5, c5, M5, M6, bad, v1, rfl, rfl, rfl, hO5, hb5, hs5, hn5⟩
    refine At.nil ?_
    refine At.then ?_
    refine At.seq ?_
    refine At.seq ?_
    refine At.draw 13 (.q 0 (.q 1 (.q 2 (.q 3 (.q 4 (.q 5 (.q 6 (.q 7 (.q 8 (.q 9 (.q 10 (.q 11 (.q 12 (.e)))))))))))))) _ (List.Sublist.refl _) mixed (by kernel_rfl) rfl ?_
    refine AtO.quiet rfl (q_move rfl) rfl (Calm.then (Calm.then Post.calm)) ?_
    refine AtO.quiet rfl (q_nilCheck rfl) rfl (Calm.then (Calm.then Post.calm)) ?_
    refine AtO.quiet rfl (q_fieldAddr s109 rfl rfl rfl) rfl (Calm.then (Calm.then Post.calm)) ?_
    refine AtO.quiet rfl (q_load t4 rfl (Rd.loc (i := 0) rfl rfl)) rfl (Calm.then (Calm.then Post.calm)) ?_
    refine AtO.quiet rfl (q_move rfl) rfl (Calm.then (Calm.then Post.calm)) ?_
    refine AtO.split (d := 25) rfl (fun hbad => ?_) (fun hbad => ?_)
    · skip
      refine AtO.shut rfl rfl rfl rfl (Calm.then (Calm.then Post.calm)) ?_
      refine AtO.shut rfl rfl rfl rfl (Calm.then (Calm.then Post.calm)) ?_
      refine AtO.shut rfl rfl rfl rfl (Calm.then (Calm.then Post.calm)) ?_
      refine AtO.shut rfl rfl rfl rfl (Calm.then (Calm.then Post.calm)) ?_
      refine AtO.shut rfl rfl rfl rfl (Calm.then (Calm.then Post.calm)) ?_
      refine AtO.shut rfl rfl rfl rfl (Calm.then (Calm.then Post.calm)) ?_
      refine AtO.shut rfl rfl rfl rfl (Calm.then (Calm.then Post.calm)) ?_
      refine AtO.shut rfl rfl rfl rfl (Calm.then (Calm.then Post.calm)) ?_
      refine AtO.done ?_
      refine At.skim 2 rfl rfl ?_
      refine At.nil ?_
      refine At.then ?_
      refine At.condT rfl ?_
      refine At.seq ?_
      refine At.region ?_
      refine At.nilSeg ?_
      refine At.know (psP []) (fun _ h => psP_nil) ?_
      refine At.quiet (q_build t24 s24 rfl rfl) rfl ?_
      refine At.loudN (l_store t24 rfl rfl (i := 4) rfl rfl rfl rfl) ?_
      rintro _ _ _ ⟨rfl, rfl⟩
      refine At.skim 1 rfl rfl ?_
      refine At.nil ?_
      refine At.then ?_
      refine At.ret ?_
      refine At.thenRet ?_
      exact At.results (Γr := [psP []]) (M := [[]]) rfl (RVals.cons (RVal.cellS rfl t24 (RdS.loc (i := 4) rfl (m := 2) rfl) rfl) (RVals.cons (RVal.tmp rfl) RVals.nil)) (.tail _ (.tail _ (.tail _ (.tail _ (.tail _ (.head _)))))) (fun _ h => ⟨h.1, trivial⟩) (.cons_cons _ (.cons _ (.cons _ (.cons _ (.cons _ (.refl _)))))) ⟨⟨0, ⟨none, 0, []⟩⟩, [], by rw [plan_bad hs5 hbad]; rfl, rfl, rfl, Own.nil _ _, by rw [plainD, plainT, none_of (plan_bad hs5 hbad)]; rfl⟩
    · skip
      obtain ⟨s, hs⟩ := plan_some hn5 hbad
      obtain ⟨_, _, hq, _, _⟩ := hs5 s hs
      have hql : (q.map Nd.p).length = q.length := List.length_map ..
      refine AtO.quietG rfl rfl rfl (q_move rfl) rfl (Calm.then (Calm.then Post.calm)) ?_
      refine AtO.quietG rfl rfl rfl (q_nilCheck rfl) rfl (Calm.then (Calm.then Post.calm)) ?_
      refine AtO.quietG rfl rfl rfl (q_fieldAddr s109 rfl rfl rfl) rfl (Calm.then (Calm.then Post.calm)) ?_
      refine AtO.quietG rfl rfl rfl (q_load t22 rfl (Rd.loc (i := 0) rfl rfl)) rfl (Calm.then (Calm.then Post.calm)) ?_
      refine AtO.quietG rfl rfl rfl (q_len Try.underlying22 rfl) rfl (Calm.then (Calm.then Post.calm)) ?_
      refine AtO.quietG rfl rfl rfl (q_fieldAddr s24 rfl rfl rfl) rfl (Calm.then (Calm.then Post.calm)) ?_
      refine AtO.quietG rfl rfl rfl (q_load t22 rfl (Rd.blk (.tail _ (.tail _ (.tail _ (.head _)))) rfl)) rfl (Calm.then (Calm.then Post.calm)) ?_
      refine AtO.quietG rfl rfl rfl (q_len Try.underlying22 rfl) rfl (Calm.then (Calm.then Post.calm)) ?_
      refine AtO.done ?_
      refine At.skim 2 rfl rfl ?_
      refine At.nil ?_
      refine At.then ?_
      refine At.if rfl (fun hlen => ?_) (fun hlen => ?_)
      · skip
        refine At.seq ?_
        refine At.region ?_
        refine At.nilSeg ?_
        refine At.know (psP []) (fun _ h => psP_nil) ?_
        refine At.quiet (q_build t24 s24 rfl rfl) rfl ?_
        refine At.loudN (l_store t24 rfl rfl (i := 4) rfl rfl rfl rfl) ?_
        rintro _ _ _ ⟨rfl, rfl⟩
        refine At.skim 1 rfl rfl ?_
        refine At.nil ?_
        refine At.then ?_
        refine At.ret ?_
        refine At.thenRet ?_
        exact At.results (Γr := [psP []]) (M := [[]]) rfl (RVals.cons (RVal.cellS rfl t24 (RdS.loc (i := 4) rfl (m := 2) rfl) rfl) (RVals.cons (RVal.tmp rfl) RVals.nil)) (.tail _ (.tail _ (.tail _ (.tail _ (.tail _ (.head _)))))) (fun _ h => ⟨h.1, trivial⟩) (.cons_cons _ (.cons _ (.cons _ (.cons _ (.cons _ (.refl _)))))) ⟨⟨0, ⟨none, 0, []⟩⟩, [], by rw [plan_len hs hq (by rw [hql]; intro he; apply hlen; rw [← hN, ← he]; rfl)]; rfl, rfl, rfl, Own.nil _ _, by rw [plainD, plainT, none_of (plan_len hs hq (by rw [hql]; intro he; apply hlen; rw [← hN, ← he]; rfl))]; rfl⟩
      · skip
        have hmay := plan_ok (by omega) hs hq (by rw [hql, hN]; have h2 : (q.length : Int) = (t.ns.l.length : Int) := Classical.not_not.1 hlen; omega)
        refine At.skip ?_
        refine At.then ?_
        refine At.seq ?_
        refine At.region ?_
        refine At.skim 2 rfl rfl ?_
        refine At.fld s109 t22 rfl rfl rfl (Rd.loc (i := 0) rfl rfl) rfl rfl ?_
        refine At.quiet (q_build t24 s24 rfl rfl) rfl ?_
        refine At.loudN (l_store t24 rfl rfl (i := 3) rfl rfl rfl rfl) ?_
        rintro _ _ _ ⟨rfl, rfl⟩
        refine At.skim 1 rfl rfl ?_
        refine At.nil ?_
        refine At.then ?_
        refine At.ret ?_
        exact At.results (Γr := [_]) (M := [M5]) rfl (RVals.cons (RVal.cellS rfl t24 (RdS.loc (i := 3) rfl (m := 2) rfl) rfl) (RVals.cons (RVal.tmp rfl) RVals.nil)) (.tail _ (.tail _ (.tail _ (.tail _ (.head _))))) (fun _ h => ⟨h.1, trivial⟩) (.cons _ (.cons_cons _ (.cons _ (.cons _ (.refl _))))) ⟨⟨0, ⟨a5, c5, [] ++ q⟩⟩, M5, by rw [hmay]; rfl, rfl, rfl, hO5, plain_some hmay hq⟩

theorem leaf78 (t : Tr) (hsm : smallP t.ns.l) (at_ : Int) : Con Try.prog 78 [t.val, .int .i64 at_] [ndsP t.ns, psP t.ns.l] [] (fun v Γ M => v = .bool (leafT t.p at_) ∧ Γ = [] ∧ M = []) := by
  refine Con.body 33 Try.func78 rfl Try.ntmps78 rfl fun X H₀ L₀ => ?_
  refine At.seq ?_
  refine At.region ?_
  refine At.loud (l_box rfl) rfl ?_
  rintro _ _ _ ⟨b1, rfl, rfl, rfl⟩
  refine At.freeze 0 (φ := blk b1 _) rfl (fun _ h => blk_def.2 ⟨_, _, h⟩) ?_
  refine At.skim 1 rfl rfl ?_
  refine At.nil ?_
  refine At.then ?_
  refine At.seq ?_
  refine At.region ?_
  refine At.quiet (q_loadS t24 rfl (RdS.blk (.head _) (m := 2) rfl) rfl) rfl ?_
  refine At.call en38 rfl (plain38 _ (by assumption)) (fun _ h => ⟨h.2.2.1, h.2.2.2.1, trivial⟩) (List.Perm.refl _) rfl ?_
  rintro _ _ _ ⟨u1, Mu1, rfl, rfl, rfl, hu1, hup1⟩
  refine At.skim 1 rfl rfl ?_
  refine At.quiet (q_extract rfl rfl) rfl ?_
  refine At.quiet (q_extract rfl rfl) rfl ?_
  refine At.loud (l_alloc t24) rfl ?_
  rintro _ _ _ ⟨b2, rfl, rfl, rfl⟩
  refine At.loudN (l_store t24 rfl rfl (i := 0) rfl rfl rfl rfl) ?_
  rintro _ _ _ ⟨rfl, rfl⟩
  refine At.skim 1 rfl rfl ?_
  refine At.nil ?_
  refine At.then ?_
  refine At.seq ?_
  refine At.region ?_
  refine At.skim 2 rfl rfl ?_
  refine At.split (d := 13) rfl (fun hm => ?_) (fun hm => ?_)
  · skip
    refine At.skim 4 rfl rfl ?_
    refine At.splitP (d := 17) rfl (fun hge => ?_) (fun hge => ?_)
    · skip
      obtain ⟨i, rfl⟩ := Int.eq_ofNat_of_zero_le (show 0 ≤ at_ by omega)
      refine At.skim 1 rfl rfl ?_
      refine At.open rfl rfl ?_
      refine At.quiet (q_fieldAddr s24 rfl rfl rfl) rfl ?_
      refine At.open rfl rfl ?_
      refine At.quiet (q_load t22 rfl (Rd.blk (.tail _ (.head _)) rfl)) rfl ?_
      refine At.open rfl rfl ?_
      refine At.quiet (q_len Try.underlying22 rfl) rfl ?_
      refine At.skim 3 rfl rfl ?_
      refine At.splitP (d := 24) rfl (fun hlt => ?_) (fun hlt => ?_)
      · skip
        have hi : i < t.ns.l.length := by omega
        obtain ⟨x, hx⟩ := get_of_lt hi
        have hxp : t.p.ns[i]? = some x.p := map_get hx
        refine At.know (prsP x.ps) (fun _ h => psP_get h.2.2.2.2.1 hx) ?_
        refine At.open rfl rfl ?_
        refine At.quiet (q_fieldAddr s24 rfl rfl rfl) rfl ?_
        refine At.open rfl rfl ?_
        refine At.quiet (q_load t22 rfl (Rd.blk (.tail _ (.tail _ (.head _))) rfl)) rfl ?_
        refine At.skim 1 rfl rfl ?_
        refine At.open rfl rfl ?_
        refine At.quiet (q_index Try.underlying22 t33 rfl (.tail _ (.tail _ (.tail _ (.tail _ (.head _))))) (by simp) rfl rfl (lt_of_get hx)) rfl ?_
        refine At.open rfl rfl ?_
        refine At.quiet (q_fieldAddr s33 rfl rfl rfl) rfl ?_
        refine At.open rfl rfl ?_
        refine At.quiet (q_load t4 rfl (Rd.sl (.tail _ (.tail _ (.tail _ (.tail _ (.head _))))) (map_get hx) rfl)) rfl ?_
        refine At.skim 3 rfl rfl ?_
        refine At.nil ?_
        refine At.then ?_
        refine At.ret ?_
        exact At.results (Γr := []) (M := []) rfl (RVals.cons (RVal.tmp rfl) RVals.nil) (.tail _ (.tail _ (.tail _ (.head _)))) (fun _ _ => trivial) (.cons _ (.cons _ (.refl _))) ⟨congrArg Value.bool ((leaf_at hm hxp).symm), rfl, rfl⟩
      · skip
        refine At.skim 9 rfl rfl ?_
        refine At.nil ?_
        refine At.then ?_
        refine At.ret ?_
        exact At.results (Γr := []) (M := []) rfl (RVals.cons (RVal.tmp rfl) RVals.nil) (.tail _ (.tail _ (.head _))) (fun _ _ => trivial) (.cons _ (.cons _ (.refl _))) ⟨congrArg Value.bool ((leaf_out (by simp [Tr.p]; omega)).symm), rfl, rfl⟩
    · skip
      refine At.skim 16 rfl rfl ?_
      refine At.nil ?_
      refine At.then ?_
      refine At.ret ?_
      exact At.results (Γr := []) (M := []) rfl (RVals.cons (RVal.tmp rfl) RVals.nil) (.tail _ (.tail _ (.head _))) (fun _ _ => trivial) (.cons _ (.cons _ (.refl _))) ⟨congrArg Value.bool ((leaf_neg (by omega)).symm), rfl, rfl⟩
  · skip
    refine At.skim 20 rfl rfl ?_
    refine At.nil ?_
    refine At.then ?_
    refine At.ret ?_
    exact At.results (Γr := []) (M := []) rfl (RVals.cons (RVal.tmp rfl) RVals.nil) (.tail _ (.tail _ (.head _))) (fun _ _ => trivial) (.cons _ (.cons _ (.refl _))) ⟨congrArg Value.bool ((leaf_no hm).symm), rfl, rfl⟩

theorem same22 (t u : Tr) (hst : smallP t.ns.l) (hsu : smallP u.ns.l) : Con Try.prog 22 [t.val, u.val] [ndsP t.ns, psP t.ns.l, ndsP u.ns, psP u.ns.l] [] (fun v Γ M => v = .bool (sameT t.p u.p) ∧ Γ = [] ∧ M = []) := by
  refine Con.body 28 Try.func22 rfl Try.ntmps22 rfl fun X H₀ L₀ => ?_
  refine At.seq ?_
  refine At.region ?_
  refine At.loud (l_box rfl) rfl ?_
  rintro _ _ _ ⟨b1, rfl, rfl, rfl⟩
  refine At.freeze 0 (φ := blk b1 _) rfl (fun _ h => blk_def.2 ⟨_, _, h⟩) ?_
  refine At.loud (l_box rfl) rfl ?_
  rintro _ _ _ ⟨b2, rfl, rfl, rfl⟩
  refine At.freeze 0 (φ := blk b2 _) rfl (fun _ h => blk_def.2 ⟨_, _, h⟩) ?_
  refine At.skim 1 rfl rfl ?_
  refine At.nil ?_
  refine At.then ?_
  refine At.seq ?_
  refine At.region ?_
  refine At.quiet (q_loadS t24 rfl (RdS.blk (.tail _ (.head _)) (m := 2) rfl) rfl) rfl ?_
  refine At.call en38 rfl (plain38 _ (by assumption)) (fun _ h => ⟨h.2.2.2.1, h.2.2.2.2.1, trivial⟩) (List.Perm.refl _) rfl ?_
  rintro _ _ _ ⟨u1, Mu1, rfl, rfl, rfl, hu1, hup1⟩
  refine At.skim 1 rfl rfl ?_
  refine At.freezeOwn 0 hu1 rfl ?_
  refine At.quiet (q_extract rfl rfl) rfl ?_
  refine At.quiet (q_extract rfl rfl) rfl ?_
  refine At.loud (l_alloc t24) rfl ?_
  rintro _ _ _ ⟨b3, rfl, rfl, rfl⟩
  refine At.loudN (l_store t24 rfl rfl (i := 0) rfl rfl rfl rfl) ?_
  rintro _ _ _ ⟨rfl, rfl⟩
  refine At.skim 1 rfl rfl ?_
  refine At.nil ?_
  refine At.then ?_
  refine At.seq ?_
  refine At.region ?_
  refine At.quiet (q_loadS t24 rfl (RdS.blk (.tail _ (.tail _ (.head _))) (m := 2) rfl) rfl) rfl ?_
  refine At.call en38 rfl (plain38 _ (by assumption)) (fun _ h => ⟨h.2.2.2.2.2.2.2.1, h.2.2.2.2.2.2.2.2.1, trivial⟩) (List.Perm.refl _) rfl ?_
  rintro _ _ _ ⟨u2, Mu2, rfl, rfl, rfl, hu2, hup2⟩
  refine At.skim 1 rfl rfl ?_
  refine At.freezeOwn 0 hu2 rfl ?_
  refine At.quiet (q_extract rfl rfl) rfl ?_
  refine At.quiet (q_extract rfl rfl) rfl ?_
  refine At.loud (l_alloc t24) rfl ?_
  rintro _ _ _ ⟨b4, rfl, rfl, rfl⟩
  refine At.loudN (l_store t24 rfl rfl (i := 0) rfl rfl rfl rfl) ?_
  rintro _ _ _ ⟨rfl, rfl⟩
  refine At.skim 1 rfl rfl ?_
  refine At.nil ?_
  refine At.then ?_
  refine At.seq ?_
  refine At.region ?_
  refine At.skim 2 rfl rfl ?_
  refine At.split (d := 20) rfl (fun h3 => ?_) (fun h3 => ?_)
  · skip
    refine At.skim 3 rfl rfl ?_
    refine At.split (d := 23) rfl (fun h4 => ?_) (fun h4 => ?_)
    · skip
      refine At.open rfl rfl ?_
      refine At.quiet (q_loadS t24 rfl (RdS.loc (i := 1) rfl (m := 2) rfl) rfl) rfl ?_
      refine At.open rfl rfl ?_
      refine At.quiet (q_loadS t24 rfl (RdS.loc (i := 0) rfl (m := 2) rfl) rfl) rfl ?_
      refine At.open rfl rfl ?_
      refine At.call en36 rfl (same36 _ _) (fun _ h => ⟨h.2.2.1, h.2.2.2.1, h.1, h.2.1, trivial⟩) (List.Perm.refl _) rfl ?_
      rintro _ _ _ ⟨rfl, rfl, rfl⟩
      refine At.skim 2 rfl rfl ?_
      refine At.nil ?_
      refine At.then ?_
      refine At.ret ?_
      exact At.results (Γr := []) (M := []) rfl (RVals.cons (RVal.tmp rfl) RVals.nil) (.tail _ (.tail _ (.tail _ (.tail _ (.tail _ (.tail _ (.head _))))))) (fun _ _ => trivial) (.cons _ (.cons _ (.refl _))) ⟨congrArg Value.bool (by simp [sameT, hup1, hup2, h3, h4]), rfl, rfl⟩
    · skip
      refine At.skim 5 rfl rfl ?_
      refine At.nil ?_
      refine At.then ?_
      refine At.ret ?_
      exact At.results (Γr := []) (M := []) rfl (RVals.cons (RVal.tmp rfl) RVals.nil) (.tail _ (.tail _ (.tail _ (.tail _ (.tail _ (.tail _ (.head _))))))) (fun _ _ => trivial) (.cons _ (.cons _ (.refl _))) ⟨congrArg Value.bool (by simp [sameT, hup1, hup2, h3, h4]), rfl, rfl⟩
  · skip
    refine At.skim 8 rfl rfl ?_
    refine At.nil ?_
    refine At.then ?_
    refine At.ret ?_
    exact At.results (Γr := []) (M := []) rfl (RVals.cons (RVal.tmp rfl) RVals.nil) (.tail _ (.tail _ (.tail _ (.tail _ (.tail _ (.tail _ (.head _))))))) (fun _ _ => trivial) (.cons _ (.cons _ (.refl _))) ⟨congrArg Value.bool (by simp [sameT, hup1, hup2, h3]), rfl, rfl⟩

theorem leaves41 (t : Tr) (hsm : smallP t.ns.l) : Con Try.prog 41 [t.val] [ndsP t.ns, psP t.ns.l] [] (IntsEnd (toI (leavesT t.p))) := by
  refine Con.body 16 Try.func41 rfl Try.ntmps41 rfl fun X H₀ L₀ => ?_
  refine At.seq ?_
  refine At.region ?_
  refine At.loud (l_box rfl) rfl ?_
  rintro _ _ _ ⟨b1, rfl, rfl, rfl⟩
  refine At.freeze 0 (φ := blk b1 _) rfl (fun _ h => blk_def.2 ⟨_, _, h⟩) ?_
  refine At.skim 1 rfl rfl ?_
  refine At.nil ?_
  refine At.then ?_
  refine At.seq ?_
  refine At.seq ?_
  refine At.region ?_
  refine At.quiet (q_loadS t24 rfl (RdS.blk (.head _) (m := 2) rfl) rfl) rfl ?_
  refine At.call en38 rfl (plain38 _ (by assumption)) (fun _ h => ⟨h.2.2.1, h.2.2.2.1, trivial⟩) (List.Perm.refl _) rfl ?_
  rintro _ _ _ ⟨u1, Mu1, rfl, rfl, rfl, hu1, hup1⟩
  refine At.skim 1 rfl rfl ?_
  refine At.quiet (q_extract rfl rfl) rfl ?_
  refine At.quiet (q_extract rfl rfl) rfl ?_
  refine At.loud (l_alloc t24) rfl ?_
  rintro _ _ _ ⟨b2, rfl, rfl, rfl⟩
  refine At.loudN (l_store t24 rfl rfl (i := 0) rfl rfl rfl rfl) ?_
  rintro _ _ _ ⟨rfl, rfl⟩
  refine At.skim 1 rfl rfl ?_
  refine At.nil ?_
  refine At.then ?_
  refine At.seq ?_
  refine At.region ?_
  refine At.skim 2 rfl rfl ?_
  refine At.nil ?_
  refine At.then ?_
  refine At.cond rfl (fun hm => ?_) (fun hm => ?_)
  · skip
    refine At.nilSeg ?_
    refine At.seq ?_
    refine At.region ?_
    refine At.skim 1 rfl rfl ?_
    refine At.nil ?_
    refine At.then ?_
    refine At.ret ?_
    refine At.thenRet ?_
    exact At.results (Γr := []) (M := [[]]) rfl (RVals.cons (RVal.tmp rfl) RVals.nil) (.tail _ (.tail _ (.head _))) (fun _ _ => trivial) (.cons_cons _ (.cons _ (.cons _ (.refl _)))) ⟨⟨none, 0, []⟩, [], rfl, rfl, rfl, Own.nil _ _, by rw [leavesT, none_of (not_t hm)]; rfl⟩
  · skip
    obtain ⟨s, hs⟩ := Option.isSome_iff_exists.1 (not_f hm)
    have hg := good_of hs
    have hsz : s.size ≤ 2000 := by have h1 := hg.size; have h2 := hg.few; omega
    refine At.nilSeg ?_
    refine At.skip ?_
    refine At.then ?_
    refine At.seq ?_
    refine At.region ?_
    refine At.quiet (q_loadS t24 rfl (RdS.blk (.tail _ (.head _)) (m := 2) rfl) rfl) rfl ?_
    refine At.fld s24 t3 rfl rfl rfl (Rd.blk (.tail _ (.head _)) rfl) rfl rfl ?_
    refine At.call en79 rfl (leaves79 t s t.root hg.hangs [] none 0 [] (Own.nil _ _) (by simp; omega)) (fun _ h => ⟨h.2.2.2.1, h.2.2.2.2.1, trivial⟩) (List.Perm.refl _) rfl ?_
    rintro _ _ _ ⟨a1, c1, M1, rfl, rfl, rfl, hO⟩
    refine At.skim 1 rfl rfl ?_
    refine At.nil ?_
    refine At.then ?_
    refine At.ret ?_
    exact At.results (Γr := []) (M := [M1]) rfl (RVals.cons (RVal.tmp rfl) RVals.nil) (.tail _ (.tail _ (.head _))) (fun _ _ => trivial) (.cons_cons _ (.cons _ (.cons _ (.refl _)))) ⟨⟨a1, c1, toI s.leaves⟩, M1, by simp [Sl.val, resVal], rfl, rfl, by simpa using hO, by rw [leavesT, hs]⟩

theorem all42 (t : Tr) (hsm : smallP t.ns.l) : Con Try.prog 42 [t.val] [ndsP t.ns, psP t.ns.l] [] (PairsEnd (allT t.p)) := by
  refine Con.body 23 Try.func42 rfl Try.ntmps42 rfl fun X H₀ L₀ => ?_
  refine At.lenOf (hs := (.tail _ (.head _))) fun hlen => ?_
  rw [List.length_map] at hlen
  refine At.seq ?_
  refine At.region ?_
  refine At.loud (l_box rfl) rfl ?_
  rintro _ _ _ ⟨b1, rfl, rfl, rfl⟩
  refine At.freeze 0 (φ := blk b1 _) rfl (fun _ h => blk_def.2 ⟨_, _, h⟩) ?_
  refine At.skim 1 rfl rfl ?_
  refine At.nil ?_
  refine At.then ?_
  refine At.seq ?_
  refine At.region ?_
  refine At.skim 1 rfl rfl ?_
  refine At.nil ?_
  refine At.then ?_
  refine At.seq ?_
  refine At.seq ?_
  refine At.region ?_
  refine At.quiet (q_loadS t24 rfl (RdS.blk (.head _) (m := 2) rfl) rfl) rfl ?_
  refine At.call en41 rfl (leaves41 _ (by assumption)) (fun _ h => ⟨h.2.2.1, h.2.2.2.1, trivial⟩) (List.Perm.refl _) rfl ?_
  rintro _ _ _ ⟨u, Mu, rfl, rfl, rfl, hu, hul⟩
  refine At.quiet (q_len Try.underlying37 rfl) rfl ?_
  refine At.freezeOwn 0 hu rfl ?_
  have hll := leavesT_len t.p
  have hul2 : u.l.length = (leavesT t.p).length := by rw [hul, toI_length]
  refine At.nilSeg ?_
  refine At.skim 1 rfl rfl ?_
  refine At.nil ?_
  refine At.then ?_
  refine At.block ?_
  refine At.loopK (ι := Nat × Option Addr × Nat × Seg) [3, 5, 9, 10, 11, 12, 13, 14, 15, 16, 17, 18, 19, 20, 21] (fun ⟨k, a, c, M⟩ => [(9, .int .i64 (k : Int)), (3, .slice a (outs t.p k).length c)]) (fun ⟨k, a, c, M⟩ => []) (fun ⟨k, a, c, M⟩ => [M]) _ (fun ⟨k, a, c, M⟩ => k ≤ u.l.length ∧ Own 50 2 ((outs t.p k).map rowP) a c M ∧ (outs t.p k).length ≤ k * 1000000) (fun ⟨k, a, c, M⟩ => u.l.length - k) (0, none, 0, []) ⟨Nat.zero_le _, Own.nil _ _, by simp [outs]⟩ ⟨rfl, rfl, trivial⟩ (fun _ _ => trivial) (.cons_cons _ (.refl _)) ?_
  intro i0 hI0
  obtain ⟨k, a, c, M⟩ := i0
  obtain ⟨hkl, hO, hob⟩ := hI0
  refine At.seq ?_
  refine At.region ?_
  refine At.skim 1 rfl rfl ?_
  refine At.nil ?_
  refine At.then ?_
  refine At.seq ?_
  refine At.if rfl (fun hk => ?_) (fun hk => ?_)
  · skip
    obtain ⟨i, hi⟩ := get_of_lt (l := leavesT t.p) (i := k) (by omega)
    have hui : u.l[k]? = some (i : Int) := by rw [hul]; exact toI_get hi
    obtain ⟨x, hx, _, hxg⟩ := Tr.get (leavesT_lt (List.mem_of_getElem? hi))
    have hxs := hsm x (List.mem_of_getElem? hx)
    have hst := outs_step hi hxg
    refine At.know (prsP x.ps) (fun _ h => psP_get h.2.2.2.2.1 hx) ?_
    refine At.skip ?_
    refine At.then ?_
    refine At.seq ?_
    refine At.block ?_
    refine At.seq ?_
    refine At.region ?_
    refine At.quiet (q_index Try.underlying37 t3 rfl (.tail _ (.head _)) (by simp) rfl rfl (lt_of_get hui)) rfl ?_
    refine At.quiet (q_load t3 rfl (Rd.sl0 (.tail _ (.head _)) (map_get hui) rfl)) rfl ?_
    refine At.skim 1 rfl rfl ?_
    refine At.nil ?_
    refine At.then ?_
    refine At.region ?_
    refine At.skim 1 rfl rfl ?_
    refine At.fld s24 t22 rfl rfl rfl (Rd.blk (.tail _ (.tail _ (.head _))) rfl) rfl rfl ?_
    refine At.skim 1 rfl rfl ?_
    refine At.quiet (q_index Try.underlying22 t33 rfl (.tail _ (.tail _ (.tail _ (.tail _ (.head _))))) (by simp) rfl rfl (lt_of_get hx)) rfl ?_
    refine At.fld s33 t31 rfl rfl rfl (Rd.sl (.tail _ (.tail _ (.tail _ (.tail _ (.head _))))) (map_get hx) rfl) rfl rfl ?_
    refine At.loud (l_appendSl rfl Try.underlying31 t50 rfl rfl hO (by simp) (i := 0) rfl (.head _) (by simp) (one_map (fun _ => rfl) _) rfl rfl (by omega) (by unfold maxLen; omega)) rfl ?_
    rintro _ _ _ ⟨a2, c2, M2, rfl, ow, rfl, rfl⟩
    refine At.skim 1 rfl rfl ?_
    refine At.nil ?_
    refine At.inNormal ?_
    refine At.then ?_
    refine At.region ?_
    refine At.quiet (q_add rfl rfl (by omega) (by omega)) rfl ?_
    refine At.skim 1 rfl rfl ?_
    refine At.nil ?_
    refine At.say 3 (.slice a2 (outs t.p (k + 1)).length c2) rfl (by rw [hst, List.length_append]; rfl) ?_
    refine At.then ?_
    exact At.againK (k + 1, a2, c2, M2) ⟨by omega, by rw [hst, List.map_append]; exact ow, by rw [hst, List.length_append]; show _ + x.ps.l.length ≤ _; omega⟩ (by (try dsimp only); omega) (Tells.end 18 ⟨rfl, rfl, trivial⟩ rfl rfl) (fun _ h => h.2) (.cons_cons _ (.refl _))
  · skip
    refine At.exit ?_
    refine At.thenExit ?_
    refine At.thenExit ?_
    refine At.inHere rfl ?_
    refine At.then ?_
    refine At.seq ?_
    refine At.region ?_
    refine At.skim 2 rfl rfl ?_
    refine At.nil ?_
    refine At.then ?_
    refine At.ret ?_
    exact At.results (Γr := []) (M := [M]) rfl (RVals.cons (RVal.tmp rfl) RVals.nil) (.tail _ (.tail _ (.head _))) (fun _ _ => trivial) (.cons_cons _ (.refl _)) ⟨⟨a, c, outs t.p k⟩, M, rfl, rfl, rfl, hO, outs_all (by omega)⟩

theorem path44 (t : Tr) (key : Int) (s : Sh) (hs : mayT t.p = some s) : Con Try.prog 44 [t.val, .int .i64 key] [ndsP t.ns, psP t.ns.l] [] (PathEnd t key) := by
  refine Con.body 46 Try.func44 rfl Try.ntmps44 rfl fun X H₀ L₀ => ?_
  refine At.lenOf (hs := (.tail _ (.head _))) fun hlen => ?_
  rw [List.length_map] at hlen
  have hg := good_of hs
  have hsz : s.size ≤ 2000 := by have h1 := hg.size; have h2 := hg.few; omega
  refine At.nilSeg ?_
  refine At.nilSeg ?_
  refine At.seq ?_
  refine At.region ?_
  refine At.loud (l_box rfl) rfl ?_
  rintro _ _ _ ⟨b1, rfl, rfl, rfl⟩
  refine At.freeze 0 (φ := blk b1 _) rfl (fun _ h => blk_def.2 ⟨_, _, h⟩) ?_
  refine At.skim 3 rfl rfl ?_
  refine At.nil ?_
  refine At.then ?_
  refine At.seq ?_
  refine At.region ?_
  refine At.fld s24 t3 rfl rfl rfl (Rd.blk (.head _) rfl) rfl rfl ?_
  refine At.skim 1 rfl rfl ?_
  refine At.nil ?_
  refine At.then ?_
  refine At.seq ?_
  refine At.region ?_
  refine At.skim 1 rfl rfl ?_
  refine At.nil ?_
  refine At.then ?_
  refine At.seq ?_
  refine At.region ?_
  refine At.skim 1 rfl rfl ?_
  refine At.nil ?_
  refine At.then ?_
  refine At.seq ?_
  refine At.block ?_
  refine At.front 1 rfl ?_
  refine At.front 1 rfl ?_
  refine At.loopK (ι := Sh × Int × (Nat × List Int × Option Addr × Nat × Seg) × (Nat × List Bool × Option Addr × Nat × Seg)) [7, 8, 9, 10, 13, 14, 15, 16, 17, 18, 19, 20, 21, 22, 23, 24, 25, 26, 27, 28, 29, 30, 31, 32, 33, 34, 35, 36, 37, 38, 39, 40, 41, 42] (fun ⟨s1, at_, ⟨n1, us, a1, c1, M1⟩, ⟨n2, rs, a2, c2, M2⟩⟩ => [(7, .int .i64 at_), (8, .slice a1 n1 c1), (9, .slice a2 n2 c2)]) (fun ⟨s1, at_, ⟨n1, us, a1, c1, M1⟩, ⟨n2, rs, a2, c2, M2⟩⟩ => []) (fun ⟨s1, at_, ⟨n1, us, a1, c1, M1⟩, ⟨n2, rs, a2, c2, M2⟩⟩ => [M1, M2]) _ (fun ⟨s1, at_, ⟨n1, us, a1, c1, M1⟩, ⟨n2, rs, a2, c2, M2⟩⟩ => Way t key s1 at_ us rs ∧ Own 3 1 (us.map rowI) a1 c1 M1 ∧ Own 4 1 (rs.map rowB) a2 c2 M2 ∧ us.length + s1.size ≤ 2000 ∧ rs.length = us.length ∧ n1 = us.length ∧ n2 = rs.length) (fun ⟨s1, at_, ⟨n1, us, a1, c1, M1⟩, ⟨n2, rs, a2, c2, M2⟩⟩ => s1.size) (s, t.root, (0, [], none, 0, []), (0, [], none, 0, [])) ⟨Way.start key hs, Own.nil _ _, Own.nil _ _, by simpa using hsz, rfl, rfl, rfl⟩ ⟨rfl, rfl, rfl, trivial⟩ (fun _ _ => trivial) (.cons_cons _ (.cons_cons _ (.refl _))) ?_
  intro i0 hI0
  obtain ⟨s1, at_, ⟨n1, us, a1, c1, M1⟩, ⟨n2, rs, a2, c2, M2⟩⟩ := i0
  obtain ⟨hW, hO1, hO2, hsz1, hrl, hn1, hn2⟩ := hI0
  obtain ⟨i, x, rfl, hx, hxg, hc⟩ := hW.hangs.at
  refine At.know (prsP x.ps) (fun _ h => psP_get h.2.2.2.1 hx) ?_
  refine At.seq ?_
  refine At.seq ?_
  refine At.region ?_
  refine At.fld s24 t22 rfl rfl rfl (Rd.blk (.tail _ (.head _)) rfl) rfl rfl ?_
  refine At.skim 1 rfl rfl ?_
  refine At.quiet (q_index Try.underlying22 t33 rfl (.tail _ (.tail _ (.tail _ (.head _)))) (by simp) rfl rfl (lt_of_get hx)) rfl ?_
  refine At.fld s33 t4 rfl rfl rfl (Rd.sl (.tail _ (.tail _ (.tail _ (.head _)))) (map_get hx) rfl) rfl rfl ?_
  refine At.nil ?_
  refine At.then ?_
  refine At.cond rfl (fun hr => ?_) (fun hr => ?_)
  · skip
    obtain ⟨l, r, rfl, hl, hr2⟩ : ∃ l r, s1 = .node i l r ∧ Hangs t.p.ns l x.left ∧ Hangs t.p.ns r x.right := by
      rcases hc with ⟨h, _⟩ | ⟨_, h⟩
      · rw [show x.route = true from hr] at h; cases h
      · exact h
    simp only [Sh.size] at hsz1
    have hst := hW.step hxg hl hr2
    refine At.skip ?_
    refine At.then ?_
    refine At.block ?_
    refine At.seq ?_
    refine At.region ?_
    refine At.fld s24 t22 rfl rfl rfl (Rd.blk (.tail _ (.head _)) rfl) rfl rfl ?_
    refine At.skim 1 rfl rfl ?_
    refine At.quiet (q_index Try.underlying22 t33 rfl (.tail _ (.tail _ (.tail _ (.head _)))) (by simp) rfl rfl (lt_of_get hx)) rfl ?_
    refine At.quiet (q_loadS t33 rfl (RdS.sl0 (.tail _ (.tail _ (.tail _ (.head _)))) (map_get hx)) rfl) rfl ?_
    refine At.loud (l_alloc t33) rfl ?_
    rintro _ _ _ ⟨b2, rfl, rfl, rfl⟩
    refine At.loudN (l_store t33 rfl rfl (i := 0) rfl rfl rfl rfl) ?_
    rintro _ _ _ ⟨rfl, rfl⟩
    refine At.nil ?_
    refine At.then ?_
    refine At.front 2 rfl ?_
    refine At.front 2 rfl ?_
    refine At.cutD (ι := (Option Addr × Nat × Seg) × (Option Addr × Nat × Seg)) (.s (.s .z)) [8, 9, 24, 25, 26, 27, 28, 29, 30, 31, 32, 33, 34] (fun ⟨⟨a3, c3, M3⟩, ⟨a4, c4, M4⟩⟩ => [(8, .slice a3 (n1 + 1) c3), (9, .slice a4 (n2 + 1) c4)]) (fun ⟨⟨a3, c3, M3⟩, ⟨a4, c4, M4⟩⟩ => []) (fun ⟨⟨a3, c3, M3⟩, ⟨a4, c4, M4⟩⟩ => [M3, M4]) (fun ⟨⟨a3, c3, M3⟩, ⟨a4, c4, M4⟩⟩ => Own 3 1 ((us ++ [(i : Int)]).map rowI) a3 c3 M3 ∧ Own 4 1 ((rs ++ [decide (x.key ≤ key)]).map rowB) a4 c4 M4) ?_ ?_
    · skip
      refine At.draw 10 (.q 0 (.q 1 (.q 4 (.q 5 (.q 6 (.q 7 (.q 8 (.t 2 (.t 3 (.o 9 (.e)) 9 (.o 3 (.e))) 9 (.o 2 (.o 3 (.e))))))))))) (_ :: L₀) (.cons _ (.cons _ (.cons_cons _ (.refl _)))) mixed (by kernel_rfl) rfl ?_
      refine AtO.quiet rfl (q_move rfl) rfl (Calm.then (Calm.inBlock (Calm.then (Calm.inBlock (Calm.then Post.calm))))) ?_
      refine AtO.quiet rfl (q_move rfl) rfl (Calm.then (Calm.inBlock (Calm.then (Calm.inBlock (Calm.then Post.calm))))) ?_
      refine AtO.quiet rfl (q_move rfl) rfl (Calm.then (Calm.inBlock (Calm.then (Calm.inBlock (Calm.then Post.calm))))) ?_
      refine AtO.quiet rfl (q_move rfl) rfl (Calm.then (Calm.inBlock (Calm.then (Calm.inBlock (Calm.then Post.calm))))) ?_
      refine AtO.quiet rfl (q_fieldAddr s33 rfl rfl rfl) rfl (Calm.then (Calm.inBlock (Calm.then (Calm.inBlock (Calm.then Post.calm))))) ?_
      refine AtO.quiet rfl (q_load t3 rfl (Rd.loc (i := 0) rfl rfl)) rfl (Calm.then (Calm.inBlock (Calm.then (Calm.inBlock (Calm.then Post.calm))))) ?_
      refine AtO.quiet rfl (q_geq rfl rfl) rfl (Calm.then (Calm.inBlock (Calm.then (Calm.inBlock (Calm.then Post.calm))))) ?_
      refine AtO.two ?_ ?_
      · skip
        refine AtO.loud rfl (l_buildSlice Try.underlying37 t3 rfl rfl rfl rfl rfl) rfl (by rintro _ _ _ ⟨_, rfl, rfl, rfl⟩; exact ⟨fun _ h => h, .cons _ (.cons _ (.cons _ (.cons_cons _ (.refl _))))⟩) ?_
        rintro _ _ _ ⟨b3, rfl, rfl, rfl⟩
        refine AtO.two ?_ ?_
        · skip
          refine AtO.loudA rfl (l_append rfl Try.underlying37 t3 rfl rfl hO1 (by simp; omega) (i := 1) rfl rfl (news := [rowI (i : Int)]) (by simp [rowI]) (RdS.loc (i := 0) rfl (m := 1) rfl) rfl rfl rfl (by omega) (by unfold maxLen; omega)) rfl (by rintro _ _ _ ⟨_, _, _, rfl, _, rfl, rfl⟩; exact ⟨fun _ h => h, (.cons _ (.cons _ (.cons _ (.cons_cons _ (.refl _)))))⟩) ?_
          rintro _ _ _ ⟨a3, c3, M3, rfl, ow3, rfl, rfl⟩
          refine AtO.loudA rfl (l_buildSlice Try.underlying38 t4 rfl rfl rfl rfl rfl) rfl (by rintro _ _ _ ⟨_, rfl, rfl, rfl⟩; exact ⟨fun _ h => h, .cons _ (.refl _)⟩) ?_
          rintro _ _ _ ⟨b4, rfl, rfl, rfl⟩
          refine AtO.done ?_
          refine At.loud (l_append rfl Try.underlying38 t4 rfl rfl hO2 (by simp; omega) (i := 3) rfl rfl (news := [rowB (decide (x.key ≤ key))]) (by simp [rowB]) (RdS.loc (i := 0) rfl (m := 1) rfl) rfl rfl rfl (by omega) (by unfold maxLen; omega)) rfl ?_
          rintro _ _ _ ⟨a4, c4, M4, rfl, ow4, rfl, rfl⟩
          refine At.skim 2 rfl rfl ?_
          refine At.nil ?_
          refine At.front 3 rfl ?_
          refine At.front 3 rfl ?_
          refine At.then ?_
          exact At.meetK (⟨a3, c3, M3⟩, ⟨a4, c4, M4⟩) ⟨by simpa using ow3, by simpa using ow4⟩ (Tells.meet 13 ⟨rfl, rfl, trivial⟩ rfl rfl) (fun _ h => h) (.cons_cons _ (.cons_cons _ (.cons _ (.cons _ (.refl _)))))
        · skip
          refine AtO.loud rfl (l_buildSlice Try.underlying38 t4 rfl rfl rfl rfl rfl) rfl (by rintro _ _ _ ⟨_, rfl, rfl, rfl⟩; exact ⟨fun _ h => h, .cons _ (.cons _ (.cons _ (.cons _ (.cons_cons _ (.refl _)))))⟩) ?_
          rintro _ _ _ ⟨b5, rfl, rfl, rfl⟩
          refine AtO.loudA rfl (l_append rfl Try.underlying37 t3 rfl rfl hO1 (by simp; omega) (i := 2) rfl rfl (news := [rowI (i : Int)]) (by simp [rowI]) (RdS.loc (i := 1) rfl (m := 1) rfl) rfl rfl rfl (by omega) (by unfold maxLen; omega)) rfl (by rintro _ _ _ ⟨_, _, _, rfl, _, rfl, rfl⟩; exact ⟨fun _ h => h, (.cons _ (.cons _ (.cons _ (.cons _ (.cons_cons _ (.refl _))))))⟩) ?_
          rintro _ _ _ ⟨a3, c3, M3, rfl, ow3, rfl, rfl⟩
          refine AtO.done ?_
          refine At.loud (l_append rfl Try.underlying38 t4 rfl rfl hO2 (by simp; omega) (i := 3) rfl rfl (news := [rowB (decide (x.key ≤ key))]) (by simp [rowB]) (RdS.loc (i := 0) rfl (m := 1) rfl) rfl rfl rfl (by omega) (by unfold maxLen; omega)) rfl ?_
          rintro _ _ _ ⟨a4, c4, M4, rfl, ow4, rfl, rfl⟩
          refine At.skim 2 rfl rfl ?_
          refine At.nil ?_
          refine At.front 3 rfl ?_
          refine At.front 3 rfl ?_
          refine At.then ?_
          exact At.meetK (⟨a3, c3, M3⟩, ⟨a4, c4, M4⟩) ⟨by simpa using ow3, by simpa using ow4⟩ (Tells.meet 13 ⟨rfl, rfl, trivial⟩ rfl rfl) (fun _ h => h) (.cons_cons _ (.cons_cons _ (.cons _ (.cons _ (.refl _)))))
      · skip
        refine AtO.loud rfl (l_buildSlice Try.underlying38 t4 rfl rfl rfl rfl rfl) rfl (by rintro _ _ _ ⟨_, rfl, rfl, rfl⟩; exact ⟨fun _ h => h, .cons _ (.cons _ (.cons _ (.cons_cons _ (.refl _))))⟩) ?_
        rintro _ _ _ ⟨b6, rfl, rfl, rfl⟩
        refine AtO.loud rfl (l_buildSlice Try.underlying37 t3 rfl rfl rfl rfl rfl) rfl (by rintro _ _ _ ⟨_, rfl, rfl, rfl⟩; exact ⟨fun _ h => h, .cons _ (.cons _ (.cons _ (.cons _ (.cons_cons _ (.refl _)))))⟩) ?_
        rintro _ _ _ ⟨b7, rfl, rfl, rfl⟩
        refine AtO.loudA rfl (l_append rfl Try.underlying37 t3 rfl rfl hO1 (by simp; omega) (i := 2) rfl rfl (news := [rowI (i : Int)]) (by simp [rowI]) (RdS.loc (i := 0) rfl (m := 1) rfl) rfl rfl rfl (by omega) (by unfold maxLen; omega)) rfl (by rintro _ _ _ ⟨_, _, _, rfl, _, rfl, rfl⟩; exact ⟨fun _ h => h, (.cons _ (.cons _ (.cons _ (.cons _ (.cons_cons _ (.refl _))))))⟩) ?_
        rintro _ _ _ ⟨a3, c3, M3, rfl, ow3, rfl, rfl⟩
        refine AtO.done ?_
        refine At.loud (l_append rfl Try.underlying38 t4 rfl rfl hO2 (by simp; omega) (i := 3) rfl rfl (news := [rowB (decide (x.key ≤ key))]) (by simp [rowB]) (RdS.loc (i := 1) rfl (m := 1) rfl) rfl rfl rfl (by omega) (by unfold maxLen; omega)) rfl ?_
        rintro _ _ _ ⟨a4, c4, M4, rfl, ow4, rfl, rfl⟩
        refine At.skim 2 rfl rfl ?_
        refine At.nil ?_
        refine At.front 3 rfl ?_
        refine At.front 3 rfl ?_
        refine At.then ?_
        exact At.meetK (⟨a3, c3, M3⟩, ⟨a4, c4, M4⟩) ⟨by simpa using ow3, by simpa using ow4⟩ (Tells.meet 13 ⟨rfl, rfl, trivial⟩ rfl rfl) (fun _ h => h) (.cons_cons _ (.cons_cons _ (.cons _ (.cons _ (.refl _)))))
    intro j0 hMt
    obtain ⟨⟨a3, c3, M3⟩, ⟨a4, c4, M4⟩⟩ := j0
    obtain ⟨hO3, hO4⟩ := hMt
    refine At.seq ?_
    refine At.region ?_
    refine At.skim 1 rfl rfl ?_
    refine At.fld s33 t3 rfl rfl rfl (Rd.loc (i := 2) rfl rfl) rfl rfl ?_
    refine At.skim 1 rfl rfl ?_
    refine At.nil ?_
    refine At.then ?_
    refine At.if rfl (fun hk => ?_) (fun hk => ?_)
    · skip
      refine At.region ?_
      refine At.fld s33 t3 rfl rfl rfl (Rd.loc (i := 2) rfl rfl) rfl rfl ?_
      refine At.skim 1 rfl rfl ?_
      refine At.nil ?_
      refine At.inNormal ?_
      refine At.front 1 rfl ?_
      refine At.front 1 rfl ?_
      refine At.then ?_
      exact At.againK (l, x.left, (n1 + 1, us ++ [(i : Int)], a3, c3, M3), (n2 + 1, rs ++ [false], a4, c4, M4)) ⟨hst.1 hk, hO3, by rw [decide_eq_false (by omega)] at hO4; exact hO4, by simp; omega, by simp [hrl], by simp [hn1], by simp [hn2]⟩ (by simp only [Sh.size]; omega) (Tells.end 22 ⟨rfl, rfl, rfl, trivial⟩ rfl rfl) (fun _ h => h.2) (.cons_cons _ (.cons_cons _ (.cons _ (.refl _))))
    · skip
      refine At.region ?_
      refine At.fld s33 t3 rfl rfl rfl (Rd.loc (i := 2) rfl rfl) rfl rfl ?_
      refine At.skim 1 rfl rfl ?_
      refine At.nil ?_
      refine At.inNormal ?_
      refine At.front 1 rfl ?_
      refine At.front 1 rfl ?_
      refine At.then ?_
      exact At.againK (r, x.right, (n1 + 1, us ++ [(i : Int)], a3, c3, M3), (n2 + 1, rs ++ [true], a4, c4, M4)) ⟨hst.2 (by omega), hO3, by rw [decide_eq_true (by omega)] at hO4; exact hO4, by simp; omega, by simp [hrl], by simp [hn1], by simp [hn2]⟩ (by simp only [Sh.size]; omega) (Tells.end 22 ⟨rfl, rfl, rfl, trivial⟩ rfl rfl) (fun _ h => h.2) (.cons_cons _ (.cons_cons _ (.cons _ (.refl _))))
  · skip
    obtain rfl : s1 = .leaf i := by
      rcases hc with ⟨_, h⟩ | ⟨h, _⟩
      · exact h
      · rw [show x.route = false from hr] at h; cases h
    obtain ⟨hd1, hd2, hd3⟩ := hW.done
    subst hn1
    subst hn2
    refine At.freezeOwn 0 hO1 rfl ?_
    refine At.freezeOwn 0 hO2 rfl ?_
    refine At.exit ?_
    refine At.thenExit ?_
    refine At.thenExit ?_
    refine At.inHere rfl ?_
    refine At.then ?_
    refine At.seq ?_
    refine At.region ?_
    refine At.skim 6 rfl rfl ?_
    refine At.nil ?_
    refine At.then ?_
    refine At.ret ?_
    exact At.results (Γr := [intsP ⟨a1, c1, us⟩, boolsP ⟨a2, c2, rs⟩]) (M := []) rfl (RVals.cons (RVal.tmp rfl) (RVals.cons (RVal.tmp rfl) (RVals.cons (RVal.tmp rfl) RVals.nil))) (.tail _ (.tail _ (.tail _ (.tail _ (.head _))))) (fun _ h => ⟨h.2.1, h.1, trivial⟩) (.refl _) ⟨⟨a1, c1, us⟩, ⟨a2, c2, rs⟩, by rw [hd1]; rfl, rfl, rfl, hd2, hd3⟩

end Go.Proofs.Ytmkodknmknfdkaa
