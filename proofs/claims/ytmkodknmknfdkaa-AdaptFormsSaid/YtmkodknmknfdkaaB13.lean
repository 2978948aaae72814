/- The walks of adapt: split, rows. -/
import Derived.Test.YtmkodknmknfdkaaB12
import Derived.Test.YtmkodknmknfdkaaP13
set_option linter.unusedVariables false
set_option linter.unusedSimpArgs false
namespace Go.Proofs.Ytmkodknmknfdkaa
open E
set_option maxRecDepth 4000

theorem en84 : Enters Try.prog 84 := Enters.mk' Try.func84 rfl rfl
theorem en109 : Enters Try.prog 109 := Enters.mk' Try.func109 rfl rfl

set_option maxHeartbeats 1000000 in
theorem split47 (t : Tr) (hsm : smallP t.ns.l) (at_ : Int) : Con Try.prog 47 [t.val, .int .i64 at_] [ndsP t.ns, psP t.ns.l] [] (SplitEnd (splitT t.p at_)) := by
  refine Con.body 76 Try.func47 rfl Try.ntmps47 rfl fun X H₀ L₀ => ?_
  have hN : t.p.ns.length = t.ns.l.length := by simp [Tr.p]
  refine At.lenOf (hs := (.tail _ (.head _))) fun hlen => ?_
  rw [List.length_map] at hlen
  refine At.seq ?_
  refine At.region ?_
  refine At.loud (l_box rfl) rfl ?_
  rintro _ _ _ ⟨b1, rfl, rfl, rfl⟩
  refine At.freeze 0 (φ := blk b1 _) rfl (fun _ h => blk_def.2 ⟨_, _, h⟩) ?_
  refine At.loud (l_alloc t24) rfl ?_
  rintro _ _ _ ⟨b2, rfl, rfl, rfl⟩
  refine At.skim 1 rfl rfl ?_
  refine At.nil ?_
  refine At.then ?_
  refine At.seq ?_
  refine At.seq ?_
  refine At.region ?_
  refine At.quiet (q_loadS t24 rfl (RdS.blk (.head _) (m := 2) rfl) rfl) rfl ?_
  refine At.skim 1 rfl rfl ?_
  refine At.call en80 rfl (leaf80 _ _) (fun _ h => ⟨h.2.2.1, h.2.2.2.1, trivial⟩) (List.Perm.refl _) rfl ?_
  rintro _ _ _ ⟨rfl, rfl, rfl⟩
  refine At.skim 2 rfl rfl ?_
  refine At.split (d := 14) rfl (fun hlf => ?_) (fun hlf => ?_)
  · skip
    refine At.skim 16 rfl rfl ?_
    refine At.nil ?_
    refine At.then ?_
    refine At.condT rfl ?_
    refine At.seq ?_
    refine At.region ?_
    refine At.know (ndsP ⟨none, 0, []⟩) (fun _ h => sl_nil _ _ _ (Nat.zero_le _)) ?_
    refine At.know (psP []) (fun _ h => psP_nil) ?_
    refine At.quiet (q_build t24 s24 rfl rfl) rfl ?_
    refine At.loudN (l_store t24 rfl rfl (i := 0) rfl rfl rfl rfl) ?_
    rintro _ _ _ ⟨rfl, rfl⟩
    refine At.skim 1 rfl rfl ?_
    refine At.nil ?_
    refine At.then ?_
    refine At.ret ?_
    refine At.thenRet ?_
    exact At.results (Γr := [_, _]) (M := []) rfl (RVals.cons (RVal.cellS rfl t24 (RdS.loc (i := 0) rfl (m := 2) rfl) rfl) (RVals.cons (RVal.tmp rfl) RVals.nil)) (.tail _ (.tail _ (.tail _ (.head _)))) (fun _ h => ⟨h.2.1, h.1, trivial⟩) (.cons _ (.refl _)) ⟨⟨0, ⟨none, 0, []⟩⟩, by rw [split_no (not_t hlf)]; rfl, rfl, rfl, by rw [split_no (not_t hlf)]; rfl⟩
  · skip
    obtain ⟨s, i, n, hs, rfl, hn, hnr⟩ := leaf_yes (not_f hlf)
    have hil := lt_of_get hn
    obtain ⟨x, hx, hxn⟩ := p_get (u := t) rfl hn
    have hxl : x.ps.l = n.l := by rw [← hxn]; rfl
    have hxs := hsm x (List.mem_of_getElem? hx)
    have hfew := (good_of hs).few
    refine At.know (prsP x.ps) (fun _ h => psP_get h.2.2.2.1 hx) ?_
    refine At.open rfl rfl ?_
    refine At.quiet (q_fieldAddr s24 rfl rfl rfl) rfl ?_
    refine At.open rfl rfl ?_
    refine At.quiet (q_load t22 rfl (Rd.blk (.tail _ (.head _)) rfl)) rfl ?_
    refine At.skim 1 rfl rfl ?_
    refine At.open rfl rfl ?_
    refine At.quiet (q_index Try.underlying22 t33 rfl (.tail _ (.tail _ (.tail _ (.head _)))) (by simp) rfl rfl (lt_of_get hx)) rfl ?_
    refine At.open rfl rfl ?_
    refine At.quiet (q_fieldAddr s33 rfl rfl rfl) rfl ?_
    refine At.open rfl rfl ?_
    refine At.quiet (q_load t31 rfl (Rd.sl (.tail _ (.tail _ (.tail _ (.head _)))) (map_get hx) rfl)) rfl ?_
    refine At.open rfl rfl ?_
    refine At.quiet (q_len Try.underlying31 rfl) rfl ?_
    refine At.skim 3 rfl rfl ?_
    refine At.splitP (d := 24) rfl (fun hfew2 => ?_) (fun hfew2 => ?_)
    · skip
      refine At.skim 6 rfl rfl ?_
      refine At.nil ?_
      refine At.then ?_
      refine At.condT rfl ?_
      refine At.seq ?_
      refine At.region ?_
      refine At.know (ndsP ⟨none, 0, []⟩) (fun _ h => sl_nil _ _ _ (Nat.zero_le _)) ?_
      refine At.know (psP []) (fun _ h => psP_nil) ?_
      refine At.quiet (q_build t24 s24 rfl rfl) rfl ?_
      refine At.loudN (l_store t24 rfl rfl (i := 0) rfl rfl rfl rfl) ?_
      rintro _ _ _ ⟨rfl, rfl⟩
      refine At.skim 1 rfl rfl ?_
      refine At.nil ?_
      refine At.then ?_
      refine At.ret ?_
      refine At.thenRet ?_
      exact At.results (Γr := [_, _]) (M := []) rfl (RVals.cons (RVal.cellS rfl t24 (RdS.loc (i := 0) rfl (m := 2) rfl) rfl) (RVals.cons (RVal.tmp rfl) RVals.nil)) (.tail _ (.tail _ (.tail _ (.tail _ (.head _))))) (fun _ h => ⟨h.2.1, h.1, trivial⟩) (.cons _ (.refl _)) ⟨⟨0, ⟨none, 0, []⟩⟩, by rw [split_few hn (by rw [← hxl]; omega)]; rfl, rfl, rfl, by rw [split_few hn (by rw [← hxl]; omega)]; rfl⟩
    · skip
      refine At.open rfl rfl ?_
      refine At.quiet (q_fieldAddr s24 rfl rfl rfl) rfl ?_
      refine At.open rfl rfl ?_
      refine At.quiet (q_load t22 rfl (Rd.blk (.tail _ (.head _)) rfl)) rfl ?_
      refine At.open rfl rfl ?_
      refine At.quiet (q_len Try.underlying22 rfl) rfl ?_
      refine At.open rfl rfl ?_
      refine At.quiet (q_add rfl rfl (by omega) (by omega)) rfl ?_
      refine At.skim 2 rfl rfl ?_
      refine At.nil ?_
      refine At.then ?_
      refine At.if rfl (fun hbig => ?_) (fun hbig => ?_)
      · skip
        refine At.seq ?_
        refine At.region ?_
        refine At.know (ndsP ⟨none, 0, []⟩) (fun _ h => sl_nil _ _ _ (Nat.zero_le _)) ?_
        refine At.know (psP []) (fun _ h => psP_nil) ?_
        refine At.quiet (q_build t24 s24 rfl rfl) rfl ?_
        refine At.loudN (l_store t24 rfl rfl (i := 0) rfl rfl rfl rfl) ?_
        rintro _ _ _ ⟨rfl, rfl⟩
        refine At.skim 1 rfl rfl ?_
        refine At.nil ?_
        refine At.then ?_
        refine At.ret ?_
        refine At.thenRet ?_
        exact At.results (Γr := [_, _]) (M := []) rfl (RVals.cons (RVal.cellS rfl t24 (RdS.loc (i := 0) rfl (m := 2) rfl) rfl) (RVals.cons (RVal.tmp rfl) RVals.nil)) (.tail _ (.tail _ (.tail _ (.tail _ (.head _))))) (fun _ h => ⟨h.2.1, h.1, trivial⟩) (.cons _ (.refl _)) ⟨⟨0, ⟨none, 0, []⟩⟩, by rw [split_big (by omega)]; rfl, rfl, rfl, by rw [split_big (by omega)]; rfl⟩
      · skip
        refine At.skip ?_
        refine At.then ?_
        refine At.seq ?_
        refine At.region ?_
        refine At.quiet (q_loadS t24 rfl (RdS.blk (.tail _ (.head _)) (m := 2) rfl) rfl) rfl ?_
        refine At.call en84 rfl (copied84 _ (by assumption) (by omega)) (fun _ h => ⟨h.2.2.2.1, h.2.2.2.2.1, trivial⟩) (List.Perm.refl _) rfl ?_
        rintro _ _ _ ⟨u, Mu, rfl, rfl, rfl, hu, hpu⟩
        refine At.loud (l_alloc t24) rfl ?_
        rintro _ _ _ ⟨b3, rfl, rfl, rfl⟩
        refine At.loudN (l_store t24 rfl rfl (i := 0) rfl rfl rfl rfl) ?_
        rintro _ _ _ ⟨rfl, rfl⟩
        refine At.nil ?_
        refine At.then ?_
        refine At.seq ?_
        refine At.region ?_
        have hul := p_len hpu
        obtain ⟨y, hy, hyn⟩ := p_get hpu hn
        have hyl : y.ps.l = n.l := by rw [← hyn]; rfl
        have hys : y.ps.l.length ≤ 1000000 := by rw [hyl, ← hxl]; exact hxs
        have hy2 : 2 ≤ y.ps.l.length := by rw [hyl, ← hxl]; omega
        refine At.know (prsP y.ps) (fun _ h => psP_get h.1 hy) ?_
        refine At.fld s24 t22 rfl rfl rfl (Rd.loc (i := 0) rfl rfl) rfl rfl ?_
        refine At.skim 1 rfl rfl ?_
        refine At.quiet (q_indexOwn Try.underlying22 t33 rfl hu (by simp) rfl rfl (lt_of_get hy)) rfl ?_
        refine At.fld s33 t31 rfl rfl rfl (Rd.own hu (i := 1) rfl (map_get hy) rfl) rfl rfl ?_
        refine At.skim 1 rfl rfl ?_
        refine At.nil ?_
        refine At.then ?_
        refine At.seq ?_
        refine At.region ?_
        refine At.skim 1 rfl rfl ?_
        refine At.quiet (q_len Try.underlying31 rfl) rfl ?_
        refine At.quiet (q_quo rfl rfl (by omega)) rfl ?_
        refine At.say 42 (.int .i64 ((y.ps.l.length / 2 : Nat) : Int)) rfl (congrArg (Value.int .i64) (half_wrap _ hys)) ?_
        refine At.skim 1 rfl rfl ?_
        refine At.nil ?_
        refine At.then ?_
        refine At.seq ?_
        refine At.region ?_
        refine At.fld s24 t22 rfl rfl rfl (Rd.loc (i := 0) rfl rfl) rfl rfl ?_
        refine At.quiet (q_len Try.underlying22 rfl) rfl ?_
        refine At.skim 1 rfl rfl ?_
        refine At.nil ?_
        refine At.then ?_
        refine At.seq ?_
        obtain ⟨z, hz⟩ := get_of_lt (l := y.ps.l) (i := y.ps.l.length / 2) (by omega)
        have hzk : (y.ps.l.getD (y.ps.l.length / 2) default).k = z.k := by rw [List.getD_eq_getElem?_getD, hz]; rfl
        refine At.draw 12 (.q 0 (.q 1 (.q 2 (.q 3 (.q 4 (.q 5 (.q 6 (.q 7 (.q 8 (.q 9 (.q 10 (.q 11 (.e))))))))))))) _ (List.Sublist.refl _) mixed (by kernel_rfl) rfl ?_
        refine AtO.quiet rfl (q_fieldAddr s24 rfl rfl rfl) rfl (Calm.then Post.calm) ?_
        refine AtO.quiet rfl (q_load t22 rfl (Rd.loc (i := 0) rfl rfl)) rfl (Calm.then Post.calm) ?_
        refine AtO.quiet rfl (q_move rfl) rfl (Calm.then Post.calm) ?_
        refine AtO.quiet rfl (q_move rfl) rfl (Calm.then Post.calm) ?_
        refine AtO.quiet rfl (q_move rfl) rfl (Calm.then Post.calm) ?_
        refine AtO.quiet rfl (q_index Try.underlying31 t50 rfl (.head _) (by simp) rfl rfl (lt_of_get hz)) rfl (Calm.then Post.calm) ?_
        refine AtO.quiet rfl (q_fieldAddr s50 rfl rfl rfl) rfl (Calm.then Post.calm) ?_
        refine AtO.quiet rfl (q_load t3 rfl (Rd.sl (.head _) (map_get hz) rfl)) rfl (Calm.then Post.calm) ?_
        refine AtO.quiet rfl (q_move rfl) rfl (Calm.then Post.calm) ?_
        refine AtO.quiet rfl (q_move rfl) rfl (Calm.then Post.calm) ?_
        refine AtO.quiet rfl (q_add rfl rfl (by omega) (by omega)) rfl (Calm.then Post.calm) ?_
        refine AtO.quiet rfl (q_build t33 s33 rfl rfl) rfl (Calm.then Post.calm) ?_
        refine AtO.done ?_
        refine At.quiet (q_indexOwn Try.underlying22 t33 rfl hu (by simp) rfl rfl (lt_of_get hy)) rfl ?_
        refine At.loudN (l_storeOwn0 t33 rfl rfl hu (i := 1) rfl (map_get hy) rfl rfl rfl) ?_
        rintro _ _ _ ⟨Mow1, ow1, rfl, rfl⟩
        refine At.nil ?_
        refine At.then ?_
        refine At.seq ?_
        have hO2 : Own 33 6 ((u.ns.l.set i (⟨true, (y.ps.l.getD (y.ps.l.length / 2) default).k, (u.ns.l.length : Int), (u.ns.l.length : Int) + 1, ⟨none, 0, []⟩, 0⟩ : Nd)).map rowN) u.ns.a u.ns.c Mow1 := by rw [row_set, hzk]; exact ow1
        refine At.capOf (hs := (.head _)) fun hcap => ?_
        rw [List.length_map] at hcap
        refine At.know (prsP (⟨false, 0, 0, 0, ⟨subA y.ps.a y.ps.c 2 0, y.ps.c, y.ps.l.take (y.ps.l.length / 2)⟩, 0⟩ : Nd).ps) (fun _ h => prs_take h.1 (by omega)) ?_
        refine At.know (prsP (⟨false, 0, 0, 0, ⟨subA y.ps.a y.ps.c 2 (y.ps.l.length / 2), y.ps.c - y.ps.l.length / 2, y.ps.l.drop (y.ps.l.length / 2)⟩, 0⟩ : Nd).ps) (fun _ h => prs_drop h.2.1 (by omega)) ?_
        refine At.draw 11 (.q 0 (.q 1 (.q 2 (.q 3 (.q 4 (.q 5 (.q 6 (.q 7 (.q 8 (.q 9 (.o 10 (.e)))))))))))) _ (List.Sublist.refl _) mixed (by kernel_rfl) rfl ?_
        refine AtO.quiet rfl (q_fieldAddr s24 rfl rfl rfl) rfl (Calm.then Post.calm) ?_
        refine AtO.quiet rfl (q_load t22 rfl (Rd.loc (i := 0) rfl rfl)) rfl (Calm.then Post.calm) ?_
        refine AtO.quiet rfl (q_move rfl) rfl (Calm.then Post.calm) ?_
        refine AtO.quiet rfl (q_move rfl) rfl (Calm.then Post.calm) ?_
        refine AtO.quiet rfl (q_sliceHi Try.underlying31 t50 rfl rfl rfl (by omega)) rfl (Calm.then Post.calm) ?_
        refine AtO.say 63 (Sl.val (⟨false, 0, 0, 0, ⟨subA y.ps.a y.ps.c 2 0, y.ps.c, y.ps.l.take (y.ps.l.length / 2)⟩, 0⟩ : Nd).ps) rfl ((take_val (by omega)).symm) ?_
        refine AtO.quiet rfl (q_build t33 s33 rfl rfl) rfl (Calm.then Post.calm) ?_
        refine AtO.quiet rfl (q_move rfl) rfl (Calm.then Post.calm) ?_
        refine AtO.quiet rfl (q_move rfl) rfl (Calm.then Post.calm) ?_
        refine AtO.quiet rfl (q_sliceLo Try.underlying31 t50 rfl rfl rfl (by omega)) rfl (Calm.then Post.calm) ?_
        refine AtO.say 67 (Sl.val (⟨false, 0, 0, 0, ⟨subA y.ps.a y.ps.c 2 (y.ps.l.length / 2), y.ps.c - y.ps.l.length / 2, y.ps.l.drop (y.ps.l.length / 2)⟩, 0⟩ : Nd).ps) rfl (drop_val.symm) ?_
        refine AtO.quiet rfl (q_build t33 s33 rfl rfl) rfl (Calm.then Post.calm) ?_
        refine AtO.loudA rfl (l_buildSlice Try.underlying22 t33 rfl rfl rfl rfl rfl) rfl (by rintro _ _ _ ⟨_, rfl, rfl, rfl⟩; exact ⟨fun _ h => h, .cons _ (.refl _)⟩) ?_
        rintro _ _ _ ⟨b4, rfl, rfl, rfl⟩
        refine AtO.done ?_
        refine At.loud (l_append rfl Try.underlying22 t33 rfl rfl hO2 (by simp) (i := 2) rfl rfl (news := [rowN (⟨false, 0, 0, 0, ⟨subA y.ps.a y.ps.c 2 0, y.ps.c, y.ps.l.take (y.ps.l.length / 2)⟩, 0⟩ : Nd), rowN (⟨false, 0, 0, 0, ⟨subA y.ps.a y.ps.c 2 (y.ps.l.length / 2), y.ps.c - y.ps.l.length / 2, y.ps.l.drop (y.ps.l.length / 2)⟩, 0⟩ : Nd)]) (by simp [rowN]) (RdS.loc (i := 0) rfl (m := 12) rfl) rfl rfl rfl (by omega) (by unfold maxLen; omega)) rfl ?_
        rintro _ _ _ ⟨a2, c2, M2, rfl, ow2, rfl, rfl⟩
        refine At.quiet (q_fieldAddr s24 rfl rfl rfl) rfl ?_
        refine At.loudN (l_store t22 rfl rfl (i := 1) rfl rfl rfl rfl) ?_
        rintro _ _ _ ⟨rfl, rfl⟩
        refine At.nil ?_
        refine At.then ?_
        refine At.seq ?_
        refine At.region ?_
        have hO3 : Own 33 6 ((u.ns.l.set i (⟨true, (y.ps.l.getD (y.ps.l.length / 2) default).k, (u.ns.l.length : Int), (u.ns.l.length : Int) + 1, ⟨none, 0, []⟩, 0⟩ : Nd) ++ [(⟨false, 0, 0, 0, ⟨subA y.ps.a y.ps.c 2 0, y.ps.c, y.ps.l.take (y.ps.l.length / 2)⟩, 0⟩ : Nd), (⟨false, 0, 0, 0, ⟨subA y.ps.a y.ps.c 2 (y.ps.l.length / 2), y.ps.c - y.ps.l.length / 2, y.ps.l.drop (y.ps.l.length / 2)⟩, 0⟩ : Nd)]).map rowN) a2 c2 M2 := by simpa using ow2
        refine At.know (prsP ⟨none, 0, []⟩) (fun _ h => sl_nil _ _ _ (Nat.zero_le _)) ?_
        refine At.know (psP (u.ns.l.set i (⟨true, (y.ps.l.getD (y.ps.l.length / 2) default).k, (u.ns.l.length : Int), (u.ns.l.length : Int) + 1, ⟨none, 0, []⟩, 0⟩ : Nd) ++ [(⟨false, 0, 0, 0, ⟨subA y.ps.a y.ps.c 2 0, y.ps.c, y.ps.l.take (y.ps.l.length / 2)⟩, 0⟩ : Nd), (⟨false, 0, 0, 0, ⟨subA y.ps.a y.ps.c 2 (y.ps.l.length / 2), y.ps.c - y.ps.l.length / 2, y.ps.l.drop (y.ps.l.length / 2)⟩, 0⟩ : Nd)])) (fun _ h => psP_app (psP_set (n := (⟨true, (y.ps.l.getD (y.ps.l.length / 2) default).k, (u.ns.l.length : Int), (u.ns.l.length : Int) + 1, ⟨none, 0, []⟩, 0⟩ : Nd)) h.2.2.2.2.1 h.1) (psP_cons (n := (⟨false, 0, 0, 0, ⟨subA y.ps.a y.ps.c 2 0, y.ps.c, y.ps.l.take (y.ps.l.length / 2)⟩, 0⟩ : Nd)) h.2.2.1 (psP_cons (n := (⟨false, 0, 0, 0, ⟨subA y.ps.a y.ps.c 2 (y.ps.l.length / 2), y.ps.c - y.ps.l.length / 2, y.ps.l.drop (y.ps.l.length / 2)⟩, 0⟩ : Nd)) h.2.1 psP_nil))) ?_
        have hsn : smallP (u.ns.l.set i (⟨true, (y.ps.l.getD (y.ps.l.length / 2) default).k, (u.ns.l.length : Int), (u.ns.l.length : Int) + 1, ⟨none, 0, []⟩, 0⟩ : Nd) ++ [(⟨false, 0, 0, 0, ⟨subA y.ps.a y.ps.c 2 0, y.ps.c, y.ps.l.take (y.ps.l.length / 2)⟩, 0⟩ : Nd), (⟨false, 0, 0, 0, ⟨subA y.ps.a y.ps.c 2 (y.ps.l.length / 2), y.ps.c - y.ps.l.length / 2, y.ps.l.drop (y.ps.l.length / 2)⟩, 0⟩ : Nd)]) := split_small (small_of_p hpu hsm) hys
        have hpn : (⟨u.root, ⟨a2, c2, (u.ns.l.set i (⟨true, (y.ps.l.getD (y.ps.l.length / 2) default).k, (u.ns.l.length : Int), (u.ns.l.length : Int) + 1, ⟨none, 0, []⟩, 0⟩ : Nd) ++ [(⟨false, 0, 0, 0, ⟨subA y.ps.a y.ps.c 2 0, y.ps.c, y.ps.l.take (y.ps.l.length / 2)⟩, 0⟩ : Nd), (⟨false, 0, 0, 0, ⟨subA y.ps.a y.ps.c 2 (y.ps.l.length / 2), y.ps.c - y.ps.l.length / 2, y.ps.l.drop (y.ps.l.length / 2)⟩, 0⟩ : Nd)])⟩⟩ : Tr).p = splitRaw t.p i n := split_p hpu hyl hul
        refine At.freezeOwn 2 hO3 rfl ?_
        refine At.quiet (q_loadS t24 rfl (RdS.loc (i := 1) rfl (m := 2) rfl) rfl) rfl ?_
        refine At.say 72 (Tr.val ⟨u.root, ⟨a2, c2, (u.ns.l.set i (⟨true, (y.ps.l.getD (y.ps.l.length / 2) default).k, (u.ns.l.length : Int), (u.ns.l.length : Int) + 1, ⟨none, 0, []⟩, 0⟩ : Nd) ++ [(⟨false, 0, 0, 0, ⟨subA y.ps.a y.ps.c 2 0, y.ps.c, y.ps.l.take (y.ps.l.length / 2)⟩, 0⟩ : Nd), (⟨false, 0, 0, 0, ⟨subA y.ps.a y.ps.c 2 (y.ps.l.length / 2), y.ps.c - y.ps.l.length / 2, y.ps.l.drop (y.ps.l.length / 2)⟩, 0⟩ : Nd)])⟩⟩) rfl (by rw [app2_val]; rfl) ?_
        refine At.call en25 rfl (plain25 ⟨u.root, ⟨a2, c2, (u.ns.l.set i (⟨true, (y.ps.l.getD (y.ps.l.length / 2) default).k, (u.ns.l.length : Int), (u.ns.l.length : Int) + 1, ⟨none, 0, []⟩, 0⟩ : Nd) ++ [(⟨false, 0, 0, 0, ⟨subA y.ps.a y.ps.c 2 0, y.ps.c, y.ps.l.take (y.ps.l.length / 2)⟩, 0⟩ : Nd), (⟨false, 0, 0, 0, ⟨subA y.ps.a y.ps.c 2 (y.ps.l.length / 2), y.ps.c - y.ps.l.length / 2, y.ps.l.drop (y.ps.l.length / 2)⟩, 0⟩ : Nd)])⟩⟩ (by assumption)) (fun _ h => ⟨h.1, h.2.1, trivial⟩) (List.Perm.refl _) rfl ?_
        rintro _ _ _ ⟨w, Mw, rfl, rfl, rfl, hw, hpw⟩
        refine At.quiet (q_extract rfl rfl) rfl ?_
        refine At.quiet (q_extract rfl rfl) rfl ?_
        refine At.loudN (l_store t24 rfl rfl (i := 3) rfl rfl rfl rfl) ?_
        rintro _ _ _ ⟨rfl, rfl⟩
        rw [hpn] at hpw
        have hsr := split_raw (not_f hlf) hn (by rw [← hxl]; omega) (by omega)
        refine At.freezeOwn 0 hw rfl ?_
        refine At.skim 1 rfl rfl ?_
        refine At.nil ?_
        refine At.then ?_
        refine At.ret ?_
        exact At.results (Γr := [_, _]) (M := []) rfl (RVals.cons (RVal.cellS rfl t24 (RdS.loc (i := 2) rfl (m := 2) rfl) rfl) (RVals.cons (RVal.tmp rfl) RVals.nil)) (.tail _ (.tail _ (.tail _ (.tail _ (.tail _ (.tail _ (.tail _ (.tail _ (.tail _ (.tail _ (.tail _ (.head _)))))))))))) (fun _ h => ⟨h.1, h.2.1, trivial⟩) (.cons _ (.cons _ (.cons _ (.refl _)))) ⟨w, by rw [hsr, plainT_some, ← hpn]; rfl, rfl, rfl, by rw [hsr]; exact hpw⟩

theorem grow109 (m : Nat) (hm : m ≤ 4000000) : Con Try.prog 109 [.slice none 0 0, .int .i64 (m : Int)] [] [] (fun v Γ M => ∃ (a : Option Addr) (c : Nat) (M1 : Seg), v = .slice a 0 c ∧ Γ = [] ∧ M = [M1] ∧ Own 50 2 [] a c M1) := by
  refine Con.body 27 Try.func109 rfl Try.ntmps109 rfl fun X H₀ L₀ => ?_
  refine At.seq ?_
  refine At.region ?_
  refine At.skim 1 rfl rfl ?_
  refine At.nil ?_
  refine At.then ?_
  refine At.seq ?_
  refine At.seq ?_
  refine At.region ?_
  refine At.skim 2 rfl rfl ?_
  refine At.nil ?_
  refine At.then ?_
  refine At.say 6 (.bool false) rfl (congrArg Value.bool (decide_eq_false (by omega))) ?_
  refine At.condF rfl ?_
  refine At.skip ?_
  refine At.then ?_
  refine At.seq ?_
  refine At.seq ?_
  refine At.region ?_
  refine At.skim 2 rfl rfl ?_
  refine At.quiet (q_cap Try.underlying31 rfl) rfl ?_
  refine At.skim 1 rfl rfl ?_
  refine At.quiet (q_len Try.underlying31 rfl) rfl ?_
  refine At.quiet (q_sub rfl rfl (by omega) (by omega)) rfl ?_
  refine At.quiet (q_sub rfl rfl (by omega) (by omega)) rfl ?_
  refine At.skim 1 rfl rfl ?_
  refine At.nil ?_
  refine At.then ?_
  refine At.seq ?_
  refine At.region ?_
  refine At.skim 2 rfl rfl ?_
  refine At.nil ?_
  refine At.then ?_
  refine At.if rfl (fun hpos => ?_) (fun hpos => ?_)
  · skip
    refine At.region ?_
    refine At.skim 2 rfl rfl ?_
    refine At.quiet (q_cap Try.underlying31 rfl) rfl ?_
    refine At.quiet (q_sliceHi Try.underlying31 t50 rfl rfl (h := 0) rfl (Nat.le_refl 0)) rfl ?_
    refine At.skim 1 rfl rfl ?_
    refine At.loud (l_appendZeros (m := m) rfl Try.underlying31 Try.underlying3 t50 rfl rfl (by omega) (by omega) rfl rfl (by omega) (by unfold maxLen; omega)) rfl ?_
    rintro _ _ _ ⟨bz, cz, gz, rfl, hOz, hmc, rfl, rfl⟩
    refine At.skim 1 rfl rfl ?_
    refine At.quiet (q_len Try.underlying31 rfl) rfl ?_
    refine At.quiet (q_sliceHi Try.underlying31 t50 rfl rfl (h := 0) rfl (Nat.zero_le _)) rfl ?_
    refine At.say 25 (.slice (some ⟨bz, 0, none⟩) 0 cz) rfl (by rw [sub0]) ?_
    refine At.skim 1 rfl rfl ?_
    refine At.nil ?_
    refine At.then ?_
    refine At.seq ?_
    refine At.region ?_
    refine At.skim 2 rfl rfl ?_
    refine At.nil ?_
    refine At.then ?_
    refine At.ret ?_
    exact At.results (Γr := []) (M := [gz]) rfl (RVals.cons (RVal.tmp rfl) RVals.nil) (.head _) (fun _ _ => trivial) (.cons_cons _ (.refl _)) ⟨some ⟨bz, 0, none⟩, cz, gz, rfl, rfl, rfl, hOz⟩
  · skip
    refine At.nilSeg ?_
    refine At.skip ?_
    refine At.then ?_
    refine At.seq ?_
    refine At.region ?_
    refine At.skim 2 rfl rfl ?_
    refine At.nil ?_
    refine At.then ?_
    refine At.ret ?_
    exact At.results (Γr := []) (M := [[]]) rfl (RVals.cons (RVal.tmp rfl) RVals.nil) (.head _) (fun _ _ => trivial) (.cons_cons _ (.refl _)) ⟨none, 0, [], rfl, rfl, rfl, Own.nil _ _⟩

theorem concat85 (x y : Sl Pr) (b : Nat) (hx1 : x.l.length ≤ 1000000) (hy1 : y.l.length ≤ 1000000) : Con Try.prog 85 [.slice (some ⟨b, 0, none⟩) 2 2] [prsP x, prsP y] [[(b, .cells #[x.val, y.val] 31 (0, 0))]] (PairsEndF (x.l ++ y.l)) := by
  refine Con.body 36 Try.func85 rfl Try.ntmps85 rfl fun X H₀ L₀ => ?_
  refine At.freeze 0 (φ := slsP (⟨some ⟨b, 0, none⟩, 2, [x, y]⟩ : Sl (Sl Pr))) rfl (fun _ h => sl_of_block h rfl (by simp [rowS]) rfl (show (2 : Nat) ≤ maxLen from by decide)) ?_
  refine At.know (allS [x, y]) (fun _ h => allS2 h.2.2.1 h.2.2.2.1) ?_
  have hb : ∀ z ∈ [x, y], z.l.length ≤ 1000000 := fun z hz => by
    rcases List.mem_cons.1 hz with rfl | hz
    · exact hx1
    · rw [List.mem_singleton.1 hz]; exact hy1
  have hle := cat_le hb
  have hl2 : [x, y].length = 2 := rfl
  have hc2 := cat2 x y
  refine At.seq ?_
  refine At.region ?_
  refine At.skim 1 rfl rfl ?_
  refine At.nil ?_
  refine At.then ?_
  refine At.seq ?_
  refine At.region ?_
  refine At.skim 1 rfl rfl ?_
  refine At.nil ?_
  refine At.then ?_
  refine At.seq ?_
  refine At.seq ?_
  refine At.region ?_
  refine At.skim 1 rfl rfl ?_
  refine At.quiet (q_len Try.underlying134 rfl) rfl ?_
  refine At.skim 1 rfl rfl ?_
  refine At.nil ?_
  refine At.then ?_
  refine At.block ?_
  refine At.loopK (ι := Nat) [3, 5, 11, 12, 13, 14, 15, 16, 17, 18, 19, 20, 21, 22] (fun k => [(11, .int .i64 (k : Int)), (3, .int .i64 ((catU [x, y] k).length : Nat))]) (fun k => []) (fun k => []) _ (fun k => k ≤ 2) (fun k => 2 - k) 0 (Nat.zero_le _) ⟨rfl, rfl, trivial⟩ (fun _ _ => trivial) (.refl _) ?_
  intro k hk0
  refine At.seq ?_
  refine At.region ?_
  refine At.skim 1 rfl rfl ?_
  refine At.nil ?_
  refine At.then ?_
  refine At.seq ?_
  refine At.if rfl (fun hk => ?_) (fun hk => ?_)
  · skip
    obtain ⟨z, hz⟩ := get_of_lt (l := [x, y]) (i := k) (by omega)
    have hst := cat_step hz
    have hlk := hle (k + 1) (by omega)
    rw [hst, List.length_append] at hlk
    have hk1 : k + 1 ≤ 2 := by omega
    refine At.know (prsP z) (fun _ h => allS_get h.1 hz) ?_
    refine At.skip ?_
    refine At.then ?_
    refine At.seq ?_
    refine At.block ?_
    refine At.seq ?_
    refine At.region ?_
    refine At.quiet (q_index Try.underlying134 t31 rfl (.tail _ (.tail _ (.head _))) (by simp) rfl rfl (lt_of_get hz)) rfl ?_
    refine At.quiet (q_load t31 rfl (Rd.sl0 (.tail _ (.tail _ (.head _))) (map_get hz) rfl)) rfl ?_
    refine At.skim 1 rfl rfl ?_
    refine At.nil ?_
    refine At.then ?_
    refine At.seq ?_
    refine At.region ?_
    refine At.skim 2 rfl rfl ?_
    refine At.quiet (q_len Try.underlying31 rfl) rfl ?_
    refine At.quiet (q_add rfl rfl (by omega) (by omega)) rfl ?_
    refine At.skim 1 rfl rfl ?_
    refine At.nil ?_
    refine At.then ?_
    refine At.seq ?_
    refine At.region ?_
    refine At.skim 2 rfl rfl ?_
    refine At.nil ?_
    refine At.then ?_
    refine At.say 20 (.bool false) rfl (congrArg Value.bool (decide_eq_false (by omega))) ?_
    refine At.condF rfl ?_
    refine At.skip ?_
    refine At.inNormal ?_
    refine At.then ?_
    refine At.region ?_
    refine At.quiet (q_add rfl rfl (by omega) (by omega)) rfl ?_
    refine At.skim 1 rfl rfl ?_
    refine At.nil ?_
    refine At.say 3 (.int .i64 ((catU [x, y] (k + 1)).length : Nat)) rfl (congrArg (Value.int .i64) (by rw [hst, List.length_append]; simp)) ?_
    refine At.then ?_
    exact At.againK (k + 1) hk1 (by (try dsimp only); omega) (Tells.end 17 ⟨rfl, rfl, trivial⟩ rfl rfl) (fun _ h => h.2) (.refl _)
  · skip
    obtain rfl : k = 2 := by omega
    have hl3 := hle 2 (by omega)
    refine At.exit ?_
    refine At.thenExit ?_
    refine At.thenExit ?_
    refine At.inHere rfl ?_
    refine At.then ?_
    refine At.seq ?_
    refine At.region ?_
    refine At.skim 1 rfl rfl ?_
    refine At.call en109 rfl (grow109 _ (by omega)) (fun _ _ => trivial) (List.Perm.refl _) rfl ?_
    rintro _ _ _ ⟨a0, c0, M0, rfl, rfl, rfl, hO0⟩
    refine At.skim 1 rfl rfl ?_
    refine At.nil ?_
    refine At.then ?_
    refine At.seq ?_
    refine At.seq ?_
    refine At.region ?_
    refine At.skim 1 rfl rfl ?_
    refine At.quiet (q_len Try.underlying134 rfl) rfl ?_
    refine At.skim 1 rfl rfl ?_
    refine At.nil ?_
    refine At.then ?_
    refine At.block ?_
    refine At.loopK (ι := Nat × Option Addr × Nat × Seg) [6, 8, 27, 28, 29, 30, 31, 32, 33, 34] (fun ⟨j, a, c, M⟩ => [(27, .int .i64 (j : Int)), (6, .slice a (catU [x, y] j).length c)]) (fun ⟨j, a, c, M⟩ => []) (fun ⟨j, a, c, M⟩ => [M]) _ (fun ⟨j, a, c, M⟩ => j ≤ 2 ∧ Own 50 2 ((catU [x, y] j).map rowP) a c M) (fun ⟨j, a, c, M⟩ => 2 - j) (0, a0, c0, M0) ⟨Nat.zero_le _, hO0⟩ ⟨rfl, rfl, trivial⟩ (fun _ _ => trivial) (.cons_cons _ (.refl _)) ?_
    intro i0 hI0
    obtain ⟨j, a, c, M⟩ := i0
    obtain ⟨hj2, hO⟩ := hI0
    refine At.seq ?_
    refine At.region ?_
    refine At.skim 1 rfl rfl ?_
    refine At.nil ?_
    refine At.then ?_
    refine At.seq ?_
    refine At.if rfl (fun hjk => ?_) (fun hjk => ?_)
    · skip
      obtain ⟨z, hz⟩ := get_of_lt (l := [x, y]) (i := j) (by omega)
      have hst := cat_step hz
      have hlk := hle (j + 1) (by omega)
      rw [hst, List.length_append] at hlk
      have hj1 : j + 1 ≤ 2 := by omega
      refine At.know (prsP z) (fun _ h => allS_get h.1 hz) ?_
      refine At.skip ?_
      refine At.then ?_
      refine At.seq ?_
      refine At.block ?_
      refine At.seq ?_
      refine At.region ?_
      refine At.quiet (q_index Try.underlying134 t31 rfl (.tail _ (.tail _ (.head _))) (by simp) rfl rfl (lt_of_get hz)) rfl ?_
      refine At.quiet (q_load t31 rfl (Rd.sl0 (.tail _ (.tail _ (.head _))) (map_get hz) rfl)) rfl ?_
      refine At.skim 1 rfl rfl ?_
      refine At.nil ?_
      refine At.then ?_
      refine At.region ?_
      refine At.skim 2 rfl rfl ?_
      refine At.loud (l_appendSl rfl Try.underlying31 t50 rfl rfl hO (by simp) (i := 0) rfl (.head _) (by simp) (one_map (fun _ => rfl) _) rfl rfl (by omega) (by unfold maxLen; omega)) rfl ?_
      rintro _ _ _ ⟨a2, c2, M2, rfl, ow, rfl, rfl⟩
      refine At.skim 1 rfl rfl ?_
      refine At.nil ?_
      refine At.inNormal ?_
      refine At.then ?_
      refine At.region ?_
      refine At.quiet (q_add rfl rfl (by omega) (by omega)) rfl ?_
      refine At.skim 1 rfl rfl ?_
      refine At.nil ?_
      refine At.say 6 (.slice a2 (catU [x, y] (j + 1)).length c2) rfl (by rw [hst, List.length_append]) ?_
      refine At.then ?_
      exact At.againK (j + 1, a2, c2, M2) ⟨hj1, by rw [hst, List.map_append]; exact ow⟩ (by (try dsimp only); omega) (Tells.end 13 ⟨rfl, rfl, trivial⟩ rfl rfl) (fun _ h => h.2) (.cons_cons _ (.refl _))
    · skip
      obtain rfl : j = 2 := by omega
      refine At.freezeOwn 0 hO rfl ?_
      refine At.exit ?_
      refine At.thenExit ?_
      refine At.thenExit ?_
      refine At.inHere rfl ?_
      refine At.then ?_
      refine At.seq ?_
      refine At.region ?_
      refine At.skim 2 rfl rfl ?_
      refine At.nil ?_
      refine At.then ?_
      refine At.ret ?_
      exact At.results (Γr := [prsP ⟨a, c, catU [x, y] 2⟩]) (M := []) rfl (RVals.cons (RVal.tmp rfl) RVals.nil) (.tail _ (.tail _ (.tail _ (.head _)))) (fun _ h => ⟨h.1, trivial⟩) (.refl _) ⟨⟨a, c, catU [x, y] 2⟩, rfl, rfl, rfl, hc2⟩

end Go.Proofs.Ytmkodknmknfdkaa
