/- The walks of the reference: split, neighbours. -/
import Derived.Test.YtmkodknmknfdkaaB18
import Derived.Test.YtmkodknmknfdkaaP20
set_option linter.unusedVariables false
set_option linter.unusedSimpArgs false
namespace Go.Proofs.Ytmkodknmknfdkaa
open E
set_option maxRecDepth 4000

theorem en51 : Enters Try.prog 51 := Enters.mk' Try.func51 rfl rfl
theorem en54 : Enters Try.prog 54 := Enters.mk' Try.func54 rfl rfl
theorem en87 : Enters Try.prog 87 := Enters.mk' Try.func87 rfl rfl

set_option maxHeartbeats 1000000 in
theorem split49 (t : Tr) (hsm : smallP t.ns.l) (at_ : Int) : Con Try.prog 49 [t.val, .int .i64 at_] [ndsP t.ns, psP t.ns.l] [] (SplitEnd (splitT t.p at_)) := by
  refine Con.body 78 Try.func49 rfl Try.ntmps49 rfl fun X H₀ L₀ => ?_
  have hN : t.p.ns.length = t.ns.l.length := by simp [Tr.p]
  refine At.lenOf (hs := (.tail _ (.head _))) fun hlen => ?_
  rw [List.length_map] at hlen
  refine At.seq ?_
  refine At.region ?_
  refine At.loud (l_box rfl) rfl ?_
  rintro _ _ _ ⟨b1, rfl, rfl, rfl⟩
  refine At.freeze 0 (φ := blk b1 _) rfl (fun _ h => blk_def.2 ⟨_, _, h⟩) ?_
  refine At.loud (l_alloc t24) rfl ?_
  rintro _ _ _ ⟨b2, rfl, rfl, rfl⟩
  refine At.skim 1 rfl rfl ?_
  refine At.nil ?_
  refine At.then ?_
  refine At.seq ?_
  refine At.seq ?_
  refine At.region ?_
  refine At.quiet (q_loadS t24 rfl (RdS.blk (.head _) (m := 2) rfl) rfl) rfl ?_
  refine At.skim 1 rfl rfl ?_
  refine At.call en78 rfl (leaf78 _ (by assumption) _) (fun _ h => ⟨h.2.2.1, h.2.2.2.1, trivial⟩) (List.Perm.refl _) rfl ?_
  rintro _ _ _ ⟨rfl, rfl, rfl⟩
  refine At.skim 2 rfl rfl ?_
  refine At.split (d := 14) rfl (fun hlf => ?_) (fun hlf => ?_)
  · skip
    refine At.skim 16 rfl rfl ?_
    refine At.nil ?_
    refine At.then ?_
    refine At.condT rfl ?_
    refine At.seq ?_
    refine At.region ?_
    refine At.know (ndsP ⟨none, 0, []⟩) (fun _ h => sl_nil _ _ _ (Nat.zero_le _)) ?_
    refine At.know (psP []) (fun _ h => psP_nil) ?_
    refine At.quiet (q_build t24 s24 rfl rfl) rfl ?_
    refine At.loudN (l_store t24 rfl rfl (i := 0) rfl rfl rfl rfl) ?_
    rintro _ _ _ ⟨rfl, rfl⟩
    refine At.skim 1 rfl rfl ?_
    refine At.nil ?_
    refine At.then ?_
    refine At.ret ?_
    refine At.thenRet ?_
    exact At.results (Γr := [_, _]) (M := []) rfl (RVals.cons (RVal.cellS rfl t24 (RdS.loc (i := 0) rfl (m := 2) rfl) rfl) (RVals.cons (RVal.tmp rfl) RVals.nil)) (.tail _ (.tail _ (.tail _ (.head _)))) (fun _ h => ⟨h.2.1, h.1, trivial⟩) (.cons _ (.refl _)) ⟨⟨0, ⟨none, 0, []⟩⟩, by rw [split_no (not_t hlf)]; rfl, rfl, rfl, by rw [split_no (not_t hlf)]; rfl⟩
  · skip
    obtain ⟨s, i, n, hs, rfl, hn, hnr⟩ := leaf_yes (not_f hlf)
    have hil := lt_of_get hn
    obtain ⟨x, hx, hxn⟩ := p_get (u := t) rfl hn
    have hxl : x.ps.l = n.l := by rw [← hxn]; rfl
    have hxs := hsm x (List.mem_of_getElem? hx)
    have hfew := (good_of hs).few
    refine At.know (prsP x.ps) (fun _ h => psP_get h.2.2.2.1 hx) ?_
    refine At.open rfl rfl ?_
    refine At.quiet (q_fieldAddr s24 rfl rfl rfl) rfl ?_
    refine At.open rfl rfl ?_
    refine At.quiet (q_load t22 rfl (Rd.blk (.tail _ (.head _)) rfl)) rfl ?_
    refine At.skim 1 rfl rfl ?_
    refine At.open rfl rfl ?_
    refine At.quiet (q_index Try.underlying22 t33 rfl (.tail _ (.tail _ (.tail _ (.head _)))) (by simp) rfl rfl (lt_of_get hx)) rfl ?_
    refine At.open rfl rfl ?_
    refine At.quiet (q_fieldAddr s33 rfl rfl rfl) rfl ?_
    refine At.open rfl rfl ?_
    refine At.quiet (q_load t31 rfl (Rd.sl (.tail _ (.tail _ (.tail _ (.head _)))) (map_get hx) rfl)) rfl ?_
    refine At.open rfl rfl ?_
    refine At.quiet (q_len Try.underlying31 rfl) rfl ?_
    refine At.skim 3 rfl rfl ?_
    refine At.splitP (d := 24) rfl (fun hfew2 => ?_) (fun hfew2 => ?_)
    · skip
      refine At.skim 6 rfl rfl ?_
      refine At.nil ?_
      refine At.then ?_
      refine At.condT rfl ?_
      refine At.seq ?_
      refine At.region ?_
      refine At.know (ndsP ⟨none, 0, []⟩) (fun _ h => sl_nil _ _ _ (Nat.zero_le _)) ?_
      refine At.know (psP []) (fun _ h => psP_nil) ?_
      refine At.quiet (q_build t24 s24 rfl rfl) rfl ?_
      refine At.loudN (l_store t24 rfl rfl (i := 0) rfl rfl rfl rfl) ?_
      rintro _ _ _ ⟨rfl, rfl⟩
      refine At.skim 1 rfl rfl ?_
      refine At.nil ?_
      refine At.then ?_
      refine At.ret ?_
      refine At.thenRet ?_
      exact At.results (Γr := [_, _]) (M := []) rfl (RVals.cons (RVal.cellS rfl t24 (RdS.loc (i := 0) rfl (m := 2) rfl) rfl) (RVals.cons (RVal.tmp rfl) RVals.nil)) (.tail _ (.tail _ (.tail _ (.tail _ (.head _))))) (fun _ h => ⟨h.2.1, h.1, trivial⟩) (.cons _ (.refl _)) ⟨⟨0, ⟨none, 0, []⟩⟩, by rw [split_few hn (by rw [← hxl]; omega)]; rfl, rfl, rfl, by rw [split_few hn (by rw [← hxl]; omega)]; rfl⟩
    · skip
      refine At.open rfl rfl ?_
      refine At.quiet (q_fieldAddr s24 rfl rfl rfl) rfl ?_
      refine At.open rfl rfl ?_
      refine At.quiet (q_load t22 rfl (Rd.blk (.tail _ (.head _)) rfl)) rfl ?_
      refine At.open rfl rfl ?_
      refine At.quiet (q_len Try.underlying22 rfl) rfl ?_
      refine At.open rfl rfl ?_
      refine At.quiet (q_add rfl rfl (by omega) (by omega)) rfl ?_
      refine At.skim 2 rfl rfl ?_
      refine At.nil ?_
      refine At.then ?_
      refine At.if rfl (fun hbig => ?_) (fun hbig => ?_)
      · skip
        refine At.seq ?_
        refine At.region ?_
        refine At.know (ndsP ⟨none, 0, []⟩) (fun _ h => sl_nil _ _ _ (Nat.zero_le _)) ?_
        refine At.know (psP []) (fun _ h => psP_nil) ?_
        refine At.quiet (q_build t24 s24 rfl rfl) rfl ?_
        refine At.loudN (l_store t24 rfl rfl (i := 0) rfl rfl rfl rfl) ?_
        rintro _ _ _ ⟨rfl, rfl⟩
        refine At.skim 1 rfl rfl ?_
        refine At.nil ?_
        refine At.then ?_
        refine At.ret ?_
        refine At.thenRet ?_
        exact At.results (Γr := [_, _]) (M := []) rfl (RVals.cons (RVal.cellS rfl t24 (RdS.loc (i := 0) rfl (m := 2) rfl) rfl) (RVals.cons (RVal.tmp rfl) RVals.nil)) (.tail _ (.tail _ (.tail _ (.tail _ (.head _))))) (fun _ h => ⟨h.2.1, h.1, trivial⟩) (.cons _ (.refl _)) ⟨⟨0, ⟨none, 0, []⟩⟩, by rw [split_big (by omega)]; rfl, rfl, rfl, by rw [split_big (by omega)]; rfl⟩
      · skip
        refine At.skip ?_
        refine At.then ?_
        refine At.seq ?_
        refine At.region ?_
        refine At.quiet (q_loadS t24 rfl (RdS.blk (.tail _ (.head _)) (m := 2) rfl) rfl) rfl ?_
        refine At.call en24 rfl (copy24 _ (by assumption) (by omega)) (fun _ h => ⟨h.2.2.2.1, h.2.2.2.2.1, trivial⟩) (List.Perm.refl _) rfl ?_
        rintro _ _ _ ⟨u, Mu, rfl, rfl, rfl, hu, hpu⟩
        refine At.loud (l_alloc t24) rfl ?_
        rintro _ _ _ ⟨b3, rfl, rfl, rfl⟩
        refine At.loudN (l_store t24 rfl rfl (i := 0) rfl rfl rfl rfl) ?_
        rintro _ _ _ ⟨rfl, rfl⟩
        refine At.nil ?_
        refine At.then ?_
        refine At.seq ?_
        refine At.region ?_
        have hul := p_len hpu
        obtain ⟨y, hy, hyn⟩ := p_get hpu hn
        have hyl : y.ps.l = n.l := by rw [← hyn]; rfl
        have hys : y.ps.l.length ≤ 1000000 := by rw [hyl, ← hxl]; exact hxs
        have hy2 : 2 ≤ y.ps.l.length := by rw [hyl, ← hxl]; omega
        have hlol : ((⟨subA y.ps.a y.ps.c 2 0, y.ps.c, y.ps.l.take (y.ps.l.length / 2)⟩ : Sl Pr)).l.length ≤ 1000000 := by simp; omega
        have hhil : ((⟨subA y.ps.a y.ps.c 2 (y.ps.l.length / 2), y.ps.c - y.ps.l.length / 2, y.ps.l.drop (y.ps.l.length / 2)⟩ : Sl Pr)).l.length ≤ 1000000 := by simp; omega
        refine At.know (prsP y.ps) (fun _ h => psP_get h.1 hy) ?_
        refine At.fld s24 t22 rfl rfl rfl (Rd.loc (i := 0) rfl rfl) rfl rfl ?_
        refine At.skim 1 rfl rfl ?_
        refine At.quiet (q_indexOwn Try.underlying22 t33 rfl hu (by simp) rfl rfl (lt_of_get hy)) rfl ?_
        refine At.fld s33 t31 rfl rfl rfl (Rd.own hu (i := 1) rfl (map_get hy) rfl) rfl rfl ?_
        refine At.skim 1 rfl rfl ?_
        refine At.nil ?_
        refine At.then ?_
        refine At.seq ?_
        refine At.region ?_
        refine At.skim 1 rfl rfl ?_
        refine At.quiet (q_len Try.underlying31 rfl) rfl ?_
        refine At.quiet (q_quo rfl rfl (by omega)) rfl ?_
        refine At.say 42 (.int .i64 ((y.ps.l.length / 2 : Nat) : Int)) rfl (congrArg (Value.int .i64) (half_wrap _ hys)) ?_
        refine At.skim 1 rfl rfl ?_
        refine At.nil ?_
        refine At.then ?_
        refine At.seq ?_
        refine At.region ?_
        refine At.fld s24 t22 rfl rfl rfl (Rd.loc (i := 0) rfl rfl) rfl rfl ?_
        refine At.quiet (q_len Try.underlying22 rfl) rfl ?_
        refine At.skim 1 rfl rfl ?_
        refine At.nil ?_
        refine At.then ?_
        refine At.seq ?_
        obtain ⟨z, hz⟩ := get_of_lt (l := y.ps.l) (i := y.ps.l.length / 2) (by omega)
        have hzk : (y.ps.l.getD (y.ps.l.length / 2) default).k = z.k := by rw [List.getD_eq_getElem?_getD, hz]; rfl
        refine At.capOf (hs := (.head _)) fun hcap => ?_
        rw [List.length_map] at hcap
        refine At.know (prsP (⟨subA y.ps.a y.ps.c 2 0, y.ps.c, y.ps.l.take (y.ps.l.length / 2)⟩ : Sl Pr)) (fun _ h => prs_take h.1 (by omega)) ?_
        refine At.know (prsP (⟨subA y.ps.a y.ps.c 2 (y.ps.l.length / 2), y.ps.c - y.ps.l.length / 2, y.ps.l.drop (y.ps.l.length / 2)⟩ : Sl Pr)) (fun _ h => prs_drop h.2.1 (by omega)) ?_
        refine At.draw 13 (.q 0 (.q 1 (.q 2 (.q 3 (.q 4 (.q 7 (.q 8 (.q 9 (.o 5 (.q 6 (.o 10 (.q 11 (.o 12 (.e)))))))))))))) (_ :: _ :: L₀) (.cons_cons _ (.cons _ (.cons_cons _ (.refl _)))) mixed (by kernel_rfl) rfl ?_
        refine AtO.quiet rfl (q_fieldAddr s24 rfl rfl rfl) rfl (Calm.then Post.calm) ?_
        refine AtO.quiet rfl (q_load t22 rfl (Rd.loc (i := 0) rfl rfl)) rfl (Calm.then Post.calm) ?_
        refine AtO.quiet rfl (q_move rfl) rfl (Calm.then Post.calm) ?_
        refine AtO.quiet rfl (q_move rfl) rfl (Calm.then Post.calm) ?_
        refine AtO.quiet rfl (q_sliceHi Try.underlying31 t50 rfl rfl rfl (by omega)) rfl (Calm.then Post.calm) ?_
        refine AtO.quiet rfl (q_move rfl) rfl (Calm.then Post.calm) ?_
        refine AtO.quiet rfl (q_move rfl) rfl (Calm.then Post.calm) ?_
        refine AtO.quiet rfl (q_sliceLo Try.underlying31 t50 rfl rfl rfl (by omega)) rfl (Calm.then Post.calm) ?_
        refine AtO.say 50 (Sl.val (⟨subA y.ps.a y.ps.c 2 0, y.ps.c, y.ps.l.take (y.ps.l.length / 2)⟩ : Sl Pr)) rfl ((take_val (by omega)).symm) ?_
        refine AtO.loud rfl (l_appendNew rfl Try.underlying31 t50 rfl rfl (.tail _ (.head _)) (by simp) rfl (by simp; omega) (by unfold maxLen; omega) rfl) rfl (by rintro _ _ _ ⟨_, _, rfl, rfl, rfl⟩; exact ⟨fun _ h => h.2, (.cons_cons _ (.cons _ (.cons_cons _ (.refl _))))⟩) ?_
        rintro _ _ _ ⟨a3, c3, rfl, rfl, rfl⟩
        refine AtO.quiet rfl (q_build t33 s33 rfl rfl) rfl (Calm.then Post.calm) ?_
        refine AtO.say 55 (Sl.val (⟨subA y.ps.a y.ps.c 2 (y.ps.l.length / 2), y.ps.c - y.ps.l.length / 2, y.ps.l.drop (y.ps.l.length / 2)⟩ : Sl Pr)) rfl (drop_val.symm) ?_
        refine AtO.loudA rfl (l_appendNew rfl Try.underlying31 t50 rfl rfl (.tail _ (.head _)) (by simp) rfl (by simp; omega) (by unfold maxLen; omega) rfl) rfl (by rintro _ _ _ ⟨_, _, rfl, rfl, rfl⟩; exact ⟨fun _ h => h.2, (.cons_cons _ (.cons _ (.cons_cons _ (.refl _))))⟩) ?_
        rintro _ _ _ ⟨a4, c4, rfl, rfl, rfl⟩
        refine AtO.quiet rfl (q_build t33 s33 rfl rfl) rfl (Calm.then Post.calm) ?_
        refine AtO.loudA rfl (l_buildSlice Try.underlying22 t33 rfl rfl rfl rfl rfl) rfl (by rintro _ _ _ ⟨_, rfl, rfl, rfl⟩; exact ⟨fun _ h => h, .cons _ (.refl _)⟩) ?_
        rintro _ _ _ ⟨b4, rfl, rfl, rfl⟩
        refine AtO.done ?_
        refine At.loud (l_append rfl Try.underlying22 t33 rfl rfl hu (by simp) (i := 2) rfl rfl (news := [rowN (⟨false, 0, 0, 0, ⟨a3, c3, y.ps.l.take (y.ps.l.length / 2)⟩, 0⟩ : Nd), rowN (⟨false, 0, 0, 0, ⟨a4, c4, y.ps.l.drop (y.ps.l.length / 2)⟩, 0⟩ : Nd)]) (by simp [rowN]) (RdS.loc (i := 0) rfl (m := 12) rfl) rfl rfl rfl (by omega) (by unfold maxLen; omega)) rfl ?_
        rintro _ _ _ ⟨a2, c2, M2, rfl, ow2, rfl, rfl⟩
        refine At.quiet (q_fieldAddr s24 rfl rfl rfl) rfl ?_
        refine At.loudN (l_store t22 rfl rfl (i := 1) rfl rfl rfl rfl) ?_
        rintro _ _ _ ⟨rfl, rfl⟩
        refine At.nil ?_
        refine At.then ?_
        refine At.seq ?_
        have hO2 : Own 33 6 ((u.ns.l ++ [(⟨false, 0, 0, 0, ⟨a3, c3, y.ps.l.take (y.ps.l.length / 2)⟩, 0⟩ : Nd), (⟨false, 0, 0, 0, ⟨a4, c4, y.ps.l.drop (y.ps.l.length / 2)⟩, 0⟩ : Nd)]).map rowN) a2 c2 M2 := by simpa using ow2
        have hya : (u.ns.l ++ [(⟨false, 0, 0, 0, ⟨a3, c3, y.ps.l.take (y.ps.l.length / 2)⟩, 0⟩ : Nd), (⟨false, 0, 0, 0, ⟨a4, c4, y.ps.l.drop (y.ps.l.length / 2)⟩, 0⟩ : Nd)])[i]? = some y := by rw [List.getElem?_append_left (lt_of_get hy)]; exact hy
        have hyal : i < u.ns.l.length + 2 := by omega
        refine At.draw 12 (.q 0 (.q 1 (.q 2 (.q 3 (.q 4 (.q 5 (.q 6 (.q 7 (.q 8 (.q 9 (.q 10 (.q 11 (.e))))))))))))) _ (List.Sublist.refl _) mixed (by kernel_rfl) rfl ?_
        refine AtO.quiet rfl (q_fieldAddr s24 rfl rfl rfl) rfl (Calm.then Post.calm) ?_
        refine AtO.quiet rfl (q_load t22 rfl (Rd.loc (i := 1) rfl rfl)) rfl (Calm.then Post.calm) ?_
        refine AtO.quiet rfl (q_move rfl) rfl (Calm.then Post.calm) ?_
        refine AtO.quiet rfl (q_move rfl) rfl (Calm.then Post.calm) ?_
        refine AtO.quiet rfl (q_move rfl) rfl (Calm.then Post.calm) ?_
        refine AtO.quiet rfl (q_index Try.underlying31 t50 rfl (.tail _ (.tail _ (.tail _ (.tail _ (.head _))))) (by simp) rfl rfl (lt_of_get hz)) rfl (Calm.then Post.calm) ?_
        refine AtO.quiet rfl (q_fieldAddr s50 rfl rfl rfl) rfl (Calm.then Post.calm) ?_
        refine AtO.quiet rfl (q_load t3 rfl (Rd.sl (.tail _ (.tail _ (.tail _ (.tail _ (.head _))))) (map_get hz) rfl)) rfl (Calm.then Post.calm) ?_
        refine AtO.quiet rfl (q_move rfl) rfl (Calm.then Post.calm) ?_
        refine AtO.quiet rfl (q_move rfl) rfl (Calm.then Post.calm) ?_
        refine AtO.quiet rfl (q_add rfl rfl (by omega) (by omega)) rfl (Calm.then Post.calm) ?_
        refine AtO.quiet rfl (q_build t33 s33 rfl rfl) rfl (Calm.then Post.calm) ?_
        refine AtO.done ?_
        refine At.quiet (q_indexOwn Try.underlying22 t33 rfl hO2 (by simp) rfl rfl hyal) rfl ?_
        refine At.loudN (l_storeOwn0 t33 rfl rfl hO2 (i := 2) rfl (map_get hya) rfl rfl rfl) ?_
        rintro _ _ _ ⟨Mow1, ow1, rfl, rfl⟩
        refine At.nil ?_
        refine At.then ?_
        refine At.seq ?_
        refine At.region ?_
        have hO3 : Own 33 6 (((u.ns.l ++ [(⟨false, 0, 0, 0, ⟨a3, c3, y.ps.l.take (y.ps.l.length / 2)⟩, 0⟩ : Nd), (⟨false, 0, 0, 0, ⟨a4, c4, y.ps.l.drop (y.ps.l.length / 2)⟩, 0⟩ : Nd)]).set i (⟨true, (y.ps.l.getD (y.ps.l.length / 2) default).k, (u.ns.l.length : Int), (u.ns.l.length : Int) + 1, ⟨none, 0, []⟩, 0⟩ : Nd)).map rowN) a2 c2 Mow1 := by rw [row_set, hzk]; exact ow1
        refine At.know (prsP ⟨none, 0, []⟩) (fun _ h => sl_nil _ _ _ (Nat.zero_le _)) ?_
        refine At.know (psP ((u.ns.l ++ [(⟨false, 0, 0, 0, ⟨a3, c3, y.ps.l.take (y.ps.l.length / 2)⟩, 0⟩ : Nd), (⟨false, 0, 0, 0, ⟨a4, c4, y.ps.l.drop (y.ps.l.length / 2)⟩, 0⟩ : Nd)]).set i (⟨true, (y.ps.l.getD (y.ps.l.length / 2) default).k, (u.ns.l.length : Int), (u.ns.l.length : Int) + 1, ⟨none, 0, []⟩, 0⟩ : Nd))) (fun _ h => psP_set (n := (⟨true, (y.ps.l.getD (y.ps.l.length / 2) default).k, (u.ns.l.length : Int), (u.ns.l.length : Int) + 1, ⟨none, 0, []⟩, 0⟩ : Nd)) (psP_app h.2.2.2.2.2.2.1 (psP_cons (n := (⟨false, 0, 0, 0, ⟨a3, c3, y.ps.l.take (y.ps.l.length / 2)⟩, 0⟩ : Nd)) h.2.2.1 (psP_cons (n := (⟨false, 0, 0, 0, ⟨a4, c4, y.ps.l.drop (y.ps.l.length / 2)⟩, 0⟩ : Nd)) h.2.1 psP_nil))) h.1) ?_
        have hsn : smallP ((u.ns.l ++ [(⟨false, 0, 0, 0, ⟨a3, c3, y.ps.l.take (y.ps.l.length / 2)⟩, 0⟩ : Nd), (⟨false, 0, 0, 0, ⟨a4, c4, y.ps.l.drop (y.ps.l.length / 2)⟩, 0⟩ : Nd)]).set i (⟨true, (y.ps.l.getD (y.ps.l.length / 2) default).k, (u.ns.l.length : Int), (u.ns.l.length : Int) + 1, ⟨none, 0, []⟩, 0⟩ : Nd)) := split_small2 (small_of_p hpu hsm) hys rfl rfl
        have hpn : (⟨u.root, ⟨a2, c2, ((u.ns.l ++ [(⟨false, 0, 0, 0, ⟨a3, c3, y.ps.l.take (y.ps.l.length / 2)⟩, 0⟩ : Nd), (⟨false, 0, 0, 0, ⟨a4, c4, y.ps.l.drop (y.ps.l.length / 2)⟩, 0⟩ : Nd)]).set i (⟨true, (y.ps.l.getD (y.ps.l.length / 2) default).k, (u.ns.l.length : Int), (u.ns.l.length : Int) + 1, ⟨none, 0, []⟩, 0⟩ : Nd))⟩⟩ : Tr).p = splitRaw t.p i n := split_p2 hpu hyl hul hil rfl rfl
        refine At.freezeOwn 2 hO3 rfl ?_
        refine At.quiet (q_loadS t24 rfl (RdS.loc (i := 1) rfl (m := 2) rfl) rfl) rfl ?_
        refine At.say 74 (Tr.val ⟨u.root, ⟨a2, c2, ((u.ns.l ++ [(⟨false, 0, 0, 0, ⟨a3, c3, y.ps.l.take (y.ps.l.length / 2)⟩, 0⟩ : Nd), (⟨false, 0, 0, 0, ⟨a4, c4, y.ps.l.drop (y.ps.l.length / 2)⟩, 0⟩ : Nd)]).set i (⟨true, (y.ps.l.getD (y.ps.l.length / 2) default).k, (u.ns.l.length : Int), (u.ns.l.length : Int) + 1, ⟨none, 0, []⟩, 0⟩ : Nd))⟩⟩) rfl (by rw [setapp_val]; rfl) ?_
        refine At.call en38 rfl (plain38 ⟨u.root, ⟨a2, c2, ((u.ns.l ++ [(⟨false, 0, 0, 0, ⟨a3, c3, y.ps.l.take (y.ps.l.length / 2)⟩, 0⟩ : Nd), (⟨false, 0, 0, 0, ⟨a4, c4, y.ps.l.drop (y.ps.l.length / 2)⟩, 0⟩ : Nd)]).set i (⟨true, (y.ps.l.getD (y.ps.l.length / 2) default).k, (u.ns.l.length : Int), (u.ns.l.length : Int) + 1, ⟨none, 0, []⟩, 0⟩ : Nd))⟩⟩ (by assumption)) (fun _ h => ⟨h.1, h.2.1, trivial⟩) (List.Perm.refl _) rfl ?_
        rintro _ _ _ ⟨w, Mw, rfl, rfl, rfl, hw, hpw⟩
        refine At.quiet (q_extract rfl rfl) rfl ?_
        refine At.quiet (q_extract rfl rfl) rfl ?_
        refine At.loudN (l_store t24 rfl rfl (i := 3) rfl rfl rfl rfl) ?_
        rintro _ _ _ ⟨rfl, rfl⟩
        rw [hpn] at hpw
        have hsr := split_raw (not_f hlf) hn (by rw [← hxl]; omega) (by omega)
        refine At.freezeOwn 0 hw rfl ?_
        refine At.skim 1 rfl rfl ?_
        refine At.nil ?_
        refine At.then ?_
        refine At.ret ?_
        exact At.results (Γr := [_, _]) (M := []) rfl (RVals.cons (RVal.cellS rfl t24 (RdS.loc (i := 2) rfl (m := 2) rfl) rfl) (RVals.cons (RVal.tmp rfl) RVals.nil)) (.tail _ (.tail _ (.tail _ (.tail _ (.tail _ (.tail _ (.tail _ (.tail _ (.tail _ (.tail _ (.tail _ (.tail _ (.tail _ (.head _)))))))))))))) (fun _ h => ⟨h.1, h.2.1, trivial⟩) (.cons _ (.cons _ (.cons _ (.refl _)))) ⟨w, by rw [hsr, plainT_some, ← hpn]; rfl, rfl, rfl, by rw [hsr]; exact hpw⟩

theorem up87 (t : Tr) (at_ : Int) : Con Try.prog 87 [t.val, .int .i64 at_] [ndsP t.ns, psP t.ns.l] [] (UpEnd t.p at_) := by
  refine Con.body 36 Try.func87 rfl Try.ntmps87 rfl fun X H₀ L₀ => ?_
  refine At.lenOf (hs := (.tail _ (.head _))) fun hlen => ?_
  rw [List.length_map] at hlen
  refine At.seq ?_
  refine At.region ?_
  refine At.loud (l_box rfl) rfl ?_
  rintro _ _ _ ⟨b1, rfl, rfl, rfl⟩
  refine At.freeze 0 (φ := blk b1 _) rfl (fun _ h => blk_def.2 ⟨_, _, h⟩) ?_
  refine At.skim 2 rfl rfl ?_
  refine At.nil ?_
  refine At.then ?_
  refine At.seq ?_
  refine At.seq ?_
  refine At.region ?_
  refine At.fld s24 t22 rfl rfl rfl (Rd.blk (.head _) rfl) rfl rfl ?_
  refine At.quiet (q_len Try.underlying22 rfl) rfl ?_
  refine At.skim 1 rfl rfl ?_
  refine At.nil ?_
  refine At.then ?_
  refine At.block ?_
  refine At.loopK (ι := Nat) [4, 5, 6, 7, 11, 12, 13, 14, 15, 16, 17, 18, 19, 20, 21, 22, 23, 24, 25, 26, 27, 28, 29, 30, 31, 32, 33, 34, 35] (fun k => [(11, .int .i64 (k : Int))]) (fun k => []) (fun k => []) _ (fun k => k ≤ t.ns.l.length ∧ ∀ (j : Nat) (n : Nod), j < k → t.p.ns[j]? = some n → n.route = true → n.left ≠ at_ ∧ n.right ≠ at_) (fun k => t.ns.l.length - k) 0 ⟨Nat.zero_le _, fun j n h => absurd h (Nat.not_lt_zero _)⟩ ⟨rfl, trivial⟩ (fun _ _ => trivial) (.refl _) ?_
  intro k hI
  refine At.seq ?_
  refine At.region ?_
  refine At.skim 1 rfl rfl ?_
  refine At.nil ?_
  refine At.then ?_
  refine At.seq ?_
  refine At.if rfl (fun hk => ?_) (fun hk => ?_)
  · skip
    obtain ⟨hk0, hno⟩ := hI
    obtain ⟨x, hx⟩ := get_of_lt (l := t.ns.l) (i := k) (by omega)
    have hk1 := lt_of_get hx
    have hxp : t.p.ns[k]? = some x.p := map_get hx
    refine At.know (prsP x.ps) (fun _ h => psP_get h.2.2.2.1 hx) ?_
    refine At.skip ?_
    refine At.then ?_
    refine At.seq ?_
    refine At.block ?_
    refine At.seq ?_
    refine At.region ?_
    refine At.skim 1 rfl rfl ?_
    refine At.quiet (q_index Try.underlying22 t33 rfl (.tail _ (.tail _ (.tail _ (.head _)))) (by simp) rfl rfl (lt_of_get hx)) rfl ?_
    refine At.quiet (q_loadS t33 rfl (RdS.sl0 (.tail _ (.tail _ (.tail _ (.head _)))) (map_get hx)) rfl) rfl ?_
    refine At.loud (l_alloc t33) rfl ?_
    rintro _ _ _ ⟨b2, rfl, rfl, rfl⟩
    refine At.skim 1 rfl rfl ?_
    refine At.loudN (l_store t33 rfl rfl (i := 0) rfl rfl rfl rfl) ?_
    rintro _ _ _ ⟨rfl, rfl⟩
    refine At.nil ?_
    refine At.then ?_
    refine At.seq ?_
    refine At.region ?_
    refine At.fld s33 t4 rfl rfl rfl (Rd.loc (i := 0) rfl rfl) rfl rfl ?_
    refine At.skim 1 rfl rfl ?_
    refine At.split (d := 18) rfl (fun hr => ?_) (fun hr => ?_)
    · skip
      refine At.open rfl rfl ?_
      refine At.quiet (q_fieldAddr s33 rfl rfl rfl) rfl ?_
      refine At.open rfl rfl ?_
      refine At.quiet (q_load t3 rfl (Rd.loc (i := 0) rfl rfl)) rfl ?_
      refine At.skim 3 rfl rfl ?_
      refine At.splitP (d := 23) rfl (fun hl => ?_) (fun hl => ?_)
      · skip
        refine At.skim 6 rfl rfl ?_
        refine At.nil ?_
        refine At.then ?_
        refine At.condT rfl ?_
        refine At.seq ?_
        refine At.draw 6 (.q 0 (.q 1 (.q 2 (.q 3 (.q 4 (.q 5 (.e))))))) _ (List.Sublist.refl _) mixed (by kernel_rfl) rfl ?_
        refine AtO.quiet rfl (q_move rfl) rfl (Calm.then (Calm.inBlock (Calm.then (Calm.then (Calm.inBlock (Calm.then Post.calm)))))) ?_
        refine AtO.quiet rfl (q_fieldAddr s33 rfl rfl rfl) rfl (Calm.then (Calm.inBlock (Calm.then (Calm.then (Calm.inBlock (Calm.then Post.calm)))))) ?_
        refine AtO.quiet rfl (q_load t3 rfl (Rd.loc (i := 0) rfl rfl)) rfl (Calm.then (Calm.inBlock (Calm.then (Calm.then (Calm.inBlock (Calm.then Post.calm)))))) ?_
        refine AtO.quiet rfl (q_move rfl) rfl (Calm.then (Calm.inBlock (Calm.then (Calm.then (Calm.inBlock (Calm.then Post.calm)))))) ?_
        refine AtO.quiet rfl (q_eql rfl rfl) rfl (Calm.then (Calm.inBlock (Calm.then (Calm.then (Calm.inBlock (Calm.then Post.calm)))))) ?_
        refine AtO.quiet rfl (q_assign rfl) rfl (Calm.then (Calm.inBlock (Calm.then (Calm.then (Calm.inBlock (Calm.then Post.calm)))))) ?_
        refine AtO.done ?_
        refine At.skim 1 rfl rfl ?_
        refine At.nil ?_
        refine At.then ?_
        refine At.ret ?_
        refine At.inRet ?_
        refine At.thenRet ?_
        refine At.thenRet ?_
        refine At.inRet ?_
        refine At.thenRet ?_
        exact At.results (Γr := []) (M := []) rfl (RVals.cons (RVal.tmp rfl) (RVals.cons (RVal.tmp rfl) RVals.nil)) (.tail _ (.tail _ (.head _))) (fun _ _ => trivial) (.cons _ (.refl _)) ⟨rfl, rfl, .inr ⟨k, x.p, rfl, hxp, hr, .inl hl⟩⟩
      · skip
        refine At.open rfl rfl ?_
        refine At.quiet (q_fieldAddr s33 rfl rfl rfl) rfl ?_
        refine At.open rfl rfl ?_
        refine At.quiet (q_load t3 rfl (Rd.loc (i := 0) rfl rfl)) rfl ?_
        refine At.skim 4 rfl rfl ?_
        refine At.nil ?_
        refine At.then ?_
        refine At.if rfl (fun hrr => ?_) (fun hrr => ?_)
        · skip
          refine At.seq ?_
          refine At.draw 6 (.q 0 (.q 1 (.q 2 (.q 3 (.q 4 (.q 5 (.e))))))) _ (List.Sublist.refl _) mixed (by kernel_rfl) rfl ?_
          refine AtO.quiet rfl (q_move rfl) rfl (Calm.then (Calm.inBlock (Calm.then (Calm.then (Calm.inBlock (Calm.then Post.calm)))))) ?_
          refine AtO.quiet rfl (q_fieldAddr s33 rfl rfl rfl) rfl (Calm.then (Calm.inBlock (Calm.then (Calm.then (Calm.inBlock (Calm.then Post.calm)))))) ?_
          refine AtO.quiet rfl (q_load t3 rfl (Rd.loc (i := 0) rfl rfl)) rfl (Calm.then (Calm.inBlock (Calm.then (Calm.then (Calm.inBlock (Calm.then Post.calm)))))) ?_
          refine AtO.quiet rfl (q_move rfl) rfl (Calm.then (Calm.inBlock (Calm.then (Calm.then (Calm.inBlock (Calm.then Post.calm)))))) ?_
          refine AtO.quiet rfl (q_eql rfl rfl) rfl (Calm.then (Calm.inBlock (Calm.then (Calm.then (Calm.inBlock (Calm.then Post.calm)))))) ?_
          refine AtO.quiet rfl (q_assign rfl) rfl (Calm.then (Calm.inBlock (Calm.then (Calm.then (Calm.inBlock (Calm.then Post.calm)))))) ?_
          refine AtO.done ?_
          refine At.skim 1 rfl rfl ?_
          refine At.nil ?_
          refine At.then ?_
          refine At.ret ?_
          refine At.inRet ?_
          refine At.thenRet ?_
          refine At.thenRet ?_
          refine At.inRet ?_
          refine At.thenRet ?_
          exact At.results (Γr := []) (M := []) rfl (RVals.cons (RVal.tmp rfl) (RVals.cons (RVal.tmp rfl) RVals.nil)) (.tail _ (.tail _ (.head _))) (fun _ _ => trivial) (.cons _ (.refl _)) ⟨rfl, rfl, .inr ⟨k, x.p, rfl, hxp, hr, .inr hrr⟩⟩
        · skip
          refine At.skip ?_
          refine At.inNormal ?_
          refine At.then ?_
          refine At.region ?_
          refine At.quiet (q_add rfl rfl (by omega) (by omega)) rfl ?_
          refine At.skim 1 rfl rfl ?_
          refine At.nil ?_
          refine At.then ?_
          exact At.againK (k + 1) ⟨hk1, up_step hno hxp fun _ => ⟨hl, hrr⟩⟩ (by (try dsimp only); omega) (Tells.end 25 ⟨rfl, trivial⟩ rfl rfl) (fun _ h => h.2) (.cons _ (.refl _))
    · skip
      refine At.skim 11 rfl rfl ?_
      refine At.nil ?_
      refine At.then ?_
      refine At.condF rfl ?_
      refine At.skip ?_
      refine At.inNormal ?_
      refine At.then ?_
      refine At.region ?_
      refine At.quiet (q_add rfl rfl (by omega) (by omega)) rfl ?_
      refine At.skim 1 rfl rfl ?_
      refine At.nil ?_
      refine At.then ?_
      exact At.againK (k + 1) ⟨hk1, up_step hno hxp fun h => by rw [show x.p.route = false from hr] at h; cases h⟩ (by (try dsimp only); omega) (Tells.end 24 ⟨rfl, trivial⟩ rfl rfl) (fun _ h => h.2) (.cons _ (.refl _))
  · skip
    obtain ⟨hk0, hno⟩ := hI
    refine At.exit ?_
    refine At.thenExit ?_
    refine At.thenExit ?_
    refine At.inHere rfl ?_
    refine At.then ?_
    refine At.seq ?_
    refine At.region ?_
    refine At.skim 2 rfl rfl ?_
    refine At.nil ?_
    refine At.then ?_
    refine At.ret ?_
    exact At.results (Γr := []) (M := []) rfl (RVals.cons (RVal.tmp rfl) (RVals.cons (RVal.tmp rfl) RVals.nil)) (.tail _ (.head _)) (fun _ _ => trivial) (.refl _) ⟨rfl, rfl, .inl ⟨rfl, fun j n hn => hno j n (up_all hn (by omega)) hn⟩⟩

theorem near53 (t : Tr) (hsm : smallP t.ns.l) (at_ : Int) : Con Try.prog 53 [t.val, .int .i64 at_] [ndsP t.ns, psP t.ns.l] [] (fun v Γ M => v = .int .i64 (nbI (nextT t.p at_)) ∧ Γ = [] ∧ M = []) := by
  refine Con.body 45 Try.func53 rfl Try.ntmps53 rfl fun X H₀ L₀ => ?_
  refine At.seq ?_
  refine At.region ?_
  refine At.loud (l_box rfl) rfl ?_
  rintro _ _ _ ⟨b1, rfl, rfl, rfl⟩
  refine At.freeze 0 (φ := blk b1 _) rfl (fun _ h => blk_def.2 ⟨_, _, h⟩) ?_
  refine At.skim 1 rfl rfl ?_
  refine At.nil ?_
  refine At.then ?_
  refine At.seq ?_
  refine At.seq ?_
  refine At.region ?_
  refine At.quiet (q_loadS t24 rfl (RdS.blk (.head _) (m := 2) rfl) rfl) rfl ?_
  refine At.skim 1 rfl rfl ?_
  refine At.call en78 rfl (leaf78 _ (by assumption) _) (fun _ h => ⟨h.2.2.1, h.2.2.2.1, trivial⟩) (List.Perm.refl _) rfl ?_
  rintro _ _ _ ⟨rfl, rfl, rfl⟩
  refine At.skim 1 rfl rfl ?_
  refine At.nil ?_
  refine At.then ?_
  refine At.cond rfl (fun hlf => ?_) (fun hlf => ?_)
  · skip
    refine At.seq ?_
    refine At.region ?_
    refine At.skim 1 rfl rfl ?_
    refine At.nil ?_
    refine At.then ?_
    refine At.ret ?_
    refine At.thenRet ?_
    exact At.results (Γr := []) (M := []) rfl (RVals.cons (RVal.tmp rfl) RVals.nil) (.tail _ (.head _)) (fun _ _ => trivial) (.refl _) ⟨by rw [next_no (not_t hlf)]; rfl, rfl, rfl⟩
  · skip
    obtain ⟨s, i, n, hs, rfl, hn, hnr⟩ := leaf_yes (not_f hlf)
    have hil := lt_of_get hn
    have hnx := next_eq hs (not_f hlf)
    refine At.skip ?_
    refine At.then ?_
    refine At.seq ?_
    refine At.region ?_
    refine At.quiet (q_loadS t24 rfl (RdS.blk (.head _) (m := 2) rfl) rfl) rfl ?_
    refine At.skim 1 rfl rfl ?_
    refine At.call en87 rfl (up87 t (i : Int)) (fun _ h => ⟨h.2.2.1, h.2.2.2.1, trivial⟩) (List.Perm.refl _) rfl ?_
    rintro vu _ _ ⟨rfl, rfl, hup⟩
    rcases hup with ⟨rfl, hno⟩ | ⟨q, nq, rfl, hq, hqr, hqe⟩
    · skip
      refine At.skim 1 rfl rfl ?_
      refine At.quiet (q_extract rfl rfl) rfl ?_
      refine At.quiet (q_extract rfl rfl) rfl ?_
      refine At.skim 2 rfl rfl ?_
      refine At.nil ?_
      refine At.then ?_
      refine At.seq ?_
      refine At.seq ?_
      refine At.region ?_
      refine At.skim 2 rfl rfl ?_
      refine At.nil ?_
      refine At.then ?_
      refine At.say 19 (.bool true) rfl (congrArg Value.bool (by decide)) ?_
      refine At.condT rfl ?_
      refine At.seq ?_
      refine At.region ?_
      refine At.skim 1 rfl rfl ?_
      refine At.nil ?_
      refine At.then ?_
      refine At.ret ?_
      refine At.thenRet ?_
      exact At.results (Γr := []) (M := []) rfl (RVals.cons (RVal.tmp rfl) RVals.nil) (.tail _ (.head _)) (fun _ _ => trivial) (.refl _) ⟨by rw [hnx, alone hs hn hnr hno]; rfl, rfl, rfl⟩
    · skip
      obtain ⟨l, r, hl, hr, hnb⟩ := up_nb hs hn hnr hq hqr hqe
      obtain ⟨y, hy, hyp⟩ := p_get (u := t) rfl hq
      have hyl : Hangs t.p.ns l y.left := by rw [show y.left = nq.left by rw [← hyp]; rfl]; exact hl
      have hyr : Hangs t.p.ns r y.right := by rw [show y.right = nq.right by rw [← hyp]; rfl]; exact hr
      rw [hnb] at hnx
      refine At.skim 1 rfl rfl ?_
      refine At.quiet (q_extract rfl rfl) rfl ?_
      refine At.quiet (q_extract rfl rfl) rfl ?_
      refine At.skim 2 rfl rfl ?_
      refine At.nil ?_
      refine At.then ?_
      refine At.seq ?_
      refine At.seq ?_
      refine At.region ?_
      refine At.skim 2 rfl rfl ?_
      refine At.nil ?_
      refine At.then ?_
      refine At.say 19 (.bool false) rfl (congrArg Value.bool (decide_eq_false (by omega))) ?_
      refine At.condF rfl ?_
      refine At.skip ?_
      refine At.then ?_
      refine At.seq ?_
      refine At.seq ?_
      refine At.region ?_
      refine At.skim 1 rfl rfl ?_
      refine At.nil ?_
      refine At.then ?_
      refine At.cond rfl (fun hrg => ?_) (fun hrg => ?_)
      · skip
        refine At.nilSeg ?_
        refine At.know (prsP y.ps) (fun _ h => psP_get h.2.2.2.1 hy) ?_
        refine At.seq ?_
        refine At.draw 7 (.q 0 (.q 1 (.q 2 (.q 3 (.q 4 (.q 5 (.q 6 (.e)))))))) (L₀) (.cons _ (.refl _)) mixed (by kernel_rfl) rfl ?_
        refine AtO.quiet rfl (q_loadS t24 rfl (RdS.blk (.tail _ (.head _)) (m := 2) rfl) rfl) rfl (Calm.then (Calm.then Post.calm)) ?_
        refine AtO.quiet rfl (q_fieldAddr s24 rfl rfl rfl) rfl (Calm.then (Calm.then Post.calm)) ?_
        refine AtO.quiet rfl (q_load t22 rfl (Rd.blk (.tail _ (.head _)) rfl)) rfl (Calm.then (Calm.then Post.calm)) ?_
        refine AtO.quiet rfl (q_move rfl) rfl (Calm.then (Calm.then Post.calm)) ?_
        refine AtO.quiet rfl (q_index Try.underlying22 t33 rfl (.tail _ (.tail _ (.tail _ (.head _)))) (by simp) rfl rfl (lt_of_get hy)) rfl (Calm.then (Calm.then Post.calm)) ?_
        refine AtO.quiet rfl (q_fieldAddr s33 rfl rfl rfl) rfl (Calm.then (Calm.then Post.calm)) ?_
        refine AtO.quiet rfl (q_load t3 rfl (Rd.sl (.tail _ (.tail _ (.tail _ (.head _)))) (map_get hy) rfl)) rfl (Calm.then (Calm.then Post.calm)) ?_
        refine AtO.done ?_
        refine At.call en79 rfl (leaves79 t l y.left hyl [] none 0 [] (Own.nil _ _) (by simp; have h1 := near_size hs hl; omega)) (fun _ h => ⟨h.2.2.2.1, h.2.2.2.2.1, trivial⟩) (List.Perm.refl _) rfl ?_
        rintro _ _ _ ⟨a1, c1, M1, rfl, rfl, rfl, hO⟩
        refine At.skim 1 rfl rfl ?_
        refine At.nil ?_
        refine At.then ?_
        refine At.seq ?_
        refine At.region ?_
        have hO2 : Own 3 1 ((toI l.leaves).map rowI) a1 c1 M1 := by simpa using hO
        have hlp := leaves_pos l
        have hlz := near_size hs hl
        have hll := leaves_len l
        have hgl := last_get2 l
        have hlt := lt_of_get hgl
        rw [toI_length] at hlt
        refine At.skim 2 rfl rfl ?_
        refine At.quiet (q_len Try.underlying37 rfl) rfl ?_
        refine At.quiet (q_sub rfl rfl (by simp [toI]; omega) (by simp [toI]; omega)) rfl ?_
        refine At.quiet (q_indexOwn Try.underlying37 t3 rfl hO2 (by simp) rfl ((show _ = (((toI l.leaves).length - 1 : Nat) : Int) from by simp [toI]; omega)) (by simp [toI]; omega)) rfl ?_
        refine At.quiet (q_load t3 rfl (Rd.own0 hO2 (i := 0) rfl (map_get hgl) rfl)) rfl ?_
        refine At.skim 1 rfl rfl ?_
        refine At.nil ?_
        refine At.then ?_
        refine At.ret ?_
        refine At.thenRet ?_
        exact At.results (Γr := []) (M := []) rfl (RVals.cons (RVal.tmp rfl) RVals.nil) (.tail _ (.tail _ (.head _))) (fun _ _ => trivial) (.cons _ (.refl _)) ⟨by rw [hnx, decide_eq_true (of_decide_eq_true hrg)]; rfl, rfl, rfl⟩
      · skip
        refine At.nilSeg ?_
        refine At.know (prsP y.ps) (fun _ h => psP_get h.2.2.2.1 hy) ?_
        refine At.skip ?_
        refine At.then ?_
        refine At.seq ?_
        refine At.draw 7 (.q 0 (.q 1 (.q 2 (.q 3 (.q 4 (.q 5 (.q 6 (.e)))))))) (L₀) (.cons _ (.refl _)) mixed (by kernel_rfl) rfl ?_
        refine AtO.quiet rfl (q_loadS t24 rfl (RdS.blk (.tail _ (.head _)) (m := 2) rfl) rfl) rfl (Calm.then Post.calm) ?_
        refine AtO.quiet rfl (q_fieldAddr s24 rfl rfl rfl) rfl (Calm.then Post.calm) ?_
        refine AtO.quiet rfl (q_load t22 rfl (Rd.blk (.tail _ (.head _)) rfl)) rfl (Calm.then Post.calm) ?_
        refine AtO.quiet rfl (q_move rfl) rfl (Calm.then Post.calm) ?_
        refine AtO.quiet rfl (q_index Try.underlying22 t33 rfl (.tail _ (.tail _ (.tail _ (.head _)))) (by simp) rfl rfl (lt_of_get hy)) rfl (Calm.then Post.calm) ?_
        refine AtO.quiet rfl (q_fieldAddr s33 rfl rfl rfl) rfl (Calm.then Post.calm) ?_
        refine AtO.quiet rfl (q_load t3 rfl (Rd.sl (.tail _ (.tail _ (.tail _ (.head _)))) (map_get hy) rfl)) rfl (Calm.then Post.calm) ?_
        refine AtO.done ?_
        refine At.call en79 rfl (leaves79 t r y.right hyr [] none 0 [] (Own.nil _ _) (by simp; have h1 := near_size hs hr; omega)) (fun _ h => ⟨h.2.2.2.1, h.2.2.2.2.1, trivial⟩) (List.Perm.refl _) rfl ?_
        rintro _ _ _ ⟨a1, c1, M1, rfl, rfl, rfl, hO⟩
        have hO2 : Own 3 1 ((toI r.leaves).map rowI) a1 c1 M1 := by simpa using hO
        have hlp := leaves_pos r
        have hgl := first_get2 r
        refine At.quiet (q_indexOwn Try.underlying37 t3 rfl hO2 (by simp) rfl rfl (by simp [toI]; omega)) rfl ?_
        refine At.quiet (q_load t3 rfl (Rd.own0 hO2 (i := 0) rfl (map_get hgl) rfl)) rfl ?_
        refine At.skim 1 rfl rfl ?_
        refine At.nil ?_
        refine At.then ?_
        refine At.ret ?_
        exact At.results (Γr := []) (M := []) rfl (RVals.cons (RVal.tmp rfl) RVals.nil) (.tail _ (.tail _ (.head _))) (fun _ _ => trivial) (.cons _ (.refl _)) ⟨by rw [hnx, decide_eq_false (of_decide_eq_false hrg)]; rfl, rfl, rfl⟩

end Go.Proofs.Ytmkodknmknfdkaa
