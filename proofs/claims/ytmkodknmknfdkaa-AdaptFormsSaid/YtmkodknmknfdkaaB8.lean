/- The walks of the reference: Set; awake. -/
import Derived.Test.YtmkodknmknfdkaaB7
import Derived.Test.YtmkodknmknfdkaaP9
set_option linter.unusedVariables false
set_option linter.unusedSimpArgs false
namespace Go.Proofs.Ytmkodknmknfdkaa
open E
set_option maxRecDepth 4000

theorem en24 : Enters Try.prog 24 := Enters.mk' Try.func24 rfl rfl
theorem en26 : Enters Try.prog 26 := Enters.mk' Try.func26 rfl rfl
theorem en27 : Enters Try.prog 27 := Enters.mk' Try.func27 rfl rfl
theorem en32 : Enters Try.prog 32 := Enters.mk' Try.func32 rfl rfl
theorem en78 : Enters Try.prog 78 := Enters.mk' Try.func78 rfl rfl

theorem set39 (t : Tr) (hsm : smallP t.ns.l) (at_ : Int) (l : Sl Pr) (hl : l.l.length ≤ 1000000) (stat : Int) : Con Try.prog 39 [t.val, .int .i64 at_, l.val, .int .i64 stat] [ndsP t.ns, psP t.ns.l, prsP l] [] (SetEndF t at_ l stat) := by
  refine Con.body 42 Try.func39 rfl Try.ntmps39 rfl fun X H₀ L₀ => ?_
  have hN : t.p.ns.length = t.ns.l.length := by simp [Tr.p]
  refine At.seq ?_
  refine At.region ?_
  refine At.loud (l_box rfl) rfl ?_
  rintro _ _ _ ⟨b1, rfl, rfl, rfl⟩
  refine At.freeze 0 (φ := blk b1 _) rfl (fun _ h => blk_def.2 ⟨_, _, h⟩) ?_
  refine At.loud (l_alloc t24) rfl ?_
  rintro _ _ _ ⟨b2, rfl, rfl, rfl⟩
  refine At.skim 1 rfl rfl ?_
  refine At.nil ?_
  refine At.then ?_
  refine At.seq ?_
  refine At.seq ?_
  refine At.region ?_
  refine At.quiet (q_loadS t24 rfl (RdS.blk (.head _) (m := 2) rfl) rfl) rfl ?_
  refine At.skim 1 rfl rfl ?_
  refine At.call en78 rfl (leaf78 _ (by assumption) _) (fun _ h => ⟨h.2.2.1, h.2.2.2.1, trivial⟩) (List.Perm.refl _) rfl ?_
  rintro _ _ _ ⟨rfl, rfl, rfl⟩
  refine At.skim 1 rfl rfl ?_
  refine At.nil ?_
  refine At.then ?_
  refine At.cond rfl (fun hlf => ?_) (fun hlf => ?_)
  · skip
    refine At.know (ndsP ⟨none, 0, []⟩) (fun _ h => sl_nil _ _ _ (Nat.zero_le _)) ?_
    refine At.know (psP []) (fun _ h => psP_nil) ?_
    refine At.seq ?_
    refine At.region ?_
    refine At.quiet (q_build t24 s24 rfl rfl) rfl ?_
    refine At.loudN (l_store t24 rfl rfl (i := 0) rfl rfl rfl rfl) ?_
    rintro _ _ _ ⟨rfl, rfl⟩
    refine At.skim 1 rfl rfl ?_
    refine At.nil ?_
    refine At.then ?_
    refine At.ret ?_
    refine At.thenRet ?_
    exact At.results (Γr := [_, _]) (M := []) rfl (RVals.cons (RVal.cellS rfl t24 (RdS.loc (i := 0) rfl (m := 2) rfl) rfl) (RVals.cons (RVal.tmp rfl) RVals.nil)) (.tail _ (.tail _ (.tail _ (.head _)))) (fun _ h => ⟨h.2.1, h.1, trivial⟩) (.cons _ (.refl _)) ⟨⟨0, ⟨none, 0, []⟩⟩, by rw [set_leaf (not_t hlf)]; rfl, rfl, rfl, by rw [setD, set_leaf (not_t hlf)]; rfl⟩
  · skip
    obtain ⟨s, i, n, hs, rfl, hn, hnr⟩ := leaf_yes (not_f hlf)
    have hfew := (good_of hs).few
    have hin := lt_of_get hn
    refine At.skip ?_
    refine At.then ?_
    refine At.seq ?_
    refine At.region ?_
    refine At.quiet (q_loadS t24 rfl (RdS.blk (.head _) (m := 2) rfl) rfl) rfl ?_
    refine At.call en24 rfl (copy24 _ (by assumption) (by omega)) (fun _ h => ⟨h.2.2.1, h.2.2.2.1, trivial⟩) (List.Perm.refl _) rfl ?_
    rintro _ _ _ ⟨u1, Mu1, rfl, rfl, rfl, hu1, hup1⟩
    refine At.loud (l_alloc t24) rfl ?_
    rintro _ _ _ ⟨b3, rfl, rfl, rfl⟩
    refine At.loudN (l_store t24 rfl rfl (i := 0) rfl rfl rfl rfl) ?_
    rintro _ _ _ ⟨rfl, rfl⟩
    refine At.nil ?_
    refine At.then ?_
    refine At.seq ?_
    have hul : u1.ns.l.map Nd.p = t.p.ns := congrArg PT.ns hup1
    obtain ⟨y, hy⟩ := get_of_lt (l := u1.ns.l) (i := i) (by rw [← List.length_map (f := Nd.p), hul]; exact hin)
    have hyp : y.p = n := by
      have h1 : (u1.ns.l.map Nd.p)[i]? = some y.p := map_get hy
      rw [hul, hn] at h1
      exact (Option.some.inj h1).symm
    refine At.draw 12 (.q 0 (.q 1 (.q 2 (.q 3 (.q 4 (.q 5 (.q 6 (.q 8 (.o 7 (.q 9 (.q 10 (.o 11 (.e))))))))))))) (_ :: _ :: L₀) (.cons_cons _ (.cons _ (.cons_cons _ (.refl _)))) mixed (by kernel_rfl) rfl ?_
    refine AtO.quiet rfl (q_fieldAddr s24 rfl rfl rfl) rfl (Calm.then Post.calm) ?_
    refine AtO.quiet rfl (q_load t22 rfl (Rd.loc (i := 0) rfl rfl)) rfl (Calm.then Post.calm) ?_
    refine AtO.quiet rfl (q_move rfl) rfl (Calm.then Post.calm) ?_
    refine AtO.quiet rfl (q_fieldAddr s24 rfl rfl rfl) rfl (Calm.then Post.calm) ?_
    refine AtO.quiet rfl (q_load t22 rfl (Rd.loc (i := 0) rfl rfl)) rfl (Calm.then Post.calm) ?_
    refine AtO.quiet rfl (q_move rfl) rfl (Calm.then Post.calm) ?_
    refine AtO.quiet rfl (q_move rfl) rfl (Calm.then Post.calm) ?_
    refine AtO.quiet rfl (q_move rfl) rfl (Calm.then Post.calm) ?_
    refine AtO.loud rfl (l_appendNew rfl Try.underlying31 t50 rfl rfl (.tail _ (.tail _ (.tail _ (.tail _ (.tail _ (.head _)))))) (by simp) rfl (by omega) (by unfold maxLen; omega) rfl) rfl (by rintro _ _ _ ⟨_, _, rfl, rfl, rfl⟩; exact ⟨fun _ h => h.2, (.cons_cons _ (.cons _ (.cons_cons _ (.refl _))))⟩) ?_
    rintro _ _ _ ⟨a2, c2, rfl, rfl, rfl⟩
    refine AtO.quiet rfl (q_indexOwn Try.underlying22 t33 rfl hu1 (by simp) rfl rfl (lt_of_get hy)) rfl (Calm.then Post.calm) ?_
    refine AtO.quiet rfl (q_fieldAddr s33 rfl rfl rfl) rfl (Calm.then Post.calm) ?_
    refine AtO.loudNA rfl (l_storeOwn t31 rfl rfl hu1 (i := 1) rfl (map_get hy) rfl rfl rfl) (by rintro _ _ _ ⟨_, _, rfl, rfl⟩; exact ⟨fun _ h => h, (.cons_cons _ (.cons _ (.cons_cons _ (.refl _))))⟩) ?_
    rintro _ _ _ ⟨Mow2, ow2, rfl, rfl⟩
    refine AtO.done ?_
    refine At.quiet (q_indexOwn Try.underlying22 t33 rfl hu1 (by simp) rfl rfl (lt_of_get hy)) rfl ?_
    refine At.quiet (q_fieldAddr s33 rfl rfl rfl) rfl ?_
    refine At.loudN (l_storeOwn t3 rfl rfl (show Own 33 6 ((u1.ns.l.set i { y with ps := ⟨a2, c2, l.l⟩ }).map rowN) u1.ns.a u1.ns.c _ by rw [row_set]; exact ow2) (i := 1) rfl (get_set (lt_of_get hy)) rfl rfl rfl) ?_
    rintro _ _ _ ⟨Mow3, ow3, rfl, rfl⟩
    refine At.nil ?_
    refine At.then ?_
    refine At.seq ?_
    refine At.seq ?_
    refine At.region ?_
    have hO4 : Own 33 6 ((u1.ns.l.set i { y with ps := ⟨a2, c2, l.l⟩, stat := stat }).map rowN) u1.ns.a u1.ns.c Mow3 := by rw [show (u1.ns.l.set i { y with ps := ⟨a2, c2, l.l⟩, stat := stat }).map rowN = ((u1.ns.l.set i { y with ps := ⟨a2, c2, l.l⟩ }).map rowN).set i (rowN { y with ps := ⟨a2, c2, l.l⟩, stat := stat }) by rw [← row_set, List.set_set]]; exact ow3
    have hsu : smallP u1.ns.l := small_p hul hsm
    have hsn : smallP (u1.ns.l.set i { y with ps := ⟨a2, c2, l.l⟩, stat := stat }) := small_set hsu hl
    refine At.freezeOwn 1 hO4 rfl ?_
    refine At.know (psP (u1.ns.l.set i { y with ps := ⟨a2, c2, l.l⟩, stat := stat })) (fun _ h => psP_set (n := { y with ps := ⟨a2, c2, l.l⟩, stat := stat }) h.2.2.1 h.2.1) ?_
    refine At.quiet (q_loadS t24 rfl (RdS.loc (i := 0) rfl (m := 2) rfl) rfl) rfl ?_
    refine At.say 34 (Tr.val ⟨u1.root, ⟨u1.ns.a, u1.ns.c, (u1.ns.l.set i { y with ps := ⟨a2, c2, l.l⟩, stat := stat })⟩⟩) rfl (by rw [set_val]; rfl) ?_
    have htp : (⟨u1.root, ⟨u1.ns.a, u1.ns.c, (u1.ns.l.set i { y with ps := ⟨a2, c2, l.l⟩, stat := stat })⟩⟩ : Tr).p = ⟨t.p.root, t.p.ns.set i { n with l := l.l, stat := stat }⟩ := by
      have hr : u1.root = t.p.root := congrArg PT.root hup1
      simp only [Tr.p, List.map_set]
      rw [hr, hul, ← hyp]
      rfl
    refine At.call en38 rfl (plain38 _ (by assumption)) (fun _ h => ⟨h.2.1, h.1, trivial⟩) (List.Perm.refl _) rfl ?_
    rintro _ _ _ ⟨u4, Mu4, rfl, rfl, rfl, hu4, hup4⟩
    refine At.skim 1 rfl rfl ?_
    refine At.quiet (q_extract rfl rfl) rfl ?_
    refine At.quiet (q_extract rfl rfl) rfl ?_
    refine At.loud (l_alloc t24) rfl ?_
    rintro _ _ _ ⟨b4, rfl, rfl, rfl⟩
    refine At.loudN (l_store t24 rfl rfl (i := 0) rfl rfl rfl rfl) ?_
    rintro _ _ _ ⟨rfl, rfl⟩
    refine At.skim 1 rfl rfl ?_
    refine At.nil ?_
    refine At.then ?_
    refine At.seq ?_
    refine At.region ?_
    refine At.skim 2 rfl rfl ?_
    refine At.nil ?_
    refine At.then ?_
    refine At.cond rfl (fun hm2 => ?_) (fun hm2 => ?_)
    · skip
      refine At.know (ndsP ⟨none, 0, []⟩) (fun _ h => sl_nil _ _ _ (Nat.zero_le _)) ?_
      refine At.know (psP []) (fun _ h => psP_nil) ?_
      refine At.seq ?_
      refine At.region ?_
      refine At.quiet (q_build t24 s24 rfl rfl) rfl ?_
      refine At.loudN (l_store t24 rfl rfl (i := 3) rfl rfl rfl rfl) ?_
      rintro _ _ _ ⟨rfl, rfl⟩
      refine At.skim 1 rfl rfl ?_
      refine At.nil ?_
      refine At.then ?_
      refine At.ret ?_
      refine At.thenRet ?_
      exact At.results (Γr := [_, _]) (M := []) rfl (RVals.cons (RVal.cellS rfl t24 (RdS.loc (i := 3) rfl (m := 2) rfl) rfl) (RVals.cons (RVal.tmp rfl) RVals.nil)) (.tail _ (.tail _ (.tail _ (.tail _ (.tail _ (.tail _ (.tail _ (.tail _ (.head _))))))))) (fun _ h => ⟨h.2.1, h.1, trivial⟩) (.cons _ (.cons _ (.cons _ (.cons _ (.refl _))))) ⟨⟨0, ⟨none, 0, []⟩⟩, by rw [set_no5 hn hnr (by rw [← htp]; exact not_t hm2)]; rfl, rfl, rfl, by rw [setD, set_no5 hn hnr (by rw [← htp]; exact not_t hm2)]; rfl⟩
    · skip
      refine At.skip ?_
      refine At.then ?_
      refine At.seq ?_
      refine At.region ?_
      refine At.quiet (q_loadS t24 rfl (RdS.loc (i := 2) rfl (m := 2) rfl) rfl) rfl ?_
      refine At.loudN (l_store t24 rfl rfl (i := 3) rfl rfl rfl rfl) ?_
      rintro _ _ _ ⟨rfl, rfl⟩
      refine At.skim 1 rfl rfl ?_
      refine At.nil ?_
      refine At.then ?_
      refine At.ret ?_
      exact At.results (Γr := [_, _]) (M := []) rfl (RVals.cons (RVal.cellS rfl t24 (RdS.loc (i := 3) rfl (m := 2) rfl) rfl) (RVals.cons (RVal.tmp rfl) RVals.nil)) (.tail _ (.tail _ (.tail _ (.tail _ (.tail _ (.tail _ (.head _))))))) (fun _ h => ⟨h.2.2.1, h.2.1, trivial⟩) (.cons _ (.cons _ (.cons _ (.cons _ (.refl _))))) ⟨⟨u1.root, ⟨u1.ns.a, u1.ns.c, (u1.ns.l.set i { y with ps := ⟨a2, c2, l.l⟩, stat := stat })⟩⟩, by rw [set_ok hs hn hnr (by rw [← htp]; exact not_f hm2), set_val]; rfl, rfl, rfl, by rw [setD, set_ok hs hn hnr (by rw [← htp]; exact not_f hm2), htp]; rfl⟩

theorem awake23  : Con Try.prog 23 [] [] [] (fun v Γ M => v = .bool true ∧ Γ = [] ∧ M = []) := by
  refine Con.body 72 Try.func23 rfl Try.ntmps23 rfl fun X H₀ L₀ => ?_
  refine At.seq ?_
  refine At.region ?_
  refine At.skim 1 rfl rfl ?_
  refine At.nil ?_
  refine At.then ?_
  refine At.seq ?_
  refine At.region ?_
  refine At.quiet (q_build t50 s50 rfl rfl) rfl ?_
  refine At.loud (l_buildSlice Try.underlying31 t50 rfl rfl rfl rfl rfl) rfl ?_
  rintro _ _ _ ⟨b1, rfl, rfl, rfl⟩
  refine At.freeze 0 (φ := prsP ⟨some ⟨b1, 0, none⟩, 1, [⟨1, 0⟩]⟩) rfl (fun _ h => sl_of_block h rfl (by simp [rowP]) rfl (show (1 : Nat) ≤ maxLen from by decide)) ?_
  refine At.quiet (q_build t33 s33 rfl rfl) rfl ?_
  refine At.say 8 (Nd.val ⟨false, 0, 0, 0, ⟨some ⟨b1, 0, none⟩, 1, [⟨1, 0⟩]⟩, 0⟩) rfl rfl ?_
  refine At.quiet (q_build t50 s50 rfl rfl) rfl ?_
  refine At.loud (l_buildSlice Try.underlying31 t50 rfl rfl rfl rfl rfl) rfl ?_
  rintro _ _ _ ⟨b2, rfl, rfl, rfl⟩
  refine At.freeze 0 (φ := prsP ⟨some ⟨b2, 0, none⟩, 1, [⟨5, 0⟩]⟩) rfl (fun _ h => sl_of_block h rfl (by simp [rowP]) rfl (show (1 : Nat) ≤ maxLen from by decide)) ?_
  refine At.quiet (q_build t33 s33 rfl rfl) rfl ?_
  refine At.say 11 (Nd.val ⟨false, 0, 0, 0, ⟨some ⟨b2, 0, none⟩, 1, [⟨5, 0⟩]⟩, 0⟩) rfl rfl ?_
  refine At.quiet (q_build t33 s33 rfl rfl) rfl ?_
  refine At.say 12 (Nd.val ⟨true, 3, 0, 1, ⟨none, 0, []⟩, 0⟩) rfl rfl ?_
  refine At.loud (l_buildSlice Try.underlying22 t33 rfl rfl rfl rfl rfl) rfl ?_
  rintro _ _ _ ⟨b3, rfl, rfl, rfl⟩
  refine At.freeze 0 (φ := ndsP ⟨some ⟨b3, 0, none⟩, 3, [⟨false, 0, 0, 0, ⟨some ⟨b1, 0, none⟩, 1, [⟨1, 0⟩]⟩, 0⟩, ⟨false, 0, 0, 0, ⟨some ⟨b2, 0, none⟩, 1, [⟨5, 0⟩]⟩, 0⟩, ⟨true, 3, 0, 1, ⟨none, 0, []⟩, 0⟩]⟩) rfl (fun _ h => sl_of_block h rfl (by simp [rowN]) (by kernel_rfl) (show (3 : Nat) ≤ maxLen from by decide)) ?_
  refine At.know (prsP ⟨none, 0, []⟩) (fun _ h => sl_nil _ _ _ (Nat.zero_le _)) ?_
  refine At.know (psP [⟨false, 0, 0, 0, ⟨some ⟨b1, 0, none⟩, 1, [⟨1, 0⟩]⟩, 0⟩, ⟨false, 0, 0, 0, ⟨some ⟨b2, 0, none⟩, 1, [⟨5, 0⟩]⟩, 0⟩, ⟨true, 3, 0, 1, ⟨none, 0, []⟩, 0⟩]) (fun _ h => psP_cons h.2.2.2.1 (psP_cons h.2.2.1 (psP_cons h.1 psP_nil))) ?_
  refine At.quiet (q_build t24 s24 rfl rfl) rfl ?_
  refine At.say 14 (Tr.val ⟨2, ⟨some ⟨b3, 0, none⟩, 3, [⟨false, 0, 0, 0, ⟨some ⟨b1, 0, none⟩, 1, [⟨1, 0⟩]⟩, 0⟩, ⟨false, 0, 0, 0, ⟨some ⟨b2, 0, none⟩, 1, [⟨5, 0⟩]⟩, 0⟩, ⟨true, 3, 0, 1, ⟨none, 0, []⟩, 0⟩]⟩⟩) rfl rfl ?_
  have hT : (⟨2, ⟨some ⟨b3, 0, none⟩, 3, [⟨false, 0, 0, 0, ⟨some ⟨b1, 0, none⟩, 1, [⟨1, 0⟩]⟩, 0⟩, ⟨false, 0, 0, 0, ⟨some ⟨b2, 0, none⟩, 1, [⟨5, 0⟩]⟩, 0⟩, ⟨true, 3, 0, 1, ⟨none, 0, []⟩, 0⟩]⟩⟩ : Tr).p = awT := rfl
  have hsm : smallP ((⟨2, ⟨some ⟨b3, 0, none⟩, 3, [⟨false, 0, 0, 0, ⟨some ⟨b1, 0, none⟩, 1, [⟨1, 0⟩]⟩, 0⟩, ⟨false, 0, 0, 0, ⟨some ⟨b2, 0, none⟩, 1, [⟨5, 0⟩]⟩, 0⟩, ⟨true, 3, 0, 1, ⟨none, 0, []⟩, 0⟩]⟩⟩ : Tr)).ns.l := fun n hn => by
    rcases List.mem_cons.1 hn with rfl | hn
    · simp
    rcases List.mem_cons.1 hn with rfl | hn
    · simp
    rcases List.mem_cons.1 hn with rfl | hn
    · simp
    · simp at hn
  refine At.loud (l_alloc t24) rfl ?_
  rintro _ _ _ ⟨b4, rfl, rfl, rfl⟩
  refine At.loudN (l_store t24 rfl rfl (i := 0) rfl rfl rfl rfl) ?_
  rintro _ _ _ ⟨rfl, rfl⟩
  refine At.nil ?_
  refine At.then ?_
  refine At.seq ?_
  refine At.region ?_
  refine At.quiet (q_loadS t24 rfl (RdS.loc (i := 0) rfl (m := 2) rfl) rfl) rfl ?_
  refine At.call en26 rfl (find26 _ _) (fun _ h => ⟨h.2.2.1, h.1, trivial⟩) (List.Perm.refl _) rfl ?_
  rintro _ _ _ ⟨us1, rs1, rfl, rfl, rfl, hus1, hrs1⟩
  refine At.skim 1 rfl rfl ?_
  refine At.quiet (q_extract rfl rfl) rfl ?_
  refine At.quiet (q_extract rfl rfl) rfl ?_
  refine At.loud (l_alloc t40) rfl ?_
  rintro _ _ _ ⟨b5, rfl, rfl, rfl⟩
  refine At.loudN (l_store t40 rfl rfl (i := 0) rfl rfl rfl rfl) ?_
  rintro _ _ _ ⟨rfl, rfl⟩
  refine At.skim 1 rfl rfl ?_
  refine At.nil ?_
  refine At.then ?_
  refine At.seq ?_
  refine At.region ?_
  refine At.quiet (q_loadS t24 rfl (RdS.loc (i := 1) rfl (m := 2) rfl) rfl) rfl ?_
  refine At.call en25 rfl (plain25 _ (by assumption)) (fun _ h => ⟨h.2.2.2.2.1, h.2.2.1, trivial⟩) (List.Perm.refl _) rfl ?_
  rintro _ _ _ ⟨u2, Mu2, rfl, rfl, rfl, hu2, hup2⟩
  refine At.skim 1 rfl rfl ?_
  refine At.quiet (q_extract rfl rfl) rfl ?_
  refine At.quiet (q_extract rfl rfl) rfl ?_
  refine At.loud (l_alloc t24) rfl ?_
  rintro _ _ _ ⟨b6, rfl, rfl, rfl⟩
  refine At.loudN (l_store t24 rfl rfl (i := 0) rfl rfl rfl rfl) ?_
  rintro _ _ _ ⟨rfl, rfl⟩
  refine At.skim 1 rfl rfl ?_
  refine At.nil ?_
  refine At.then ?_
  refine At.seq ?_
  refine At.region ?_
  refine At.quiet (q_loadS t24 rfl (RdS.loc (i := 3) rfl (m := 2) rfl) rfl) rfl ?_
  refine At.call en21 rfl (may21 _) (fun _ h => ⟨h.2.2.2.2.2.1, h.2.2.2.1, trivial⟩) (List.Perm.refl _) rfl ?_
  rintro _ _ _ ⟨rfl, rfl, rfl⟩
  refine At.skim 1 rfl rfl ?_
  refine At.say 27 (.bool true) rfl (congrArg Value.bool (aw_may)) ?_
  refine At.skim 3 rfl rfl ?_
  refine At.say 30 (.bool true) rfl (congrArg Value.bool (aw_may)) ?_
  refine At.open rfl rfl ?_
  refine At.quiet (q_fieldAddr s40 rfl rfl rfl) rfl ?_
  refine At.open rfl rfl ?_
  refine At.quiet (q_load t3 rfl (Rd.loc (i := 2) rfl rfl)) rfl ?_
  refine At.skim 3 rfl rfl ?_
  refine At.say 35 (.bool true) rfl (congrArg Value.bool (aw1)) ?_
  refine At.open rfl rfl ?_
  refine At.quiet (q_loadS t40 rfl (RdS.loc (i := 2) rfl (m := 3) rfl) rfl) rfl ?_
  refine At.open rfl rfl ?_
  refine At.call en32 rfl (right32 _) (fun _ h => ⟨h.2.2.1, trivial⟩) (List.Perm.refl _) rfl ?_
  rintro _ _ _ ⟨rfl, rfl, rfl⟩
  refine At.skim 2 rfl rfl ?_
  refine At.say 39 (.bool true) rfl (congrArg Value.bool ((show (rs1.l.getLast?.getD false) = true by rw [hrs1]; exact aw2))) ?_
  refine At.open rfl rfl ?_
  refine At.quiet (q_loadS t40 rfl (RdS.loc (i := 2) rfl (m := 3) rfl) rfl) rfl ?_
  refine At.open rfl rfl ?_
  refine At.call en27 rfl (top27 _) (fun _ _ => trivial) (List.Perm.refl _) rfl ?_
  rintro _ _ _ ⟨rfl, rfl, rfl⟩
  refine At.skim 3 rfl rfl ?_
  refine At.say 44 (.bool true) rfl (congrArg Value.bool ((show (!decide (us1.l = [])) = true by rw [hus1]; exact aw3))) ?_
  refine At.skim 3 rfl rfl ?_
  refine At.say 47 (.bool true) rfl (congrArg Value.bool (aw_may)) ?_
  obtain ⟨hr0, hl3, x, hx, hxl⟩ := aw4 hup2
  refine At.open rfl rfl ?_
  refine At.quiet (q_fieldAddr s24 rfl rfl rfl) rfl ?_
  refine At.open rfl rfl ?_
  refine At.quiet (q_load t3 rfl (Rd.loc (i := 0) rfl rfl)) rfl ?_
  refine At.skim 3 rfl rfl ?_
  refine At.say 52 (.bool true) rfl (congrArg Value.bool (decide_eq_true hr0)) ?_
  refine At.open rfl rfl ?_
  refine At.quiet (q_fieldAddr s24 rfl rfl rfl) rfl ?_
  refine At.open rfl rfl ?_
  refine At.quiet (q_load t22 rfl (Rd.loc (i := 0) rfl rfl)) rfl ?_
  refine At.open rfl rfl ?_
  refine At.quiet (q_len Try.underlying22 rfl) rfl ?_
  refine At.skim 3 rfl rfl ?_
  refine At.say 58 (.bool true) rfl (congrArg Value.bool (decide_eq_true (by omega))) ?_
  refine At.open rfl rfl ?_
  refine At.quiet (q_fieldAddr s24 rfl rfl rfl) rfl ?_
  refine At.open rfl rfl ?_
  refine At.quiet (q_load t22 rfl (Rd.loc (i := 0) rfl rfl)) rfl ?_
  refine At.open rfl rfl ?_
  refine At.quiet (q_indexOwn Try.underlying22 t33 rfl hu2 (by simp) rfl rfl (lt_of_get hx)) rfl ?_
  refine At.open rfl rfl ?_
  refine At.quiet (q_fieldAddr s33 rfl rfl rfl) rfl ?_
  refine At.open rfl rfl ?_
  refine At.quiet (q_load t3 rfl (Rd.own hu2 (i := 1) rfl (map_get hx) rfl)) rfl ?_
  refine At.skim 3 rfl rfl ?_
  refine At.say 66 (.bool true) rfl (congrArg Value.bool (decide_eq_true hxl)) ?_
  refine At.open rfl rfl ?_
  refine At.quiet (q_loadS t24 rfl (RdS.loc (i := 3) rfl (m := 2) rfl) rfl) rfl ?_
  refine At.open rfl rfl ?_
  refine At.call en28 rfl (leaves28 _) (fun _ h => ⟨h.2.2.2.2.2.1, h.2.2.2.1, trivial⟩) (List.Perm.refl _) rfl ?_
  rintro _ _ _ ⟨u3, Mu3, rfl, rfl, rfl, hu3, hup3⟩
  refine At.open rfl rfl ?_
  refine At.quiet (q_len Try.underlying37 rfl) rfl ?_
  refine At.skim 3 rfl rfl ?_
  refine At.nil ?_
  refine At.then ?_
  refine At.ret ?_
  exact At.results (Γr := []) (M := []) rfl (RVals.cons (RVal.tmp rfl) RVals.nil) (.tail _ (.tail _ (.tail _ (.tail _ (.tail _ (.tail _ (.tail _ (.tail _ (.head _))))))))) (fun _ _ => trivial) (.cons _ (.cons _ (.cons _ (.cons _ (.cons _ (.refl _)))))) ⟨congrArg Value.bool (aw5 hup3), rfl, rfl⟩

end Go.Proofs.Ytmkodknmknfdkaa
