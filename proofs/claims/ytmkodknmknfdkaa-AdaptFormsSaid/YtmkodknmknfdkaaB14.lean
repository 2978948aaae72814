/- The walks of adapt: joined. -/
import Derived.Test.YtmkodknmknfdkaaB13
import Derived.Test.YtmkodknmknfdkaaP14
set_option linter.unusedVariables false
set_option linter.unusedSimpArgs false
namespace Go.Proofs.Ytmkodknmknfdkaa
open E
set_option maxRecDepth 4000

theorem en46 : Enters Try.prog 46 := Enters.mk' Try.func46 rfl rfl
theorem en85 : Enters Try.prog 85 := Enters.mk' Try.func85 rfl rfl
theorem en86 : Enters Try.prog 86 := Enters.mk' Try.func86 rfl rfl
theorem en110 : Enters Try.prog 110 := Enters.mk' Try.func110 rfl rfl

theorem lay110_step (t : Tr) (s : Sh) (ih : ∀ i l r, s = .node i l r → Lay110 t l ∧ Lay110 t r) : Lay110 t s := by
  intro at_ hH b o a c Mo hO hb
  refine Con.body 60 Try.func110 rfl Try.ntmps110 rfl fun X H₀ L₀ => ?_
  obtain ⟨i, x, rfl, hx, hg, hc⟩ := hH.at
  refine At.know (prsP x.ps) (fun _ h => psP_get h.2.2.1 hx) ?_
  refine At.seq ?_
  refine At.region ?_
  refine At.loud (l_box rfl) rfl ?_
  rintro _ _ _ ⟨b1, rfl, rfl, rfl⟩
  refine At.freeze 0 (φ := blk b1 _) rfl (fun _ h => blk_def.2 ⟨_, _, h⟩) ?_
  refine At.skim 1 rfl rfl ?_
  refine At.nil ?_
  refine At.then ?_
  refine At.seq ?_
  refine At.region ?_
  refine At.skim 2 rfl rfl ?_
  refine At.fld s24 t22 rfl rfl rfl (Rd.loc (i := 0) rfl rfl) rfl rfl ?_
  refine At.quiet (q_len Try.underlying22 rfl) rfl ?_
  refine At.skim 1 rfl rfl ?_
  refine At.nil ?_
  refine At.then ?_
  refine At.seq ?_
  refine At.region ?_
  refine At.fld s24 t22 rfl rfl rfl (Rd.blk (.head _) rfl) rfl rfl ?_
  refine At.skim 1 rfl rfl ?_
  refine At.quiet (q_index Try.underlying22 t33 rfl (.tail _ (.tail _ (.tail _ (.head _)))) (by simp) rfl rfl (lt_of_get hx)) rfl ?_
  refine At.quiet (q_loadS t33 rfl (RdS.sl0 (.tail _ (.tail _ (.tail _ (.head _)))) (map_get hx)) rfl) rfl ?_
  refine At.loud (l_alloc t33) rfl ?_
  rintro _ _ _ ⟨b2, rfl, rfl, rfl⟩
  refine At.loudN (l_store t33 rfl rfl (i := 0) rfl rfl rfl rfl) ?_
  rintro _ _ _ ⟨rfl, rfl⟩
  refine At.nil ?_
  refine At.then ?_
  refine At.seq ?_
  refine At.draw 8 (.q 0 (.q 1 (.q 2 (.q 3 (.q 4 (.q 5 (.o 6 (.o 7 (.e))))))))) (_ :: _ :: L₀) (.cons_cons _ (.cons_cons _ (.cons _ (.refl _)))) mixed (by kernel_rfl) rfl ?_
  refine AtO.quiet rfl (q_move rfl) rfl (Calm.then Post.calm) ?_
  refine AtO.quiet rfl (q_move rfl) rfl (Calm.then Post.calm) ?_
  refine AtO.quiet rfl (q_nilCheck rfl) rfl (Calm.then Post.calm) ?_
  refine AtO.quiet rfl (q_fieldAddr s24 rfl rfl rfl) rfl (Calm.then Post.calm) ?_
  refine AtO.quiet rfl (q_load t22 rfl (Rd.loc (i := 1) rfl rfl)) rfl (Calm.then Post.calm) ?_
  refine AtO.quiet rfl (q_loadS t33 rfl (RdS.loc (i := 0) rfl (m := 6) rfl) rfl) rfl (Calm.then Post.calm) ?_
  refine AtO.loud rfl (l_buildSlice Try.underlying22 t33 rfl rfl rfl rfl rfl) rfl (by rintro _ _ _ ⟨_, rfl, rfl, rfl⟩; exact ⟨fun _ h => h, .cons _ (.cons_cons _ (.cons_cons _ (.cons _ (.refl _))))⟩) ?_
  rintro _ _ _ ⟨b3, rfl, rfl, rfl⟩
  refine AtO.loudA rfl (l_append rfl Try.underlying22 t33 rfl rfl hO (by simp) (i := 3) rfl rfl (news := [rowN x]) (by simp [rowN]) (RdS.loc (i := 0) rfl (m := 6) rfl) rfl rfl rfl (by omega) (by unfold maxLen; omega)) rfl (by rintro _ _ _ ⟨_, _, _, rfl, _, rfl, rfl⟩; exact ⟨fun _ h => h, (.cons _ (.cons_cons _ (.cons_cons _ (.cons _ (.refl _)))))⟩) ?_
  rintro _ _ _ ⟨a1, c1, M1, rfl, ow1, rfl, rfl⟩
  refine AtO.done ?_
  refine At.skim 1 rfl rfl ?_
  refine At.quiet (q_fieldAddr s24 rfl rfl rfl) rfl ?_
  refine At.say 28 (.slice a1 (o ++ [x]).length c1) rfl (by simp) ?_
  refine At.loudN (l_store t22 rfl rfl (i := 2) rfl rfl rfl rfl) ?_
  rintro _ _ _ ⟨rfl, rfl⟩
  refine At.nil ?_
  refine At.then ?_
  refine At.seq ?_
  refine At.seq ?_
  refine At.region ?_
  have hO1 : Own 33 6 ((o ++ [x]).map rowN) a1 c1 M1 := by simpa using ow1
  refine At.fld s33 t4 rfl rfl rfl (Rd.loc (i := 1) rfl rfl) rfl rfl ?_
  refine At.nil ?_
  refine At.then ?_
  refine At.cond rfl (fun hroute => ?_) (fun hroute => ?_)
  · skip
    rcases hc with ⟨hc, _⟩ | ⟨hc, l, r, rfl, hl, hr⟩
    · exact absurd hroute (by simp [hc])
    obtain ⟨ih1, ih2⟩ := ih i l r rfl
    simp only [Sh.size] at hb
    refine At.seq ?_
    refine At.region ?_
    refine At.quiet (q_loadS t24 rfl (RdS.blk (.head _) (m := 2) rfl) rfl) rfl ?_
    refine At.fld s33 t3 rfl rfl rfl (Rd.loc (i := 1) rfl rfl) rfl rfl ?_
    refine At.skim 1 rfl rfl ?_
    refine At.front 3 rfl ?_
    refine At.front 3 rfl ?_
    refine At.call en110 rfl (ih1 x.left hl b (o ++ [x]) a1 c1 _ hO1 (by simp; omega)) (fun _ h => ⟨h.2.2.2.1, h.2.2.2.2.1, trivial⟩) (List.Perm.refl _) rfl ?_
    rintro _ _ _ ⟨o1, a2, c2, M2, rfl, rfl, rfl, hO3, he1⟩
    refine At.skim 1 rfl rfl ?_
    refine At.nil ?_
    refine At.then ?_
    refine At.seq ?_
    refine At.region ?_
    have hl1 : o1.length = l.size := by have := congrArg List.length he1; rwa [List.length_map, Sh.lay_length] at this
    have hO4 : Own 33 6 ((o ++ x :: o1).map rowN) a2 c2 M2 := by simpa using hO3
    refine At.skim 2 rfl rfl ?_
    refine At.fld s24 t22 rfl rfl rfl (Rd.loc (i := 0) rfl rfl) rfl rfl ?_
    refine At.skim 2 rfl rfl ?_
    refine At.quiet (q_indexOwn Try.underlying22 t33 rfl hO4 (by simp) rfl rfl (by simp)) rfl ?_
    refine At.quiet (q_fieldAddr s33 rfl rfl rfl) rfl ?_
    refine At.loudN (l_storeOwn t3 rfl rfl hO4 (i := 1) rfl (get_mid o o1 x) rfl rfl rfl) ?_
    rintro _ _ _ ⟨Mow1, ow1, rfl, rfl⟩
    refine At.nil ?_
    refine At.then ?_
    refine At.seq ?_
    refine At.region ?_
    have hO5 : Own 33 6 ((o ++ { x with left := (((o ++ [x]).length : Nat) : Int) } :: o1).map rowN) a2 c2 Mow1 := by rw [← set_mid o o1 x]; exact ow1
    refine At.front 1 rfl ?_
    refine At.front 1 rfl ?_
    refine At.piece0 (outBox b a2 (o ++ { x with left := (((o ++ [x]).length : Nat) : Int) } :: o1).length c2) (by simp [outBox]) ?_
    refine At.quiet (q_loadS t24 rfl (RdS.blk (.tail _ (.head _)) (m := 2) rfl) rfl) rfl ?_
    refine At.fld s33 t3 rfl rfl rfl (Rd.loc (i := 3) rfl rfl) rfl rfl ?_
    refine At.skim 1 rfl rfl ?_
    refine At.front 1 rfl ?_
    refine At.front 1 rfl ?_
    refine At.call en110 rfl (ih2 x.right hr b (o ++ { x with left := (((o ++ [x]).length : Nat) : Int) } :: o1) a2 c2 _ hO5 (by simp; omega)) (fun _ h => ⟨h.2.2.2.2.1, h.2.2.2.2.2.1, trivial⟩) (List.Perm.refl _) rfl ?_
    rintro _ _ _ ⟨o2, a3, c3, M3, rfl, rfl, rfl, hO6, he2⟩
    refine At.skim 1 rfl rfl ?_
    refine At.nil ?_
    refine At.then ?_
    refine At.region ?_
    have hO7 : Own 33 6 ((o ++ { x with left := (((o ++ [x]).length : Nat) : Int) } :: (o1 ++ o2)).map rowN) a3 c3 M3 := by simpa using hO6
    refine At.skim 2 rfl rfl ?_
    refine At.fld s24 t22 rfl rfl rfl (Rd.loc (i := 0) rfl rfl) rfl rfl ?_
    refine At.skim 2 rfl rfl ?_
    refine At.quiet (q_indexOwn Try.underlying22 t33 rfl hO7 (by simp) rfl rfl (by simp)) rfl ?_
    refine At.quiet (q_fieldAddr s33 rfl rfl rfl) rfl ?_
    refine At.loudN (l_storeOwn t3 rfl rfl hO7 (i := 1) rfl (get_mid o (o1 ++ o2) _) rfl rfl rfl) ?_
    rintro _ _ _ ⟨Mow2, ow2, rfl, rfl⟩
    refine At.nil ?_
    refine At.then ?_
    refine At.seq ?_
    refine At.region ?_
    have hO8 : Own 33 6 ((o ++ { x with left := (((o ++ [x]).length : Nat) : Int), right := (((o ++ { x with left := (((o ++ [x]).length : Nat) : Int) } :: o1).length : Nat) : Int) } :: (o1 ++ o2)).map rowN) a3 c3 Mow2 := by rw [← set_mid o (o1 ++ o2) { x with left := (((o ++ [x]).length : Nat) : Int) }]; exact ow2
    refine At.know (psP ({ x with left := (((o ++ [x]).length : Nat) : Int), right := (((o ++ { x with left := (((o ++ [x]).length : Nat) : Int) } :: o1).length : Nat) : Int) } :: (o1 ++ o2))) (fun _ h => psP_cons (n := { x with left := (((o ++ [x]).length : Nat) : Int), right := (((o ++ { x with left := (((o ++ [x]).length : Nat) : Int) } :: o1).length : Nat) : Int) }) h.2.2.2.1 (psP_app h.2.1 h.1)) ?_
    refine At.skim 2 rfl rfl ?_
    refine At.nil ?_
    refine At.then ?_
    refine At.ret ?_
    exact At.results (Γr := [_]) (M := [outBox b a3 ((o ++ { x with left := (((o ++ [x]).length : Nat) : Int) } :: o1) ++ o2).length c3, _]) rfl (RVals.cons (RVal.tmp rfl) RVals.nil) (.tail _ (.tail _ (.tail _ (.tail _ (.tail _ (.head _)))))) (fun _ h => ⟨h.1, trivial⟩) (.cons_cons _ (.cons_cons _ (.cons _ (.cons _ (.refl _))))) (lay110_end (n := { x with left := (((o ++ [x]).length : Nat) : Int), right := (((o ++ { x with left := (((o ++ [x]).length : Nat) : Int) } :: o1).length : Nat) : Int) }) (q := [x]) (by simpa using hO8) hg hl1 he1 (by simpa using he2) rfl (by simp) (by simp [Nat.add_comm, Nat.add_left_comm]))
  · skip
    obtain rfl : s = .leaf i := by
      rcases hc with ⟨_, h⟩ | ⟨h, _⟩
      · exact h
      · rw [show x.route = false from hroute] at h; cases h
    refine At.know (psP [x]) (fun _ h => psP_cons h.2.1 psP_nil) ?_
    refine At.skip ?_
    refine At.then ?_
    refine At.seq ?_
    refine At.region ?_
    refine At.skim 2 rfl rfl ?_
    refine At.nil ?_
    refine At.then ?_
    refine At.ret ?_
    exact At.results (Γr := [_]) (M := [outBox b a1 (o ++ [x]).length c1, M1]) rfl (RVals.cons (RVal.tmp rfl) RVals.nil) (.tail _ (.tail _ (.tail _ (.head _)))) (fun _ h => ⟨h.1, trivial⟩) (.cons _ (.cons _ (.cons_cons _ (.cons_cons _ (.refl _))))) ⟨[x], a1, c1, M1, rfl, rfl, rfl, hO1, by rw [Sh.lay, hg]; rfl⟩

theorem lay110 (t : Tr) (s : Sh) : Lay110 t s := by
  induction s with
  | leaf i => exact lay110_step t _ fun _ _ _ h => by cases h
  | node i l r h1 h2 => exact lay110_step t _ fun _ _ _ h => by cases h; exact ⟨h1, h2⟩

theorem laid86 (t : Tr) (s : Sh) (hH : Hangs t.p.ns s t.root) (hb : s.size ≤ 1000000) : Con Try.prog 86 [t.val] [ndsP t.ns, psP t.ns.l] [] (LaidEnd s t.p.ns) := by
  refine Con.body 9 Try.func86 rfl Try.ntmps86 rfl fun X H₀ L₀ => ?_
  refine At.nilSeg ?_
  refine At.seq ?_
  refine At.region ?_
  refine At.loud (l_box rfl) rfl ?_
  rintro _ _ _ ⟨b1, rfl, rfl, rfl⟩
  refine At.freeze 0 (φ := blk b1 _) rfl (fun _ h => blk_def.2 ⟨_, _, h⟩) ?_
  refine At.loud (l_alloc t24) rfl ?_
  rintro _ _ _ ⟨b2, rfl, rfl, rfl⟩
  refine At.nil ?_
  refine At.then ?_
  refine At.seq ?_
  refine At.region ?_
  refine At.loud (l_alloc t24) rfl ?_
  rintro _ _ _ ⟨b3, rfl, rfl, rfl⟩
  refine At.nil ?_
  refine At.then ?_
  refine At.seq ?_
  refine At.region ?_
  refine At.quiet (q_loadS t24 rfl (RdS.blk (.head _) (m := 2) rfl) rfl) rfl ?_
  refine At.fld s24 t3 rfl rfl rfl (Rd.blk (.head _) rfl) rfl rfl ?_
  refine At.front 2 rfl ?_
  refine At.front 1 rfl ?_
  refine At.call en110 rfl (lay110 t s t.root hH b3 [] none 0 [] (Own.nil _ _) (by simpa using hb)) (fun _ h => ⟨h.2.2.1, h.2.2.2.1, trivial⟩) (List.Perm.refl _) rfl ?_
  rintro _ _ _ ⟨o1, a1, c1, M1, rfl, rfl, rfl, hO, he⟩
  refine At.nil ?_
  refine At.then ?_
  refine At.seq ?_
  refine At.region ?_
  refine At.quiet (q_loadS t24 rfl (RdS.loc (i := 0) rfl (m := 2) rfl) rfl) rfl ?_
  refine At.loudN (l_store t24 rfl rfl (i := 2) rfl rfl rfl rfl) ?_
  rintro _ _ _ ⟨rfl, rfl⟩
  refine At.nil ?_
  refine At.then ?_
  refine At.ret ?_
  exact At.results (Γr := [_]) (M := [M1]) rfl (RVals.cons (RVal.cellS rfl t24 (RdS.loc (i := 2) rfl (m := 2) rfl) rfl) RVals.nil) (.tail _ (.tail _ (.head _))) (fun _ h => ⟨h.1, trivial⟩) (.cons _ (.cons_cons _ (.cons _ (.refl _)))) ⟨⟨0, ⟨a1, c1, [] ++ o1⟩⟩, M1, rfl, rfl, rfl, hO, congrArg (PT.mk 0) he⟩

set_option maxHeartbeats 2000000 in
theorem join48 (t : Tr) (hsm : smallP t.ns.l) (at_ : Int) : Con Try.prog 48 [t.val, .int .i64 at_] [ndsP t.ns, psP t.ns.l] [] (SplitEnd (joinT t.p at_)) := by
  refine Con.body 73 Try.func48 rfl Try.ntmps48 rfl fun X H₀ L₀ => ?_
  have hN : t.p.ns.length = t.ns.l.length := by simp [Tr.p]
  refine At.lenOf (hs := (.tail _ (.head _))) fun hlen => ?_
  rw [List.length_map] at hlen
  refine At.seq ?_
  refine At.region ?_
  refine At.loud (l_box rfl) rfl ?_
  rintro _ _ _ ⟨b1, rfl, rfl, rfl⟩
  refine At.freeze 0 (φ := blk b1 _) rfl (fun _ h => blk_def.2 ⟨_, _, h⟩) ?_
  refine At.loud (l_alloc t24) rfl ?_
  rintro _ _ _ ⟨b2, rfl, rfl, rfl⟩
  refine At.skim 1 rfl rfl ?_
  refine At.nil ?_
  refine At.then ?_
  refine At.seq ?_
  refine At.region ?_
  refine At.quiet (q_loadS t24 rfl (RdS.blk (.head _) (m := 2) rfl) rfl) rfl ?_
  refine At.skim 1 rfl rfl ?_
  refine At.call en46 rfl (next46 _ _) (fun _ h => ⟨h.2.2.1, h.2.2.2.1, trivial⟩) (List.Perm.refl _) rfl ?_
  rintro _ _ _ ⟨rfl, rfl, rfl⟩
  refine At.skim 1 rfl rfl ?_
  refine At.quiet (q_extract rfl rfl) rfl ?_
  refine At.quiet (q_extract rfl rfl) rfl ?_
  refine At.skim 2 rfl rfl ?_
  refine At.nil ?_
  refine At.then ?_
  refine At.seq ?_
  refine At.seq ?_
  refine At.region ?_
  refine At.skim 2 rfl rfl ?_
  refine At.nil ?_
  refine At.then ?_
  refine At.cond rfl (fun hnx0 => ?_) (fun hnx0 => ?_)
  · skip
    refine At.seq ?_
    refine At.region ?_
    refine At.know (ndsP ⟨none, 0, []⟩) (fun _ h => sl_nil _ _ _ (Nat.zero_le _)) ?_
    refine At.know (psP []) (fun _ h => psP_nil) ?_
    refine At.quiet (q_build t24 s24 rfl rfl) rfl ?_
    refine At.loudN (l_store t24 rfl rfl (i := 0) rfl rfl rfl rfl) ?_
    rintro _ _ _ ⟨rfl, rfl⟩
    refine At.skim 1 rfl rfl ?_
    refine At.nil ?_
    refine At.then ?_
    refine At.ret ?_
    refine At.thenRet ?_
    exact At.results (Γr := [_, _]) (M := []) rfl (RVals.cons (RVal.cellS rfl t24 (RdS.loc (i := 0) rfl (m := 2) rfl) rfl) (RVals.cons (RVal.tmp rfl) RVals.nil)) (.tail _ (.tail _ (.tail _ (.head _)))) (fun _ h => ⟨h.2.1, h.1, trivial⟩) (.cons _ (.refl _)) ⟨⟨0, ⟨none, 0, []⟩⟩, by rw [join_no (not_t hnx0)]; rfl, rfl, rfl, by rw [join_no (not_t hnx0)]; rfl⟩
  · skip
    obtain ⟨s, i, n, q, side, m, hs, rfl, hlf, hn, hnr, hnb, hnxt⟩ := next_yes (not_f hnx0)
    have hil := lt_of_get hn
    have hfew := (good_of hs).few
    refine At.say 6 (.int .i64 (m : Int)) rfl (congrArg (Value.int .i64) (by rw [hnxt]; rfl)) ?_
    refine At.skip ?_
    refine At.then ?_
    refine At.seq ?_
    refine At.region ?_
    refine At.quiet (q_loadS t24 rfl (RdS.blk (.head _) (m := 2) rfl) rfl) rfl ?_
    refine At.skim 1 rfl rfl ?_
    refine At.call en81 rfl (path81 t s hs i hil) (fun _ h => ⟨h.2.2.1, h.2.2.2.1, trivial⟩) (List.Perm.refl _) rfl ?_
    rintro _ _ _ ⟨us, rs, u, b, rfl, rfl, rfl, hus, hrs, hW⟩
    refine At.loud (l_alloc t40) rfl ?_
    rintro _ _ _ ⟨b3, rfl, rfl, rfl⟩
    refine At.loudN (l_store t40 rfl rfl (i := 0) rfl rfl rfl rfl) ?_
    rintro _ _ _ ⟨rfl, rfl⟩
    refine At.nil ?_
    refine At.then ?_
    refine At.seq ?_
    refine At.region ?_
    obtain ⟨u2, b2, nq, nm, oo, rfl, rfl, hq, hqr, hkid, hnm, hnmr, hmq, hoo, hool, him⟩ := way_join hs hn hnr hnb hW
    obtain ⟨y, hy, hyp⟩ := p_get (u := t) rfl hq
    obtain ⟨x, hx, hxn⟩ := p_get (u := t) rfl hn
    obtain ⟨xm, hxm, hxmn⟩ := p_get (u := t) rfl hnm
    have hsd0 : rs.l.getLast?.getD false = side := by rw [hrs]; exact last_snoc _ _
    have hul2 : us.l.length = u2.length + 1 := by rw [hus, toI_length]; simp
    have hlast : us.l[u2.length]? = some (q : Int) := by rw [hus, toI_snoc]; simp [toI]
    have hov : (if rs.l.getLast?.getD false then y.left else y.right) = (oo : Int) := by
      rw [hsd0, ← hoo, ← hyp]
      cases side <;> rfl
    have hql := lt_of_get hq
    have hml := lt_of_get hnm
    refine At.lenOf (hs := (.head _)) fun hlus => ?_
    rw [List.length_map] at hlus
    refine At.quiet (q_loadS t24 rfl (RdS.blk (.tail _ (.tail _ (.head _))) (m := 2) rfl) rfl) rfl ?_
    refine At.call en84 rfl (copied84 _ (by assumption) (by omega)) (fun _ h => ⟨h.2.2.2.2.1, h.2.2.2.2.2.1, trivial⟩) (List.Perm.refl _) rfl ?_
    rintro _ _ _ ⟨u, Mu, rfl, rfl, rfl, hu, hpu⟩
    refine At.loud (l_alloc t24) rfl ?_
    rintro _ _ _ ⟨b4, rfl, rfl, rfl⟩
    refine At.loudN (l_store t24 rfl rfl (i := 0) rfl rfl rfl rfl) ?_
    rintro _ _ _ ⟨rfl, rfl⟩
    refine At.nil ?_
    refine At.then ?_
    refine At.seq ?_
    refine At.region ?_
    have hul := p_len hpu
    obtain ⟨ym, hym, hymn⟩ := p_get hpu hnm
    refine At.know (prsP ⟨none, 0, []⟩) (fun _ h => sl_nil _ _ _ (Nat.zero_le _)) ?_
    refine At.skim 4 rfl rfl ?_
    refine At.nil ?_
    refine At.then ?_
    refine At.seq ?_
    refine At.seq ?_
    refine At.region ?_
    refine At.quiet (q_loadS t40 rfl (RdS.loc (i := 2) rfl (m := 3) rfl) rfl) rfl ?_
    refine At.call en32 rfl (right32 _) (fun _ h => ⟨h.2.2.2.1, trivial⟩) (List.Perm.refl _) rfl ?_
    rintro _ _ _ ⟨rfl, rfl, rfl⟩
    refine At.nil ?_
    refine At.then ?_
    refine At.cond rfl (fun hrg => ?_) (fun hrg => ?_)
    · skip
      have hsd : side = true := by rw [← hsd0]; exact hrg
      refine At.know (prsP xm.ps) (fun _ h => psP_get h.2.2.2.2.2.2.2.1 hxm) ?_
      refine At.know (prsP x.ps) (fun _ h => psP_get h.2.2.2.2.2.2.2.2.1 hx) ?_
      refine At.region ?_
      refine At.skim 4 rfl rfl ?_
      refine At.nil ?_
      refine At.then ?_
      refine At.seq ?_
      refine At.draw 18 (.q 0 (.q 1 (.q 2 (.q 3 (.q 4 (.q 5 (.q 6 (.q 7 (.q 8 (.q 9 (.q 10 (.q 11 (.q 12 (.q 13 (.q 14 (.o 15 (.o 16 (.q 17 (.e))))))))))))))))))) _ (List.Sublist.refl _) mixed (by kernel_rfl) rfl ?_
      refine AtO.quiet rfl (q_fieldAddr s24 rfl rfl rfl) rfl (Calm.then Post.calm) ?_
      refine AtO.quiet rfl (q_load t22 rfl (Rd.loc (i := 0) rfl rfl)) rfl (Calm.then Post.calm) ?_
      refine AtO.quiet rfl (q_move rfl) rfl (Calm.then Post.calm) ?_
      refine AtO.quiet rfl (q_fieldAddr s24 rfl rfl rfl) rfl (Calm.then Post.calm) ?_
      refine AtO.quiet rfl (q_load t22 rfl (Rd.blk (.tail _ (.tail _ (.tail _ (.tail _ (.tail _ (.tail _ (.head _))))))) rfl)) rfl (Calm.then Post.calm) ?_
      refine AtO.quiet rfl (q_move rfl) rfl (Calm.then Post.calm) ?_
      refine AtO.quiet rfl (q_index Try.underlying22 t33 rfl (.tail _ (.tail _ (.tail _ (.tail _ (.tail _ (.tail _ (.tail _ (.tail _ (.head _))))))))) (by simp) rfl rfl (lt_of_get hxm)) rfl (Calm.then Post.calm) ?_
      refine AtO.quiet rfl (q_fieldAddr s33 rfl rfl rfl) rfl (Calm.then Post.calm) ?_
      refine AtO.quiet rfl (q_load t31 rfl (Rd.sl (.tail _ (.tail _ (.tail _ (.tail _ (.tail _ (.tail _ (.tail _ (.tail _ (.head _))))))))) (map_get hxm) rfl)) rfl (Calm.then Post.calm) ?_
      refine AtO.quiet rfl (q_fieldAddr s24 rfl rfl rfl) rfl (Calm.then Post.calm) ?_
      refine AtO.quiet rfl (q_load t22 rfl (Rd.blk (.tail _ (.tail _ (.tail _ (.tail _ (.tail _ (.tail _ (.head _))))))) rfl)) rfl (Calm.then Post.calm) ?_
      refine AtO.quiet rfl (q_move rfl) rfl (Calm.then Post.calm) ?_
      refine AtO.quiet rfl (q_index Try.underlying22 t33 rfl (.tail _ (.tail _ (.tail _ (.tail _ (.tail _ (.tail _ (.tail _ (.tail _ (.head _))))))))) (by simp) rfl rfl (lt_of_get hx)) rfl (Calm.then Post.calm) ?_
      refine AtO.quiet rfl (q_fieldAddr s33 rfl rfl rfl) rfl (Calm.then Post.calm) ?_
      refine AtO.quiet rfl (q_load t31 rfl (Rd.sl (.tail _ (.tail _ (.tail _ (.tail _ (.tail _ (.tail _ (.tail _ (.tail _ (.head _))))))))) (map_get hx) rfl)) rfl (Calm.then Post.calm) ?_
      refine AtO.loud rfl (l_buildSlice Try.underlying134 t31 rfl rfl rfl rfl rfl) rfl (by rintro _ _ _ ⟨_, rfl, rfl, rfl⟩; exact ⟨fun _ h => h, .cons _ (.refl _)⟩) ?_
      rintro _ _ _ ⟨b5, rfl, rfl, rfl⟩
      refine AtO.front 0 rfl ?_
      refine AtO.callA rfl en85 rfl (concat85 xm.ps x.ps _ (hsm xm (List.mem_of_getElem? hxm)) (hsm x (List.mem_of_getElem? hx))) (fun _ h => ⟨h.2.1, h.1, trivial⟩) (List.Perm.refl _) rfl (.refl _) ?_
      rintro _ _ _ ⟨cat, rfl, rfl, rfl, hcat⟩
      refine AtO.quiet rfl (q_build t33 s33 rfl rfl) rfl (Calm.then Post.calm) ?_
      refine AtO.done ?_
      refine At.quiet (q_indexOwn Try.underlying22 t33 rfl hu (by simp) rfl rfl (lt_of_get hym)) rfl ?_
      refine At.loudN (l_storeOwn0 t33 rfl rfl hu (i := 1) rfl (map_get hym) rfl rfl rfl) ?_
      rintro _ _ _ ⟨Mow1, ow1, rfl, rfl⟩
      refine At.nil ?_
      refine At.then ?_
      refine At.seq ?_
      refine At.region ?_
      have hO2 : Own 33 6 ((u.ns.l.set m (⟨false, 0, 0, 0, cat, 0⟩ : Nd)).map rowN) u.ns.a u.ns.c Mow1 := by rw [row_set]; exact ow1
      obtain ⟨z, hz⟩ := get_of_lt (l := u.ns.l.set m (⟨false, 0, 0, 0, cat, 0⟩ : Nd)) (i := oo) (by rw [List.length_set]; omega)
      obtain ⟨yq, hyq⟩ := get_of_lt (l := u.ns.l.set m (⟨false, 0, 0, 0, cat, 0⟩ : Nd)) (i := q) (by rw [List.length_set]; omega)
      have hzl := lt_of_get hz
      have hyql := lt_of_get hyq
      rw [List.length_set] at hzl hyql
      refine At.know (psP (u.ns.l.set m (⟨false, 0, 0, 0, cat, 0⟩ : Nd))) (fun _ h => psP_set (n := (⟨false, 0, 0, 0, cat, 0⟩ : Nd)) h.2.2.2.2.1 h.1) ?_
      refine At.know (prsP z.ps) (fun _ h => psP_get h.1 hz) ?_
      refine At.know (psP ((u.ns.l.set m (⟨false, 0, 0, 0, cat, 0⟩ : Nd)).set q z)) (fun _ h => psP_set (n := z) h.2.1 h.1) ?_
      refine At.fld s40 t37 rfl rfl rfl (Rd.loc (i := 2) rfl rfl) rfl rfl ?_
      refine At.fld s40 t37 rfl rfl rfl (Rd.loc (i := 2) rfl rfl) rfl rfl ?_
      refine At.quiet (q_len Try.underlying37 rfl) rfl ?_
      refine At.quiet (q_sub rfl rfl (by dsimp only; omega) (by dsimp only; omega)) rfl ?_
      refine At.quiet (q_index Try.underlying37 t3 rfl (.tail _ (.tail _ (.tail _ (.tail _ (.tail _ (.tail _ (.tail _ (.tail _ (.head _))))))))) (by simp) rfl (by dsimp only; omega) (lt_of_get hlast)) rfl ?_
      refine At.quiet (q_load t3 rfl (Rd.sl0 (.tail _ (.tail _ (.tail _ (.tail _ (.tail _ (.tail _ (.tail _ (.tail _ (.head _))))))))) (map_get hlast) rfl)) rfl ?_
      refine At.skim 1 rfl rfl ?_
      refine At.nil ?_
      refine At.then ?_
      refine At.seq ?_
      refine At.draw 10 (.q 0 (.q 1 (.q 2 (.q 3 (.q 4 (.q 5 (.q 6 (.o 7 (.q 8 (.q 9 (.e))))))))))) _ (List.Sublist.refl _) mixed (by kernel_rfl) rfl ?_
      refine AtO.quiet rfl (q_fieldAddr s24 rfl rfl rfl) rfl (Calm.then Post.calm) ?_
      refine AtO.quiet rfl (q_load t22 rfl (Rd.loc (i := 0) rfl rfl)) rfl (Calm.then Post.calm) ?_
      refine AtO.quiet rfl (q_move rfl) rfl (Calm.then Post.calm) ?_
      refine AtO.quiet rfl (q_fieldAddr s24 rfl rfl rfl) rfl (Calm.then Post.calm) ?_
      refine AtO.quiet rfl (q_load t22 rfl (Rd.loc (i := 0) rfl rfl)) rfl (Calm.then Post.calm) ?_
      refine AtO.quiet rfl (q_loadS t24 rfl (RdS.blk (.tail _ (.tail _ (.tail _ (.tail _ (.tail _ (.tail _ (.tail _ (.tail _ (.tail _ (.tail _ (.head _))))))))))) (m := 2) rfl) rfl) rfl (Calm.then Post.calm) ?_
      refine AtO.quiet rfl (q_loadS t40 rfl (RdS.loc (i := 2) rfl (m := 3) rfl) rfl) rfl (Calm.then Post.calm) ?_
      refine AtO.callA rfl en83 rfl (other83 t us rs (i : Int) q u2 y hus hy) (fun _ h => ⟨h.2.2.2.2.2.2.2.2.2.2.2.2.1, h.2.2.2.2.2.2.2.2.2.2.2.2.2.1, h.2.2.2.2.2.2.2.2.1, h.2.2.2.2.2.2.2.2.2.1, trivial⟩) (List.Perm.refl _) rfl (.refl _) ?_
      rintro _ _ _ ⟨rfl, rfl, rfl⟩
      refine AtO.say 67 (.int .i64 (oo : Int)) rfl (congrArg (Value.int .i64) hov) ?_
      refine AtO.quiet rfl (q_indexOwn Try.underlying22 t33 rfl hO2 (by simp) rfl rfl hzl) rfl (Calm.then Post.calm) ?_
      refine AtO.quiet rfl (q_loadS t33 rfl (RdS.own0 hO2 (i := 1) rfl (map_get hz)) rfl) rfl (Calm.then Post.calm) ?_
      refine AtO.done ?_
      refine At.quiet (q_indexOwn Try.underlying22 t33 rfl hO2 (by simp) rfl rfl hyql) rfl ?_
      refine At.loudN (l_storeOwn0 t33 rfl rfl hO2 (i := 1) rfl (map_get hyq) rfl rfl rfl) ?_
      rintro _ _ _ ⟨Mow2, ow2, rfl, rfl⟩
      refine At.nil ?_
      refine At.then ?_
      refine At.seq ?_
      refine At.region ?_
      have hO3 : Own 33 6 (((u.ns.l.set m (⟨false, 0, 0, 0, cat, 0⟩ : Nd)).set q z).map rowN) u.ns.a u.ns.c Mow2 := by rw [row_set]; exact ow2
      have hcn : ((⟨false, 0, 0, 0, cat, 0⟩ : Nd) : Nd).p = joinN t.p.ns i m side := by
        rw [joinN_eq hn hnm, hsd]
        simp only [Nd.p]
        rw [hcat, ← hxn, ← hxmn]
        rfl
      have hp3 := p_set2 (a := u.ns.a) (c := u.ns.c) (i := m) (j := q) (m := (⟨false, 0, 0, 0, cat, 0⟩ : Nd)) (k := z) hpu
      obtain ⟨hHc, hlay⟩ := join_hang (cn := ((⟨false, 0, 0, 0, cat, 0⟩ : Nd) : Nd).p) (z := z.p) hs hnb hq hnm hnmr hmq rfl hoo (set_get hpu hz)
      have hHc2 : Hangs (⟨u.root, ⟨u.ns.a, u.ns.c, ((u.ns.l.set m (⟨false, 0, 0, 0, cat, 0⟩ : Nd)).set q z)⟩⟩ : Tr).p.ns (s.cutR i) (⟨u.root, ⟨u.ns.a, u.ns.c, ((u.ns.l.set m (⟨false, 0, 0, 0, cat, 0⟩ : Nd)).set q z)⟩⟩ : Tr).root := by
        rw [hp3]
        have hr : u.root = t.p.root := congrArg PT.root hpu
        show Hangs _ _ u.root
        rw [hr]
        exact hHc
      refine At.freezeOwn 1 hO3 rfl ?_
      refine At.quiet (q_loadS t24 rfl (RdS.loc (i := 0) rfl (m := 2) rfl) rfl) rfl ?_
      refine At.say 71 (Tr.val ⟨u.root, ⟨u.ns.a, u.ns.c, ((u.ns.l.set m (⟨false, 0, 0, 0, cat, 0⟩ : Nd)).set q z)⟩⟩) rfl (by rw [set_val, List.length_set]; rfl) ?_
      refine At.call en86 rfl (laid86 ⟨u.root, ⟨u.ns.a, u.ns.c, ((u.ns.l.set m (⟨false, 0, 0, 0, cat, 0⟩ : Nd)).set q z)⟩⟩ (s.cutR i) hHc2 (join_size i hs)) (fun _ h => ⟨h.1, h.2.1, trivial⟩) (List.Perm.refl _) rfl ?_
      rintro _ _ _ ⟨w, Mw, rfl, rfl, rfl, hw, hpw⟩
      refine At.loudN (l_store t24 rfl rfl (i := 3) rfl rfl rfl rfl) ?_
      rintro _ _ _ ⟨rfl, rfl⟩
      have hje := join_eq hs hlf hnb
      have hpw2 : w.p = ⟨0, (s.cut i).lay (t.p.ns.set m (joinN t.p.ns i m side)) 0⟩ := by rw [hpw, hp3, hlay, hcn]
      refine At.freezeOwn 0 hw rfl ?_
      refine At.skim 1 rfl rfl ?_
      refine At.nil ?_
      refine At.then ?_
      refine At.ret ?_
      exact At.results (Γr := [_, _]) (M := []) rfl (RVals.cons (RVal.cellS rfl t24 (RdS.loc (i := 2) rfl (m := 2) rfl) rfl) (RVals.cons (RVal.tmp rfl) RVals.nil)) (.tail _ (.tail _ (.tail _ (.tail _ (.tail _ (.tail _ (.tail _ (.tail _ (.tail _ (.tail _ (.tail _ (.tail _ (.tail _ (.tail _ (.head _))))))))))))))) (fun _ h => ⟨h.1, h.2.1, trivial⟩) (.cons _ (.cons _ (.cons _ (.refl _)))) ⟨w, by rw [hje]; rfl, rfl, rfl, by rw [hje]; exact hpw2⟩
    · skip
      have hsd : side = false := by rw [← hsd0]; exact hrg
      refine At.know (prsP x.ps) (fun _ h => psP_get h.2.2.2.2.2.2.2.1 hx) ?_
      refine At.know (prsP xm.ps) (fun _ h => psP_get h.2.2.2.2.2.2.2.2.1 hxm) ?_
      refine At.skip ?_
      refine At.then ?_
      refine At.seq ?_
      refine At.draw 18 (.q 0 (.q 1 (.q 2 (.q 3 (.q 4 (.q 5 (.q 6 (.q 7 (.q 8 (.q 9 (.q 10 (.q 11 (.q 12 (.q 13 (.q 14 (.o 15 (.o 16 (.q 17 (.e))))))))))))))))))) _ (List.Sublist.refl _) mixed (by kernel_rfl) rfl ?_
      refine AtO.quiet rfl (q_fieldAddr s24 rfl rfl rfl) rfl (Calm.then Post.calm) ?_
      refine AtO.quiet rfl (q_load t22 rfl (Rd.loc (i := 0) rfl rfl)) rfl (Calm.then Post.calm) ?_
      refine AtO.quiet rfl (q_move rfl) rfl (Calm.then Post.calm) ?_
      refine AtO.quiet rfl (q_fieldAddr s24 rfl rfl rfl) rfl (Calm.then Post.calm) ?_
      refine AtO.quiet rfl (q_load t22 rfl (Rd.blk (.tail _ (.tail _ (.tail _ (.tail _ (.tail _ (.tail _ (.head _))))))) rfl)) rfl (Calm.then Post.calm) ?_
      refine AtO.quiet rfl (q_move rfl) rfl (Calm.then Post.calm) ?_
      refine AtO.quiet rfl (q_index Try.underlying22 t33 rfl (.tail _ (.tail _ (.tail _ (.tail _ (.tail _ (.tail _ (.tail _ (.tail _ (.head _))))))))) (by simp) rfl rfl (lt_of_get hx)) rfl (Calm.then Post.calm) ?_
      refine AtO.quiet rfl (q_fieldAddr s33 rfl rfl rfl) rfl (Calm.then Post.calm) ?_
      refine AtO.quiet rfl (q_load t31 rfl (Rd.sl (.tail _ (.tail _ (.tail _ (.tail _ (.tail _ (.tail _ (.tail _ (.tail _ (.head _))))))))) (map_get hx) rfl)) rfl (Calm.then Post.calm) ?_
      refine AtO.quiet rfl (q_fieldAddr s24 rfl rfl rfl) rfl (Calm.then Post.calm) ?_
      refine AtO.quiet rfl (q_load t22 rfl (Rd.blk (.tail _ (.tail _ (.tail _ (.tail _ (.tail _ (.tail _ (.head _))))))) rfl)) rfl (Calm.then Post.calm) ?_
      refine AtO.quiet rfl (q_move rfl) rfl (Calm.then Post.calm) ?_
      refine AtO.quiet rfl (q_index Try.underlying22 t33 rfl (.tail _ (.tail _ (.tail _ (.tail _ (.tail _ (.tail _ (.tail _ (.tail _ (.head _))))))))) (by simp) rfl rfl (lt_of_get hxm)) rfl (Calm.then Post.calm) ?_
      refine AtO.quiet rfl (q_fieldAddr s33 rfl rfl rfl) rfl (Calm.then Post.calm) ?_
      refine AtO.quiet rfl (q_load t31 rfl (Rd.sl (.tail _ (.tail _ (.tail _ (.tail _ (.tail _ (.tail _ (.tail _ (.tail _ (.head _))))))))) (map_get hxm) rfl)) rfl (Calm.then Post.calm) ?_
      refine AtO.loud rfl (l_buildSlice Try.underlying134 t31 rfl rfl rfl rfl rfl) rfl (by rintro _ _ _ ⟨_, rfl, rfl, rfl⟩; exact ⟨fun _ h => h, .cons _ (.refl _)⟩) ?_
      rintro _ _ _ ⟨b6, rfl, rfl, rfl⟩
      refine AtO.front 0 rfl ?_
      refine AtO.callA rfl en85 rfl (concat85 x.ps xm.ps _ (hsm x (List.mem_of_getElem? hx)) (hsm xm (List.mem_of_getElem? hxm))) (fun _ h => ⟨h.2.1, h.1, trivial⟩) (List.Perm.refl _) rfl (.refl _) ?_
      rintro _ _ _ ⟨cat, rfl, rfl, rfl, hcat⟩
      refine AtO.quiet rfl (q_build t33 s33 rfl rfl) rfl (Calm.then Post.calm) ?_
      refine AtO.done ?_
      refine At.quiet (q_indexOwn Try.underlying22 t33 rfl hu (by simp) rfl rfl (lt_of_get hym)) rfl ?_
      refine At.loudN (l_storeOwn0 t33 rfl rfl hu (i := 1) rfl (map_get hym) rfl rfl rfl) ?_
      rintro _ _ _ ⟨Mow3, ow3, rfl, rfl⟩
      refine At.nil ?_
      refine At.then ?_
      refine At.seq ?_
      refine At.region ?_
      have hO2 : Own 33 6 ((u.ns.l.set m (⟨false, 0, 0, 0, cat, 0⟩ : Nd)).map rowN) u.ns.a u.ns.c Mow3 := by rw [row_set]; exact ow3
      obtain ⟨z, hz⟩ := get_of_lt (l := u.ns.l.set m (⟨false, 0, 0, 0, cat, 0⟩ : Nd)) (i := oo) (by rw [List.length_set]; omega)
      obtain ⟨yq, hyq⟩ := get_of_lt (l := u.ns.l.set m (⟨false, 0, 0, 0, cat, 0⟩ : Nd)) (i := q) (by rw [List.length_set]; omega)
      have hzl := lt_of_get hz
      have hyql := lt_of_get hyq
      rw [List.length_set] at hzl hyql
      refine At.know (psP (u.ns.l.set m (⟨false, 0, 0, 0, cat, 0⟩ : Nd))) (fun _ h => psP_set (n := (⟨false, 0, 0, 0, cat, 0⟩ : Nd)) h.2.2.2.2.1 h.1) ?_
      refine At.know (prsP z.ps) (fun _ h => psP_get h.1 hz) ?_
      refine At.know (psP ((u.ns.l.set m (⟨false, 0, 0, 0, cat, 0⟩ : Nd)).set q z)) (fun _ h => psP_set (n := z) h.2.1 h.1) ?_
      refine At.fld s40 t37 rfl rfl rfl (Rd.loc (i := 2) rfl rfl) rfl rfl ?_
      refine At.fld s40 t37 rfl rfl rfl (Rd.loc (i := 2) rfl rfl) rfl rfl ?_
      refine At.quiet (q_len Try.underlying37 rfl) rfl ?_
      refine At.quiet (q_sub rfl rfl (by dsimp only; omega) (by dsimp only; omega)) rfl ?_
      refine At.quiet (q_index Try.underlying37 t3 rfl (.tail _ (.tail _ (.tail _ (.tail _ (.tail _ (.tail _ (.tail _ (.tail _ (.head _))))))))) (by simp) rfl (by dsimp only; omega) (lt_of_get hlast)) rfl ?_
      refine At.quiet (q_load t3 rfl (Rd.sl0 (.tail _ (.tail _ (.tail _ (.tail _ (.tail _ (.tail _ (.tail _ (.tail _ (.head _))))))))) (map_get hlast) rfl)) rfl ?_
      refine At.skim 1 rfl rfl ?_
      refine At.nil ?_
      refine At.then ?_
      refine At.seq ?_
      refine At.draw 10 (.q 0 (.q 1 (.q 2 (.q 3 (.q 4 (.q 5 (.q 6 (.o 7 (.q 8 (.q 9 (.e))))))))))) _ (List.Sublist.refl _) mixed (by kernel_rfl) rfl ?_
      refine AtO.quiet rfl (q_fieldAddr s24 rfl rfl rfl) rfl (Calm.then Post.calm) ?_
      refine AtO.quiet rfl (q_load t22 rfl (Rd.loc (i := 0) rfl rfl)) rfl (Calm.then Post.calm) ?_
      refine AtO.quiet rfl (q_move rfl) rfl (Calm.then Post.calm) ?_
      refine AtO.quiet rfl (q_fieldAddr s24 rfl rfl rfl) rfl (Calm.then Post.calm) ?_
      refine AtO.quiet rfl (q_load t22 rfl (Rd.loc (i := 0) rfl rfl)) rfl (Calm.then Post.calm) ?_
      refine AtO.quiet rfl (q_loadS t24 rfl (RdS.blk (.tail _ (.tail _ (.tail _ (.tail _ (.tail _ (.tail _ (.tail _ (.tail _ (.tail _ (.tail _ (.head _))))))))))) (m := 2) rfl) rfl) rfl (Calm.then Post.calm) ?_
      refine AtO.quiet rfl (q_loadS t40 rfl (RdS.loc (i := 2) rfl (m := 3) rfl) rfl) rfl (Calm.then Post.calm) ?_
      refine AtO.callA rfl en83 rfl (other83 t us rs (i : Int) q u2 y hus hy) (fun _ h => ⟨h.2.2.2.2.2.2.2.2.2.2.2.2.1, h.2.2.2.2.2.2.2.2.2.2.2.2.2.1, h.2.2.2.2.2.2.2.2.1, h.2.2.2.2.2.2.2.2.2.1, trivial⟩) (List.Perm.refl _) rfl (.refl _) ?_
      rintro _ _ _ ⟨rfl, rfl, rfl⟩
      refine AtO.say 67 (.int .i64 (oo : Int)) rfl (congrArg (Value.int .i64) hov) ?_
      refine AtO.quiet rfl (q_indexOwn Try.underlying22 t33 rfl hO2 (by simp) rfl rfl hzl) rfl (Calm.then Post.calm) ?_
      refine AtO.quiet rfl (q_loadS t33 rfl (RdS.own0 hO2 (i := 1) rfl (map_get hz)) rfl) rfl (Calm.then Post.calm) ?_
      refine AtO.done ?_
      refine At.quiet (q_indexOwn Try.underlying22 t33 rfl hO2 (by simp) rfl rfl hyql) rfl ?_
      refine At.loudN (l_storeOwn0 t33 rfl rfl hO2 (i := 1) rfl (map_get hyq) rfl rfl rfl) ?_
      rintro _ _ _ ⟨Mow4, ow4, rfl, rfl⟩
      refine At.nil ?_
      refine At.then ?_
      refine At.seq ?_
      refine At.region ?_
      have hO3 : Own 33 6 (((u.ns.l.set m (⟨false, 0, 0, 0, cat, 0⟩ : Nd)).set q z).map rowN) u.ns.a u.ns.c Mow4 := by rw [row_set]; exact ow4
      have hcn : ((⟨false, 0, 0, 0, cat, 0⟩ : Nd) : Nd).p = joinN t.p.ns i m side := by
        rw [joinN_eq hn hnm, hsd]
        simp only [Nd.p]
        rw [hcat, ← hxn, ← hxmn]
        rfl
      have hp3 := p_set2 (a := u.ns.a) (c := u.ns.c) (i := m) (j := q) (m := (⟨false, 0, 0, 0, cat, 0⟩ : Nd)) (k := z) hpu
      obtain ⟨hHc, hlay⟩ := join_hang (cn := ((⟨false, 0, 0, 0, cat, 0⟩ : Nd) : Nd).p) (z := z.p) hs hnb hq hnm hnmr hmq rfl hoo (set_get hpu hz)
      have hHc2 : Hangs (⟨u.root, ⟨u.ns.a, u.ns.c, ((u.ns.l.set m (⟨false, 0, 0, 0, cat, 0⟩ : Nd)).set q z)⟩⟩ : Tr).p.ns (s.cutR i) (⟨u.root, ⟨u.ns.a, u.ns.c, ((u.ns.l.set m (⟨false, 0, 0, 0, cat, 0⟩ : Nd)).set q z)⟩⟩ : Tr).root := by
        rw [hp3]
        have hr : u.root = t.p.root := congrArg PT.root hpu
        show Hangs _ _ u.root
        rw [hr]
        exact hHc
      refine At.freezeOwn 1 hO3 rfl ?_
      refine At.quiet (q_loadS t24 rfl (RdS.loc (i := 0) rfl (m := 2) rfl) rfl) rfl ?_
      refine At.say 71 (Tr.val ⟨u.root, ⟨u.ns.a, u.ns.c, ((u.ns.l.set m (⟨false, 0, 0, 0, cat, 0⟩ : Nd)).set q z)⟩⟩) rfl (by rw [set_val, List.length_set]; rfl) ?_
      refine At.call en86 rfl (laid86 ⟨u.root, ⟨u.ns.a, u.ns.c, ((u.ns.l.set m (⟨false, 0, 0, 0, cat, 0⟩ : Nd)).set q z)⟩⟩ (s.cutR i) hHc2 (join_size i hs)) (fun _ h => ⟨h.1, h.2.1, trivial⟩) (List.Perm.refl _) rfl ?_
      rintro _ _ _ ⟨w, Mw, rfl, rfl, rfl, hw, hpw⟩
      refine At.loudN (l_store t24 rfl rfl (i := 3) rfl rfl rfl rfl) ?_
      rintro _ _ _ ⟨rfl, rfl⟩
      have hje := join_eq hs hlf hnb
      have hpw2 : w.p = ⟨0, (s.cut i).lay (t.p.ns.set m (joinN t.p.ns i m side)) 0⟩ := by rw [hpw, hp3, hlay, hcn]
      refine At.freezeOwn 0 hw rfl ?_
      refine At.skim 1 rfl rfl ?_
      refine At.nil ?_
      refine At.then ?_
      refine At.ret ?_
      exact At.results (Γr := [_, _]) (M := []) rfl (RVals.cons (RVal.cellS rfl t24 (RdS.loc (i := 2) rfl (m := 2) rfl) rfl) (RVals.cons (RVal.tmp rfl) RVals.nil)) (.tail _ (.tail _ (.tail _ (.tail _ (.tail _ (.tail _ (.tail _ (.tail _ (.tail _ (.tail _ (.tail _ (.tail _ (.tail _ (.tail _ (.head _))))))))))))))) (fun _ h => ⟨h.1, h.2.1, trivial⟩) (.cons _ (.cons _ (.cons _ (.refl _)))) ⟨w, by rw [hje]; rfl, rfl, rfl, by rw [hje]; exact hpw2⟩

end Go.Proofs.Ytmkodknmknfdkaa
