/- The walks of the reference: joined, bent. -/
import Derived.Test.YtmkodknmknfdkaaB20
import Derived.Test.YtmkodknmknfdkaaP21
set_option linter.unusedVariables false
set_option linter.unusedSimpArgs false
namespace Go.Proofs.Ytmkodknmknfdkaa
open E
set_option maxRecDepth 4000

theorem en49 : Enters Try.prog 49 := Enters.mk' Try.func49 rfl rfl
theorem en50 : Enters Try.prog 50 := Enters.mk' Try.func50 rfl rfl
theorem en53 : Enters Try.prog 53 := Enters.mk' Try.func53 rfl rfl
theorem en88 : Enters Try.prog 88 := Enters.mk' Try.func88 rfl rfl

theorem copyIn88_step (t : Tr) (hsm : small2 t.ns.l) (g ot : Int) (s : Sh) (ih : ∀ i l r, s = .node i l r → CopyIn t g ot l ∧ CopyIn t g ot r) : CopyIn t g ot s := by
  intro at_ hH q a c Mo hO hb
  refine Con.body 69 Try.func88 rfl Try.ntmps88 rfl fun X H₀ L₀ => ?_
  obtain ⟨i, x, hi0, hx, hg, hc⟩ := hH.at
  have hxs := hsm x (List.mem_of_getElem? hx)
  refine At.seq ?_
  refine At.region ?_
  refine At.loud (l_box rfl) rfl ?_
  rintro _ _ _ ⟨b1, rfl, rfl, rfl⟩
  refine At.freeze 0 (φ := blk b1 _) rfl (fun _ h => blk_def.2 ⟨_, _, h⟩) ?_
  refine At.skim 1 rfl rfl ?_
  refine At.skim 1 rfl rfl ?_
  refine At.nil ?_
  refine At.then ?_
  refine At.cutD (ι := Unit) .z [1, 16, 17, 18, 19] (fun _ => [(1, .int .i64 (i : Int))]) (fun _ => []) (fun _ => []) (fun _ => True) ?_ ?_
  · skip
    refine At.seq ?_
    refine At.region ?_
    refine At.skim 3 rfl rfl ?_
    refine At.nil ?_
    refine At.then ?_
    refine At.if rfl (fun hag => ?_) (fun hag => ?_)
    · skip
      refine At.region ?_
      refine At.skim 2 rfl rfl ?_
      refine At.nil ?_
      refine At.say 1 (.int .i64 (i : Int)) rfl (congrArg (Value.int .i64) (by rw [← hi0, if_pos hag])) ?_
      refine At.then ?_
      exact At.meetK () trivial (Tells.meet 6 ⟨rfl, trivial⟩ rfl rfl) (fun _ h => h) (.refl _)
    · skip
      refine At.skip ?_
      refine At.say 1 (.int .i64 (i : Int)) rfl (congrArg (Value.int .i64) (by rw [← hi0, if_neg hag])) ?_
      refine At.then ?_
      exact At.meetK () trivial (Tells.meet 4 ⟨rfl, trivial⟩ rfl rfl) (fun _ h => h) (.refl _)
  intro u0 hMt
  obtain _ := u0
  refine At.know (prsP x.ps) (fun _ h => psP_get h.2.2.2.1 hx) ?_
  refine At.seq ?_
  refine At.region ?_
  refine At.fld s24 t22 rfl rfl rfl (Rd.blk (.tail _ (.head _)) rfl) rfl rfl ?_
  refine At.skim 1 rfl rfl ?_
  refine At.quiet (q_index Try.underlying22 t33 rfl (.tail _ (.tail _ (.tail _ (.head _)))) (by simp) rfl rfl (lt_of_get hx)) rfl ?_
  refine At.quiet (q_loadS t33 rfl (RdS.sl0 (.tail _ (.tail _ (.tail _ (.head _)))) (map_get hx)) rfl) rfl ?_
  refine At.loud (l_alloc t33) rfl ?_
  rintro _ _ _ ⟨b2, rfl, rfl, rfl⟩
  refine At.loudN (l_store t33 rfl rfl (i := 0) rfl rfl rfl rfl) ?_
  rintro _ _ _ ⟨rfl, rfl⟩
  refine At.nil ?_
  refine At.then ?_
  refine At.seq ?_
  refine At.region ?_
  refine At.skim 1 rfl rfl ?_
  refine At.quiet (q_len Try.underlying22 rfl) rfl ?_
  refine At.skim 1 rfl rfl ?_
  refine At.nil ?_
  refine At.then ?_
  refine At.seq ?_
  refine At.region ?_
  refine At.fld s33 t31 rfl rfl rfl (Rd.loc (i := 0) rfl rfl) rfl rfl ?_
  refine At.loud (l_appendNew rfl Try.underlying31 t50 rfl rfl (.head _) (by simp) rfl (by omega) (by unfold maxLen; omega) rfl) rfl ?_
  rintro _ _ _ ⟨a3, c3, rfl, rfl, rfl⟩
  refine At.quiet (q_fieldAddr s33 rfl rfl rfl) rfl ?_
  refine At.loudN (l_store t31 rfl rfl (i := 0) rfl rfl rfl rfl) ?_
  rintro _ _ _ ⟨rfl, rfl⟩
  refine At.nil ?_
  refine At.then ?_
  refine At.seq ?_
  refine At.region ?_
  refine At.skim 1 rfl rfl ?_
  refine At.quiet (q_loadS t33 rfl (RdS.loc (i := 0) rfl (m := 6) rfl) rfl) rfl ?_
  refine At.loud (l_buildSlice Try.underlying22 t33 rfl rfl rfl rfl rfl) rfl ?_
  rintro _ _ _ ⟨b3, rfl, rfl, rfl⟩
  refine At.loud (l_append rfl Try.underlying22 t33 rfl rfl hO (by simp) (i := 2) rfl rfl (news := [rowN (⟨x.route, x.key, x.left, x.right, ⟨a3, c3, x.ps.l⟩, x.stat⟩ : Nd)]) (by simp [rowN, Sl.val]) (RdS.loc (i := 0) rfl (m := 6) rfl) rfl rfl rfl (by omega) (by unfold maxLen; omega)) rfl ?_
  rintro _ _ _ ⟨a1, c1, M1, rfl, ow1, rfl, rfl⟩
  refine At.skim 1 rfl rfl ?_
  refine At.nil ?_
  refine At.then ?_
  refine At.seq ?_
  refine At.seq ?_
  refine At.region ?_
  have hO1 : Own 33 6 ((q ++ [(⟨x.route, x.key, x.left, x.right, ⟨a3, c3, x.ps.l⟩, x.stat⟩ : Nd)]).map rowN) a1 c1 M1 := by simpa using ow1
  refine At.fld s33 t4 rfl rfl rfl (Rd.loc (i := 1) rfl rfl) rfl rfl ?_
  refine At.nil ?_
  refine At.then ?_
  refine At.cond rfl (fun hroute => ?_) (fun hroute => ?_)
  · skip
    rcases hc with ⟨hc, _⟩ | ⟨hc, l, r, rfl, hl, hr⟩
    · exact absurd hroute (by simp [hc])
    obtain ⟨ih1, ih2⟩ := ih i l r rfl
    simp only [Sh.size] at hb
    refine At.seq ?_
    refine At.region ?_
    refine At.skim 2 rfl rfl ?_
    refine At.nil ?_
    refine At.then ?_
    refine At.seq ?_
    refine At.region ?_
    refine At.say 4 (.slice a1 (q ++ [(⟨x.route, x.key, x.left, x.right, ⟨a3, c3, x.ps.l⟩, x.stat⟩ : Nd)]).length c1) rfl (by simp) ?_
    refine At.quiet (q_loadS t24 rfl (RdS.blk (.tail _ (.tail _ (.head _))) (m := 2) rfl) rfl) rfl ?_
    refine At.fld s33 t3 rfl rfl rfl (Rd.loc (i := 1) rfl rfl) rfl rfl ?_
    refine At.skim 3 rfl rfl ?_
    refine At.front 2 rfl ?_
    refine At.call en88 rfl (ih1 x.left hl (q ++ [(⟨x.route, x.key, x.left, x.right, ⟨a3, c3, x.ps.l⟩, x.stat⟩ : Nd)]) a1 c1 _ hO1 (by simp; omega)) (fun _ h => ⟨h.2.2.2.2.1, h.2.2.2.2.2.1, trivial⟩) (List.Perm.refl _) rfl ?_
    rintro _ _ _ ⟨o1, a4, c4, M4, rfl, rfl, rfl, hO3, he1⟩
    refine At.skim 1 rfl rfl ?_
    refine At.quiet (q_extract rfl rfl) rfl ?_
    refine At.quiet (q_extract rfl rfl) rfl ?_
    refine At.skim 2 rfl rfl ?_
    refine At.nil ?_
    refine At.then ?_
    refine At.seq ?_
    refine At.region ?_
    have hl1 : o1.length = l.size := by have := congrArg List.length he1; rwa [List.length_map, Sh.lay_length] at this
    refine At.quiet (q_loadS t24 rfl (RdS.blk (.tail _ (.tail _ (.tail _ (.head _)))) (m := 2) rfl) rfl) rfl ?_
    refine At.fld s33 t3 rfl rfl rfl (Rd.loc (i := 2) rfl rfl) rfl rfl ?_
    refine At.skim 3 rfl rfl ?_
    refine At.call en88 rfl (ih2 x.right hr ((q ++ [(⟨x.route, x.key, x.left, x.right, ⟨a3, c3, x.ps.l⟩, x.stat⟩ : Nd)]) ++ o1) a4 c4 _ hO3 (by simp; omega)) (fun _ h => ⟨h.2.2.2.2.2.1, h.2.2.2.2.2.2.1, trivial⟩) (List.Perm.refl _) rfl ?_
    rintro _ _ _ ⟨o2, a5, c5, M5, rfl, rfl, rfl, hO5, he2⟩
    refine At.skim 1 rfl rfl ?_
    refine At.quiet (q_extract rfl rfl) rfl ?_
    refine At.quiet (q_extract rfl rfl) rfl ?_
    refine At.skim 2 rfl rfl ?_
    refine At.nil ?_
    refine At.then ?_
    refine At.region ?_
    have hO6 : Own 33 6 ((q ++ (⟨x.route, x.key, x.left, x.right, ⟨a3, c3, x.ps.l⟩, x.stat⟩ : Nd) :: (o1 ++ o2)).map rowN) a5 c5 M5 := by simpa using hO5
    refine At.skim 6 rfl rfl ?_
    refine At.quiet (q_indexOwn Try.underlying22 t33 rfl hO6 (by simp) rfl rfl (by simp)) rfl ?_
    refine At.quiet (q_fieldAddr s33 rfl rfl rfl) rfl ?_
    refine At.loudN (l_storeOwn t3 rfl rfl hO6 (i := 0) rfl (get_mid q (o1 ++ o2) _) rfl rfl rfl) ?_
    rintro _ _ _ ⟨Mow1, ow1, rfl, rfl⟩
    refine At.quiet (q_indexOwn Try.underlying22 t33 rfl hO6 (by simp) rfl rfl (by simp)) rfl ?_
    refine At.quiet (q_fieldAddr s33 rfl rfl rfl) rfl ?_
    refine At.loudN (l_storeOwn t3 rfl rfl (show Own 33 6 ((q ++ (⟨x.route, x.key, (((q ++ [(⟨x.route, x.key, x.left, x.right, ⟨a3, c3, x.ps.l⟩, x.stat⟩ : Nd)]).length : Nat) : Int), x.right, ⟨a3, c3, x.ps.l⟩, x.stat⟩ : Nd) :: (o1 ++ o2)).map rowN) a5 c5 _ by rw [← set_mid q (o1 ++ o2) (⟨x.route, x.key, x.left, x.right, ⟨a3, c3, x.ps.l⟩, x.stat⟩ : Nd)]; exact ow1) (i := 0) rfl (get_mid q (o1 ++ o2) (⟨x.route, x.key, (((q ++ [(⟨x.route, x.key, x.left, x.right, ⟨a3, c3, x.ps.l⟩, x.stat⟩ : Nd)]).length : Nat) : Int), x.right, ⟨a3, c3, x.ps.l⟩, x.stat⟩ : Nd)) rfl rfl rfl) ?_
    rintro _ _ _ ⟨Mow2, ow2, rfl, rfl⟩
    refine At.nil ?_
    refine At.then ?_
    refine At.seq ?_
    refine At.region ?_
    have hO8 : Own 33 6 ((q ++ (⟨x.route, x.key, (((q ++ [(⟨x.route, x.key, x.left, x.right, ⟨a3, c3, x.ps.l⟩, x.stat⟩ : Nd)]).length : Nat) : Int), ((((q ++ [(⟨x.route, x.key, x.left, x.right, ⟨a3, c3, x.ps.l⟩, x.stat⟩ : Nd)]) ++ o1).length : Nat) : Int), ⟨a3, c3, x.ps.l⟩, x.stat⟩ : Nd) :: (o1 ++ o2)).map rowN) a5 c5 Mow2 := by rw [← set_mid q (o1 ++ o2) (⟨x.route, x.key, (((q ++ [(⟨x.route, x.key, x.left, x.right, ⟨a3, c3, x.ps.l⟩, x.stat⟩ : Nd)]).length : Nat) : Int), x.right, ⟨a3, c3, x.ps.l⟩, x.stat⟩ : Nd)]; exact ow2
    refine At.know (psP ((⟨x.route, x.key, (((q ++ [(⟨x.route, x.key, x.left, x.right, ⟨a3, c3, x.ps.l⟩, x.stat⟩ : Nd)]).length : Nat) : Int), ((((q ++ [(⟨x.route, x.key, x.left, x.right, ⟨a3, c3, x.ps.l⟩, x.stat⟩ : Nd)]) ++ o1).length : Nat) : Int), ⟨a3, c3, x.ps.l⟩, x.stat⟩ : Nd) :: (o1 ++ o2))) (fun _ h => psP_cons (n := (⟨x.route, x.key, (((q ++ [(⟨x.route, x.key, x.left, x.right, ⟨a3, c3, x.ps.l⟩, x.stat⟩ : Nd)]).length : Nat) : Int), ((((q ++ [(⟨x.route, x.key, x.left, x.right, ⟨a3, c3, x.ps.l⟩, x.stat⟩ : Nd)]) ++ o1).length : Nat) : Int), ⟨a3, c3, x.ps.l⟩, x.stat⟩ : Nd)) h.2.2.1 (psP_app h.2.1 h.1)) ?_
    refine At.skim 4 rfl rfl ?_
    refine At.nil ?_
    refine At.then ?_
    refine At.ret ?_
    exact At.results (Γr := [_]) (M := [_]) rfl (RVals.cons (RVal.tmp rfl) (RVals.cons (RVal.tmp rfl) RVals.nil)) (.tail _ (.tail _ (.tail _ (.tail _ (.tail _ (.tail _ (.head _))))))) (fun _ h => ⟨h.1, trivial⟩) (.cons_cons _ (.cons _ (.cons _ (.refl _)))) (in_node (n0 := (⟨x.route, x.key, x.left, x.right, ⟨a3, c3, x.ps.l⟩, x.stat⟩ : Nd)) hO8 hg he1 he2 rfl (by simp [Nd.p]; omega))
  · skip
    obtain rfl : s = .leaf i := by
      rcases hc with ⟨_, h⟩ | ⟨h, _⟩
      · exact h
      · rw [show x.route = false from hroute] at h; cases h
    refine At.know (psP [(⟨x.route, x.key, x.left, x.right, ⟨a3, c3, x.ps.l⟩, x.stat⟩ : Nd)]) (fun _ h => psP_cons (n := (⟨x.route, x.key, x.left, x.right, ⟨a3, c3, x.ps.l⟩, x.stat⟩ : Nd)) h.1 psP_nil) ?_
    refine At.skip ?_
    refine At.then ?_
    refine At.seq ?_
    refine At.region ?_
    refine At.skim 4 rfl rfl ?_
    refine At.nil ?_
    refine At.then ?_
    refine At.ret ?_
    exact At.results (Γr := [_]) (M := [M1]) rfl (RVals.cons (RVal.tmp rfl) (RVals.cons (RVal.tmp rfl) RVals.nil)) (.tail _ (.tail _ (.tail _ (.tail _ (.head _))))) (fun _ h => ⟨h.1, trivial⟩) (.cons _ (.cons _ (.cons_cons _ (.refl _)))) ⟨[(⟨x.route, x.key, x.left, x.right, ⟨a3, c3, x.ps.l⟩, x.stat⟩ : Nd)], a1, c1, M1, by simp [resVal], rfl, rfl, hO1, by rw [Sh.lay, hg]; simp [Nd.p]⟩

theorem copyIn88 (t : Tr) (hsm : small2 t.ns.l) (g ot : Int) (s : Sh) : CopyIn t g ot s := by
  induction s with
  | leaf i => exact copyIn88_step t hsm g ot _ fun _ _ _ h => by cases h
  | node i l r h1 h2 => exact copyIn88_step t hsm g ot _ fun _ _ _ h => by cases h; exact ⟨h1, h2⟩

theorem copyx24 (t : Tr) (hsm : smallP t.ns.l) (hfew : t.ns.l.length ≤ 100000) (m : Nat) : Con Try.prog 24 [t.val] [ndsP t.ns, psP t.ns.l] [] (CopyXEnd t m) := by
  refine Con.body 28 Try.func24 rfl Try.ntmps24 rfl fun X H₀ L₀ => ?_
  refine At.nilSeg ?_
  refine At.nilSeg ?_
  refine At.know (psX m []) (fun _ h => psX_nil m) ?_
  refine At.seq ?_
  refine At.region ?_
  refine At.loud (l_box rfl) rfl ?_
  rintro _ _ _ ⟨b1, rfl, rfl, rfl⟩
  refine At.freeze 0 (φ := blk b1 _) rfl (fun _ h => blk_def.2 ⟨_, _, h⟩) ?_
  refine At.loud (l_alloc t24) rfl ?_
  rintro _ _ _ ⟨b2, rfl, rfl, rfl⟩
  refine At.nil ?_
  refine At.then ?_
  refine At.seq ?_
  refine At.region ?_
  refine At.fld s24 t3 rfl rfl rfl (Rd.blk (.head _) rfl) rfl rfl ?_
  refine At.quiet (q_build t24 s24 rfl rfl) rfl ?_
  refine At.loud (l_alloc t24) rfl ?_
  rintro _ _ _ ⟨b3, rfl, rfl, rfl⟩
  refine At.loudN (l_store t24 rfl rfl (i := 0) rfl rfl rfl rfl) ?_
  rintro _ _ _ ⟨rfl, rfl⟩
  refine At.nil ?_
  refine At.then ?_
  refine At.seq ?_
  refine At.seq ?_
  refine At.region ?_
  refine At.fld s24 t22 rfl rfl rfl (Rd.blk (.head _) rfl) rfl rfl ?_
  refine At.quiet (q_len Try.underlying22 rfl) rfl ?_
  refine At.skim 1 rfl rfl ?_
  refine At.nil ?_
  refine At.then ?_
  refine At.block ?_
  refine At.front 3 rfl ?_
  refine At.front 3 rfl ?_
  refine At.front 2 rfl ?_
  refine At.loopK (ι := Nat × List Nd × Option Addr × Nat × Seg × Seg) [5, 12, 13, 14, 15, 16, 17, 18, 19, 20, 21, 22, 23, 24, 25, 26] (fun ⟨k, o, a, c, M, mp⟩ => [(12, .int .i64 (k : Int))]) (fun ⟨k, o, a, c, M, mp⟩ => [psX m o]) (fun ⟨k, o, a, c, M, mp⟩ => [[(b3, .cells #[.int .i64 t.root, .slice a k c] 24 (0, 0))], M, mp]) _ (fun ⟨k, o, a, c, M, mp⟩ => k ≤ t.ns.l.length ∧ Own 33 6 (o.map rowN) a c M ∧ o.length = k ∧ o.map Nd.p = t.p.ns.take k ∧ OwnAt m o mp) (fun ⟨k, o, a, c, M, mp⟩ => t.ns.l.length - k) (0, [], none, 0, [], []) ⟨Nat.zero_le _, Own.nil _ _, rfl, by simp, OwnAt.nil m⟩ ⟨rfl, trivial⟩ (fun _ _ => ⟨psX_nil m, trivial⟩) (.cons_cons _ (.cons_cons _ (.cons_cons _ (.refl _)))) ?_
  intro i0 hI0
  obtain ⟨k, o, a, c, M, mp⟩ := i0
  obtain ⟨hkl, hO, hok, hoe, hat⟩ := hI0
  refine At.seq ?_
  refine At.region ?_
  refine At.skim 1 rfl rfl ?_
  refine At.nil ?_
  refine At.then ?_
  refine At.seq ?_
  refine At.if rfl (fun hk => ?_) (fun hk => ?_)
  · skip
    obtain ⟨y, hy⟩ := get_of_lt (l := t.ns.l) (i := k) (by omega)
    have hk1 := lt_of_get hy
    have hys := hsm y (List.mem_of_getElem? hy)
    refine At.know (prsP y.ps) (fun _ h => psP_get h.2.2.2.2.2.1 hy) ?_
    refine At.skip ?_
    refine At.then ?_
    refine At.seq ?_
    refine At.block ?_
    refine At.seq ?_
    refine At.region ?_
    refine At.quiet (q_index Try.underlying22 t33 rfl (.tail _ (.tail _ (.tail _ (.tail _ (.tail _ (.head _)))))) (by simp) rfl rfl (lt_of_get hy)) rfl ?_
    refine At.quiet (q_loadS t33 rfl (RdS.sl0 (.tail _ (.tail _ (.tail _ (.tail _ (.tail _ (.head _)))))) (map_get hy)) rfl) rfl ?_
    refine At.loud (l_alloc t33) rfl ?_
    rintro _ _ _ ⟨b4, rfl, rfl, rfl⟩
    refine At.loudN (l_store t33 rfl rfl (i := 0) rfl rfl rfl rfl) ?_
    rintro _ _ _ ⟨rfl, rfl⟩
    refine At.nil ?_
    refine At.then ?_
    refine At.seq ?_
    refine At.region ?_
    refine At.fld s33 t31 rfl rfl rfl (Rd.loc (i := 0) rfl rfl) rfl rfl ?_
    by_cases hkm : k = m
    · skip
      obtain rfl : mp = [] := hat.empty (by omega)
      refine At.loud (l_appendSl rfl Try.underlying31 t50 rfl rfl (Own.nil 50 2) (by simp) (i := 3) rfl (.head _) (by simp) (one_map (fun _ => rfl) _) rfl rfl (by omega) (by unfold maxLen; omega)) rfl ?_
      rintro _ _ _ ⟨a3, c3, M3, rfl, ow3, rfl, rfl⟩
      refine At.say 18 (.slice a3 y.ps.l.length c3) rfl (by simp) ?_
      refine At.quiet (q_fieldAddr s33 rfl rfl rfl) rfl ?_
      refine At.loudN (l_store t31 rfl rfl (i := 0) rfl rfl rfl rfl) ?_
      rintro _ _ _ ⟨rfl, rfl⟩
      refine At.nil ?_
      refine At.then ?_
      refine At.region ?_
      refine At.fld s24 t22 rfl rfl rfl (Rd.loc (i := 1) rfl rfl) rfl rfl ?_
      refine At.quiet (q_loadS t33 rfl (RdS.loc (i := 0) rfl (m := 6) rfl) rfl) rfl ?_
      refine At.loud (l_buildSlice Try.underlying22 t33 rfl rfl rfl rfl rfl) rfl ?_
      rintro _ _ _ ⟨b5, rfl, rfl, rfl⟩
      refine At.loud (l_append rfl Try.underlying22 t33 rfl rfl hO (by simp; omega) (i := 3) rfl rfl (news := [rowN { y with ps := ⟨a3, c3, y.ps.l⟩ }]) (by simp [rowN, Sl.val]) (RdS.loc (i := 0) rfl (m := 6) rfl) rfl rfl rfl (by omega) (by unfold maxLen; omega)) rfl ?_
      rintro _ _ _ ⟨a2, c2, M2, rfl, ow, rfl, rfl⟩
      refine At.quiet (q_fieldAddr s24 rfl rfl rfl) rfl ?_
      refine At.loudN (l_store t22 rfl rfl (i := 2) rfl rfl rfl rfl) ?_
      rintro _ _ _ ⟨rfl, rfl⟩
      refine At.nil ?_
      refine At.inNormal ?_
      refine At.then ?_
      refine At.region ?_
      refine At.know (psX m (o ++ [{ y with ps := ⟨a3, c3, y.ps.l⟩ }])) (fun _ h => psX_snoc (n := { y with ps := ⟨a3, c3, y.ps.l⟩ }) h.2.1 (fun h9 => absurd (hok.trans hkm) h9)) ?_
      refine At.quiet (q_add rfl rfl (by omega) (by omega)) rfl ?_
      refine At.skim 1 rfl rfl ?_
      refine At.nil ?_
      refine At.front 4 rfl ?_
      refine At.front 4 rfl ?_
      refine At.front 4 rfl ?_
      refine At.then ?_
      exact At.againK (k + 1, o ++ [{ y with ps := ⟨a3, c3, y.ps.l⟩ }], a2, c2, M2, M3) ⟨hk1, by simpa using ow, by simp; omega, copy_step (s0 := ⟨a3, c3, y.ps.l⟩) hoe rfl (map_get hy), OwnAt.here (n := { y with ps := ⟨a3, c3, y.ps.l⟩ }) hat (by omega) (by simpa using ow3)⟩ (by (try dsimp only); omega) (Tells.end 18 ⟨rfl, trivial⟩ rfl rfl) (fun _ h => ⟨h.1, h.2.2.2⟩) (.cons_cons _ (.cons_cons _ (.cons_cons _ (.cons _ (.cons _ (.refl _))))))
    · skip
      refine At.loud (l_appendNew rfl Try.underlying31 t50 rfl rfl (.head _) (by simp) rfl (by omega) (by unfold maxLen; omega) rfl) rfl ?_
      rintro _ _ _ ⟨a3, c3, rfl, rfl, rfl⟩
      refine At.quiet (q_fieldAddr s33 rfl rfl rfl) rfl ?_
      refine At.loudN (l_store t31 rfl rfl (i := 0) rfl rfl rfl rfl) ?_
      rintro _ _ _ ⟨rfl, rfl⟩
      refine At.nil ?_
      refine At.then ?_
      refine At.region ?_
      refine At.fld s24 t22 rfl rfl rfl (Rd.loc (i := 1) rfl rfl) rfl rfl ?_
      refine At.quiet (q_loadS t33 rfl (RdS.loc (i := 0) rfl (m := 6) rfl) rfl) rfl ?_
      refine At.loud (l_buildSlice Try.underlying22 t33 rfl rfl rfl rfl rfl) rfl ?_
      rintro _ _ _ ⟨b6, rfl, rfl, rfl⟩
      refine At.loud (l_append rfl Try.underlying22 t33 rfl rfl hO (by simp; omega) (i := 3) rfl rfl (news := [rowN { y with ps := ⟨a3, c3, y.ps.l⟩ }]) (by simp [rowN, Sl.val]) (RdS.loc (i := 0) rfl (m := 6) rfl) rfl rfl rfl (by omega) (by unfold maxLen; omega)) rfl ?_
      rintro _ _ _ ⟨a2, c2, M2, rfl, ow, rfl, rfl⟩
      refine At.quiet (q_fieldAddr s24 rfl rfl rfl) rfl ?_
      refine At.loudN (l_store t22 rfl rfl (i := 2) rfl rfl rfl rfl) ?_
      rintro _ _ _ ⟨rfl, rfl⟩
      refine At.nil ?_
      refine At.inNormal ?_
      refine At.then ?_
      refine At.region ?_
      refine At.know (psX m (o ++ [{ y with ps := ⟨a3, c3, y.ps.l⟩ }])) (fun _ h => psX_snoc (n := { y with ps := ⟨a3, c3, y.ps.l⟩ }) h.2.2.1 (fun h9 => h.1)) ?_
      refine At.quiet (q_add rfl rfl (by omega) (by omega)) rfl ?_
      refine At.skim 1 rfl rfl ?_
      refine At.nil ?_
      refine At.front 4 rfl ?_
      refine At.front 4 rfl ?_
      refine At.front 4 rfl ?_
      refine At.then ?_
      exact At.againK (k + 1, o ++ [{ y with ps := ⟨a3, c3, y.ps.l⟩ }], a2, c2, M2, mp) ⟨hk1, by simpa using ow, by simp; omega, copy_step (s0 := ⟨a3, c3, y.ps.l⟩) hoe rfl (map_get hy), OwnAt.there hat (by omega)⟩ (by (try dsimp only); omega) (Tells.end 17 ⟨rfl, trivial⟩ rfl rfl) (fun _ h => ⟨h.1, h.2.2.2.2⟩) (.cons_cons _ (.cons_cons _ (.cons_cons _ (.cons _ (.cons _ (.refl _))))))
  · skip
    have hoe2 : o.map Nd.p = t.p.ns := by rw [hoe, List.take_of_length_le (by simp [Tr.p]; omega)]
    subst hok
    refine At.exit ?_
    refine At.thenExit ?_
    refine At.thenExit ?_
    refine At.inHere rfl ?_
    refine At.then ?_
    refine At.seq ?_
    refine At.region ?_
    refine At.quiet (q_loadS t24 rfl (RdS.loc (i := 0) rfl (m := 2) rfl) rfl) rfl ?_
    refine At.loudN (l_store t24 rfl rfl (i := 3) rfl rfl rfl rfl) ?_
    rintro _ _ _ ⟨rfl, rfl⟩
    refine At.nil ?_
    refine At.then ?_
    refine At.ret ?_
    exact At.results (Γr := [psX m o]) (M := [M, mp]) rfl (RVals.cons (RVal.cellS rfl t24 (RdS.loc (i := 3) rfl (m := 2) rfl) rfl) RVals.nil) (.tail _ (.tail _ (.tail _ (.head _)))) (fun _ h => ⟨h.1, trivial⟩) (.cons _ (.cons_cons _ (.cons_cons _ (.cons _ (.refl _))))) ⟨⟨t.root, ⟨a, c, o⟩⟩, M, mp, rfl, rfl, rfl, hO, hat, by simp only [Tr.p]; exact congrArg (PT.mk t.root) hoe2⟩

set_option maxHeartbeats 2000000 in
theorem join50 (t : Tr) (hsm : smallP t.ns.l) (at_ : Int) : Con Try.prog 50 [t.val, .int .i64 at_] [ndsP t.ns, psP t.ns.l] [] (SplitEnd (joinT t.p at_)) := by
  refine Con.body 94 Try.func50 rfl Try.ntmps50 rfl fun X H₀ L₀ => ?_
  have hN : t.p.ns.length = t.ns.l.length := by simp [Tr.p]
  refine At.lenOf (hs := (.tail _ (.head _))) fun hlen => ?_
  rw [List.length_map] at hlen
  refine At.seq ?_
  refine At.region ?_
  refine At.loud (l_box rfl) rfl ?_
  rintro _ _ _ ⟨b1, rfl, rfl, rfl⟩
  refine At.freeze 0 (φ := blk b1 _) rfl (fun _ h => blk_def.2 ⟨_, _, h⟩) ?_
  refine At.loud (l_alloc t24) rfl ?_
  rintro _ _ _ ⟨b2, rfl, rfl, rfl⟩
  refine At.skim 1 rfl rfl ?_
  refine At.nil ?_
  refine At.then ?_
  refine At.seq ?_
  refine At.region ?_
  refine At.quiet (q_loadS t24 rfl (RdS.blk (.head _) (m := 2) rfl) rfl) rfl ?_
  refine At.skim 1 rfl rfl ?_
  refine At.call en53 rfl (near53 t hsm at_) (fun _ h => ⟨h.2.2.1, h.2.2.2.1, trivial⟩) (List.Perm.refl _) rfl ?_
  rintro _ _ _ ⟨rfl, rfl, rfl⟩
  refine At.skim 1 rfl rfl ?_
  refine At.nil ?_
  refine At.then ?_
  refine At.seq ?_
  refine At.seq ?_
  refine At.region ?_
  refine At.skim 2 rfl rfl ?_
  refine At.nil ?_
  refine At.then ?_
  refine At.if rfl (fun hneg => ?_) (fun hneg => ?_)
  · skip
    refine At.seq ?_
    refine At.region ?_
    refine At.know (ndsP ⟨none, 0, []⟩) (fun _ h => sl_nil _ _ _ (Nat.zero_le _)) ?_
    refine At.know (psP []) (fun _ h => psP_nil) ?_
    refine At.quiet (q_build t24 s24 rfl rfl) rfl ?_
    refine At.loudN (l_store t24 rfl rfl (i := 0) rfl rfl rfl rfl) ?_
    rintro _ _ _ ⟨rfl, rfl⟩
    refine At.skim 1 rfl rfl ?_
    refine At.nil ?_
    refine At.then ?_
    refine At.ret ?_
    refine At.thenRet ?_
    exact At.results (Γr := [_, _]) (M := []) rfl (RVals.cons (RVal.cellS rfl t24 (RdS.loc (i := 0) rfl (m := 2) rfl) rfl) (RVals.cons (RVal.tmp rfl) RVals.nil)) (.tail _ (.tail _ (.tail _ (.head _)))) (fun _ h => ⟨h.2.1, h.1, trivial⟩) (.cons _ (.refl _)) ⟨⟨0, ⟨none, 0, []⟩⟩, by rw [join_no (nb_neg hneg)]; rfl, rfl, rfl, by rw [join_no (nb_neg hneg)]; rfl⟩
  · skip
    obtain ⟨s, i, n, q, side, m, hs, rfl, hlf, hn, hnr, hnb, hnxt⟩ := next_yes (nb_pos hneg)
    obtain ⟨nm, hnm, hnmr, hmk, hml, hmr⟩ := nb_leafz hs hnb
    have hfew := (good_of hs).few
    refine At.say 6 (.int .i64 (m : Int)) rfl (congrArg (Value.int .i64) (by rw [hnxt]; rfl)) ?_
    refine At.skip ?_
    refine At.then ?_
    refine At.seq ?_
    refine At.region ?_
    refine At.quiet (q_loadS t24 rfl (RdS.blk (.head _) (m := 2) rfl) rfl) rfl ?_
    refine At.call en24 rfl (copyx24 t hsm (by omega) m) (fun _ h => ⟨h.2.2.1, h.2.2.2.1, trivial⟩) (List.Perm.refl _) rfl ?_
    rintro _ _ _ ⟨u, Mu, mp, rfl, rfl, rfl, hu, hat, hpu⟩
    refine At.loud (l_alloc t24) rfl ?_
    rintro _ _ _ ⟨b3, rfl, rfl, rfl⟩
    refine At.loudN (l_store t24 rfl rfl (i := 0) rfl rfl rfl rfl) ?_
    rintro _ _ _ ⟨rfl, rfl⟩
    refine At.nil ?_
    refine At.then ?_
    refine At.seq ?_
    refine At.region ?_
    have hul := p_len hpu
    have hml0 := lt_of_get hnm
    obtain ⟨ym, hym, hmp⟩ := hat.get (by omega)
    obtain ⟨x, hx, hxn⟩ := p_get (u := t) rfl hn
    obtain ⟨xm, hxm, hxmn⟩ := p_get (u := t) rfl hnm
    obtain ⟨ym2, hym2, hymn⟩ := p_get hpu hnm
    rw [hym] at hym2
    cases hym2
    have hymx : ym.ps.l = xm.ps.l := congrArg Nod.l (hymn.trans hxmn.symm)
    have hxs := hsm x (List.mem_of_getElem? hx)
    have hxms := hsm xm (List.mem_of_getElem? hxm)
    have hyms : ym.ps.l.length ≤ 1000000 := by rw [hymx]; exact hxms
    have hmr1 : ym.route = false := (congrArg Nod.route hymn).trans hnmr
    have hmk1 : ym.key = 0 := (congrArg Nod.key hymn).trans hmk
    have hml1 : ym.left = 0 := (congrArg Nod.left hymn).trans hml
    have hmr2 : ym.right = 0 := (congrArg Nod.right hymn).trans hmr
    refine At.quiet (q_loadS t24 rfl (RdS.blk (.tail _ (.head _)) (m := 2) rfl) rfl) rfl ?_
    refine At.skim 1 rfl rfl ?_
    refine At.call en87 rfl (up87 t (i : Int)) (fun _ h => ⟨h.2.2.2.1, h.2.2.2.2.1, trivial⟩) (List.Perm.refl _) rfl ?_
    rintro vu _ _ ⟨rfl, rfl, hup⟩
    refine At.skim 1 rfl rfl ?_
    obtain ⟨nq, rfl, hq, hqr⟩ := up_is hs hn hnr hnb hup
    obtain ⟨y, hy, hyp⟩ := p_get (u := t) rfl hq
    refine At.know (prsP y.ps) (fun _ h => psP_get h.2.2.2.2.1 hy) ?_
    refine At.know (prsP x.ps) (fun _ h => psP_get h.2.2.2.2.2.1 hx) ?_
    refine At.know (prsP xm.ps) (fun _ h => psP_get h.2.2.2.2.2.2.1 hxm) ?_
    refine At.quiet (q_extract rfl rfl) rfl ?_
    refine At.quiet (q_extract rfl rfl) rfl ?_
    refine At.skim 2 rfl rfl ?_
    refine At.nil ?_
    refine At.then ?_
    refine At.seq ?_
    refine At.region ?_
    refine At.fld s24 t22 rfl rfl rfl (Rd.blk (.tail _ (.tail _ (.tail _ (.tail _ (.head _))))) rfl) rfl rfl ?_
    refine At.skim 1 rfl rfl ?_
    refine At.quiet (q_index Try.underlying22 t33 rfl (.tail _ (.tail _ (.tail _ (.tail _ (.tail _ (.tail _ (.head _))))))) (by simp) rfl rfl (lt_of_get hy)) rfl ?_
    refine At.fld s33 t3 rfl rfl rfl (Rd.sl (.tail _ (.tail _ (.tail _ (.tail _ (.tail _ (.tail _ (.head _))))))) (map_get hy) rfl) rfl rfl ?_
    refine At.skim 1 rfl rfl ?_
    refine At.nil ?_
    refine At.then ?_
    refine At.seq ?_
    refine At.seq ?_
    refine At.region ?_
    refine At.skim 1 rfl rfl ?_
    refine At.nil ?_
    refine At.then ?_
    refine At.cond rfl (fun hsd0 => ?_) (fun hsd0 => ?_)
    · skip
      have hsd : side = true := hsd0
      refine At.seq ?_
      refine At.region ?_
      refine At.fld s24 t22 rfl rfl rfl (Rd.blk (.tail _ (.tail _ (.tail _ (.tail _ (.head _))))) rfl) rfl rfl ?_
      refine At.skim 1 rfl rfl ?_
      refine At.quiet (q_index Try.underlying22 t33 rfl (.tail _ (.tail _ (.tail _ (.tail _ (.tail _ (.tail _ (.head _))))))) (by simp) rfl rfl (lt_of_get hy)) rfl ?_
      refine At.fld s33 t3 rfl rfl rfl (Rd.sl (.tail _ (.tail _ (.tail _ (.tail _ (.tail _ (.tail _ (.head _))))))) (map_get hy) rfl) rfl rfl ?_
      refine At.skim 1 rfl rfl ?_
      refine At.nil ?_
      refine At.then ?_
      refine At.draw 16 (.q 0 (.q 1 (.q 2 (.q 3 (.q 4 (.q 5 (.q 6 (.q 7 (.q 8 (.q 9 (.q 10 (.q 11 (.q 12 (.q 13 (.q 14 (.o 15 (.e))))))))))))))))) (_ :: _ :: _ :: L₀) (.cons_cons _ (.cons_cons _ (.cons _ (.cons_cons _ (.refl _))))) mixed (by kernel_rfl) rfl ?_
      refine AtO.quiet rfl (q_fieldAddr s24 rfl rfl rfl) rfl (Calm.then Post.calm) ?_
      refine AtO.quiet rfl (q_load t22 rfl (Rd.loc (i := 0) rfl rfl)) rfl (Calm.then Post.calm) ?_
      refine AtO.quiet rfl (q_move rfl) rfl (Calm.then Post.calm) ?_
      refine AtO.quiet rfl (q_fieldAddr s24 rfl rfl rfl) rfl (Calm.then Post.calm) ?_
      refine AtO.quiet rfl (q_load t22 rfl (Rd.loc (i := 0) rfl rfl)) rfl (Calm.then Post.calm) ?_
      refine AtO.quiet rfl (q_move rfl) rfl (Calm.then Post.calm) ?_
      refine AtO.quiet rfl (q_indexOwn Try.underlying22 t33 rfl hu (by simp) rfl rfl (lt_of_get hym)) rfl (Calm.then Post.calm) ?_
      refine AtO.quiet rfl (q_fieldAddr s33 rfl rfl rfl) rfl (Calm.then Post.calm) ?_
      refine AtO.quiet rfl (q_load t31 rfl (Rd.own hu (i := 1) rfl (map_get hym) rfl)) rfl (Calm.then Post.calm) ?_
      refine AtO.quiet rfl (q_fieldAddr s24 rfl rfl rfl) rfl (Calm.then Post.calm) ?_
      refine AtO.quiet rfl (q_load t22 rfl (Rd.blk (.tail _ (.tail _ (.tail _ (.tail _ (.head _))))) rfl)) rfl (Calm.then Post.calm) ?_
      refine AtO.quiet rfl (q_move rfl) rfl (Calm.then Post.calm) ?_
      refine AtO.quiet rfl (q_index Try.underlying22 t33 rfl (.tail _ (.tail _ (.tail _ (.tail _ (.tail _ (.tail _ (.head _))))))) (by simp) rfl rfl (lt_of_get hx)) rfl (Calm.then Post.calm) ?_
      refine AtO.quiet rfl (q_fieldAddr s33 rfl rfl rfl) rfl (Calm.then Post.calm) ?_
      refine AtO.quiet rfl (q_load t31 rfl (Rd.sl (.tail _ (.tail _ (.tail _ (.tail _ (.tail _ (.tail _ (.head _))))))) (map_get hx) rfl)) rfl (Calm.then Post.calm) ?_
      refine AtO.loudA rfl (l_appendSl rfl Try.underlying31 t50 rfl rfl hmp (by simp) (i := 2) rfl (.tail _ (.head _)) (by simp) (one_map (fun _ => rfl) _) rfl rfl (by omega) (by unfold maxLen; omega)) rfl (by rintro _ _ _ ⟨_, _, _, rfl, _, rfl, rfl⟩; exact ⟨fun _ h => h, (.cons_cons _ (.cons_cons _ (.cons _ (.cons_cons _ (.refl _)))))⟩) ?_
      rintro _ _ _ ⟨a5, c5, M5, rfl, ow5, rfl, rfl⟩
      refine AtO.done ?_
      refine At.say 55 (.slice a5 (ym.ps.l ++ x.ps.l).length c5) rfl (by simp) ?_
      refine At.quiet (q_indexOwn Try.underlying22 t33 rfl hu (by simp) rfl rfl (lt_of_get hym)) rfl ?_
      refine At.quiet (q_fieldAddr s33 rfl rfl rfl) rfl ?_
      refine At.loudN (l_storeOwn t31 rfl rfl hu (i := 1) rfl (map_get hym) rfl rfl rfl) ?_
      rintro _ _ _ ⟨Mow1, ow1, rfl, rfl⟩
      refine At.nil ?_
      refine At.then ?_
      refine At.seq ?_
      refine At.region ?_
      have hO2 : Own 33 6 ((u.ns.l.set m { ym with ps := ⟨a5, c5, ym.ps.l ++ x.ps.l⟩ }).map rowN) u.ns.a u.ns.c Mow1 := by rw [row_set]; exact ow1
      have hym2 : (u.ns.l.set m { ym with ps := ⟨a5, c5, ym.ps.l ++ x.ps.l⟩ })[m]? = some { ym with ps := ⟨a5, c5, ym.ps.l ++ x.ps.l⟩ } := List.getElem?_set_self (lt_of_get hym)
      have hyl := lt_of_get hym
      refine At.fld s24 t22 rfl rfl rfl (Rd.loc (i := 0) rfl rfl) rfl rfl ?_
      refine At.skim 1 rfl rfl ?_
      refine At.quiet (q_indexOwn Try.underlying22 t33 rfl hO2 (by simp) rfl rfl hyl) rfl ?_
      refine At.quiet (q_fieldAddr s33 rfl rfl rfl) rfl ?_
      refine At.loudN (l_storeOwn t3 rfl rfl hO2 (i := 1) rfl (map_get hym2) rfl rfl rfl) ?_
      rintro _ _ _ ⟨Mow2, ow2, rfl, rfl⟩
      refine At.nil ?_
      refine At.then ?_
      refine At.seq ?_
      refine At.region ?_
      have hO3 : Own 33 6 ((u.ns.l.set m (⟨ym.route, ym.key, ym.left, ym.right, ⟨a5, c5, ym.ps.l ++ x.ps.l⟩, 0⟩ : Nd)).map rowN) u.ns.a u.ns.c Mow2 := by rw [set_twice (y1 := { ym with ps := ⟨a5, c5, ym.ps.l ++ x.ps.l⟩ })]; exact ow2
      refine At.freezeOwn 2 (show Own 50 2 ((ym.ps.l ++ x.ps.l).map rowP) a5 c5 M5 by simpa using ow5) rfl ?_
      refine At.know (psP (u.ns.l.set m (⟨ym.route, ym.key, ym.left, ym.right, ⟨a5, c5, ym.ps.l ++ x.ps.l⟩, 0⟩ : Nd))) (fun _ h => psP_ofX (n := (⟨ym.route, ym.key, ym.left, ym.right, ⟨a5, c5, ym.ps.l ++ x.ps.l⟩, 0⟩ : Nd)) h.2.2.2.2.1 h.1) ?_
      have hcn : (⟨ym.route, ym.key, ym.left, ym.right, ⟨a5, c5, ym.ps.l ++ x.ps.l⟩, 0⟩ : Nd).p = joinN t.p.ns i m side := by
        rw [joinN_eq hn hnm, hsd]
        simp only [Nd.p]
        rw [hmr1, hmk1, hml1, hmr2]
        simp [← hxn, ← hymn, ← hxmn, Nd.p]
        all_goals exact hymx.symm
      have hp3 := p_set1 (a := u.ns.a) (c := u.ns.c) (i := m) (m := (⟨ym.route, ym.key, ym.left, ym.right, ⟨a5, c5, ym.ps.l ++ x.ps.l⟩, 0⟩ : Nd)) hpu
      have hHS : HangsS (⟨u.root, ⟨u.ns.a, u.ns.c, u.ns.l.set m (⟨ym.route, ym.key, ym.left, ym.right, ⟨a5, c5, ym.ps.l ++ x.ps.l⟩, 0⟩ : Nd)⟩⟩ : Tr).p.ns (q : Int) y.left (s.cut i) u.root := by
        rw [hp3]
        exact join_in hs hnb hq hqr hnm hnmr (by rw [hcn]; rfl) (by rw [hsd, ← hyp]; rfl) (congrArg PT.root hpu)
      have hsm2 : small2 (u.ns.l.set m (⟨ym.route, ym.key, ym.left, ym.right, ⟨a5, c5, ym.ps.l ++ x.ps.l⟩, 0⟩ : Nd)) := small2_set (small_of_p hpu hsm) (by simp; omega)
      refine At.freezeOwn 1 hO3 rfl ?_
      refine At.quiet (q_loadS t24 rfl (RdS.loc (i := 0) rfl (m := 2) rfl) rfl) rfl ?_
      refine At.say 83 (Tr.val (⟨u.root, ⟨u.ns.a, u.ns.c, u.ns.l.set m (⟨ym.route, ym.key, ym.left, ym.right, ⟨a5, c5, ym.ps.l ++ x.ps.l⟩, 0⟩ : Nd)⟩⟩ : Tr)) rfl (by rw [set_val]; rfl) ?_
      refine At.fld s24 t3 rfl rfl rfl (Rd.loc (i := 0) rfl rfl) rfl rfl ?_
      refine At.nilSeg ?_
      refine At.skim 2 rfl rfl ?_
      refine At.call en88 rfl (copyIn88 (⟨u.root, ⟨u.ns.a, u.ns.c, u.ns.l.set m (⟨ym.route, ym.key, ym.left, ym.right, ⟨a5, c5, ym.ps.l ++ x.ps.l⟩, 0⟩ : Nd)⟩⟩ : Tr) hsm2 (q : Int) y.left (s.cut i) u.root hHS [] none 0 [] (Own.nil _ _) (by simpa using cut_few i hs)) (fun _ h => ⟨h.1, h.2.1, trivial⟩) (List.Perm.refl _) rfl ?_
      rintro _ _ _ ⟨o1, a1, c1, M1, rfl, rfl, rfl, hO1, he1⟩
      refine At.skim 1 rfl rfl ?_
      refine At.quiet (q_extract rfl rfl) rfl ?_
      refine At.quiet (q_extract rfl rfl) rfl ?_
      refine At.skim 2 rfl rfl ?_
      refine At.nil ?_
      refine At.then ?_
      refine At.seq ?_
      refine At.region ?_
      have hje := join_eq hs hlf hnb
      have hpw : (⟨0, ⟨a1, c1, [] ++ o1⟩⟩ : Tr).p = ⟨0, (s.cut i).lay (t.p.ns.set m (joinN t.p.ns i m side)) 0⟩ := by
        rw [hp3, hcn] at he1
        exact congrArg (PT.mk 0) he1
      refine At.freezeOwn 0 hO1 rfl ?_
      refine At.skim 2 rfl rfl ?_
      refine At.quiet (q_build t24 s24 rfl rfl) rfl ?_
      refine At.loudN (l_store t24 rfl rfl (i := 1) rfl rfl rfl rfl) ?_
      rintro _ _ _ ⟨rfl, rfl⟩
      refine At.skim 1 rfl rfl ?_
      refine At.nil ?_
      refine At.then ?_
      refine At.ret ?_
      exact At.results (Γr := [_, _]) (M := []) rfl (RVals.cons (RVal.cellS rfl t24 (RdS.loc (i := 1) rfl (m := 2) rfl) rfl) (RVals.cons (RVal.tmp rfl) RVals.nil)) (.tail _ (.tail _ (.tail _ (.tail _ (.tail _ (.tail _ (.tail _ (.tail _ (.tail _ (.tail _ (.head _))))))))))) (fun _ h => ⟨h.1, h.2.1, trivial⟩) (.cons _ (.cons _ (.refl _))) ⟨⟨0, ⟨a1, c1, [] ++ o1⟩⟩, by rw [hje]; rfl, rfl, rfl, by rw [hje]; exact hpw⟩
    · skip
      have hsd : side = false := hsd0
      refine At.nilSeg ?_
      refine At.draw 17 (.q 0 (.q 1 (.q 2 (.q 3 (.q 4 (.q 5 (.q 6 (.q 7 (.q 8 (.q 10 (.q 11 (.q 12 (.q 13 (.q 14 (.q 15 (.o 9 (.o 16 (.e)))))))))))))))))) (_ :: _ :: _ :: L₀) (.cons _ (.cons_cons _ (.cons_cons _ (.cons _ (.cons_cons _ (.refl _)))))) mixed (by kernel_rfl) rfl ?_
      refine AtO.quiet rfl (q_fieldAddr s24 rfl rfl rfl) rfl (Calm.then Post.calm) ?_
      refine AtO.quiet rfl (q_load t22 rfl (Rd.loc (i := 0) rfl rfl)) rfl (Calm.then Post.calm) ?_
      refine AtO.quiet rfl (q_move rfl) rfl (Calm.then Post.calm) ?_
      refine AtO.quiet rfl (q_fieldAddr s24 rfl rfl rfl) rfl (Calm.then Post.calm) ?_
      refine AtO.quiet rfl (q_load t22 rfl (Rd.blk (.tail _ (.tail _ (.tail _ (.tail _ (.head _))))) rfl)) rfl (Calm.then Post.calm) ?_
      refine AtO.quiet rfl (q_move rfl) rfl (Calm.then Post.calm) ?_
      refine AtO.quiet rfl (q_index Try.underlying22 t33 rfl (.tail _ (.tail _ (.tail _ (.tail _ (.tail _ (.tail _ (.head _))))))) (by simp) rfl rfl (lt_of_get hx)) rfl (Calm.then Post.calm) ?_
      refine AtO.quiet rfl (q_fieldAddr s33 rfl rfl rfl) rfl (Calm.then Post.calm) ?_
      refine AtO.quiet rfl (q_load t31 rfl (Rd.sl (.tail _ (.tail _ (.tail _ (.tail _ (.tail _ (.tail _ (.head _))))))) (map_get hx) rfl)) rfl (Calm.then Post.calm) ?_
      refine AtO.quiet rfl (q_fieldAddr s24 rfl rfl rfl) rfl (Calm.then Post.calm) ?_
      refine AtO.quiet rfl (q_load t22 rfl (Rd.blk (.tail _ (.tail _ (.tail _ (.tail _ (.head _))))) rfl)) rfl (Calm.then Post.calm) ?_
      refine AtO.quiet rfl (q_move rfl) rfl (Calm.then Post.calm) ?_
      refine AtO.quiet rfl (q_index Try.underlying22 t33 rfl (.tail _ (.tail _ (.tail _ (.tail _ (.tail _ (.tail _ (.head _))))))) (by simp) rfl rfl (lt_of_get hxm)) rfl (Calm.then Post.calm) ?_
      refine AtO.quiet rfl (q_fieldAddr s33 rfl rfl rfl) rfl (Calm.then Post.calm) ?_
      refine AtO.quiet rfl (q_load t31 rfl (Rd.sl (.tail _ (.tail _ (.tail _ (.tail _ (.tail _ (.tail _ (.head _))))))) (map_get hxm) rfl)) rfl (Calm.then Post.calm) ?_
      refine AtO.loud rfl (l_appendSl rfl Try.underlying31 t50 rfl rfl (Own.nil 50 2) (by simp) (i := 0) rfl (.tail _ (.head _)) (by simp) (one_map (fun _ => rfl) _) rfl rfl (by omega) (by unfold maxLen; omega)) rfl (by rintro _ _ _ ⟨_, _, _, rfl, _, rfl, rfl⟩; exact ⟨fun _ h => h, (.cons _ (.cons_cons _ (.cons_cons _ (.cons _ (.cons_cons _ (.refl _))))))⟩) ?_
      rintro _ _ _ ⟨a4, c4, M4, rfl, ow4, rfl, rfl⟩
      refine AtO.loudA rfl (l_appendSl rfl Try.underlying31 t50 rfl rfl ow4 (by simp) (i := 0) rfl (.head _) (by simp) (one_map (fun _ => rfl) _) rfl rfl (by omega) (by unfold maxLen; omega)) rfl (by rintro _ _ _ ⟨_, _, _, rfl, _, rfl, rfl⟩; exact ⟨fun _ h => h, (.cons _ (.cons_cons _ (.cons_cons _ (.cons _ (.cons_cons _ (.refl _))))))⟩) ?_
      rintro _ _ _ ⟨a5, c5, M5, rfl, ow5, rfl, rfl⟩
      refine AtO.done ?_
      refine At.say 74 (.slice a5 (x.ps.l ++ xm.ps.l).length c5) rfl (by simp) ?_
      refine At.quiet (q_indexOwn Try.underlying22 t33 rfl hu (by simp) rfl rfl (lt_of_get hym)) rfl ?_
      refine At.quiet (q_fieldAddr s33 rfl rfl rfl) rfl ?_
      refine At.loudN (l_storeOwn t31 rfl rfl hu (i := 2) rfl (map_get hym) rfl rfl rfl) ?_
      rintro _ _ _ ⟨Mow3, ow3, rfl, rfl⟩
      refine At.nil ?_
      refine At.then ?_
      refine At.seq ?_
      refine At.region ?_
      have hO2 : Own 33 6 ((u.ns.l.set m { ym with ps := ⟨a5, c5, x.ps.l ++ xm.ps.l⟩ }).map rowN) u.ns.a u.ns.c Mow3 := by rw [row_set]; exact ow3
      have hym2 : (u.ns.l.set m { ym with ps := ⟨a5, c5, x.ps.l ++ xm.ps.l⟩ })[m]? = some { ym with ps := ⟨a5, c5, x.ps.l ++ xm.ps.l⟩ } := List.getElem?_set_self (lt_of_get hym)
      have hyl := lt_of_get hym
      refine At.fld s24 t22 rfl rfl rfl (Rd.loc (i := 1) rfl rfl) rfl rfl ?_
      refine At.skim 1 rfl rfl ?_
      refine At.quiet (q_indexOwn Try.underlying22 t33 rfl hO2 (by simp) rfl rfl hyl) rfl ?_
      refine At.quiet (q_fieldAddr s33 rfl rfl rfl) rfl ?_
      refine At.loudN (l_storeOwn t3 rfl rfl hO2 (i := 2) rfl (map_get hym2) rfl rfl rfl) ?_
      rintro _ _ _ ⟨Mow4, ow4, rfl, rfl⟩
      refine At.nil ?_
      refine At.then ?_
      refine At.seq ?_
      refine At.region ?_
      have hO3 : Own 33 6 ((u.ns.l.set m (⟨ym.route, ym.key, ym.left, ym.right, ⟨a5, c5, x.ps.l ++ xm.ps.l⟩, 0⟩ : Nd)).map rowN) u.ns.a u.ns.c Mow4 := by rw [set_twice (y1 := { ym with ps := ⟨a5, c5, x.ps.l ++ xm.ps.l⟩ })]; exact ow4
      refine At.freezeOwn 0 (show Own 50 2 ((x.ps.l ++ xm.ps.l).map rowP) a5 c5 M5 by simpa using ow5) rfl ?_
      refine At.know (psP (u.ns.l.set m (⟨ym.route, ym.key, ym.left, ym.right, ⟨a5, c5, x.ps.l ++ xm.ps.l⟩, 0⟩ : Nd))) (fun _ h => psP_ofX (n := (⟨ym.route, ym.key, ym.left, ym.right, ⟨a5, c5, x.ps.l ++ xm.ps.l⟩, 0⟩ : Nd)) h.2.2.2.2.1 h.1) ?_
      have hcn : (⟨ym.route, ym.key, ym.left, ym.right, ⟨a5, c5, x.ps.l ++ xm.ps.l⟩, 0⟩ : Nd).p = joinN t.p.ns i m side := by
        rw [joinN_eq hn hnm, hsd]
        simp only [Nd.p]
        rw [hmr1, hmk1, hml1, hmr2]
        simp [← hxn, ← hymn, ← hxmn, Nd.p]
        all_goals exact hymx.symm
      have hp3 := p_set1 (a := u.ns.a) (c := u.ns.c) (i := m) (m := (⟨ym.route, ym.key, ym.left, ym.right, ⟨a5, c5, x.ps.l ++ xm.ps.l⟩, 0⟩ : Nd)) hpu
      have hHS : HangsS (⟨u.root, ⟨u.ns.a, u.ns.c, u.ns.l.set m (⟨ym.route, ym.key, ym.left, ym.right, ⟨a5, c5, x.ps.l ++ xm.ps.l⟩, 0⟩ : Nd)⟩⟩ : Tr).p.ns (q : Int) y.right (s.cut i) u.root := by
        rw [hp3]
        exact join_in hs hnb hq hqr hnm hnmr (by rw [hcn]; rfl) (by rw [hsd, ← hyp]; rfl) (congrArg PT.root hpu)
      have hsm2 : small2 (u.ns.l.set m (⟨ym.route, ym.key, ym.left, ym.right, ⟨a5, c5, x.ps.l ++ xm.ps.l⟩, 0⟩ : Nd)) := small2_set (small_of_p hpu hsm) (by simp; omega)
      refine At.freezeOwn 1 hO3 rfl ?_
      refine At.quiet (q_loadS t24 rfl (RdS.loc (i := 0) rfl (m := 2) rfl) rfl) rfl ?_
      refine At.say 83 (Tr.val (⟨u.root, ⟨u.ns.a, u.ns.c, u.ns.l.set m (⟨ym.route, ym.key, ym.left, ym.right, ⟨a5, c5, x.ps.l ++ xm.ps.l⟩, 0⟩ : Nd)⟩⟩ : Tr)) rfl (by rw [set_val]; rfl) ?_
      refine At.fld s24 t3 rfl rfl rfl (Rd.loc (i := 0) rfl rfl) rfl rfl ?_
      refine At.nilSeg ?_
      refine At.skim 2 rfl rfl ?_
      refine At.call en88 rfl (copyIn88 (⟨u.root, ⟨u.ns.a, u.ns.c, u.ns.l.set m (⟨ym.route, ym.key, ym.left, ym.right, ⟨a5, c5, x.ps.l ++ xm.ps.l⟩, 0⟩ : Nd)⟩⟩ : Tr) hsm2 (q : Int) y.right (s.cut i) u.root hHS [] none 0 [] (Own.nil _ _) (by simpa using cut_few i hs)) (fun _ h => ⟨h.1, h.2.1, trivial⟩) (List.Perm.refl _) rfl ?_
      rintro _ _ _ ⟨o1, a1, c1, M1, rfl, rfl, rfl, hO1, he1⟩
      refine At.skim 1 rfl rfl ?_
      refine At.quiet (q_extract rfl rfl) rfl ?_
      refine At.quiet (q_extract rfl rfl) rfl ?_
      refine At.skim 2 rfl rfl ?_
      refine At.nil ?_
      refine At.then ?_
      refine At.seq ?_
      refine At.region ?_
      have hje := join_eq hs hlf hnb
      have hpw : (⟨0, ⟨a1, c1, [] ++ o1⟩⟩ : Tr).p = ⟨0, (s.cut i).lay (t.p.ns.set m (joinN t.p.ns i m side)) 0⟩ := by
        rw [hp3, hcn] at he1
        exact congrArg (PT.mk 0) he1
      refine At.freezeOwn 0 hO1 rfl ?_
      refine At.skim 2 rfl rfl ?_
      refine At.quiet (q_build t24 s24 rfl rfl) rfl ?_
      refine At.loudN (l_store t24 rfl rfl (i := 2) rfl rfl rfl rfl) ?_
      rintro _ _ _ ⟨rfl, rfl⟩
      refine At.skim 1 rfl rfl ?_
      refine At.nil ?_
      refine At.then ?_
      refine At.ret ?_
      exact At.results (Γr := [_, _]) (M := []) rfl (RVals.cons (RVal.cellS rfl t24 (RdS.loc (i := 2) rfl (m := 2) rfl) rfl) (RVals.cons (RVal.tmp rfl) RVals.nil)) (.tail _ (.tail _ (.tail _ (.tail _ (.tail _ (.tail _ (.tail _ (.tail _ (.tail _ (.tail _ (.head _))))))))))) (fun _ h => ⟨h.1, h.2.1, trivial⟩) (.cons _ (.cons _ (.cons _ (.refl _)))) ⟨⟨0, ⟨a1, c1, [] ++ o1⟩⟩, by rw [hje]; rfl, rfl, rfl, by rw [hje]; exact hpw⟩

set_option maxHeartbeats 1000000 in
theorem bend52 (t : Tr) (hsm : smallP t.ns.l) (p : Pol) (at_ : Int) : Con Try.prog 52 [t.val, p.val, .int .i64 at_] [ndsP t.ns, psP t.ns.l] [] (BendEnd (bendT t.p p at_)) := by
  refine Con.body 60 Try.func52 rfl Try.ntmps52 rfl fun X H₀ L₀ => ?_
  refine At.seq ?_
  refine At.region ?_
  refine At.loud (l_box rfl) rfl ?_
  rintro _ _ _ ⟨b1, rfl, rfl, rfl⟩
  refine At.freeze 0 (φ := blk b1 _) rfl (fun _ h => blk_def.2 ⟨_, _, h⟩) ?_
  refine At.loud (l_box rfl) rfl ?_
  rintro _ _ _ ⟨b2, rfl, rfl, rfl⟩
  refine At.freeze 0 (φ := blk b2 _) rfl (fun _ h => blk_def.2 ⟨_, _, h⟩) ?_
  refine At.loud (l_alloc t24) rfl ?_
  rintro _ _ _ ⟨b3, rfl, rfl, rfl⟩
  refine At.skim 1 rfl rfl ?_
  refine At.nil ?_
  refine At.then ?_
  refine At.seq ?_
  refine At.seq ?_
  refine At.region ?_
  refine At.quiet (q_loadS t24 rfl (RdS.blk (.tail _ (.head _)) (m := 2) rfl) rfl) rfl ?_
  refine At.skim 1 rfl rfl ?_
  refine At.call en78 rfl (leaf78 _ (by assumption) _) (fun _ h => ⟨h.2.2.2.1, h.2.2.2.2.1, trivial⟩) (List.Perm.refl _) rfl ?_
  rintro _ _ _ ⟨rfl, rfl, rfl⟩
  refine At.skim 1 rfl rfl ?_
  refine At.nil ?_
  refine At.then ?_
  refine At.cond rfl (fun hlf => ?_) (fun hlf => ?_)
  · skip
    refine At.know (ndsP ⟨none, 0, []⟩) (fun _ h => sl_nil _ _ _ (Nat.zero_le _)) ?_
    refine At.know (psP []) (fun _ h => psP_nil) ?_
    refine At.seq ?_
    refine At.region ?_
    refine At.quiet (q_build t24 s24 rfl rfl) rfl ?_
    refine At.loudN (l_store t24 rfl rfl (i := 0) rfl rfl rfl rfl) ?_
    rintro _ _ _ ⟨rfl, rfl⟩
    refine At.skim 1 rfl rfl ?_
    refine At.nil ?_
    refine At.then ?_
    refine At.ret ?_
    refine At.thenRet ?_
    exact At.results (Γr := [_, _]) (M := []) rfl (RVals.cons (RVal.cellS rfl t24 (RdS.loc (i := 0) rfl (m := 2) rfl) rfl) (RVals.cons (RVal.tmp rfl) RVals.nil)) (.tail _ (.tail _ (.tail _ (.tail _ (.head _))))) (fun _ h => ⟨h.2.1, h.1, trivial⟩) (.cons _ (.refl _)) ⟨⟨0, ⟨none, 0, []⟩⟩, by rw [bend_no (not_t hlf)]; rfl, rfl, rfl, by rw [bend_no (not_t hlf)]; rfl⟩
  · skip
    obtain ⟨s, i, n, hs, rfl, hn, hnr⟩ := leaf_yes (not_f hlf)
    have hil := lt_of_get hn
    obtain ⟨x, hx, hxn⟩ := p_get (u := t) rfl hn
    have hbe := bend_eq (p := p) (not_f hlf) hn
    have hxs : x.stat = n.stat := by rw [← hxn]; rfl
    refine At.know (prsP x.ps) (fun _ h => psP_get h.2.2.2.2.1 hx) ?_
    refine At.skip ?_
    refine At.then ?_
    refine At.seq ?_
    refine At.draw 7 (.q 0 (.q 1 (.q 2 (.q 3 (.q 4 (.q 5 (.q 6 (.e)))))))) _ (List.Sublist.refl _) mixed (by kernel_rfl) rfl ?_
    refine AtO.quiet rfl (q_loadS t64 rfl (RdS.blk (.tail _ (.head _)) (m := 5) rfl) rfl) rfl (Calm.then Post.calm) ?_
    refine AtO.quiet rfl (q_fieldAddr s24 rfl rfl rfl) rfl (Calm.then Post.calm) ?_
    refine AtO.quiet rfl (q_load t22 rfl (Rd.blk (.tail _ (.tail _ (.head _))) rfl)) rfl (Calm.then Post.calm) ?_
    refine AtO.quiet rfl (q_move rfl) rfl (Calm.then Post.calm) ?_
    refine AtO.quiet rfl (q_index Try.underlying22 t33 rfl (.tail _ (.tail _ (.tail _ (.tail _ (.head _))))) (by simp) rfl rfl (lt_of_get hx)) rfl (Calm.then Post.calm) ?_
    refine AtO.quiet rfl (q_fieldAddr s33 rfl rfl rfl) rfl (Calm.then Post.calm) ?_
    refine AtO.quiet rfl (q_load t3 rfl (Rd.sl (.tail _ (.tail _ (.tail _ (.tail _ (.head _))))) (map_get hx) rfl)) rfl (Calm.then Post.calm) ?_
    refine AtO.done ?_
    refine At.call en54 rfl (decide54 p x.stat) (fun _ _ => trivial) (List.Perm.refl _) rfl ?_
    rintro _ _ _ ⟨rfl, rfl, rfl⟩
    refine At.skim 1 rfl rfl ?_
    refine At.nil ?_
    refine At.then ?_
    refine At.seq ?_
    refine At.seq ?_
    refine At.region ?_
    rw [← hxs] at hbe
    refine At.quiet (q_loadS t24 rfl (RdS.blk (.tail _ (.tail _ (.head _))) (m := 2) rfl) rfl) rfl ?_
    refine At.skim 1 rfl rfl ?_
    refine At.call en49 rfl (split49 _ (by assumption) _) (fun _ h => ⟨h.2.2.2.2.1, h.2.2.2.2.2.1, trivial⟩) (List.Perm.refl _) rfl ?_
    rintro _ _ _ ⟨u, rfl, rfl, rfl, hpu⟩
    refine At.skim 1 rfl rfl ?_
    refine At.quiet (q_extract rfl rfl) rfl ?_
    refine At.quiet (q_extract rfl rfl) rfl ?_
    refine At.loud (l_alloc t24) rfl ?_
    rintro _ _ _ ⟨b4, rfl, rfl, rfl⟩
    refine At.loudN (l_store t24 rfl rfl (i := 0) rfl rfl rfl rfl) ?_
    rintro _ _ _ ⟨rfl, rfl⟩
    refine At.skim 1 rfl rfl ?_
    refine At.nil ?_
    refine At.then ?_
    refine At.seq ?_
    refine At.region ?_
    refine At.skim 2 rfl rfl ?_
    refine At.split (d := 35) rfl (fun hok => ?_) (fun hok => ?_)
    · skip
      refine At.skim 3 rfl rfl ?_
      refine At.nil ?_
      refine At.then ?_
      refine At.if rfl (fun h1 => ?_) (fun h1 => ?_)
      · skip
        refine At.seq ?_
        refine At.region ?_
        refine At.quiet (q_loadS t24 rfl (RdS.loc (i := 0) rfl (m := 2) rfl) rfl) rfl ?_
        refine At.skim 1 rfl rfl ?_
        refine At.loudN (l_store t24 rfl rfl (i := 1) rfl rfl rfl rfl) ?_
        rintro _ _ _ ⟨rfl, rfl⟩
        refine At.skim 1 rfl rfl ?_
        refine At.nil ?_
        refine At.then ?_
        refine At.ret ?_
        refine At.thenRet ?_
        exact At.results (Γr := [_, _]) (M := []) rfl (RVals.cons (RVal.cellS rfl t24 (RdS.loc (i := 1) rfl (m := 2) rfl) rfl) (RVals.cons (RVal.tmp rfl) RVals.nil)) (.tail _ (.tail _ (.tail _ (.tail _ (.tail _ (.head _)))))) (fun _ h => ⟨h.1, h.2.1, trivial⟩) (.cons _ (.cons _ (.refl _))) ⟨u, by rw [hbe, if_pos ⟨h1, hok⟩]; first | rfl | (rw [h1]; rfl) | (rw [h2]; rfl), rfl, rfl, by rw [hbe, if_pos ⟨h1, hok⟩]; exact hpu⟩
      · skip
        refine At.skip ?_
        refine At.then ?_
        refine At.seq ?_
        refine At.seq ?_
        refine At.region ?_
        refine At.quiet (q_loadS t24 rfl (RdS.blk (.tail _ (.tail _ (.tail _ (.tail _ (.head _))))) (m := 2) rfl) rfl) rfl ?_
        refine At.skim 1 rfl rfl ?_
        refine At.call en50 rfl (join50 _ (by assumption) _) (fun _ h => ⟨h.2.2.2.2.2.2.1, h.2.2.2.2.2.2.2.1, trivial⟩) (List.Perm.refl _) rfl ?_
        rintro _ _ _ ⟨v, rfl, rfl, rfl, hpv⟩
        refine At.skim 1 rfl rfl ?_
        refine At.quiet (q_extract rfl rfl) rfl ?_
        refine At.quiet (q_extract rfl rfl) rfl ?_
        refine At.loud (l_alloc t24) rfl ?_
        rintro _ _ _ ⟨b5, rfl, rfl, rfl⟩
        refine At.loudN (l_store t24 rfl rfl (i := 0) rfl rfl rfl rfl) ?_
        rintro _ _ _ ⟨rfl, rfl⟩
        refine At.skim 1 rfl rfl ?_
        refine At.nil ?_
        refine At.then ?_
        refine At.seq ?_
        refine At.region ?_
        refine At.skim 2 rfl rfl ?_
        refine At.split (d := 48) rfl (fun hok2 => ?_) (fun hok2 => ?_)
        · skip
          refine At.skim 3 rfl rfl ?_
          refine At.nil ?_
          refine At.then ?_
          refine At.if rfl (fun h2 => ?_) (fun h2 => ?_)
          · skip
            refine At.seq ?_
            refine At.region ?_
            refine At.quiet (q_loadS t24 rfl (RdS.loc (i := 0) rfl (m := 2) rfl) rfl) rfl ?_
            refine At.skim 1 rfl rfl ?_
            refine At.loudN (l_store t24 rfl rfl (i := 2) rfl rfl rfl rfl) ?_
            rintro _ _ _ ⟨rfl, rfl⟩
            refine At.skim 1 rfl rfl ?_
            refine At.nil ?_
            refine At.then ?_
            refine At.ret ?_
            refine At.thenRet ?_
            exact At.results (Γr := [_, _]) (M := []) rfl (RVals.cons (RVal.cellS rfl t24 (RdS.loc (i := 2) rfl (m := 2) rfl) rfl) (RVals.cons (RVal.tmp rfl) RVals.nil)) (.tail _ (.tail _ (.tail _ (.tail _ (.tail _ (.tail _ (.tail _ (.head _)))))))) (fun _ h => ⟨h.1, h.2.1, trivial⟩) (.cons _ (.cons _ (.cons _ (.refl _)))) ⟨v, by rw [hbe, if_neg (fun h => h1 h.1), if_pos ⟨h2, hok2⟩]; first | rfl | (rw [h1]; rfl) | (rw [h2]; rfl), rfl, rfl, by rw [hbe, if_neg (fun h => h1 h.1), if_pos ⟨h2, hok2⟩]; exact hpv⟩
          · skip
            refine At.skip ?_
            refine At.then ?_
            refine At.seq ?_
            refine At.region ?_
            refine At.quiet (q_loadS t24 rfl (RdS.blk (.tail _ (.tail _ (.tail _ (.tail _ (.tail _ (.tail _ (.head _))))))) (m := 2) rfl) rfl) rfl ?_
            refine At.call en38 rfl (plain38 _ (by assumption)) (fun _ h => ⟨h.2.2.2.2.2.2.2.2.1, h.2.2.2.2.2.2.2.2.2.1, trivial⟩) (List.Perm.refl _) rfl ?_
            rintro _ _ _ ⟨w, Mw, rfl, rfl, rfl, hw, hpw⟩
            refine At.skim 1 rfl rfl ?_
            refine At.quiet (q_extract rfl rfl) rfl ?_
            refine At.quiet (q_extract rfl rfl) rfl ?_
            refine At.loud (l_alloc t24) rfl ?_
            rintro _ _ _ ⟨b6, rfl, rfl, rfl⟩
            refine At.loudN (l_store t24 rfl rfl (i := 0) rfl rfl rfl rfl) ?_
            rintro _ _ _ ⟨rfl, rfl⟩
            refine At.skim 1 rfl rfl ?_
            refine At.nil ?_
            refine At.then ?_
            refine At.seq ?_
            refine At.region ?_
            refine At.freezeOwn 1 hw rfl ?_
            refine At.quiet (q_loadS t24 rfl (RdS.loc (i := 0) rfl (m := 2) rfl) rfl) rfl ?_
            refine At.loudN (l_store t24 rfl rfl (i := 3) rfl rfl rfl rfl) ?_
            rintro _ _ _ ⟨rfl, rfl⟩
            refine At.skim 1 rfl rfl ?_
            refine At.nil ?_
            refine At.then ?_
            refine At.ret ?_
            exact At.results (Γr := [_, _]) (M := []) rfl (RVals.cons (RVal.cellS rfl t24 (RdS.loc (i := 3) rfl (m := 2) rfl) rfl) (RVals.cons (RVal.tmp rfl) RVals.nil)) (.tail _ (.tail _ (.tail _ (.tail _ (.tail _ (.tail _ (.tail _ (.tail _ (.tail _ (.head _)))))))))) (fun _ h => ⟨h.1, h.2.1, trivial⟩) (.cons _ (.cons _ (.cons _ (.cons _ (.refl _))))) ⟨w, by rw [hbe, if_neg (fun h => h1 h.1), if_neg (fun h => h2 h.1)]; rfl, rfl, rfl, by rw [hbe, if_neg (fun h => h1 h.1), if_neg (fun h => h2 h.1)]; exact hpw⟩
        · skip
          refine At.skim 3 rfl rfl ?_
          refine At.nil ?_
          refine At.then ?_
          refine At.condF rfl ?_
          refine At.skip ?_
          refine At.then ?_
          refine At.seq ?_
          refine At.region ?_
          refine At.quiet (q_loadS t24 rfl (RdS.blk (.tail _ (.tail _ (.tail _ (.tail _ (.tail _ (.tail _ (.head _))))))) (m := 2) rfl) rfl) rfl ?_
          refine At.call en38 rfl (plain38 _ (by assumption)) (fun _ h => ⟨h.2.2.2.2.2.2.2.2.1, h.2.2.2.2.2.2.2.2.2.1, trivial⟩) (List.Perm.refl _) rfl ?_
          rintro _ _ _ ⟨w, Mw, rfl, rfl, rfl, hw, hpw⟩
          refine At.skim 1 rfl rfl ?_
          refine At.quiet (q_extract rfl rfl) rfl ?_
          refine At.quiet (q_extract rfl rfl) rfl ?_
          refine At.loud (l_alloc t24) rfl ?_
          rintro _ _ _ ⟨b7, rfl, rfl, rfl⟩
          refine At.loudN (l_store t24 rfl rfl (i := 0) rfl rfl rfl rfl) ?_
          rintro _ _ _ ⟨rfl, rfl⟩
          refine At.skim 1 rfl rfl ?_
          refine At.nil ?_
          refine At.then ?_
          refine At.seq ?_
          refine At.region ?_
          refine At.freezeOwn 1 hw rfl ?_
          refine At.quiet (q_loadS t24 rfl (RdS.loc (i := 0) rfl (m := 2) rfl) rfl) rfl ?_
          refine At.loudN (l_store t24 rfl rfl (i := 3) rfl rfl rfl rfl) ?_
          rintro _ _ _ ⟨rfl, rfl⟩
          refine At.skim 1 rfl rfl ?_
          refine At.nil ?_
          refine At.then ?_
          refine At.ret ?_
          exact At.results (Γr := [_, _]) (M := []) rfl (RVals.cons (RVal.cellS rfl t24 (RdS.loc (i := 3) rfl (m := 2) rfl) rfl) (RVals.cons (RVal.tmp rfl) RVals.nil)) (.tail _ (.tail _ (.tail _ (.tail _ (.tail _ (.tail _ (.tail _ (.tail _ (.tail _ (.head _)))))))))) (fun _ h => ⟨h.1, h.2.1, trivial⟩) (.cons _ (.cons _ (.cons _ (.cons _ (.refl _))))) ⟨w, by rw [hbe, if_neg (fun h => h1 h.1), if_neg (fun h => by rw [hok2] at h; exact absurd h.2 (by simp))]; rfl, rfl, rfl, by rw [hbe, if_neg (fun h => h1 h.1), if_neg (fun h => by rw [hok2] at h; exact absurd h.2 (by simp))]; exact hpw⟩
    · skip
      refine At.skim 3 rfl rfl ?_
      refine At.nil ?_
      refine At.then ?_
      refine At.condF rfl ?_
      refine At.skip ?_
      refine At.then ?_
      refine At.seq ?_
      refine At.seq ?_
      refine At.region ?_
      refine At.quiet (q_loadS t24 rfl (RdS.blk (.tail _ (.tail _ (.tail _ (.tail _ (.head _))))) (m := 2) rfl) rfl) rfl ?_
      refine At.skim 1 rfl rfl ?_
      refine At.call en50 rfl (join50 _ (by assumption) _) (fun _ h => ⟨h.2.2.2.2.2.2.1, h.2.2.2.2.2.2.2.1, trivial⟩) (List.Perm.refl _) rfl ?_
      rintro _ _ _ ⟨v, rfl, rfl, rfl, hpv⟩
      refine At.skim 1 rfl rfl ?_
      refine At.quiet (q_extract rfl rfl) rfl ?_
      refine At.quiet (q_extract rfl rfl) rfl ?_
      refine At.loud (l_alloc t24) rfl ?_
      rintro _ _ _ ⟨b8, rfl, rfl, rfl⟩
      refine At.loudN (l_store t24 rfl rfl (i := 0) rfl rfl rfl rfl) ?_
      rintro _ _ _ ⟨rfl, rfl⟩
      refine At.skim 1 rfl rfl ?_
      refine At.nil ?_
      refine At.then ?_
      refine At.seq ?_
      refine At.region ?_
      refine At.skim 2 rfl rfl ?_
      refine At.split (d := 48) rfl (fun hok2 => ?_) (fun hok2 => ?_)
      · skip
        refine At.skim 3 rfl rfl ?_
        refine At.nil ?_
        refine At.then ?_
        refine At.if rfl (fun h2 => ?_) (fun h2 => ?_)
        · skip
          refine At.seq ?_
          refine At.region ?_
          refine At.quiet (q_loadS t24 rfl (RdS.loc (i := 0) rfl (m := 2) rfl) rfl) rfl ?_
          refine At.skim 1 rfl rfl ?_
          refine At.loudN (l_store t24 rfl rfl (i := 2) rfl rfl rfl rfl) ?_
          rintro _ _ _ ⟨rfl, rfl⟩
          refine At.skim 1 rfl rfl ?_
          refine At.nil ?_
          refine At.then ?_
          refine At.ret ?_
          refine At.thenRet ?_
          exact At.results (Γr := [_, _]) (M := []) rfl (RVals.cons (RVal.cellS rfl t24 (RdS.loc (i := 2) rfl (m := 2) rfl) rfl) (RVals.cons (RVal.tmp rfl) RVals.nil)) (.tail _ (.tail _ (.tail _ (.tail _ (.tail _ (.tail _ (.tail _ (.head _)))))))) (fun _ h => ⟨h.1, h.2.1, trivial⟩) (.cons _ (.cons _ (.cons _ (.refl _)))) ⟨v, by rw [hbe, if_neg (fun h => by rw [hok] at h; exact absurd h.2 (by simp)), if_pos ⟨h2, hok2⟩]; first | rfl | (rw [h1]; rfl) | (rw [h2]; rfl), rfl, rfl, by rw [hbe, if_neg (fun h => by rw [hok] at h; exact absurd h.2 (by simp)), if_pos ⟨h2, hok2⟩]; exact hpv⟩
        · skip
          refine At.skip ?_
          refine At.then ?_
          refine At.seq ?_
          refine At.region ?_
          refine At.quiet (q_loadS t24 rfl (RdS.blk (.tail _ (.tail _ (.tail _ (.tail _ (.tail _ (.tail _ (.head _))))))) (m := 2) rfl) rfl) rfl ?_
          refine At.call en38 rfl (plain38 _ (by assumption)) (fun _ h => ⟨h.2.2.2.2.2.2.2.2.1, h.2.2.2.2.2.2.2.2.2.1, trivial⟩) (List.Perm.refl _) rfl ?_
          rintro _ _ _ ⟨w, Mw, rfl, rfl, rfl, hw, hpw⟩
          refine At.skim 1 rfl rfl ?_
          refine At.quiet (q_extract rfl rfl) rfl ?_
          refine At.quiet (q_extract rfl rfl) rfl ?_
          refine At.loud (l_alloc t24) rfl ?_
          rintro _ _ _ ⟨b9, rfl, rfl, rfl⟩
          refine At.loudN (l_store t24 rfl rfl (i := 0) rfl rfl rfl rfl) ?_
          rintro _ _ _ ⟨rfl, rfl⟩
          refine At.skim 1 rfl rfl ?_
          refine At.nil ?_
          refine At.then ?_
          refine At.seq ?_
          refine At.region ?_
          refine At.freezeOwn 1 hw rfl ?_
          refine At.quiet (q_loadS t24 rfl (RdS.loc (i := 0) rfl (m := 2) rfl) rfl) rfl ?_
          refine At.loudN (l_store t24 rfl rfl (i := 3) rfl rfl rfl rfl) ?_
          rintro _ _ _ ⟨rfl, rfl⟩
          refine At.skim 1 rfl rfl ?_
          refine At.nil ?_
          refine At.then ?_
          refine At.ret ?_
          exact At.results (Γr := [_, _]) (M := []) rfl (RVals.cons (RVal.cellS rfl t24 (RdS.loc (i := 3) rfl (m := 2) rfl) rfl) (RVals.cons (RVal.tmp rfl) RVals.nil)) (.tail _ (.tail _ (.tail _ (.tail _ (.tail _ (.tail _ (.tail _ (.tail _ (.tail _ (.head _)))))))))) (fun _ h => ⟨h.1, h.2.1, trivial⟩) (.cons _ (.cons _ (.cons _ (.cons _ (.refl _))))) ⟨w, by rw [hbe, if_neg (fun h => by rw [hok] at h; exact absurd h.2 (by simp)), if_neg (fun h => h2 h.1)]; rfl, rfl, rfl, by rw [hbe, if_neg (fun h => by rw [hok] at h; exact absurd h.2 (by simp)), if_neg (fun h => h2 h.1)]; exact hpw⟩
      · skip
        refine At.skim 3 rfl rfl ?_
        refine At.nil ?_
        refine At.then ?_
        refine At.condF rfl ?_
        refine At.skip ?_
        refine At.then ?_
        refine At.seq ?_
        refine At.region ?_
        refine At.quiet (q_loadS t24 rfl (RdS.blk (.tail _ (.tail _ (.tail _ (.tail _ (.tail _ (.tail _ (.head _))))))) (m := 2) rfl) rfl) rfl ?_
        refine At.call en38 rfl (plain38 _ (by assumption)) (fun _ h => ⟨h.2.2.2.2.2.2.2.2.1, h.2.2.2.2.2.2.2.2.2.1, trivial⟩) (List.Perm.refl _) rfl ?_
        rintro _ _ _ ⟨w, Mw, rfl, rfl, rfl, hw, hpw⟩
        refine At.skim 1 rfl rfl ?_
        refine At.quiet (q_extract rfl rfl) rfl ?_
        refine At.quiet (q_extract rfl rfl) rfl ?_
        refine At.loud (l_alloc t24) rfl ?_
        rintro _ _ _ ⟨b10, rfl, rfl, rfl⟩
        refine At.loudN (l_store t24 rfl rfl (i := 0) rfl rfl rfl rfl) ?_
        rintro _ _ _ ⟨rfl, rfl⟩
        refine At.skim 1 rfl rfl ?_
        refine At.nil ?_
        refine At.then ?_
        refine At.seq ?_
        refine At.region ?_
        refine At.freezeOwn 1 hw rfl ?_
        refine At.quiet (q_loadS t24 rfl (RdS.loc (i := 0) rfl (m := 2) rfl) rfl) rfl ?_
        refine At.loudN (l_store t24 rfl rfl (i := 3) rfl rfl rfl rfl) ?_
        rintro _ _ _ ⟨rfl, rfl⟩
        refine At.skim 1 rfl rfl ?_
        refine At.nil ?_
        refine At.then ?_
        refine At.ret ?_
        exact At.results (Γr := [_, _]) (M := []) rfl (RVals.cons (RVal.cellS rfl t24 (RdS.loc (i := 3) rfl (m := 2) rfl) rfl) (RVals.cons (RVal.tmp rfl) RVals.nil)) (.tail _ (.tail _ (.tail _ (.tail _ (.tail _ (.tail _ (.tail _ (.tail _ (.tail _ (.head _)))))))))) (fun _ h => ⟨h.1, h.2.1, trivial⟩) (.cons _ (.cons _ (.cons _ (.cons _ (.refl _))))) ⟨w, by rw [hbe, if_neg (fun h => by rw [hok] at h; exact absurd h.2 (by simp)), if_neg (fun h => by rw [hok2] at h; exact absurd h.2 (by simp))]; rfl, rfl, rfl, by rw [hbe, if_neg (fun h => by rw [hok] at h; exact absurd h.2 (by simp)), if_neg (fun h => by rw [hok2] at h; exact absurd h.2 (by simp))]; exact hpw⟩

end Go.Proofs.Ytmkodknmknfdkaa
