/- The walks of trees, more. -/
import Derived.Test.YtmkodknmknfdkaaB2
set_option linter.unusedVariables false
set_option linter.unusedSimpArgs false
namespace Go.Proofs.Ytmkodknmknfdkaa
open E
set_option maxRecDepth 4000

theorem t37 : tRow Try.prog 37 = some (true, 1, 24, .slice none 0 0) := by kernel_rfl
theorem t40 : tRow Try.prog 40 = some (false, 3, 56, .agg #[.int .i64 0, .slice none 0 0, .slice none 0 0]) := by kernel_rfl
theorem s40 : sRow Try.prog 40 = some [(0, 1, true), (1, 1, true), (2, 1, true)] := by kernel_rfl
theorem en21 : Enters Try.prog 21 := Enters.mk' Try.func21 rfl rfl
theorem en25 : Enters Try.prog 25 := Enters.mk' Try.func25 rfl rfl
theorem en28 : Enters Try.prog 28 := Enters.mk' Try.func28 rfl rfl
theorem en70 : Enters Try.prog 70 := Enters.mk' Try.func70 rfl rfl
theorem en75 : Enters Try.prog 75 := Enters.mk' Try.func75 rfl rfl
theorem en79 : Enters Try.prog 79 := Enters.mk' Try.func79 rfl rfl

theorem plain25 (t : Tr) (hsm : smallP t.ns.l) : Con Try.prog 25 [t.val] [ndsP t.ns, psP t.ns.l] [] (PlainEnd t) := by
  refine Con.body 13 Try.func25 rfl Try.ntmps25 rfl fun X H₀ L₀ => ?_
  refine At.seq ?_
  refine At.region ?_
  refine At.loud (l_box rfl) rfl ?_
  rintro _ _ _ ⟨b1, rfl, rfl, rfl⟩
  refine At.freeze 0 (φ := blk b1 _) rfl (fun _ h => blk_def.2 ⟨_, _, h⟩) ?_
  refine At.loud (l_alloc t24) rfl ?_
  rintro _ _ _ ⟨b2, rfl, rfl, rfl⟩
  refine At.skim 1 rfl rfl ?_
  refine At.nil ?_
  refine At.then ?_
  refine At.seq ?_
  refine At.seq ?_
  refine At.region ?_
  refine At.quiet (q_loadS t24 rfl (RdS.blk (.head _) (m := 2) rfl) rfl) rfl ?_
  refine At.call en21 rfl (may21 _) (fun _ h => ⟨h.2.2.1, h.2.2.2.1, trivial⟩) (List.Perm.refl _) rfl ?_
  rintro _ _ _ ⟨rfl, rfl, rfl⟩
  refine At.skim 1 rfl rfl ?_
  refine At.nil ?_
  refine At.then ?_
  refine At.cond rfl (fun hm => ?_) (fun hm => ?_)
  · skip
    refine At.nilSeg ?_
    refine At.know (psP []) (fun _ h => psP_nil) ?_
    refine At.seq ?_
    refine At.region ?_
    refine At.quiet (q_build t24 s24 rfl rfl) rfl ?_
    refine At.loudN (l_store t24 rfl rfl (i := 1) rfl rfl rfl rfl) ?_
    rintro _ _ _ ⟨rfl, rfl⟩
    refine At.skim 1 rfl rfl ?_
    refine At.nil ?_
    refine At.then ?_
    refine At.ret ?_
    refine At.thenRet ?_
    exact At.results (Γr := [psP []]) (M := [[]]) rfl (RVals.cons (RVal.cellS rfl t24 (RdS.loc (i := 1) rfl (m := 2) rfl) rfl) (RVals.cons (RVal.tmp rfl) RVals.nil)) (.tail _ (.tail _ (.head _))) (fun _ h => ⟨h.1, trivial⟩) (.cons_cons _ (.cons _ (.refl _))) ⟨⟨0, ⟨none, 0, []⟩⟩, [], by rw [not_t hm]; rfl, rfl, rfl, Own.nil _ _, by rw [plainD, plainT, none_of (not_t hm)]; rfl⟩
  · skip
    obtain ⟨s, hs⟩ := Option.isSome_iff_exists.1 (not_f hm)
    have hg := good_of hs
    have hsz : s.size ≤ 2000 := by have h1 := hg.size; have h2 := hg.few; omega
    refine At.nilSeg ?_
    refine At.skip ?_
    refine At.then ?_
    refine At.seq ?_
    refine At.region ?_
    refine At.quiet (q_loadS t24 rfl (RdS.blk (.head _) (m := 2) rfl) rfl) rfl ?_
    refine At.fld s24 t3 rfl rfl rfl (Rd.blk (.head _) rfl) rfl rfl ?_
    refine At.call en69 rfl (lay69 t hsm s t.root hg.hangs [] none 0 [] (Own.nil _ _) (by simp; omega)) (fun _ h => ⟨h.2.2.1, h.2.2.2.1, trivial⟩) (List.Perm.refl _) rfl ?_
    rintro _ _ _ ⟨o1, a1, c1, M1, rfl, rfl, rfl, hO, he⟩
    refine At.quiet (q_build t24 s24 rfl rfl) rfl ?_
    refine At.loudN (l_store t24 rfl rfl (i := 1) rfl rfl rfl rfl) ?_
    rintro _ _ _ ⟨rfl, rfl⟩
    refine At.skim 1 rfl rfl ?_
    refine At.nil ?_
    refine At.then ?_
    refine At.ret ?_
    exact At.results (Γr := [psP o1]) (M := [M1]) rfl (RVals.cons (RVal.cellS rfl t24 (RdS.loc (i := 1) rfl (m := 2) rfl) rfl) (RVals.cons (RVal.tmp rfl) RVals.nil)) (.tail _ (.tail _ (.head _))) (fun _ h => ⟨h.1, trivial⟩) (.cons_cons _ (.cons _ (.refl _))) ⟨⟨0, ⟨a1, c1, o1⟩⟩, M1, by rw [not_f hm]; rfl, rfl, rfl, hO, plain_some hs he⟩

theorem leaves70_step (t : Tr) (s : Sh) (ih : ∀ i l r, s = .node i l r → Lv 70 t l ∧ Lv 70 t r) : Lv 70 t s := by
  intro at_ hH o a c Mo hO hb
  refine Con.body 29 Try.func70 rfl Try.ntmps70 rfl fun X H₀ L₀ => ?_
  obtain ⟨i, x, rfl, hx, hg, hc⟩ := hH.at
  refine At.know (prsP x.ps) (fun _ h => psP_get h.2.2.1 hx) ?_
  refine At.seq ?_
  refine At.region ?_
  refine At.loud (l_box rfl) rfl ?_
  rintro _ _ _ ⟨b1, rfl, rfl, rfl⟩
  refine At.freeze 0 (φ := blk b1 _) rfl (fun _ h => blk_def.2 ⟨_, _, h⟩) ?_
  refine At.skim 1 rfl rfl ?_
  refine At.nil ?_
  refine At.then ?_
  refine At.seq ?_
  refine At.region ?_
  refine At.fld s24 t22 rfl rfl rfl (Rd.blk (.head _) rfl) rfl rfl ?_
  refine At.skim 1 rfl rfl ?_
  refine At.quiet (q_index Try.underlying22 t33 rfl (.tail _ (.tail _ (.tail _ (.head _)))) (by simp) rfl rfl (lt_of_get hx)) rfl ?_
  refine At.quiet (q_loadS t33 rfl (RdS.sl0 (.tail _ (.tail _ (.tail _ (.head _)))) (map_get hx)) rfl) rfl ?_
  refine At.loud (l_alloc t33) rfl ?_
  rintro _ _ _ ⟨b2, rfl, rfl, rfl⟩
  refine At.loudN (l_store t33 rfl rfl (i := 0) rfl rfl rfl rfl) ?_
  rintro _ _ _ ⟨rfl, rfl⟩
  refine At.nil ?_
  refine At.then ?_
  refine At.seq ?_
  refine At.seq ?_
  refine At.region ?_
  refine At.fld s33 t4 rfl rfl rfl (Rd.loc (i := 0) rfl rfl) rfl rfl ?_
  refine At.skim 1 rfl rfl ?_
  refine At.nil ?_
  refine At.then ?_
  refine At.cond rfl (fun hr => ?_) (fun hr => ?_)
  · skip
    obtain rfl : s = .leaf i := by
      rcases hc with ⟨_, h⟩ | ⟨h, _⟩
      · exact h
      · rw [show x.route = false from not_t hr] at h; cases h
    simp only [Sh.size] at hb
    refine At.seq ?_
    refine At.region ?_
    refine At.skim 2 rfl rfl ?_
    refine At.loud (l_buildSlice Try.underlying37 t3 rfl rfl rfl rfl rfl) rfl ?_
    rintro _ _ _ ⟨b3, rfl, rfl, rfl⟩
    refine At.loud (l_append rfl Try.underlying37 t3 rfl rfl hO (by simp) (i := 2) rfl rfl (news := [rowI (i : Int)]) (by simp [rowI]) (RdS.loc (i := 0) rfl (m := 1) rfl) rfl rfl rfl (by omega) (by unfold maxLen; omega)) rfl ?_
    rintro _ _ _ ⟨a1, c1, M1, rfl, ow1, rfl, rfl⟩
    refine At.skim 1 rfl rfl ?_
    refine At.nil ?_
    refine At.then ?_
    refine At.ret ?_
    refine At.thenRet ?_
    exact At.results (Γr := []) (M := [M1]) rfl (RVals.cons (RVal.tmp rfl) RVals.nil) (.tail _ (.tail _ (.head _))) (fun _ _ => trivial) (.cons _ (.cons _ (.cons_cons _ (.refl _)))) ⟨a1, c1, M1, by simp [Sh.leaves, toI, resVal], rfl, rfl, by simpa [Sh.leaves, toI] using ow1⟩
  · skip
    obtain ⟨l, r, rfl, hl, hr2⟩ : ∃ l r, s = .node i l r ∧ Hangs t.p.ns l x.left ∧ Hangs t.p.ns r x.right := by
      rcases hc with ⟨h, _⟩ | ⟨_, h⟩
      · rw [show x.route = true from not_f hr] at h; cases h
      · exact h
    obtain ⟨ih1, ih2⟩ := ih i l r rfl
    simp only [Sh.size] at hb
    have hll := leaves_len l
    refine At.skip ?_
    refine At.then ?_
    refine At.seq ?_
    refine At.draw 8 (.q 0 (.q 1 (.q 2 (.q 3 (.q 4 (.q 5 (.q 6 (.o 7 (.e))))))))) (_ :: L₀) (.cons_cons _ (.cons _ (.refl _))) mixed (by kernel_rfl) rfl ?_
    refine AtO.quiet rfl (q_loadS t24 rfl (RdS.blk (.head _) (m := 2) rfl) rfl) rfl (Calm.then Post.calm) ?_
    refine AtO.quiet rfl (q_fieldAddr s33 rfl rfl rfl) rfl (Calm.then Post.calm) ?_
    refine AtO.quiet rfl (q_load t3 rfl (Rd.loc (i := 0) rfl rfl)) rfl (Calm.then Post.calm) ?_
    refine AtO.quiet rfl (q_loadS t24 rfl (RdS.blk (.head _) (m := 2) rfl) rfl) rfl (Calm.then Post.calm) ?_
    refine AtO.quiet rfl (q_fieldAddr s33 rfl rfl rfl) rfl (Calm.then Post.calm) ?_
    refine AtO.quiet rfl (q_load t3 rfl (Rd.loc (i := 0) rfl rfl)) rfl (Calm.then Post.calm) ?_
    refine AtO.quiet rfl (q_move rfl) rfl (Calm.then Post.calm) ?_
    refine AtO.front 1 rfl ?_
    refine AtO.callA rfl en70 rfl (ih1 x.left hl o a c _ hO (by omega)) (fun _ h => ⟨h.2.2.2.1, h.2.2.2.2.1, trivial⟩) (List.Perm.refl _) rfl (.refl _) ?_
    rintro _ _ _ ⟨a1, c1, M1, rfl, rfl, rfl, hO1⟩
    refine AtO.done ?_
    refine At.call en70 rfl (ih2 x.right hr2 _ a1 c1 _ hO1 (by simp [toI]; omega)) (fun _ h => ⟨h.2.2.2.1, h.2.2.2.2.1, trivial⟩) (List.Perm.refl _) rfl ?_
    rintro _ _ _ ⟨a2, c2, M2, rfl, rfl, rfl, hO2⟩
    refine At.skim 1 rfl rfl ?_
    refine At.nil ?_
    refine At.then ?_
    refine At.ret ?_
    exact At.results (Γr := []) (M := [M2]) rfl (RVals.cons (RVal.tmp rfl) RVals.nil) (.tail _ (.tail _ (.head _))) (fun _ _ => trivial) (.cons_cons _ (.cons _ (.refl _))) ⟨a2, c2, M2, by simp only [Sh.leaves, toI_app, List.append_assoc]; rfl, rfl, rfl, by simpa only [Sh.leaves, toI_app, List.append_assoc] using hO2⟩

theorem leaves70 (t : Tr) (s : Sh) : Lv 70 t s := by
  induction s with
  | leaf i => exact leaves70_step t _ fun _ _ _ h => by cases h
  | node i l r h1 h2 => exact leaves70_step t _ fun _ _ _ h => by cases h; exact ⟨h1, h2⟩

theorem leaves79_step (t : Tr) (s : Sh) (ih : ∀ i l r, s = .node i l r → Lv 79 t l ∧ Lv 79 t r) : Lv 79 t s := by
  intro at_ hH o a c Mo hO hb
  refine Con.body 29 Try.func79 rfl Try.ntmps79 rfl fun X H₀ L₀ => ?_
  obtain ⟨i, x, rfl, hx, hg, hc⟩ := hH.at
  refine At.know (prsP x.ps) (fun _ h => psP_get h.2.2.1 hx) ?_
  refine At.seq ?_
  refine At.region ?_
  refine At.loud (l_box rfl) rfl ?_
  rintro _ _ _ ⟨b1, rfl, rfl, rfl⟩
  refine At.freeze 0 (φ := blk b1 _) rfl (fun _ h => blk_def.2 ⟨_, _, h⟩) ?_
  refine At.skim 1 rfl rfl ?_
  refine At.nil ?_
  refine At.then ?_
  refine At.seq ?_
  refine At.region ?_
  refine At.fld s24 t22 rfl rfl rfl (Rd.blk (.head _) rfl) rfl rfl ?_
  refine At.skim 1 rfl rfl ?_
  refine At.quiet (q_index Try.underlying22 t33 rfl (.tail _ (.tail _ (.tail _ (.head _)))) (by simp) rfl rfl (lt_of_get hx)) rfl ?_
  refine At.quiet (q_loadS t33 rfl (RdS.sl0 (.tail _ (.tail _ (.tail _ (.head _)))) (map_get hx)) rfl) rfl ?_
  refine At.loud (l_alloc t33) rfl ?_
  rintro _ _ _ ⟨b2, rfl, rfl, rfl⟩
  refine At.loudN (l_store t33 rfl rfl (i := 0) rfl rfl rfl rfl) ?_
  rintro _ _ _ ⟨rfl, rfl⟩
  refine At.nil ?_
  refine At.then ?_
  refine At.seq ?_
  refine At.seq ?_
  refine At.region ?_
  refine At.fld s33 t4 rfl rfl rfl (Rd.loc (i := 0) rfl rfl) rfl rfl ?_
  refine At.skim 1 rfl rfl ?_
  refine At.nil ?_
  refine At.then ?_
  refine At.cond rfl (fun hr => ?_) (fun hr => ?_)
  · skip
    obtain rfl : s = .leaf i := by
      rcases hc with ⟨_, h⟩ | ⟨h, _⟩
      · exact h
      · rw [show x.route = false from not_t hr] at h; cases h
    simp only [Sh.size] at hb
    refine At.seq ?_
    refine At.region ?_
    refine At.skim 2 rfl rfl ?_
    refine At.loud (l_buildSlice Try.underlying37 t3 rfl rfl rfl rfl rfl) rfl ?_
    rintro _ _ _ ⟨b3, rfl, rfl, rfl⟩
    refine At.loud (l_append rfl Try.underlying37 t3 rfl rfl hO (by simp) (i := 2) rfl rfl (news := [rowI (i : Int)]) (by simp [rowI]) (RdS.loc (i := 0) rfl (m := 1) rfl) rfl rfl rfl (by omega) (by unfold maxLen; omega)) rfl ?_
    rintro _ _ _ ⟨a1, c1, M1, rfl, ow1, rfl, rfl⟩
    refine At.skim 1 rfl rfl ?_
    refine At.nil ?_
    refine At.then ?_
    refine At.ret ?_
    refine At.thenRet ?_
    exact At.results (Γr := []) (M := [M1]) rfl (RVals.cons (RVal.tmp rfl) RVals.nil) (.tail _ (.tail _ (.head _))) (fun _ _ => trivial) (.cons _ (.cons _ (.cons_cons _ (.refl _)))) ⟨a1, c1, M1, by simp [Sh.leaves, toI, resVal], rfl, rfl, by simpa [Sh.leaves, toI] using ow1⟩
  · skip
    obtain ⟨l, r, rfl, hl, hr2⟩ : ∃ l r, s = .node i l r ∧ Hangs t.p.ns l x.left ∧ Hangs t.p.ns r x.right := by
      rcases hc with ⟨h, _⟩ | ⟨_, h⟩
      · rw [show x.route = true from not_f hr] at h; cases h
      · exact h
    obtain ⟨ih1, ih2⟩ := ih i l r rfl
    simp only [Sh.size] at hb
    have hll := leaves_len l
    refine At.skip ?_
    refine At.then ?_
    refine At.seq ?_
    refine At.draw 8 (.q 0 (.q 1 (.q 2 (.q 3 (.q 4 (.q 5 (.q 6 (.o 7 (.e))))))))) (_ :: L₀) (.cons_cons _ (.cons _ (.refl _))) mixed (by kernel_rfl) rfl ?_
    refine AtO.quiet rfl (q_loadS t24 rfl (RdS.blk (.head _) (m := 2) rfl) rfl) rfl (Calm.then Post.calm) ?_
    refine AtO.quiet rfl (q_fieldAddr s33 rfl rfl rfl) rfl (Calm.then Post.calm) ?_
    refine AtO.quiet rfl (q_load t3 rfl (Rd.loc (i := 0) rfl rfl)) rfl (Calm.then Post.calm) ?_
    refine AtO.quiet rfl (q_loadS t24 rfl (RdS.blk (.head _) (m := 2) rfl) rfl) rfl (Calm.then Post.calm) ?_
    refine AtO.quiet rfl (q_fieldAddr s33 rfl rfl rfl) rfl (Calm.then Post.calm) ?_
    refine AtO.quiet rfl (q_load t3 rfl (Rd.loc (i := 0) rfl rfl)) rfl (Calm.then Post.calm) ?_
    refine AtO.quiet rfl (q_move rfl) rfl (Calm.then Post.calm) ?_
    refine AtO.front 1 rfl ?_
    refine AtO.callA rfl en79 rfl (ih1 x.left hl o a c _ hO (by omega)) (fun _ h => ⟨h.2.2.2.1, h.2.2.2.2.1, trivial⟩) (List.Perm.refl _) rfl (.refl _) ?_
    rintro _ _ _ ⟨a1, c1, M1, rfl, rfl, rfl, hO1⟩
    refine AtO.done ?_
    refine At.call en79 rfl (ih2 x.right hr2 _ a1 c1 _ hO1 (by simp [toI]; omega)) (fun _ h => ⟨h.2.2.2.1, h.2.2.2.2.1, trivial⟩) (List.Perm.refl _) rfl ?_
    rintro _ _ _ ⟨a2, c2, M2, rfl, rfl, rfl, hO2⟩
    refine At.skim 1 rfl rfl ?_
    refine At.nil ?_
    refine At.then ?_
    refine At.ret ?_
    exact At.results (Γr := []) (M := [M2]) rfl (RVals.cons (RVal.tmp rfl) RVals.nil) (.tail _ (.tail _ (.head _))) (fun _ _ => trivial) (.cons_cons _ (.cons _ (.refl _))) ⟨a2, c2, M2, by simp only [Sh.leaves, toI_app, List.append_assoc]; rfl, rfl, rfl, by simpa only [Sh.leaves, toI_app, List.append_assoc] using hO2⟩

theorem leaves79 (t : Tr) (s : Sh) : Lv 79 t s := by
  induction s with
  | leaf i => exact leaves79_step t _ fun _ _ _ h => by cases h
  | node i l r h1 h2 => exact leaves79_step t _ fun _ _ _ h => by cases h; exact ⟨h1, h2⟩

theorem leaves28 (t : Tr) : Con Try.prog 28 [t.val] [ndsP t.ns, psP t.ns.l] [] (IntsEnd (toI (leavesT t.p))) := by
  refine Con.body 10 Try.func28 rfl Try.ntmps28 rfl fun X H₀ L₀ => ?_
  refine At.seq ?_
  refine At.region ?_
  refine At.loud (l_box rfl) rfl ?_
  rintro _ _ _ ⟨b1, rfl, rfl, rfl⟩
  refine At.freeze 0 (φ := blk b1 _) rfl (fun _ h => blk_def.2 ⟨_, _, h⟩) ?_
  refine At.skim 1 rfl rfl ?_
  refine At.nil ?_
  refine At.then ?_
  refine At.seq ?_
  refine At.seq ?_
  refine At.region ?_
  refine At.quiet (q_loadS t24 rfl (RdS.blk (.head _) (m := 2) rfl) rfl) rfl ?_
  refine At.call en21 rfl (may21 _) (fun _ h => ⟨h.2.2.1, h.2.2.2.1, trivial⟩) (List.Perm.refl _) rfl ?_
  rintro _ _ _ ⟨rfl, rfl, rfl⟩
  refine At.skim 1 rfl rfl ?_
  refine At.nil ?_
  refine At.then ?_
  refine At.cond rfl (fun hm => ?_) (fun hm => ?_)
  · skip
    refine At.nilSeg ?_
    refine At.seq ?_
    refine At.region ?_
    refine At.skim 1 rfl rfl ?_
    refine At.nil ?_
    refine At.then ?_
    refine At.ret ?_
    refine At.thenRet ?_
    exact At.results (Γr := []) (M := [[]]) rfl (RVals.cons (RVal.tmp rfl) RVals.nil) (.tail _ (.head _)) (fun _ _ => trivial) (.cons_cons _ (.refl _)) ⟨⟨none, 0, []⟩, [], rfl, rfl, rfl, Own.nil _ _, by rw [leavesT, none_of (not_t hm)]; rfl⟩
  · skip
    obtain ⟨s, hs⟩ := Option.isSome_iff_exists.1 (not_f hm)
    have hg := good_of hs
    have hsz : s.size ≤ 2000 := by have h1 := hg.size; have h2 := hg.few; omega
    refine At.nilSeg ?_
    refine At.skip ?_
    refine At.then ?_
    refine At.seq ?_
    refine At.region ?_
    refine At.quiet (q_loadS t24 rfl (RdS.blk (.head _) (m := 2) rfl) rfl) rfl ?_
    refine At.fld s24 t3 rfl rfl rfl (Rd.blk (.head _) rfl) rfl rfl ?_
    refine At.call en70 rfl (leaves70 t s t.root hg.hangs [] none 0 [] (Own.nil _ _) (by simp; omega)) (fun _ h => ⟨h.2.2.1, h.2.2.2.1, trivial⟩) (List.Perm.refl _) rfl ?_
    rintro _ _ _ ⟨a1, c1, M1, rfl, rfl, rfl, hO⟩
    refine At.skim 1 rfl rfl ?_
    refine At.nil ?_
    refine At.then ?_
    refine At.ret ?_
    exact At.results (Γr := []) (M := [M1]) rfl (RVals.cons (RVal.tmp rfl) RVals.nil) (.tail _ (.head _)) (fun _ _ => trivial) (.cons_cons _ (.refl _)) ⟨⟨a1, c1, toI s.leaves⟩, M1, by simp [Sl.val, resVal], rfl, rfl, by simpa using hO, by rw [leavesT, hs]⟩

theorem all29 (t : Tr) (hsm : smallP t.ns.l) : Con Try.prog 29 [t.val] [ndsP t.ns, psP t.ns.l] [] (PairsEnd (allT t.p)) := by
  refine Con.body 23 Try.func29 rfl Try.ntmps29 rfl fun X H₀ L₀ => ?_
  refine At.lenOf (hs := (.tail _ (.head _))) fun hlen => ?_
  rw [List.length_map] at hlen
  refine At.seq ?_
  refine At.region ?_
  refine At.loud (l_box rfl) rfl ?_
  rintro _ _ _ ⟨b1, rfl, rfl, rfl⟩
  refine At.freeze 0 (φ := blk b1 _) rfl (fun _ h => blk_def.2 ⟨_, _, h⟩) ?_
  refine At.skim 1 rfl rfl ?_
  refine At.nil ?_
  refine At.then ?_
  refine At.seq ?_
  refine At.region ?_
  refine At.skim 1 rfl rfl ?_
  refine At.nil ?_
  refine At.then ?_
  refine At.seq ?_
  refine At.seq ?_
  refine At.region ?_
  refine At.quiet (q_loadS t24 rfl (RdS.blk (.head _) (m := 2) rfl) rfl) rfl ?_
  refine At.call en28 rfl (leaves28 _) (fun _ h => ⟨h.2.2.1, h.2.2.2.1, trivial⟩) (List.Perm.refl _) rfl ?_
  rintro _ _ _ ⟨u, Mu, rfl, rfl, rfl, hu, hul⟩
  refine At.quiet (q_len Try.underlying37 rfl) rfl ?_
  refine At.freezeOwn 0 hu rfl ?_
  have hll := leavesT_len t.p
  have hul2 : u.l.length = (leavesT t.p).length := by rw [hul, toI_length]
  refine At.nilSeg ?_
  refine At.skim 1 rfl rfl ?_
  refine At.nil ?_
  refine At.then ?_
  refine At.block ?_
  refine At.loopK (ι := Nat × Option Addr × Nat × Seg) [3, 5, 9, 10, 11, 12, 13, 14, 15, 16, 17, 18, 19, 20, 21] (fun ⟨k, a, c, M⟩ => [(9, .int .i64 (k : Int)), (3, .slice a (outs t.p k).length c)]) (fun ⟨k, a, c, M⟩ => []) (fun ⟨k, a, c, M⟩ => [M]) _ (fun ⟨k, a, c, M⟩ => k ≤ u.l.length ∧ Own 50 2 ((outs t.p k).map rowP) a c M ∧ (outs t.p k).length ≤ k * 1000000) (fun ⟨k, a, c, M⟩ => u.l.length - k) (0, none, 0, []) ⟨Nat.zero_le _, Own.nil _ _, by simp [outs]⟩ ⟨rfl, rfl, trivial⟩ (fun _ _ => trivial) (.cons_cons _ (.refl _)) ?_
  intro i0 hI0
  obtain ⟨k, a, c, M⟩ := i0
  obtain ⟨hkl, hO, hob⟩ := hI0
  refine At.seq ?_
  refine At.region ?_
  refine At.skim 1 rfl rfl ?_
  refine At.nil ?_
  refine At.then ?_
  refine At.seq ?_
  refine At.if rfl (fun hk => ?_) (fun hk => ?_)
  · skip
    obtain ⟨i, hi⟩ := get_of_lt (l := leavesT t.p) (i := k) (by omega)
    have hui : u.l[k]? = some (i : Int) := by rw [hul]; exact toI_get hi
    obtain ⟨x, hx, _, hxg⟩ := Tr.get (leavesT_lt (List.mem_of_getElem? hi))
    have hxs := hsm x (List.mem_of_getElem? hx)
    have hst := outs_step hi hxg
    refine At.know (prsP x.ps) (fun _ h => psP_get h.2.2.2.2.1 hx) ?_
    refine At.skip ?_
    refine At.then ?_
    refine At.seq ?_
    refine At.block ?_
    refine At.seq ?_
    refine At.region ?_
    refine At.quiet (q_index Try.underlying37 t3 rfl (.tail _ (.head _)) (by simp) rfl rfl (lt_of_get hui)) rfl ?_
    refine At.quiet (q_load t3 rfl (Rd.sl0 (.tail _ (.head _)) (map_get hui) rfl)) rfl ?_
    refine At.skim 1 rfl rfl ?_
    refine At.nil ?_
    refine At.then ?_
    refine At.region ?_
    refine At.skim 1 rfl rfl ?_
    refine At.fld s24 t22 rfl rfl rfl (Rd.blk (.tail _ (.tail _ (.head _))) rfl) rfl rfl ?_
    refine At.skim 1 rfl rfl ?_
    refine At.quiet (q_index Try.underlying22 t33 rfl (.tail _ (.tail _ (.tail _ (.tail _ (.head _))))) (by simp) rfl rfl (lt_of_get hx)) rfl ?_
    refine At.fld s33 t31 rfl rfl rfl (Rd.sl (.tail _ (.tail _ (.tail _ (.tail _ (.head _))))) (map_get hx) rfl) rfl rfl ?_
    refine At.loud (l_appendSl rfl Try.underlying31 t50 rfl rfl hO (by simp) (i := 0) rfl (.head _) (by simp) (one_map (fun _ => rfl) _) rfl rfl (by omega) (by unfold maxLen; omega)) rfl ?_
    rintro _ _ _ ⟨a2, c2, M2, rfl, ow, rfl, rfl⟩
    refine At.skim 1 rfl rfl ?_
    refine At.nil ?_
    refine At.inNormal ?_
    refine At.then ?_
    refine At.region ?_
    refine At.quiet (q_add rfl rfl (by omega) (by omega)) rfl ?_
    refine At.skim 1 rfl rfl ?_
    refine At.nil ?_
    refine At.say 3 (.slice a2 (outs t.p (k + 1)).length c2) rfl (by rw [hst, List.length_append]; rfl) ?_
    refine At.then ?_
    exact At.againK (k + 1, a2, c2, M2) ⟨by omega, by rw [hst, List.map_append]; exact ow, by rw [hst, List.length_append]; show _ + x.ps.l.length ≤ _; omega⟩ (by (try dsimp only); omega) (Tells.end 18 ⟨rfl, rfl, trivial⟩ rfl rfl) (fun _ h => h.2) (.cons_cons _ (.refl _))
  · skip
    refine At.exit ?_
    refine At.thenExit ?_
    refine At.thenExit ?_
    refine At.inHere rfl ?_
    refine At.then ?_
    refine At.seq ?_
    refine At.region ?_
    refine At.skim 2 rfl rfl ?_
    refine At.nil ?_
    refine At.then ?_
    refine At.ret ?_
    exact At.results (Γr := []) (M := [M]) rfl (RVals.cons (RVal.tmp rfl) RVals.nil) (.tail _ (.tail _ (.head _))) (fun _ _ => trivial) (.cons_cons _ (.refl _)) ⟨⟨a, c, outs t.p k⟩, M, rfl, rfl, rfl, hO, outs_all (by omega)⟩

theorem find26 (t : Tr) (key : Int) : Con Try.prog 26 [t.val, .int .i64 key] [ndsP t.ns, psP t.ns.l] [] (WayEnd t key) := by
  refine Con.body 54 Try.func26 rfl Try.ntmps26 rfl fun X H₀ L₀ => ?_
  refine At.lenOf (hs := (.tail _ (.head _))) fun hlen => ?_
  rw [List.length_map] at hlen
  refine At.seq ?_
  refine At.region ?_
  refine At.loud (l_box rfl) rfl ?_
  rintro _ _ _ ⟨b1, rfl, rfl, rfl⟩
  refine At.freeze 0 (φ := blk b1 _) rfl (fun _ h => blk_def.2 ⟨_, _, h⟩) ?_
  refine At.loud (l_alloc t40) rfl ?_
  rintro _ _ _ ⟨b2, rfl, rfl, rfl⟩
  refine At.skim 1 rfl rfl ?_
  refine At.nil ?_
  refine At.then ?_
  refine At.seq ?_
  refine At.seq ?_
  refine At.region ?_
  refine At.quiet (q_loadS t24 rfl (RdS.blk (.head _) (m := 2) rfl) rfl) rfl ?_
  refine At.call en21 rfl (may21 _) (fun _ h => ⟨h.2.2.1, h.2.2.2.1, trivial⟩) (List.Perm.refl _) rfl ?_
  rintro _ _ _ ⟨rfl, rfl, rfl⟩
  refine At.skim 1 rfl rfl ?_
  refine At.nil ?_
  refine At.then ?_
  refine At.cond rfl (fun hm => ?_) (fun hm => ?_)
  · skip
    refine At.know (intsP ⟨none, 0, []⟩) (fun _ h => sl_nil _ _ _ (Nat.zero_le _)) ?_
    refine At.know (boolsP ⟨none, 0, []⟩) (fun _ h => sl_nil _ _ _ (Nat.zero_le _)) ?_
    refine At.seq ?_
    refine At.region ?_
    refine At.quiet (q_build t40 s40 rfl rfl) rfl ?_
    refine At.loudN (l_store t40 rfl rfl (i := 0) rfl rfl rfl rfl) ?_
    rintro _ _ _ ⟨rfl, rfl⟩
    refine At.skim 1 rfl rfl ?_
    refine At.nil ?_
    refine At.then ?_
    refine At.ret ?_
    refine At.thenRet ?_
    exact At.results (Γr := [intsP ⟨none, 0, []⟩, boolsP ⟨none, 0, []⟩]) (M := []) rfl (RVals.cons (RVal.cellS rfl t40 (RdS.loc (i := 0) rfl (m := 3) rfl) rfl) (RVals.cons (RVal.tmp rfl) RVals.nil)) (.tail _ (.tail _ (.tail _ (.head _)))) (fun _ h => ⟨h.2.1, h.1, trivial⟩) (.cons _ (.refl _)) ⟨⟨none, 0, []⟩, ⟨none, 0, []⟩, by rw [not_t hm, findD, findT, none_of (not_t hm)]; rfl, rfl, rfl, by rw [findD, findT, none_of (not_t hm)]; rfl, by rw [findD, findT, none_of (not_t hm)]; rfl⟩
  · skip
    obtain ⟨s, hs⟩ := Option.isSome_iff_exists.1 (not_f hm)
    have hg := good_of hs
    have hsz : s.size ≤ 2000 := by have h1 := hg.size; have h2 := hg.few; omega
    refine At.nilSeg ?_
    refine At.nilSeg ?_
    refine At.skip ?_
    refine At.then ?_
    refine At.seq ?_
    refine At.region ?_
    refine At.fld s24 t3 rfl rfl rfl (Rd.blk (.head _) rfl) rfl rfl ?_
    refine At.quiet (q_build t40 s40 rfl rfl) rfl ?_
    refine At.loud (l_alloc t40) rfl ?_
    rintro _ _ _ ⟨b3, rfl, rfl, rfl⟩
    refine At.loudN (l_store t40 rfl rfl (i := 0) rfl rfl rfl rfl) ?_
    rintro _ _ _ ⟨rfl, rfl⟩
    refine At.nil ?_
    refine At.then ?_
    refine At.seq ?_
    refine At.block ?_
    refine At.front 2 rfl ?_
    refine At.front 2 rfl ?_
    refine At.front 2 rfl ?_
    refine At.loopK (ι := Sh × Int × (Nat × List Int × Option Addr × Nat × Seg) × (Nat × List Bool × Option Addr × Nat × Seg)) [7, 8, 16, 17, 18, 19, 20, 21, 22, 23, 24, 25, 26, 27, 28, 29, 30, 31, 32, 33, 34, 35, 36, 37, 38, 39, 40, 41, 42, 43, 44, 45, 46, 47, 48, 49, 50, 51, 52] (fun ⟨s1, at_, ⟨n1, us, a1, c1, M1⟩, ⟨n2, rs, a2, c2, M2⟩⟩ => []) (fun ⟨s1, at_, ⟨n1, us, a1, c1, M1⟩, ⟨n2, rs, a2, c2, M2⟩⟩ => []) (fun ⟨s1, at_, ⟨n1, us, a1, c1, M1⟩, ⟨n2, rs, a2, c2, M2⟩⟩ => [[(b3, .cells #[.int .i64 at_, .slice a1 n1 c1, .slice a2 n2 c2] 40 (0, 0))], M1, M2]) _ (fun ⟨s1, at_, ⟨n1, us, a1, c1, M1⟩, ⟨n2, rs, a2, c2, M2⟩⟩ => Way t key s1 at_ us rs ∧ Own 3 1 (us.map rowI) a1 c1 M1 ∧ Own 4 1 (rs.map rowB) a2 c2 M2 ∧ us.length + s1.size ≤ 2000 ∧ rs.length = us.length ∧ n1 = us.length ∧ n2 = rs.length) (fun ⟨s1, at_, ⟨n1, us, a1, c1, M1⟩, ⟨n2, rs, a2, c2, M2⟩⟩ => s1.size) (s, t.root, (0, [], none, 0, []), (0, [], none, 0, [])) ⟨Way.start key hs, Own.nil _ _, Own.nil _ _, by simpa using hsz, rfl, rfl, rfl⟩ trivial (fun _ _ => trivial) (.cons_cons _ (.cons_cons _ (.cons_cons _ (.refl _)))) ?_
    intro i0 hI0
    obtain ⟨s1, at_, ⟨n1, us, a1, c1, M1⟩, ⟨n2, rs, a2, c2, M2⟩⟩ := i0
    obtain ⟨hW, hO1, hO2, hsz1, hrl, hn1, hn2⟩ := hI0
    obtain ⟨i, x, rfl, hx, hxg, hc⟩ := hW.hangs.at
    refine At.know (prsP x.ps) (fun _ h => psP_get h.2.2.2.1 hx) ?_
    refine At.seq ?_
    refine At.seq ?_
    refine At.region ?_
    refine At.fld s24 t22 rfl rfl rfl (Rd.blk (.tail _ (.head _)) rfl) rfl rfl ?_
    refine At.fld s40 t3 rfl rfl rfl (Rd.loc (i := 0) rfl rfl) rfl rfl ?_
    refine At.quiet (q_index Try.underlying22 t33 rfl (.tail _ (.tail _ (.tail _ (.head _)))) (by simp) rfl rfl (lt_of_get hx)) rfl ?_
    refine At.fld s33 t4 rfl rfl rfl (Rd.sl (.tail _ (.tail _ (.tail _ (.head _)))) (map_get hx) rfl) rfl rfl ?_
    refine At.nil ?_
    refine At.then ?_
    refine At.cond rfl (fun hr => ?_) (fun hr => ?_)
    · skip
      obtain ⟨l, r, rfl, hl, hr2⟩ : ∃ l r, s1 = .node i l r ∧ Hangs t.p.ns l x.left ∧ Hangs t.p.ns r x.right := by
        rcases hc with ⟨h, _⟩ | ⟨_, h⟩
        · rw [show x.route = true from hr] at h; cases h
        · exact h
      simp only [Sh.size] at hsz1
      have hst := hW.step hxg hl hr2
      refine At.skip ?_
      refine At.then ?_
      refine At.block ?_
      refine At.seq ?_
      refine At.region ?_
      refine At.fld s24 t22 rfl rfl rfl (Rd.blk (.tail _ (.head _)) rfl) rfl rfl ?_
      refine At.fld s40 t3 rfl rfl rfl (Rd.loc (i := 0) rfl rfl) rfl rfl ?_
      refine At.quiet (q_index Try.underlying22 t33 rfl (.tail _ (.tail _ (.tail _ (.head _)))) (by simp) rfl rfl (lt_of_get hx)) rfl ?_
      refine At.quiet (q_loadS t33 rfl (RdS.sl0 (.tail _ (.tail _ (.tail _ (.head _)))) (map_get hx)) rfl) rfl ?_
      refine At.loud (l_alloc t33) rfl ?_
      rintro _ _ _ ⟨b4, rfl, rfl, rfl⟩
      refine At.loudN (l_store t33 rfl rfl (i := 0) rfl rfl rfl rfl) ?_
      rintro _ _ _ ⟨rfl, rfl⟩
      refine At.nil ?_
      refine At.then ?_
      refine At.seq ?_
      refine At.region ?_
      refine At.skim 1 rfl rfl ?_
      refine At.fld s33 t3 rfl rfl rfl (Rd.loc (i := 0) rfl rfl) rfl rfl ?_
      refine At.skim 1 rfl rfl ?_
      refine At.skim 1 rfl rfl ?_
      refine At.nil ?_
      refine At.then ?_
      refine At.front 3 rfl ?_
      refine At.front 3 rfl ?_
      refine At.front 3 rfl ?_
      refine At.cutD (ι := (Option Addr × Nat × Seg) × (Option Addr × Nat × Seg)) (.s (.s (.s .z))) [33, 34, 35, 36, 37, 38, 39, 40, 41, 42, 43, 44, 45] (fun ⟨⟨a3, c3, M3⟩, ⟨a4, c4, M4⟩⟩ => []) (fun ⟨⟨a3, c3, M3⟩, ⟨a4, c4, M4⟩⟩ => []) (fun ⟨⟨a3, c3, M3⟩, ⟨a4, c4, M4⟩⟩ => [[(b3, .cells #[.int .i64 (i : Int), .slice a3 (n1 + 1) c3, .slice a4 (n2 + 1) c4] 40 (0, 0))], M3, M4]) (fun ⟨⟨a3, c3, M3⟩, ⟨a4, c4, M4⟩⟩ => Own 3 1 ((us ++ [(i : Int)]).map rowI) a3 c3 M3 ∧ Own 4 1 ((rs ++ [decide (x.key ≤ key)]).map rowB) a4 c4 M4) ?_ ?_
      · skip
        refine At.draw 12 (.q 0 (.q 1 (.q 2 (.q 3 (.q 6 (.q 7 (.q 8 (.t 4 (.t 5 (.q 11 (.o 9 (.o 10 (.e)))) 9 (.o 5 (.q 11 (.o 10 (.e))))) 9 (.o 4 (.o 5 (.q 11 (.o 10 (.e))))))))))))) (_ :: _ :: _ :: L₀) (.cons_cons _ (.cons _ (.cons _ (.cons_cons _ (.cons_cons _ (.refl _)))))) mixed (by kernel_rfl) rfl ?_
        refine AtO.quiet rfl (q_fieldAddr s40 rfl rfl rfl) rfl (Calm.then (Calm.inBlock (Calm.then (Calm.inBlock (Calm.then Post.calm))))) ?_
        refine AtO.quiet rfl (q_load t37 rfl (Rd.loc (i := 0) rfl rfl)) rfl (Calm.then (Calm.inBlock (Calm.then (Calm.inBlock (Calm.then Post.calm))))) ?_
        refine AtO.quiet rfl (q_fieldAddr s40 rfl rfl rfl) rfl (Calm.then (Calm.inBlock (Calm.then (Calm.inBlock (Calm.then Post.calm))))) ?_
        refine AtO.quiet rfl (q_load t3 rfl (Rd.loc (i := 0) rfl rfl)) rfl (Calm.then (Calm.inBlock (Calm.then (Calm.inBlock (Calm.then Post.calm))))) ?_
        refine AtO.quiet rfl (q_fieldAddr s40 rfl rfl rfl) rfl (Calm.then (Calm.inBlock (Calm.then (Calm.inBlock (Calm.then Post.calm))))) ?_
        refine AtO.quiet rfl (q_load t38 rfl (Rd.loc (i := 0) rfl rfl)) rfl (Calm.then (Calm.inBlock (Calm.then (Calm.inBlock (Calm.then Post.calm))))) ?_
        refine AtO.quiet rfl (q_move rfl) rfl (Calm.then (Calm.inBlock (Calm.then (Calm.inBlock (Calm.then Post.calm))))) ?_
        refine AtO.two ?_ ?_
        · skip
          refine AtO.loud rfl (l_buildSlice Try.underlying37 t3 rfl rfl rfl rfl rfl) rfl (by rintro _ _ _ ⟨_, rfl, rfl, rfl⟩; exact ⟨fun _ h => h, .cons _ (.cons_cons _ (.cons _ (.cons _ (.cons_cons _ (.cons_cons _ (.refl _))))))⟩) ?_
          rintro _ _ _ ⟨b5, rfl, rfl, rfl⟩
          refine AtO.two ?_ ?_
          · skip
            refine AtO.loud rfl (l_append rfl Try.underlying37 t3 rfl rfl hO1 (by simp; omega) (i := 2) rfl rfl (news := [rowI (i : Int)]) (by simp [rowI]) (RdS.loc (i := 0) rfl (m := 1) rfl) rfl rfl rfl (by omega) (by unfold maxLen; omega)) rfl (by rintro _ _ _ ⟨_, _, _, rfl, _, rfl, rfl⟩; exact ⟨fun _ h => h, (.cons _ (.cons_cons _ (.cons _ (.cons _ (.cons_cons _ (.cons_cons _ (.refl _)))))))⟩) ?_
            rintro _ _ _ ⟨a3, c3, M3, rfl, ow3, rfl, rfl⟩
            refine AtO.quiet rfl (q_fieldAddr s40 rfl rfl rfl) rfl (Calm.then (Calm.inBlock (Calm.then (Calm.inBlock (Calm.then Post.calm))))) ?_
            refine AtO.loud rfl (l_buildSlice Try.underlying38 t4 rfl rfl rfl rfl rfl) rfl (by rintro _ _ _ ⟨_, rfl, rfl, rfl⟩; exact ⟨fun _ h => h, .cons _ (.cons _ (.cons_cons _ (.cons _ (.cons _ (.cons_cons _ (.cons_cons _ (.refl _)))))))⟩) ?_
            rintro _ _ _ ⟨b6, rfl, rfl, rfl⟩
            refine AtO.loudA rfl (l_append rfl Try.underlying38 t4 rfl rfl hO2 (by simp; omega) (i := 4) rfl rfl (news := [rowB (decide (x.key ≤ key))]) (by simp [rowB]) (RdS.loc (i := 0) rfl (m := 1) rfl) rfl rfl rfl (by omega) (by unfold maxLen; omega)) rfl (by rintro _ _ _ ⟨_, _, _, rfl, _, rfl, rfl⟩; exact ⟨fun _ h => h, (.cons _ (.cons _ (.cons_cons _ (.cons _ (.cons _ (.cons_cons _ (.cons_cons _ (.refl _))))))))⟩) ?_
            rintro _ _ _ ⟨a4, c4, M4, rfl, ow4, rfl, rfl⟩
            refine AtO.done ?_
            refine At.loudN (l_store t37 rfl rfl (i := 2) rfl rfl rfl rfl) ?_
            rintro _ _ _ ⟨rfl, rfl⟩
            refine At.quiet (q_fieldAddr s40 rfl rfl rfl) rfl ?_
            refine At.loudN (l_store t38 rfl rfl (i := 2) rfl rfl rfl rfl) ?_
            rintro _ _ _ ⟨rfl, rfl⟩
            refine At.nil ?_
            refine At.front 4 rfl ?_
            refine At.front 4 rfl ?_
            refine At.front 4 rfl ?_
            refine At.then ?_
            exact At.meetK (⟨a3, c3, M3⟩, ⟨a4, c4, M4⟩) ⟨by simpa using ow3, by simpa using ow4⟩ (Tells.meet 13 trivial rfl rfl) (fun _ h => h) (.cons_cons _ (.cons_cons _ (.cons_cons _ (.cons _ (.cons _ (.refl _))))))
          · skip
            refine AtO.loud rfl (l_buildSlice Try.underlying38 t4 rfl rfl rfl rfl rfl) rfl (by rintro _ _ _ ⟨_, rfl, rfl, rfl⟩; exact ⟨fun _ h => h, .cons _ (.cons _ (.cons_cons _ (.cons _ (.cons _ (.cons_cons _ (.cons_cons _ (.refl _)))))))⟩) ?_
            rintro _ _ _ ⟨b7, rfl, rfl, rfl⟩
            refine AtO.loud rfl (l_append rfl Try.underlying37 t3 rfl rfl hO1 (by simp; omega) (i := 3) rfl rfl (news := [rowI (i : Int)]) (by simp [rowI]) (RdS.loc (i := 1) rfl (m := 1) rfl) rfl rfl rfl (by omega) (by unfold maxLen; omega)) rfl (by rintro _ _ _ ⟨_, _, _, rfl, _, rfl, rfl⟩; exact ⟨fun _ h => h, (.cons _ (.cons _ (.cons_cons _ (.cons _ (.cons _ (.cons_cons _ (.cons_cons _ (.refl _))))))))⟩) ?_
            rintro _ _ _ ⟨a3, c3, M3, rfl, ow3, rfl, rfl⟩
            refine AtO.quiet rfl (q_fieldAddr s40 rfl rfl rfl) rfl (Calm.then (Calm.inBlock (Calm.then (Calm.inBlock (Calm.then Post.calm))))) ?_
            refine AtO.loudA rfl (l_append rfl Try.underlying38 t4 rfl rfl hO2 (by simp; omega) (i := 4) rfl rfl (news := [rowB (decide (x.key ≤ key))]) (by simp [rowB]) (RdS.loc (i := 0) rfl (m := 1) rfl) rfl rfl rfl (by omega) (by unfold maxLen; omega)) rfl (by rintro _ _ _ ⟨_, _, _, rfl, _, rfl, rfl⟩; exact ⟨fun _ h => h, (.cons _ (.cons _ (.cons_cons _ (.cons _ (.cons _ (.cons_cons _ (.cons_cons _ (.refl _))))))))⟩) ?_
            rintro _ _ _ ⟨a4, c4, M4, rfl, ow4, rfl, rfl⟩
            refine AtO.done ?_
            refine At.loudN (l_store t37 rfl rfl (i := 2) rfl rfl rfl rfl) ?_
            rintro _ _ _ ⟨rfl, rfl⟩
            refine At.quiet (q_fieldAddr s40 rfl rfl rfl) rfl ?_
            refine At.loudN (l_store t38 rfl rfl (i := 2) rfl rfl rfl rfl) ?_
            rintro _ _ _ ⟨rfl, rfl⟩
            refine At.nil ?_
            refine At.front 4 rfl ?_
            refine At.front 4 rfl ?_
            refine At.front 4 rfl ?_
            refine At.then ?_
            exact At.meetK (⟨a3, c3, M3⟩, ⟨a4, c4, M4⟩) ⟨by simpa using ow3, by simpa using ow4⟩ (Tells.meet 13 trivial rfl rfl) (fun _ h => h) (.cons_cons _ (.cons_cons _ (.cons_cons _ (.cons _ (.cons _ (.refl _))))))
        · skip
          refine AtO.loud rfl (l_buildSlice Try.underlying38 t4 rfl rfl rfl rfl rfl) rfl (by rintro _ _ _ ⟨_, rfl, rfl, rfl⟩; exact ⟨fun _ h => h, .cons _ (.cons_cons _ (.cons _ (.cons _ (.cons_cons _ (.cons_cons _ (.refl _))))))⟩) ?_
          rintro _ _ _ ⟨b8, rfl, rfl, rfl⟩
          refine AtO.loud rfl (l_buildSlice Try.underlying37 t3 rfl rfl rfl rfl rfl) rfl (by rintro _ _ _ ⟨_, rfl, rfl, rfl⟩; exact ⟨fun _ h => h, .cons _ (.cons _ (.cons_cons _ (.cons _ (.cons _ (.cons_cons _ (.cons_cons _ (.refl _)))))))⟩) ?_
          rintro _ _ _ ⟨b9, rfl, rfl, rfl⟩
          refine AtO.loud rfl (l_append rfl Try.underlying37 t3 rfl rfl hO1 (by simp; omega) (i := 3) rfl rfl (news := [rowI (i : Int)]) (by simp [rowI]) (RdS.loc (i := 0) rfl (m := 1) rfl) rfl rfl rfl (by omega) (by unfold maxLen; omega)) rfl (by rintro _ _ _ ⟨_, _, _, rfl, _, rfl, rfl⟩; exact ⟨fun _ h => h, (.cons _ (.cons _ (.cons_cons _ (.cons _ (.cons _ (.cons_cons _ (.cons_cons _ (.refl _))))))))⟩) ?_
          rintro _ _ _ ⟨a3, c3, M3, rfl, ow3, rfl, rfl⟩
          refine AtO.quiet rfl (q_fieldAddr s40 rfl rfl rfl) rfl (Calm.then (Calm.inBlock (Calm.then (Calm.inBlock (Calm.then Post.calm))))) ?_
          refine AtO.loudA rfl (l_append rfl Try.underlying38 t4 rfl rfl hO2 (by simp; omega) (i := 4) rfl rfl (news := [rowB (decide (x.key ≤ key))]) (by simp [rowB]) (RdS.loc (i := 1) rfl (m := 1) rfl) rfl rfl rfl (by omega) (by unfold maxLen; omega)) rfl (by rintro _ _ _ ⟨_, _, _, rfl, _, rfl, rfl⟩; exact ⟨fun _ h => h, (.cons _ (.cons _ (.cons_cons _ (.cons _ (.cons _ (.cons_cons _ (.cons_cons _ (.refl _))))))))⟩) ?_
          rintro _ _ _ ⟨a4, c4, M4, rfl, ow4, rfl, rfl⟩
          refine AtO.done ?_
          refine At.loudN (l_store t37 rfl rfl (i := 2) rfl rfl rfl rfl) ?_
          rintro _ _ _ ⟨rfl, rfl⟩
          refine At.quiet (q_fieldAddr s40 rfl rfl rfl) rfl ?_
          refine At.loudN (l_store t38 rfl rfl (i := 2) rfl rfl rfl rfl) ?_
          rintro _ _ _ ⟨rfl, rfl⟩
          refine At.nil ?_
          refine At.front 4 rfl ?_
          refine At.front 4 rfl ?_
          refine At.front 4 rfl ?_
          refine At.then ?_
          exact At.meetK (⟨a3, c3, M3⟩, ⟨a4, c4, M4⟩) ⟨by simpa using ow3, by simpa using ow4⟩ (Tells.meet 13 trivial rfl rfl) (fun _ h => h) (.cons_cons _ (.cons_cons _ (.cons_cons _ (.cons _ (.cons _ (.refl _))))))
      intro j0 hMt
      obtain ⟨⟨a3, c3, M3⟩, ⟨a4, c4, M4⟩⟩ := j0
      obtain ⟨hO3, hO4⟩ := hMt
      refine At.seq ?_
      refine At.region ?_
      refine At.fld s33 t3 rfl rfl rfl (Rd.loc (i := 3) rfl rfl) rfl rfl ?_
      refine At.quiet (q_fieldAddr s40 rfl rfl rfl) rfl ?_
      refine At.loudN (l_store t3 rfl rfl (i := 0) rfl rfl rfl rfl) ?_
      rintro _ _ _ ⟨rfl, rfl⟩
      refine At.nil ?_
      refine At.then ?_
      refine At.seq ?_
      refine At.region ?_
      refine At.skim 1 rfl rfl ?_
      refine At.nil ?_
      refine At.then ?_
      refine At.if rfl (fun hk => ?_) (fun hk => ?_)
      · skip
        refine At.region ?_
        refine At.fld s33 t3 rfl rfl rfl (Rd.loc (i := 3) rfl rfl) rfl rfl ?_
        refine At.quiet (q_fieldAddr s40 rfl rfl rfl) rfl ?_
        refine At.loudN (l_store t3 rfl rfl (i := 0) rfl rfl rfl rfl) ?_
        rintro _ _ _ ⟨rfl, rfl⟩
        refine At.nil ?_
        refine At.inNormal ?_
        refine At.front 2 rfl ?_
        refine At.front 2 rfl ?_
        refine At.front 2 rfl ?_
        refine At.then ?_
        exact At.againK (r, x.right, (n1 + 1, us ++ [(i : Int)], a3, c3, M3), (n2 + 1, rs ++ [true], a4, c4, M4)) ⟨hst.2 hk, hO3, by rw [decide_eq_true hk] at hO4; exact hO4, by simp; omega, by simp [hrl], by simp [hn1], by simp [hn2]⟩ (by simp only [Sh.size]; omega) (Tells.end 26 trivial rfl rfl) (fun _ h => h.2) (.cons_cons _ (.cons_cons _ (.cons_cons _ (.cons _ (.refl _)))))
      · skip
        refine At.skip ?_
        refine At.inNormal ?_
        refine At.front 2 rfl ?_
        refine At.front 2 rfl ?_
        refine At.front 2 rfl ?_
        refine At.then ?_
        exact At.againK (l, x.left, (n1 + 1, us ++ [(i : Int)], a3, c3, M3), (n2 + 1, rs ++ [false], a4, c4, M4)) ⟨hst.1 (by omega), hO3, by rw [decide_eq_false (by omega)] at hO4; exact hO4, by simp; omega, by simp [hrl], by simp [hn1], by simp [hn2]⟩ (by simp only [Sh.size]; omega) (Tells.end 23 trivial rfl rfl) (fun _ h => h.2) (.cons_cons _ (.cons_cons _ (.cons_cons _ (.cons _ (.refl _)))))
    · skip
      obtain rfl : s1 = .leaf i := by
        rcases hc with ⟨_, h⟩ | ⟨h, _⟩
        · exact h
        · rw [show x.route = false from hr] at h; cases h
      obtain ⟨hd1, hd2, hd3⟩ := hW.done
      subst hn1
      subst hn2
      refine At.freezeOwn 1 hO1 rfl ?_
      refine At.freezeOwn 1 hO2 rfl ?_
      refine At.exit ?_
      refine At.thenExit ?_
      refine At.thenExit ?_
      refine At.inHere rfl ?_
      refine At.then ?_
      refine At.seq ?_
      refine At.region ?_
      refine At.quiet (q_loadS t40 rfl (RdS.loc (i := 0) rfl (m := 3) rfl) rfl) rfl ?_
      refine At.loudN (l_store t40 rfl rfl (i := 1) rfl rfl rfl rfl) ?_
      rintro _ _ _ ⟨rfl, rfl⟩
      refine At.skim 1 rfl rfl ?_
      refine At.nil ?_
      refine At.then ?_
      refine At.ret ?_
      exact At.results (Γr := [intsP ⟨a1, c1, us⟩, boolsP ⟨a2, c2, rs⟩]) (M := []) rfl (RVals.cons (RVal.cellS rfl t40 (RdS.loc (i := 1) rfl (m := 3) rfl) rfl) (RVals.cons (RVal.tmp rfl) RVals.nil)) (.tail _ (.tail _ (.tail _ (.tail _ (.head _))))) (fun _ h => ⟨h.2.1, h.1, trivial⟩) (.cons _ (.cons _ (.refl _))) ⟨⟨a1, c1, us⟩, ⟨a2, c2, rs⟩, by rw [not_f hm, hd1]; rfl, rfl, rfl, hd2, hd3⟩

theorem same37 (t u : Tr) (hst : smallP t.ns.l) (hsu : smallP u.ns.l) : Con Try.prog 37 [t.val, u.val] [ndsP t.ns, psP t.ns.l, ndsP u.ns, psP u.ns.l] [] (fun v Γ M => v = .bool (sameT t.p u.p) ∧ Γ = [] ∧ M = []) := by
  refine Con.body 30 Try.func37 rfl Try.ntmps37 rfl fun X H₀ L₀ => ?_
  refine At.seq ?_
  refine At.region ?_
  refine At.loud (l_box rfl) rfl ?_
  rintro _ _ _ ⟨b1, rfl, rfl, rfl⟩
  refine At.freeze 0 (φ := blk b1 _) rfl (fun _ h => blk_def.2 ⟨_, _, h⟩) ?_
  refine At.loud (l_box rfl) rfl ?_
  rintro _ _ _ ⟨b2, rfl, rfl, rfl⟩
  refine At.freeze 0 (φ := blk b2 _) rfl (fun _ h => blk_def.2 ⟨_, _, h⟩) ?_
  refine At.skim 1 rfl rfl ?_
  refine At.nil ?_
  refine At.then ?_
  refine At.seq ?_
  refine At.region ?_
  refine At.quiet (q_loadS t24 rfl (RdS.blk (.tail _ (.head _)) (m := 2) rfl) rfl) rfl ?_
  refine At.call en25 rfl (plain25 _ (by assumption)) (fun _ h => ⟨h.2.2.2.1, h.2.2.2.2.1, trivial⟩) (List.Perm.refl _) rfl ?_
  rintro _ _ _ ⟨u1, Mu1, rfl, rfl, rfl, hu1, hup1⟩
  refine At.skim 1 rfl rfl ?_
  refine At.freezeOwn 0 hu1 rfl ?_
  refine At.quiet (q_extract rfl rfl) rfl ?_
  refine At.quiet (q_extract rfl rfl) rfl ?_
  refine At.loud (l_alloc t24) rfl ?_
  rintro _ _ _ ⟨b3, rfl, rfl, rfl⟩
  refine At.loudN (l_store t24 rfl rfl (i := 0) rfl rfl rfl rfl) ?_
  rintro _ _ _ ⟨rfl, rfl⟩
  refine At.skim 1 rfl rfl ?_
  refine At.nil ?_
  refine At.then ?_
  refine At.seq ?_
  refine At.region ?_
  refine At.quiet (q_loadS t24 rfl (RdS.blk (.tail _ (.tail _ (.head _))) (m := 2) rfl) rfl) rfl ?_
  refine At.call en25 rfl (plain25 _ (by assumption)) (fun _ h => ⟨h.2.2.2.2.2.2.2.1, h.2.2.2.2.2.2.2.2.1, trivial⟩) (List.Perm.refl _) rfl ?_
  rintro _ _ _ ⟨u2, Mu2, rfl, rfl, rfl, hu2, hup2⟩
  refine At.skim 1 rfl rfl ?_
  refine At.freezeOwn 0 hu2 rfl ?_
  refine At.quiet (q_extract rfl rfl) rfl ?_
  refine At.quiet (q_extract rfl rfl) rfl ?_
  refine At.loud (l_alloc t24) rfl ?_
  rintro _ _ _ ⟨b4, rfl, rfl, rfl⟩
  refine At.loudN (l_store t24 rfl rfl (i := 0) rfl rfl rfl rfl) ?_
  rintro _ _ _ ⟨rfl, rfl⟩
  refine At.skim 1 rfl rfl ?_
  refine At.nil ?_
  refine At.then ?_
  refine At.seq ?_
  refine At.region ?_
  refine At.skim 2 rfl rfl ?_
  refine At.split (d := 20) rfl (fun h3 => ?_) (fun h3 => ?_)
  · skip
    refine At.skim 3 rfl rfl ?_
    refine At.split (d := 23) rfl (fun h4 => ?_) (fun h4 => ?_)
    · skip
      refine At.open rfl rfl ?_
      refine At.quiet (q_fieldAddr s24 rfl rfl rfl) rfl ?_
      refine At.open rfl rfl ?_
      refine At.quiet (q_load t22 rfl (Rd.loc (i := 1) rfl rfl)) rfl ?_
      refine At.open rfl rfl ?_
      refine At.quiet (q_fieldAddr s24 rfl rfl rfl) rfl ?_
      refine At.open rfl rfl ?_
      refine At.quiet (q_load t22 rfl (Rd.loc (i := 0) rfl rfl)) rfl ?_
      refine At.open rfl rfl ?_
      refine At.call en75 rfl (same75 _ _) (fun _ h => ⟨h.2.2.1, h.2.2.2.1, h.1, h.2.1, trivial⟩) (List.Perm.refl _) rfl ?_
      rintro _ _ _ ⟨rfl, rfl, rfl⟩
      refine At.skim 2 rfl rfl ?_
      refine At.nil ?_
      refine At.then ?_
      refine At.ret ?_
      exact At.results (Γr := []) (M := []) rfl (RVals.cons (RVal.tmp rfl) RVals.nil) (.tail _ (.tail _ (.tail _ (.tail _ (.tail _ (.tail _ (.head _))))))) (fun _ _ => trivial) (.cons _ (.cons _ (.refl _))) ⟨congrArg Value.bool (by simp [sameT, same_ns hup1 hup2, h3, h4]), rfl, rfl⟩
    · skip
      refine At.skim 7 rfl rfl ?_
      refine At.nil ?_
      refine At.then ?_
      refine At.ret ?_
      exact At.results (Γr := []) (M := []) rfl (RVals.cons (RVal.tmp rfl) RVals.nil) (.tail _ (.tail _ (.tail _ (.tail _ (.tail _ (.tail _ (.head _))))))) (fun _ _ => trivial) (.cons _ (.cons _ (.refl _))) ⟨congrArg Value.bool (by simp [sameT, same_ns hup1 hup2, h3, h4]), rfl, rfl⟩
  · skip
    refine At.skim 10 rfl rfl ?_
    refine At.nil ?_
    refine At.then ?_
    refine At.ret ?_
    exact At.results (Γr := []) (M := []) rfl (RVals.cons (RVal.tmp rfl) RVals.nil) (.tail _ (.tail _ (.tail _ (.tail _ (.tail _ (.tail _ (.head _))))))) (fun _ _ => trivial) (.cons _ (.cons _ (.refl _))) ⟨congrArg Value.bool (by simp [sameT, same_ns hup1 hup2, h3]), rfl, rfl⟩

theorem one31 (l : Sl Pr) (hl : l.l.length ≤ 1000000) : Con Try.prog 31 [l.val] [prsP l] [] (OneEnd l.l) := by
  refine Con.body 11 Try.func31 rfl Try.ntmps31 rfl fun X H₀ L₀ => ?_
  refine At.seq ?_
  refine At.region ?_
  refine At.loud (l_alloc t24) rfl ?_
  rintro _ _ _ ⟨b1, rfl, rfl, rfl⟩
  refine At.nil ?_
  refine At.then ?_
  refine At.seq ?_
  refine At.seq ?_
  refine At.region ?_
  refine At.skim 1 rfl rfl ?_
  refine At.call en71 rfl (may71 _) (fun _ h => ⟨h.2.1, trivial⟩) (List.Perm.refl _) rfl ?_
  rintro _ _ _ ⟨rfl, rfl, rfl⟩
  refine At.skim 1 rfl rfl ?_
  refine At.nil ?_
  refine At.then ?_
  refine At.cond rfl (fun hr => ?_) (fun hr => ?_)
  · skip
    refine At.know (prsP ⟨none, 0, []⟩) (fun _ h => sl_nil _ _ _ (Nat.zero_le _)) ?_
    refine At.region ?_
    refine At.skim 1 rfl rfl ?_
    refine At.nil ?_
    refine At.then ?_
    refine At.seq ?_
    refine At.region ?_
    refine At.skim 1 rfl rfl ?_
    refine At.call en72 rfl (clone72 ⟨none, 0, []⟩ (by simp)) (fun _ h => ⟨h.1, trivial⟩) (List.Perm.refl _) rfl ?_
    rintro _ _ _ ⟨s0, rfl, hs0, rfl, rfl⟩
    refine At.quiet (q_build t33 s33 rfl rfl) rfl ?_
    refine At.loud (l_buildSlice Try.underlying22 t33 rfl rfl rfl rfl rfl) rfl ?_
    rintro _ _ _ ⟨b2, rfl, rfl, rfl⟩
    refine At.freeze 0 (φ := ndsP ⟨some ⟨b2, 0, none⟩, 1, [⟨false, 0, 0, 0, s0, 0⟩]⟩) rfl (fun _ h => sl_of_block h rfl (by simp [rowN]) rfl (show (1 : Nat) ≤ maxLen from by decide)) ?_
    refine At.know (psP [⟨false, 0, 0, 0, s0, 0⟩]) (fun _ h => psP_cons (n := ⟨false, 0, 0, 0, s0, 0⟩) h.2.1 psP_nil) ?_
    refine At.quiet (q_build t24 s24 rfl rfl) rfl ?_
    refine At.loudN (l_store t24 rfl rfl (i := 0) rfl rfl rfl rfl) ?_
    rintro _ _ _ ⟨rfl, rfl⟩
    refine At.nil ?_
    refine At.then ?_
    refine At.ret ?_
    exact At.results (Γr := [_, _]) (M := []) rfl (RVals.cons (RVal.cellS rfl t24 (RdS.loc (i := 0) rfl (m := 2) rfl) rfl) RVals.nil) (.tail _ (.tail _ (.tail _ (.tail _ (.head _))))) (fun _ h => ⟨h.2.1, h.1, trivial⟩) (.cons _ (.refl _)) ⟨⟨0, ⟨some ⟨_, 0, none⟩, 1, [⟨false, 0, 0, 0, s0, 0⟩]⟩⟩, rfl, rfl, rfl, by simp [oneT, Tr.p, Nd.p, hs0, not_t hr]⟩
  · skip
    refine At.skip ?_
    refine At.then ?_
    refine At.seq ?_
    refine At.region ?_
    refine At.skim 1 rfl rfl ?_
    refine At.call en72 rfl (clone72 l (by simpa using hl)) (fun _ h => ⟨h.2.1, trivial⟩) (List.Perm.refl _) rfl ?_
    rintro _ _ _ ⟨s0, rfl, hs0, rfl, rfl⟩
    refine At.quiet (q_build t33 s33 rfl rfl) rfl ?_
    refine At.loud (l_buildSlice Try.underlying22 t33 rfl rfl rfl rfl rfl) rfl ?_
    rintro _ _ _ ⟨b3, rfl, rfl, rfl⟩
    refine At.freeze 0 (φ := ndsP ⟨some ⟨b3, 0, none⟩, 1, [⟨false, 0, 0, 0, s0, 0⟩]⟩) rfl (fun _ h => sl_of_block h rfl (by simp [rowN]) rfl (show (1 : Nat) ≤ maxLen from by decide)) ?_
    refine At.know (psP [⟨false, 0, 0, 0, s0, 0⟩]) (fun _ h => psP_cons (n := ⟨false, 0, 0, 0, s0, 0⟩) h.2.1 psP_nil) ?_
    refine At.quiet (q_build t24 s24 rfl rfl) rfl ?_
    refine At.loudN (l_store t24 rfl rfl (i := 0) rfl rfl rfl rfl) ?_
    rintro _ _ _ ⟨rfl, rfl⟩
    refine At.nil ?_
    refine At.then ?_
    refine At.ret ?_
    exact At.results (Γr := [_, _]) (M := []) rfl (RVals.cons (RVal.cellS rfl t24 (RdS.loc (i := 0) rfl (m := 2) rfl) rfl) RVals.nil) (.tail _ (.tail _ (.tail _ (.head _)))) (fun _ h => ⟨h.2.1, h.1, trivial⟩) (.cons _ (.refl _)) ⟨⟨0, ⟨some ⟨_, 0, none⟩, 1, [⟨false, 0, 0, 0, s0, 0⟩]⟩⟩, rfl, rfl, rfl, by simp [oneT, Tr.p, Nd.p, hs0, not_f hr]⟩

theorem top27 (p : PathS) : Con Try.prog 27 [p.val] [] [] (fun v Γ M => v = .bool (decide (p.ups.l = [])) ∧ Γ = [] ∧ M = []) := by
  refine Con.body 7 Try.func27 rfl Try.ntmps27 rfl fun X H₀ L₀ => ?_
  refine At.seq ?_
  refine At.region ?_
  refine At.loud (l_box rfl) rfl ?_
  rintro _ _ _ ⟨b1, rfl, rfl, rfl⟩
  refine At.freeze 0 (φ := blk b1 _) rfl (fun _ h => blk_def.2 ⟨_, _, h⟩) ?_
  refine At.skim 1 rfl rfl ?_
  refine At.nil ?_
  refine At.then ?_
  refine At.seq ?_
  refine At.region ?_
  refine At.fld s40 t37 rfl rfl rfl (Rd.blk (.head _) rfl) rfl rfl ?_
  refine At.quiet (q_len Try.underlying37 rfl) rfl ?_
  refine At.skim 2 rfl rfl ?_
  refine At.nil ?_
  refine At.then ?_
  refine At.ret ?_
  exact At.results (Γr := []) (M := []) rfl (RVals.cons (RVal.tmp rfl) RVals.nil) (.tail _ (.head _)) (fun _ _ => trivial) (.refl _) ⟨congrArg Value.bool (decide_len_zero p.ups.l), rfl, rfl⟩

theorem right32 (p : PathS) : Con Try.prog 32 [p.val] [boolsP p.rights] [] (fun v Γ M => v = .bool (p.rights.l.getLast?.getD false) ∧ Γ = [] ∧ M = []) := by
  refine Con.body 17 Try.func32 rfl Try.ntmps32 rfl fun X H₀ L₀ => ?_
  refine At.lenOf (hs := (.tail _ (.head _))) fun hlen => ?_
  rw [List.length_map] at hlen
  refine At.seq ?_
  refine At.region ?_
  refine At.loud (l_box rfl) rfl ?_
  rintro _ _ _ ⟨b1, rfl, rfl, rfl⟩
  refine At.freeze 0 (φ := blk b1 _) rfl (fun _ h => blk_def.2 ⟨_, _, h⟩) ?_
  refine At.skim 1 rfl rfl ?_
  refine At.nil ?_
  refine At.then ?_
  refine At.seq ?_
  refine At.region ?_
  refine At.fld s40 t38 rfl rfl rfl (Rd.blk (.head _) rfl) rfl rfl ?_
  refine At.quiet (q_len Try.underlying38 rfl) rfl ?_
  refine At.quiet (q_sub rfl rfl (by omega) (by omega)) rfl ?_
  refine At.skim 1 rfl rfl ?_
  refine At.nil ?_
  refine At.then ?_
  refine At.seq ?_
  refine At.region ?_
  refine At.skim 3 rfl rfl ?_
  refine At.splitP (d := 10) rfl (fun h0 => ?_) (fun h0 => ?_)
  · skip
    obtain ⟨j, hj⟩ : ∃ j : Nat, p.rights.l.length = j + 1 := ⟨p.rights.l.length - 1, by omega⟩
    obtain ⟨x, hx⟩ := get_of_lt (l := p.rights.l) (i := j) (by omega)
    refine At.open rfl rfl ?_
    refine At.quiet (q_fieldAddr s40 rfl rfl rfl) rfl ?_
    refine At.open rfl rfl ?_
    refine At.quiet (q_load t38 rfl (Rd.blk (.head _) rfl)) rfl ?_
    refine At.skim 1 rfl rfl ?_
    refine At.open rfl rfl ?_
    refine At.quiet (q_index Try.underlying38 t4 rfl (.tail _ (.tail _ (.head _))) (by simp) rfl (by omega) (lt_of_get hx)) rfl ?_
    refine At.open rfl rfl ?_
    refine At.quiet (q_load t4 rfl (Rd.sl0 (.tail _ (.tail _ (.head _))) (map_get hx) rfl)) rfl ?_
    refine At.skim 2 rfl rfl ?_
    refine At.nil ?_
    refine At.then ?_
    refine At.ret ?_
    exact At.results (Γr := []) (M := []) rfl (RVals.cons (RVal.tmp rfl) RVals.nil) (.tail _ (.head _)) (fun _ _ => trivial) (.refl _) ⟨congrArg Value.bool (last_get hj hx), rfl, rfl⟩
  · skip
    refine At.skim 7 rfl rfl ?_
    refine At.nil ?_
    refine At.then ?_
    refine At.ret ?_
    exact At.results (Γr := []) (M := []) rfl (RVals.cons (RVal.tmp rfl) RVals.nil) (.tail _ (.head _)) (fun _ _ => trivial) (.refl _) ⟨congrArg Value.bool (by rw [List.eq_nil_of_length_eq_zero (l := p.rights.l) (by omega)]; rfl), rfl, rfl⟩

theorem light20 (t : Tr) (hsm : ∀ n ∈ t.ns.l, n.ps.l.length ≤ 8796093022208) : Con Try.prog 20 [t.val] [ndsP t.ns] [] (fun v Γ M => v = .int .i64 (if lightT t.p then 0 else 1) ∧ Γ = [] ∧ M = []) := by
  refine Con.body 27 Try.func20 rfl Try.ntmps20 rfl fun X H₀ L₀ => ?_
  refine At.lenOf (hs := (.tail _ (.head _))) fun hlen => ?_
  rw [List.length_map] at hlen
  refine At.seq ?_
  refine At.region ?_
  refine At.loud (l_box rfl) rfl ?_
  rintro _ _ _ ⟨b1, rfl, rfl, rfl⟩
  refine At.freeze 0 (φ := blk b1 _) rfl (fun _ h => blk_def.2 ⟨_, _, h⟩) ?_
  refine At.skim 1 rfl rfl ?_
  refine At.nil ?_
  refine At.then ?_
  refine At.seq ?_
  refine At.region ?_
  refine At.skim 1 rfl rfl ?_
  refine At.nil ?_
  refine At.then ?_
  refine At.seq ?_
  refine At.seq ?_
  refine At.region ?_
  refine At.fld s24 t22 rfl rfl rfl (Rd.blk (.head _) rfl) rfl rfl ?_
  refine At.quiet (q_len Try.underlying22 rfl) rfl ?_
  refine At.skim 1 rfl rfl ?_
  refine At.nil ?_
  refine At.then ?_
  refine At.block ?_
  refine At.loopK (ι := Nat) [3, 5, 9, 10, 11, 12, 13, 14, 15, 16, 17, 18] (fun k => [(9, .int .i64 (k : Int)), (3, .int .i64 (IntKind.i64.wrap (pairsUpto t.p.ns k : Nat)))]) (fun k => []) (fun k => []) _ (fun k => k ≤ t.ns.l.length) (fun k => t.ns.l.length - k) 0 (Nat.zero_le _) ⟨rfl, rfl, trivial⟩ (fun _ _ => trivial) (.refl _) ?_
  intro k hk0
  refine At.seq ?_
  refine At.region ?_
  refine At.skim 1 rfl rfl ?_
  refine At.nil ?_
  refine At.then ?_
  refine At.seq ?_
  refine At.if rfl (fun hk => ?_) (fun hk => ?_)
  · skip
    obtain ⟨x, hx⟩ := get_of_lt (l := t.ns.l) (i := k) (by omega)
    have hk1 := lt_of_get hx
    have hxp : t.p.ns[k]? = some x.p := map_get hx
    refine At.skip ?_
    refine At.then ?_
    refine At.seq ?_
    refine At.block ?_
    refine At.seq ?_
    refine At.region ?_
    refine At.quiet (q_index Try.underlying22 t33 rfl (.tail _ (.tail _ (.head _))) (by simp) rfl rfl (lt_of_get hx)) rfl ?_
    refine At.quiet (q_loadS t33 rfl (RdS.sl0 (.tail _ (.tail _ (.head _))) (map_get hx)) rfl) rfl ?_
    refine At.loud (l_alloc t33) rfl ?_
    rintro _ _ _ ⟨b2, rfl, rfl, rfl⟩
    refine At.loudN (l_store t33 rfl rfl (i := 0) rfl rfl rfl rfl) ?_
    rintro _ _ _ ⟨rfl, rfl⟩
    refine At.nil ?_
    refine At.then ?_
    refine At.region ?_
    refine At.skim 1 rfl rfl ?_
    refine At.fld s33 t31 rfl rfl rfl (Rd.loc (i := 0) rfl rfl) rfl rfl ?_
    refine At.quiet (q_len Try.underlying31 rfl) rfl ?_
    refine At.quiet (q_addK rfl rfl) rfl ?_
    refine At.skim 1 rfl rfl ?_
    refine At.nil ?_
    refine At.inNormal ?_
    refine At.then ?_
    refine At.region ?_
    refine At.quiet (q_add rfl rfl (by omega) (by omega)) rfl ?_
    refine At.skim 1 rfl rfl ?_
    refine At.nil ?_
    refine At.say 3 (.int .i64 (IntKind.i64.wrap (pairsUpto t.p.ns (k + 1) : Nat))) rfl (by rw [wrap_add, pairs_step hxp]; rfl) ?_
    refine At.then ?_
    exact At.againK (k + 1) hk1 (by (try dsimp only); omega) (Tells.end 15 ⟨rfl, rfl, trivial⟩ rfl rfl) (fun _ h => h) (.cons _ (.refl _))
  · skip
    obtain rfl : k = t.ns.l.length := by omega
    have hN : t.p.ns.length = t.ns.l.length := by simp [Tr.p]
    have hple := pairs_le (l := t.p.ns) (b := 8796093022208) (fun n hn => by obtain ⟨x, hx, rfl⟩ := List.mem_map.1 hn; exact hsm x hx) t.ns.l.length (by omega)
    refine At.exit ?_
    refine At.thenExit ?_
    refine At.thenExit ?_
    refine At.inHere rfl ?_
    refine At.then ?_
    refine At.seq ?_
    refine At.seq ?_
    refine At.region ?_
    refine At.fld s24 t22 rfl rfl rfl (Rd.blk (.head _) rfl) rfl rfl ?_
    refine At.quiet (q_len Try.underlying22 rfl) rfl ?_
    refine At.skim 2 rfl rfl ?_
    refine At.splitP (d := 23) rfl (fun hn2 => ?_) (fun hn2 => ?_)
    · skip
      refine At.skim 3 rfl rfl ?_
      refine At.nil ?_
      refine At.then ?_
      refine At.condT rfl ?_
      refine At.seq ?_
      refine At.region ?_
      refine At.skim 1 rfl rfl ?_
      refine At.nil ?_
      refine At.then ?_
      refine At.ret ?_
      refine At.thenRet ?_
      exact At.results (Γr := []) (M := []) rfl (RVals.cons (RVal.tmp rfl) RVals.nil) (.tail _ (.head _)) (fun _ _ => trivial) (.refl _) ⟨congrArg (Value.int .i64) (by simp only [lightT, hN]; rw [decide_eq_false (by omega)]; rfl), rfl, rfl⟩
    · skip
      have hw : IntKind.i64.wrap (pairsUpto t.p.ns t.ns.l.length : Nat) = (pairsUpto t.p.ns t.ns.l.length : Nat) := wrapI (by omega) (by omega)
      refine At.skim 3 rfl rfl ?_
      refine At.nil ?_
      refine At.then ?_
      refine At.if rfl (fun hp2 => ?_) (fun hp2 => ?_)
      · skip
        refine At.seq ?_
        refine At.region ?_
        refine At.skim 1 rfl rfl ?_
        refine At.nil ?_
        refine At.then ?_
        refine At.ret ?_
        refine At.thenRet ?_
        exact At.results (Γr := []) (M := []) rfl (RVals.cons (RVal.tmp rfl) RVals.nil) (.tail _ (.head _)) (fun _ _ => trivial) (.refl _) ⟨congrArg (Value.int .i64) (by simp only [lightT, hN]; rw [decide_eq_true (p := t.ns.l.length ≤ 450) (by omega), decide_eq_false (by omega)]; rfl), rfl, rfl⟩
      · skip
        refine At.skip ?_
        refine At.then ?_
        refine At.seq ?_
        refine At.region ?_
        refine At.skim 1 rfl rfl ?_
        refine At.nil ?_
        refine At.then ?_
        refine At.ret ?_
        exact At.results (Γr := []) (M := []) rfl (RVals.cons (RVal.tmp rfl) RVals.nil) (.tail _ (.head _)) (fun _ _ => trivial) (.refl _) ⟨congrArg (Value.int .i64) (by simp only [lightT, hN]; rw [decide_eq_true (p := t.ns.l.length ≤ 450) (by omega), decide_eq_true (by omega)]; rfl), rfl, rfl⟩

end Go.Proofs.Ytmkodknmknfdkaa
