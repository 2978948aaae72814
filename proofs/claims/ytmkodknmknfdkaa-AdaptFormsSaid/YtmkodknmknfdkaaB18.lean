/- The walks of policies and stats; Bend. -/
import Derived.Test.YtmkodknmknfdkaaB15
import Derived.Test.YtmkodknmknfdkaaP19
set_option linter.unusedVariables false
set_option linter.unusedSimpArgs false
namespace Go.Proofs.Ytmkodknmknfdkaa
open E
set_option maxRecDepth 4000

theorem t64 : tRow Try.prog 64 = some (false, 5, 40, .agg #[.int .i64 0, .int .i64 0, .int .i64 0, .int .i64 0, .int .i64 0]) := by kernel_rfl
theorem s64 : sRow Try.prog 64 = some [(0, 1, true), (1, 1, true), (2, 1, true), (3, 1, true), (4, 1, true)] := by kernel_rfl
theorem en45 : Enters Try.prog 45 := Enters.mk' Try.func45 rfl rfl
theorem en89 : Enters Try.prog 89 := Enters.mk' Try.func89 rfl rfl
theorem en90 : Enters Try.prog 90 := Enters.mk' Try.func90 rfl rfl
theorem en91 : Enters Try.prog 91 := Enters.mk' Try.func91 rfl rfl
theorem en111 : Enters Try.prog 111 := Enters.mk' Try.func111 rfl rfl
theorem en112 : Enters Try.prog 112 := Enters.mk' Try.func112 rfl rfl
theorem en117 : Enters Try.prog 117 := Enters.mk' Try.func117 rfl rfl

theorem held117 (n lo hi : Int) : Con Try.prog 117 [.int .i64 n, .int .i64 lo, .int .i64 hi] [] [] (fun v Γ M => v = .int .i64 (hold n lo hi) ∧ Γ = [] ∧ M = []) := by
  refine Con.body 12 Try.func117 rfl Try.ntmps117 rfl fun X H₀ L₀ => ?_
  refine At.seq ?_
  refine At.region ?_
  refine At.skim 1 rfl rfl ?_
  refine At.nil ?_
  refine At.then ?_
  refine At.seq ?_
  refine At.region ?_
  refine At.skim 2 rfl rfl ?_
  refine At.quiet (q_max rfl rfl) rfl ?_
  refine At.skim 1 rfl rfl ?_
  refine At.quiet (q_min rfl rfl) rfl ?_
  refine At.skim 1 rfl rfl ?_
  refine At.nil ?_
  refine At.then ?_
  refine At.ret ?_
  exact At.results (Γr := []) (M := []) rfl (RVals.cons (RVal.tmp rfl) RVals.nil) (.head _) (fun _ _ => trivial) (.refl _) ⟨rfl, rfl, rfl⟩

theorem hold91 (n lo hi : Int) (h : lo ≤ hi) : Con Try.prog 91 [.int .i64 n, .int .i64 lo, .int .i64 hi] [] [] (fun v Γ M => v = .int .i64 (hold n lo hi) ∧ Γ = [] ∧ M = []) := by
  refine Con.body 12 Try.func91 rfl Try.ntmps91 rfl fun X H₀ L₀ => ?_
  refine At.seq ?_
  refine At.region ?_
  refine At.skim 1 rfl rfl ?_
  refine At.nil ?_
  refine At.then ?_
  refine At.seq ?_
  refine At.region ?_
  refine At.skim 3 rfl rfl ?_
  refine At.quiet (q_min rfl rfl) rfl ?_
  refine At.quiet (q_max rfl rfl) rfl ?_
  refine At.skim 1 rfl rfl ?_
  refine At.nil ?_
  refine At.then ?_
  refine At.ret ?_
  exact At.results (Γr := []) (M := []) rfl (RVals.cons (RVal.tmp rfl) RVals.nil) (.head _) (fun _ _ => trivial) (.refl _) ⟨by simp only [resVal, hold_other n lo hi h], rfl, rfl⟩

theorem held112 (n : Int) : Con Try.prog 112 [.int .i64 n] [] [] (fun v Γ M => v = .int .i64 (heldS n) ∧ Γ = [] ∧ M = []) := by
  refine Con.body 6 Try.func112 rfl Try.ntmps112 rfl fun X H₀ L₀ => ?_
  refine At.seq ?_
  refine At.region ?_
  refine At.skim 1 rfl rfl ?_
  refine At.nil ?_
  refine At.then ?_
  refine At.seq ?_
  refine At.region ?_
  refine At.skim 1 rfl rfl ?_
  refine At.quiet (q_max rfl rfl) rfl ?_
  refine At.quiet (q_min rfl rfl) rfl ?_
  refine At.skim 1 rfl rfl ?_
  refine At.nil ?_
  refine At.then ?_
  refine At.ret ?_
  exact At.results (Γr := []) (M := []) rfl (RVals.cons (RVal.tmp rfl) RVals.nil) (.head _) (fun _ _ => trivial) (.refl _) ⟨rfl, rfl, rfl⟩

theorem clamp111 (p : Pol) : Con Try.prog 111 [p.val] [] [] (fun v Γ M => v = p.clamp.val ∧ Γ = [] ∧ M = []) := by
  refine Con.body 19 Try.func111 rfl Try.ntmps111 rfl fun X H₀ L₀ => ?_
  refine At.seq ?_
  refine At.region ?_
  refine At.loud (l_box rfl) rfl ?_
  rintro _ _ _ ⟨b1, rfl, rfl, rfl⟩
  refine At.freeze 0 (φ := blk b1 _) rfl (fun _ h => blk_def.2 ⟨_, _, h⟩) ?_
  refine At.loud (l_alloc t64) rfl ?_
  rintro _ _ _ ⟨b2, rfl, rfl, rfl⟩
  refine At.nil ?_
  refine At.then ?_
  refine At.seq ?_
  refine At.draw 14 (.q 0 (.q 1 (.q 3 (.q 4 (.q 6 (.q 7 (.q 9 (.q 10 (.q 12 (.q 13 (.o 2 (.o 5 (.o 8 (.o 11 (.e))))))))))))))) _ (List.Sublist.refl _) mixed (by kernel_rfl) rfl ?_
  refine AtO.quiet rfl (q_fieldAddr s64 rfl rfl rfl) rfl (Calm.then Post.calm) ?_
  refine AtO.quiet rfl (q_load t3 rfl (Rd.blk (.head _) rfl)) rfl (Calm.then Post.calm) ?_
  refine AtO.quiet rfl (q_fieldAddr s64 rfl rfl rfl) rfl (Calm.then Post.calm) ?_
  refine AtO.quiet rfl (q_load t3 rfl (Rd.blk (.head _) rfl)) rfl (Calm.then Post.calm) ?_
  refine AtO.quiet rfl (q_fieldAddr s64 rfl rfl rfl) rfl (Calm.then Post.calm) ?_
  refine AtO.quiet rfl (q_load t3 rfl (Rd.blk (.head _) rfl)) rfl (Calm.then Post.calm) ?_
  refine AtO.quiet rfl (q_fieldAddr s64 rfl rfl rfl) rfl (Calm.then Post.calm) ?_
  refine AtO.quiet rfl (q_load t3 rfl (Rd.blk (.head _) rfl)) rfl (Calm.then Post.calm) ?_
  refine AtO.quiet rfl (q_fieldAddr s64 rfl rfl rfl) rfl (Calm.then Post.calm) ?_
  refine AtO.quiet rfl (q_load t3 rfl (Rd.blk (.head _) rfl)) rfl (Calm.then Post.calm) ?_
  refine AtO.callA rfl en117 rfl (held117 _ _ _) (fun _ _ => trivial) (List.Perm.refl _) rfl (.refl _) ?_
  rintro _ _ _ ⟨rfl, rfl, rfl⟩
  refine AtO.callA rfl en117 rfl (held117 _ _ _) (fun _ _ => trivial) (List.Perm.refl _) rfl (.refl _) ?_
  rintro _ _ _ ⟨rfl, rfl, rfl⟩
  refine AtO.callA rfl en117 rfl (held117 _ _ _) (fun _ _ => trivial) (List.Perm.refl _) rfl (.refl _) ?_
  rintro _ _ _ ⟨rfl, rfl, rfl⟩
  refine AtO.callA rfl en117 rfl (held117 _ _ _) (fun _ _ => trivial) (List.Perm.refl _) rfl (.refl _) ?_
  rintro _ _ _ ⟨rfl, rfl, rfl⟩
  refine AtO.done ?_
  refine At.call en117 rfl (held117 _ _ _) (fun _ _ => trivial) (List.Perm.refl _) rfl ?_
  rintro _ _ _ ⟨rfl, rfl, rfl⟩
  refine At.quiet (q_build t64 s64 rfl rfl) rfl ?_
  refine At.loudN (l_store t64 rfl rfl (i := 0) rfl rfl rfl rfl) ?_
  rintro _ _ _ ⟨rfl, rfl⟩
  refine At.nil ?_
  refine At.then ?_
  refine At.ret ?_
  exact At.results (Γr := []) (M := []) rfl (RVals.cons (RVal.cellS rfl t64 (RdS.loc (i := 0) rfl (m := 5) rfl) rfl) RVals.nil) (.tail _ (.head _)) (fun _ _ => trivial) (.cons _ (.refl _)) ⟨rfl, rfl, rfl⟩

theorem clamp90 (p : Pol) : Con Try.prog 90 [p.val] [] [] (fun v Γ M => v = p.clamp.val ∧ Γ = [] ∧ M = []) := by
  refine Con.body 19 Try.func90 rfl Try.ntmps90 rfl fun X H₀ L₀ => ?_
  refine At.seq ?_
  refine At.region ?_
  refine At.loud (l_box rfl) rfl ?_
  rintro _ _ _ ⟨b1, rfl, rfl, rfl⟩
  refine At.freeze 0 (φ := blk b1 _) rfl (fun _ h => blk_def.2 ⟨_, _, h⟩) ?_
  refine At.loud (l_alloc t64) rfl ?_
  rintro _ _ _ ⟨b2, rfl, rfl, rfl⟩
  refine At.nil ?_
  refine At.then ?_
  refine At.seq ?_
  refine At.draw 14 (.q 0 (.q 1 (.q 3 (.q 4 (.q 6 (.q 7 (.q 9 (.q 10 (.q 12 (.q 13 (.o 2 (.o 5 (.o 8 (.o 11 (.e))))))))))))))) _ (List.Sublist.refl _) mixed (by kernel_rfl) rfl ?_
  refine AtO.quiet rfl (q_fieldAddr s64 rfl rfl rfl) rfl (Calm.then Post.calm) ?_
  refine AtO.quiet rfl (q_load t3 rfl (Rd.blk (.head _) rfl)) rfl (Calm.then Post.calm) ?_
  refine AtO.quiet rfl (q_fieldAddr s64 rfl rfl rfl) rfl (Calm.then Post.calm) ?_
  refine AtO.quiet rfl (q_load t3 rfl (Rd.blk (.head _) rfl)) rfl (Calm.then Post.calm) ?_
  refine AtO.quiet rfl (q_fieldAddr s64 rfl rfl rfl) rfl (Calm.then Post.calm) ?_
  refine AtO.quiet rfl (q_load t3 rfl (Rd.blk (.head _) rfl)) rfl (Calm.then Post.calm) ?_
  refine AtO.quiet rfl (q_fieldAddr s64 rfl rfl rfl) rfl (Calm.then Post.calm) ?_
  refine AtO.quiet rfl (q_load t3 rfl (Rd.blk (.head _) rfl)) rfl (Calm.then Post.calm) ?_
  refine AtO.quiet rfl (q_fieldAddr s64 rfl rfl rfl) rfl (Calm.then Post.calm) ?_
  refine AtO.quiet rfl (q_load t3 rfl (Rd.blk (.head _) rfl)) rfl (Calm.then Post.calm) ?_
  refine AtO.callA rfl en91 rfl (hold91 _ _ _ (by omega)) (fun _ _ => trivial) (List.Perm.refl _) rfl (.refl _) ?_
  rintro _ _ _ ⟨rfl, rfl, rfl⟩
  refine AtO.callA rfl en91 rfl (hold91 _ _ _ (by omega)) (fun _ _ => trivial) (List.Perm.refl _) rfl (.refl _) ?_
  rintro _ _ _ ⟨rfl, rfl, rfl⟩
  refine AtO.callA rfl en91 rfl (hold91 _ _ _ (by omega)) (fun _ _ => trivial) (List.Perm.refl _) rfl (.refl _) ?_
  rintro _ _ _ ⟨rfl, rfl, rfl⟩
  refine AtO.callA rfl en91 rfl (hold91 _ _ _ (by omega)) (fun _ _ => trivial) (List.Perm.refl _) rfl (.refl _) ?_
  rintro _ _ _ ⟨rfl, rfl, rfl⟩
  refine AtO.done ?_
  refine At.call en91 rfl (hold91 _ _ _ (by omega)) (fun _ _ => trivial) (List.Perm.refl _) rfl ?_
  rintro _ _ _ ⟨rfl, rfl, rfl⟩
  refine At.quiet (q_build t64 s64 rfl rfl) rfl ?_
  refine At.loudN (l_store t64 rfl rfl (i := 0) rfl rfl rfl rfl) ?_
  rintro _ _ _ ⟨rfl, rfl⟩
  refine At.nil ?_
  refine At.then ?_
  refine At.ret ?_
  exact At.results (Γr := []) (M := []) rfl (RVals.cons (RVal.cellS rfl t64 (RdS.loc (i := 0) rfl (m := 5) rfl) rfl) RVals.nil) (.tail _ (.head _)) (fun _ _ => trivial) (.cons _ (.refl _)) ⟨rfl, rfl, rfl⟩

theorem decide89 (p : Pol) (s : Int) : Con Try.prog 89 [p.val, .int .i64 s] [] [] (fun v Γ M => v = .int .i64 (decideS p s) ∧ Γ = [] ∧ M = []) := by
  refine Con.body 19 Try.func89 rfl Try.ntmps89 rfl fun X H₀ L₀ => ?_
  refine At.seq ?_
  refine At.region ?_
  refine At.loud (l_box rfl) rfl ?_
  rintro _ _ _ ⟨b1, rfl, rfl, rfl⟩
  refine At.skim 1 rfl rfl ?_
  refine At.nil ?_
  refine At.then ?_
  refine At.seq ?_
  refine At.region ?_
  refine At.quiet (q_loadS t64 rfl (RdS.loc (i := 0) rfl (m := 5) rfl) rfl) rfl ?_
  refine At.call en111 rfl (clamp111 p) (fun _ _ => trivial) (List.Perm.refl _) rfl ?_
  rintro _ _ _ ⟨rfl, rfl, rfl⟩
  refine At.skim 1 rfl rfl ?_
  refine At.call en112 rfl (held112 _) (fun _ _ => trivial) (List.Perm.refl _) rfl ?_
  rintro _ _ _ ⟨rfl, rfl, rfl⟩
  refine At.loudN (l_store t64 rfl rfl (i := 0) rfl rfl rfl rfl) ?_
  rintro _ _ _ ⟨rfl, rfl⟩
  refine At.skim 1 rfl rfl ?_
  refine At.nil ?_
  refine At.then ?_
  refine At.seq ?_
  refine At.block ?_
  refine At.seq ?_
  refine At.region ?_
  refine At.skim 1 rfl rfl ?_
  refine At.fld s64 t3 rfl rfl rfl (Rd.loc (i := 0) rfl rfl) rfl rfl ?_
  refine At.skim 2 rfl rfl ?_
  refine At.nil ?_
  refine At.then ?_
  refine At.if rfl (fun h1 => ?_) (fun h1 => ?_)
  · skip
    refine At.seq ?_
    refine At.region ?_
    refine At.skim 1 rfl rfl ?_
    refine At.nil ?_
    refine At.then ?_
    refine At.ret ?_
    refine At.inRet ?_
    refine At.thenRet ?_
    exact At.results (Γr := []) (M := []) rfl (RVals.cons (RVal.tmp rfl) RVals.nil) (.head _) (fun _ _ => trivial) (.cons _ (.refl _)) ⟨by simp only [resVal, decideS, if_pos (show p.clamp.high < heldS s from h1)] <;> rfl, rfl, rfl⟩
  · skip
    refine At.seq ?_
    refine At.region ?_
    refine At.skim 1 rfl rfl ?_
    refine At.fld s64 t3 rfl rfl rfl (Rd.loc (i := 0) rfl rfl) rfl rfl ?_
    refine At.skim 2 rfl rfl ?_
    refine At.nil ?_
    refine At.then ?_
    refine At.if rfl (fun h2 => ?_) (fun h2 => ?_)
    · skip
      refine At.seq ?_
      refine At.region ?_
      refine At.skim 1 rfl rfl ?_
      refine At.nil ?_
      refine At.then ?_
      refine At.ret ?_
      refine At.inRet ?_
      refine At.thenRet ?_
      exact At.results (Γr := []) (M := []) rfl (RVals.cons (RVal.tmp rfl) RVals.nil) (.head _) (fun _ _ => trivial) (.cons _ (.refl _)) ⟨by simp only [resVal, decideS, if_neg (show ¬ p.clamp.high < heldS s from h1), if_pos (show heldS s < p.clamp.low from h2)] <;> rfl, rfl, rfl⟩
    · skip
      refine At.skip ?_
      refine At.inNormal ?_
      refine At.then ?_
      refine At.seq ?_
      refine At.region ?_
      refine At.skim 1 rfl rfl ?_
      refine At.nil ?_
      refine At.then ?_
      refine At.ret ?_
      exact At.results (Γr := []) (M := []) rfl (RVals.cons (RVal.tmp rfl) RVals.nil) (.head _) (fun _ _ => trivial) (.cons _ (.refl _)) ⟨by simp only [resVal, decideS, if_neg (show ¬ p.clamp.high < heldS s from h1), if_neg (show ¬ heldS s < p.clamp.low from h2)] <;> rfl, rfl, rfl⟩

theorem decide54 (p : Pol) (s : Int) : Con Try.prog 54 [p.val, .int .i64 s] [] [] (fun v Γ M => v = .int .i64 (decideS p s) ∧ Γ = [] ∧ M = []) := by
  refine Con.body 19 Try.func54 rfl Try.ntmps54 rfl fun X H₀ L₀ => ?_
  refine At.seq ?_
  refine At.region ?_
  refine At.loud (l_box rfl) rfl ?_
  rintro _ _ _ ⟨b1, rfl, rfl, rfl⟩
  refine At.skim 1 rfl rfl ?_
  refine At.nil ?_
  refine At.then ?_
  refine At.seq ?_
  refine At.region ?_
  refine At.quiet (q_loadS t64 rfl (RdS.loc (i := 0) rfl (m := 5) rfl) rfl) rfl ?_
  refine At.call en90 rfl (clamp90 p) (fun _ _ => trivial) (List.Perm.refl _) rfl ?_
  rintro _ _ _ ⟨rfl, rfl, rfl⟩
  refine At.loudN (l_store t64 rfl rfl (i := 0) rfl rfl rfl rfl) ?_
  rintro _ _ _ ⟨rfl, rfl⟩
  refine At.nil ?_
  refine At.then ?_
  refine At.seq ?_
  refine At.seq ?_
  refine At.region ?_
  refine At.skim 1 rfl rfl ?_
  refine At.call en91 rfl (hold91 _ _ _ (by omega)) (fun _ _ => trivial) (List.Perm.refl _) rfl ?_
  rintro _ _ _ ⟨rfl, rfl, rfl⟩
  refine At.skim 1 rfl rfl ?_
  refine At.nil ?_
  refine At.then ?_
  refine At.block ?_
  refine At.seq ?_
  refine At.region ?_
  refine At.skim 1 rfl rfl ?_
  refine At.fld s64 t3 rfl rfl rfl (Rd.loc (i := 0) rfl rfl) rfl rfl ?_
  refine At.skim 2 rfl rfl ?_
  refine At.nil ?_
  refine At.then ?_
  refine At.if rfl (fun h1 => ?_) (fun h1 => ?_)
  · skip
    refine At.seq ?_
    refine At.region ?_
    refine At.skim 1 rfl rfl ?_
    refine At.nil ?_
    refine At.then ?_
    refine At.ret ?_
    refine At.inRet ?_
    refine At.thenRet ?_
    exact At.results (Γr := []) (M := []) rfl (RVals.cons (RVal.tmp rfl) RVals.nil) (.head _) (fun _ _ => trivial) (.cons _ (.refl _)) ⟨by simp only [resVal, decideS, if_pos (show p.clamp.high < heldS s from h1)] <;> rfl, rfl, rfl⟩
  · skip
    refine At.seq ?_
    refine At.region ?_
    refine At.skim 1 rfl rfl ?_
    refine At.fld s64 t3 rfl rfl rfl (Rd.loc (i := 0) rfl rfl) rfl rfl ?_
    refine At.skim 2 rfl rfl ?_
    refine At.nil ?_
    refine At.then ?_
    refine At.if rfl (fun h2 => ?_) (fun h2 => ?_)
    · skip
      refine At.seq ?_
      refine At.region ?_
      refine At.skim 1 rfl rfl ?_
      refine At.nil ?_
      refine At.then ?_
      refine At.ret ?_
      refine At.inRet ?_
      refine At.thenRet ?_
      exact At.results (Γr := []) (M := []) rfl (RVals.cons (RVal.tmp rfl) RVals.nil) (.head _) (fun _ _ => trivial) (.cons _ (.refl _)) ⟨by simp only [resVal, decideS, if_neg (show ¬ p.clamp.high < heldS s from h1), if_pos (show heldS s < p.clamp.low from h2)] <;> rfl, rfl, rfl⟩
    · skip
      refine At.skip ?_
      refine At.inNormal ?_
      refine At.then ?_
      refine At.seq ?_
      refine At.region ?_
      refine At.skim 1 rfl rfl ?_
      refine At.nil ?_
      refine At.then ?_
      refine At.ret ?_
      exact At.results (Γr := []) (M := []) rfl (RVals.cons (RVal.tmp rfl) RVals.nil) (.head _) (fun _ _ => trivial) (.cons _ (.refl _)) ⟨by simp only [resVal, decideS, if_neg (show ¬ p.clamp.high < heldS s from h1), if_neg (show ¬ heldS s < p.clamp.low from h2)] <;> rfl, rfl, rfl⟩

theorem bend51 (t : Tr) (hsm : smallP t.ns.l) (p : Pol) (at_ : Int) : Con Try.prog 51 [t.val, p.val, .int .i64 at_] [ndsP t.ns, psP t.ns.l] [] (BendEnd (bendT t.p p at_)) := by
  refine Con.body 50 Try.func51 rfl Try.ntmps51 rfl fun X H₀ L₀ => ?_
  refine At.seq ?_
  refine At.region ?_
  refine At.loud (l_box rfl) rfl ?_
  rintro _ _ _ ⟨b1, rfl, rfl, rfl⟩
  refine At.freeze 0 (φ := blk b1 _) rfl (fun _ h => blk_def.2 ⟨_, _, h⟩) ?_
  refine At.loud (l_box rfl) rfl ?_
  rintro _ _ _ ⟨b2, rfl, rfl, rfl⟩
  refine At.freeze 0 (φ := blk b2 _) rfl (fun _ h => blk_def.2 ⟨_, _, h⟩) ?_
  refine At.loud (l_alloc t24) rfl ?_
  rintro _ _ _ ⟨b3, rfl, rfl, rfl⟩
  refine At.skim 1 rfl rfl ?_
  refine At.nil ?_
  refine At.then ?_
  refine At.seq ?_
  refine At.seq ?_
  refine At.region ?_
  refine At.quiet (q_loadS t24 rfl (RdS.blk (.tail _ (.head _)) (m := 2) rfl) rfl) rfl ?_
  refine At.skim 1 rfl rfl ?_
  refine At.call en80 rfl (leaf80 _ _) (fun _ h => ⟨h.2.2.2.1, h.2.2.2.2.1, trivial⟩) (List.Perm.refl _) rfl ?_
  rintro _ _ _ ⟨rfl, rfl, rfl⟩
  refine At.skim 1 rfl rfl ?_
  refine At.nil ?_
  refine At.then ?_
  refine At.cond rfl (fun hlf => ?_) (fun hlf => ?_)
  · skip
    refine At.know (ndsP ⟨none, 0, []⟩) (fun _ h => sl_nil _ _ _ (Nat.zero_le _)) ?_
    refine At.know (psP []) (fun _ h => psP_nil) ?_
    refine At.seq ?_
    refine At.region ?_
    refine At.quiet (q_build t24 s24 rfl rfl) rfl ?_
    refine At.loudN (l_store t24 rfl rfl (i := 0) rfl rfl rfl rfl) ?_
    rintro _ _ _ ⟨rfl, rfl⟩
    refine At.skim 1 rfl rfl ?_
    refine At.nil ?_
    refine At.then ?_
    refine At.ret ?_
    refine At.thenRet ?_
    exact At.results (Γr := [_, _]) (M := []) rfl (RVals.cons (RVal.cellS rfl t24 (RdS.loc (i := 0) rfl (m := 2) rfl) rfl) (RVals.cons (RVal.tmp rfl) RVals.nil)) (.tail _ (.tail _ (.tail _ (.tail _ (.head _))))) (fun _ h => ⟨h.2.1, h.1, trivial⟩) (.cons _ (.refl _)) ⟨⟨0, ⟨none, 0, []⟩⟩, by rw [bend_no (not_t hlf)]; rfl, rfl, rfl, by rw [bend_no (not_t hlf)]; rfl⟩
  · skip
    obtain ⟨s, i, n, hs, rfl, hn, hnr⟩ := leaf_yes (not_f hlf)
    have hil := lt_of_get hn
    obtain ⟨x, hx, hxn⟩ := p_get (u := t) rfl hn
    have hbe := bend_eq (p := p) (not_f hlf) hn
    have hxs : x.stat = n.stat := by rw [← hxn]; rfl
    refine At.know (prsP x.ps) (fun _ h => psP_get h.2.2.2.2.1 hx) ?_
    refine At.skip ?_
    refine At.then ?_
    refine At.seq ?_
    refine At.draw 7 (.q 0 (.q 1 (.q 2 (.q 3 (.q 4 (.q 5 (.q 6 (.e)))))))) _ (List.Sublist.refl _) mixed (by kernel_rfl) rfl ?_
    refine AtO.quiet rfl (q_loadS t64 rfl (RdS.blk (.tail _ (.head _)) (m := 5) rfl) rfl) rfl (Calm.then Post.calm) ?_
    refine AtO.quiet rfl (q_fieldAddr s24 rfl rfl rfl) rfl (Calm.then Post.calm) ?_
    refine AtO.quiet rfl (q_load t22 rfl (Rd.blk (.tail _ (.tail _ (.head _))) rfl)) rfl (Calm.then Post.calm) ?_
    refine AtO.quiet rfl (q_move rfl) rfl (Calm.then Post.calm) ?_
    refine AtO.quiet rfl (q_index Try.underlying22 t33 rfl (.tail _ (.tail _ (.tail _ (.tail _ (.head _))))) (by simp) rfl rfl (lt_of_get hx)) rfl (Calm.then Post.calm) ?_
    refine AtO.quiet rfl (q_fieldAddr s33 rfl rfl rfl) rfl (Calm.then Post.calm) ?_
    refine AtO.quiet rfl (q_load t3 rfl (Rd.sl (.tail _ (.tail _ (.tail _ (.tail _ (.head _))))) (map_get hx) rfl)) rfl (Calm.then Post.calm) ?_
    refine AtO.done ?_
    refine At.call en89 rfl (decide89 p x.stat) (fun _ _ => trivial) (List.Perm.refl _) rfl ?_
    rintro _ _ _ ⟨rfl, rfl, rfl⟩
    refine At.skim 1 rfl rfl ?_
    refine At.nil ?_
    refine At.then ?_
    refine At.seq ?_
    refine At.region ?_
    rw [← hxs] at hbe
    refine At.loud (l_alloc t24) rfl ?_
    rintro _ _ _ ⟨b4, rfl, rfl, rfl⟩
    refine At.nil ?_
    refine At.then ?_
    refine At.seq ?_
    refine At.region ?_
    refine At.skim 1 rfl rfl ?_
    refine At.nil ?_
    refine At.then ?_
    refine At.seq ?_
    refine At.seq ?_
    refine At.region ?_
    refine At.skim 1 rfl rfl ?_
    refine At.nil ?_
    refine At.then ?_
    refine At.block ?_
    refine At.seq ?_
    refine At.region ?_
    refine At.skim 2 rfl rfl ?_
    refine At.nil ?_
    refine At.then ?_
    refine At.if rfl (fun h1 => ?_) (fun h1 => ?_)
    · skip
      refine At.region ?_
      refine At.quiet (q_loadS t24 rfl (RdS.blk (.tail _ (.tail _ (.head _))) (m := 2) rfl) rfl) rfl ?_
      refine At.skim 1 rfl rfl ?_
      refine At.call en47 rfl (split47 _ (by assumption) _) (fun _ h => ⟨h.2.2.2.2.1, h.2.2.2.2.2.1, trivial⟩) (List.Perm.refl _) rfl ?_
      rintro _ _ _ ⟨u, rfl, rfl, rfl, hpu⟩
      refine At.skim 1 rfl rfl ?_
      refine At.quiet (q_extract rfl rfl) rfl ?_
      refine At.quiet (q_extract rfl rfl) rfl ?_
      refine At.loudN (l_store t24 rfl rfl (i := 0) rfl rfl rfl rfl) ?_
      rintro _ _ _ ⟨rfl, rfl⟩
      refine At.skim 1 rfl rfl ?_
      refine At.nil ?_
      refine At.inNormal ?_
      refine At.then ?_
      refine At.seq ?_
      refine At.seq ?_
      refine At.region ?_
      refine At.skim 2 rfl rfl ?_
      refine At.nil ?_
      refine At.then ?_
      refine At.cond rfl (fun hok => ?_) (fun hok => ?_)
      · skip
        refine At.seq ?_
        refine At.region ?_
        refine At.quiet (q_loadS t24 rfl (RdS.blk (.tail _ (.tail _ (.tail _ (.tail _ (.head _))))) (m := 2) rfl) rfl) rfl ?_
        refine At.call en25 rfl (plain25 _ (by assumption)) (fun _ h => ⟨h.2.2.2.2.2.2.1, h.2.2.2.2.2.2.2.1, trivial⟩) (List.Perm.refl _) rfl ?_
        rintro _ _ _ ⟨w, Mw, rfl, rfl, rfl, hw, hpw⟩
        refine At.skim 1 rfl rfl ?_
        refine At.quiet (q_extract rfl rfl) rfl ?_
        refine At.quiet (q_extract rfl rfl) rfl ?_
        refine At.loudN (l_store t24 rfl rfl (i := 1) rfl rfl rfl rfl) ?_
        rintro _ _ _ ⟨rfl, rfl⟩
        refine At.nil ?_
        refine At.then ?_
        refine At.region ?_
        refine At.skim 1 rfl rfl ?_
        refine At.nil ?_
        refine At.then ?_
        refine At.seq ?_
        refine At.region ?_
        refine At.freezeOwn 0 hw rfl ?_
        refine At.quiet (q_loadS t24 rfl (RdS.loc (i := 0) rfl (m := 2) rfl) rfl) rfl ?_
        refine At.skim 1 rfl rfl ?_
        refine At.loudN (l_store t24 rfl rfl (i := 1) rfl rfl rfl rfl) ?_
        rintro _ _ _ ⟨rfl, rfl⟩
        refine At.skim 1 rfl rfl ?_
        refine At.nil ?_
        refine At.then ?_
        refine At.ret ?_
        exact At.results (Γr := [_, _]) (M := []) rfl (RVals.cons (RVal.cellS rfl t24 (RdS.loc (i := 1) rfl (m := 2) rfl) rfl) (RVals.cons (RVal.tmp rfl) RVals.nil)) (.tail _ (.tail _ (.tail _ (.tail _ (.tail _ (.tail _ (.tail _ (.head _)))))))) (fun _ h => ⟨h.1, h.2.1, trivial⟩) (.cons _ (.cons _ (.refl _))) ⟨w, by rw [hbe, if_neg (fun h => by rw [not_t hok] at h; exact absurd h.2 (by simp)), if_neg (fun h => by omega)]; rfl, rfl, rfl, by rw [hbe, if_neg (fun h => by rw [not_t hok] at h; exact absurd h.2 (by simp)), if_neg (fun h => by omega)]; exact hpw⟩
      · skip
        refine At.skip ?_
        refine At.then ?_
        refine At.seq ?_
        refine At.region ?_
        refine At.quiet (q_loadS t24 rfl (RdS.loc (i := 0) rfl (m := 2) rfl) rfl) rfl ?_
        refine At.skim 1 rfl rfl ?_
        refine At.loudN (l_store t24 rfl rfl (i := 1) rfl rfl rfl rfl) ?_
        rintro _ _ _ ⟨rfl, rfl⟩
        refine At.skim 1 rfl rfl ?_
        refine At.nil ?_
        refine At.then ?_
        refine At.ret ?_
        exact At.results (Γr := [_, _]) (M := []) rfl (RVals.cons (RVal.cellS rfl t24 (RdS.loc (i := 1) rfl (m := 2) rfl) rfl) (RVals.cons (RVal.tmp rfl) RVals.nil)) (.tail _ (.tail _ (.tail _ (.tail _ (.tail _ (.head _)))))) (fun _ h => ⟨h.1, h.2.1, trivial⟩) (.cons _ (.cons _ (.refl _))) ⟨u, by rw [hbe, if_pos ⟨h1, not_f hok⟩]; first | rfl | (rw [h1]; rfl) | (rw [h2]; rfl), rfl, rfl, by rw [hbe, if_pos ⟨h1, not_f hok⟩]; exact hpu⟩
    · skip
      refine At.seq ?_
      refine At.region ?_
      refine At.skim 2 rfl rfl ?_
      refine At.nil ?_
      refine At.then ?_
      refine At.if rfl (fun h2 => ?_) (fun h2 => ?_)
      · skip
        refine At.region ?_
        refine At.quiet (q_loadS t24 rfl (RdS.blk (.tail _ (.tail _ (.head _))) (m := 2) rfl) rfl) rfl ?_
        refine At.skim 1 rfl rfl ?_
        refine At.call en48 rfl (join48 _ (by assumption) _) (fun _ h => ⟨h.2.2.2.2.1, h.2.2.2.2.2.1, trivial⟩) (List.Perm.refl _) rfl ?_
        rintro _ _ _ ⟨u, rfl, rfl, rfl, hpu⟩
        refine At.skim 1 rfl rfl ?_
        refine At.quiet (q_extract rfl rfl) rfl ?_
        refine At.quiet (q_extract rfl rfl) rfl ?_
        refine At.loudN (l_store t24 rfl rfl (i := 0) rfl rfl rfl rfl) ?_
        rintro _ _ _ ⟨rfl, rfl⟩
        refine At.skim 1 rfl rfl ?_
        refine At.nil ?_
        refine At.inNormal ?_
        refine At.then ?_
        refine At.seq ?_
        refine At.seq ?_
        refine At.region ?_
        refine At.skim 2 rfl rfl ?_
        refine At.nil ?_
        refine At.then ?_
        refine At.cond rfl (fun hok => ?_) (fun hok => ?_)
        · skip
          refine At.seq ?_
          refine At.region ?_
          refine At.quiet (q_loadS t24 rfl (RdS.blk (.tail _ (.tail _ (.tail _ (.tail _ (.head _))))) (m := 2) rfl) rfl) rfl ?_
          refine At.call en25 rfl (plain25 _ (by assumption)) (fun _ h => ⟨h.2.2.2.2.2.2.1, h.2.2.2.2.2.2.2.1, trivial⟩) (List.Perm.refl _) rfl ?_
          rintro _ _ _ ⟨w, Mw, rfl, rfl, rfl, hw, hpw⟩
          refine At.skim 1 rfl rfl ?_
          refine At.quiet (q_extract rfl rfl) rfl ?_
          refine At.quiet (q_extract rfl rfl) rfl ?_
          refine At.loudN (l_store t24 rfl rfl (i := 1) rfl rfl rfl rfl) ?_
          rintro _ _ _ ⟨rfl, rfl⟩
          refine At.nil ?_
          refine At.then ?_
          refine At.region ?_
          refine At.skim 1 rfl rfl ?_
          refine At.nil ?_
          refine At.then ?_
          refine At.seq ?_
          refine At.region ?_
          refine At.freezeOwn 0 hw rfl ?_
          refine At.quiet (q_loadS t24 rfl (RdS.loc (i := 0) rfl (m := 2) rfl) rfl) rfl ?_
          refine At.skim 1 rfl rfl ?_
          refine At.loudN (l_store t24 rfl rfl (i := 1) rfl rfl rfl rfl) ?_
          rintro _ _ _ ⟨rfl, rfl⟩
          refine At.skim 1 rfl rfl ?_
          refine At.nil ?_
          refine At.then ?_
          refine At.ret ?_
          exact At.results (Γr := [_, _]) (M := []) rfl (RVals.cons (RVal.cellS rfl t24 (RdS.loc (i := 1) rfl (m := 2) rfl) rfl) (RVals.cons (RVal.tmp rfl) RVals.nil)) (.tail _ (.tail _ (.tail _ (.tail _ (.tail _ (.tail _ (.tail _ (.head _)))))))) (fun _ h => ⟨h.1, h.2.1, trivial⟩) (.cons _ (.cons _ (.refl _))) ⟨w, by rw [hbe, if_neg (fun h => h1 h.1), if_neg (fun h => by rw [not_t hok] at h; exact absurd h.2 (by simp))]; rfl, rfl, rfl, by rw [hbe, if_neg (fun h => h1 h.1), if_neg (fun h => by rw [not_t hok] at h; exact absurd h.2 (by simp))]; exact hpw⟩
        · skip
          refine At.skip ?_
          refine At.then ?_
          refine At.seq ?_
          refine At.region ?_
          refine At.quiet (q_loadS t24 rfl (RdS.loc (i := 0) rfl (m := 2) rfl) rfl) rfl ?_
          refine At.skim 1 rfl rfl ?_
          refine At.loudN (l_store t24 rfl rfl (i := 1) rfl rfl rfl rfl) ?_
          rintro _ _ _ ⟨rfl, rfl⟩
          refine At.skim 1 rfl rfl ?_
          refine At.nil ?_
          refine At.then ?_
          refine At.ret ?_
          exact At.results (Γr := [_, _]) (M := []) rfl (RVals.cons (RVal.cellS rfl t24 (RdS.loc (i := 1) rfl (m := 2) rfl) rfl) (RVals.cons (RVal.tmp rfl) RVals.nil)) (.tail _ (.tail _ (.tail _ (.tail _ (.tail _ (.head _)))))) (fun _ h => ⟨h.1, h.2.1, trivial⟩) (.cons _ (.cons _ (.refl _))) ⟨u, by rw [hbe, if_neg (fun h => h1 h.1), if_pos ⟨h2, not_f hok⟩]; first | rfl | (rw [h1]; rfl) | (rw [h2]; rfl), rfl, rfl, by rw [hbe, if_neg (fun h => h1 h.1), if_pos ⟨h2, not_f hok⟩]; exact hpu⟩
      · skip
        refine At.skip ?_
        refine At.inNormal ?_
        refine At.then ?_
        refine At.seq ?_
        refine At.seq ?_
        refine At.region ?_
        refine At.skim 2 rfl rfl ?_
        refine At.nil ?_
        refine At.then ?_
        refine At.condT rfl ?_
        refine At.seq ?_
        refine At.region ?_
        refine At.quiet (q_loadS t24 rfl (RdS.blk (.tail _ (.tail _ (.head _))) (m := 2) rfl) rfl) rfl ?_
        refine At.call en25 rfl (plain25 _ (by assumption)) (fun _ h => ⟨h.2.2.2.2.1, h.2.2.2.2.2.1, trivial⟩) (List.Perm.refl _) rfl ?_
        rintro _ _ _ ⟨w, Mw, rfl, rfl, rfl, hw, hpw⟩
        refine At.skim 1 rfl rfl ?_
        refine At.quiet (q_extract rfl rfl) rfl ?_
        refine At.quiet (q_extract rfl rfl) rfl ?_
        refine At.loudN (l_store t24 rfl rfl (i := 1) rfl rfl rfl rfl) ?_
        rintro _ _ _ ⟨rfl, rfl⟩
        refine At.nil ?_
        refine At.then ?_
        refine At.region ?_
        refine At.skim 1 rfl rfl ?_
        refine At.nil ?_
        refine At.then ?_
        refine At.seq ?_
        refine At.region ?_
        refine At.freezeOwn 0 hw rfl ?_
        refine At.quiet (q_loadS t24 rfl (RdS.loc (i := 0) rfl (m := 2) rfl) rfl) rfl ?_
        refine At.skim 1 rfl rfl ?_
        refine At.loudN (l_store t24 rfl rfl (i := 1) rfl rfl rfl rfl) ?_
        rintro _ _ _ ⟨rfl, rfl⟩
        refine At.skim 1 rfl rfl ?_
        refine At.nil ?_
        refine At.then ?_
        refine At.ret ?_
        exact At.results (Γr := [_, _]) (M := []) rfl (RVals.cons (RVal.cellS rfl t24 (RdS.loc (i := 1) rfl (m := 2) rfl) rfl) (RVals.cons (RVal.tmp rfl) RVals.nil)) (.tail _ (.tail _ (.tail _ (.tail _ (.tail _ (.head _)))))) (fun _ h => ⟨h.1, h.2.1, trivial⟩) (.cons _ (.cons _ (.refl _))) ⟨w, by rw [hbe, if_neg (fun h => h1 h.1), if_neg (fun h => h2 h.1)]; rfl, rfl, rfl, by rw [hbe, if_neg (fun h => h1 h.1), if_neg (fun h => h2 h.1)]; exact hpw⟩

end Go.Proofs.Ytmkodknmknfdkaa
