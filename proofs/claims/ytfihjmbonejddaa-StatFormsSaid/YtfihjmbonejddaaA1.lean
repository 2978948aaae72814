/- The walks of the small functions. -/
import Derived.Test.YtfihjmbonejddaaA0
namespace Go.Proofs.Ytfihjmbonejddaa
open E

theorem mixed : Try.prog.follows .mixedOrders = true := by kernel_rfl
theorem t3 : tRow Try.prog 3 = some (true, 1, 8, .int .i64 0) := by kernel_rfl
theorem t23 : tRow Try.prog 23 = some (false, 5, 40, .agg #[.int .i64 0, .int .i64 0, .int .i64 0, .int .i64 0, .int .i64 0]) := by kernel_rfl
theorem s23 : sRow Try.prog 23 = some [(0, 1, true), (1, 1, true), (2, 1, true), (3, 1, true), (4, 1, true)] := by kernel_rfl
theorem e23 : intStruct Try.prog 23 5 = true := by kernel_rfl
theorem en12 : Enters Try.prog 12 := Enters.mk' Try.func12 rfl rfl
theorem en13 : Enters Try.prog 13 := Enters.mk' Try.func13 rfl rfl
theorem en14 : Enters Try.prog 14 := Enters.mk' Try.func14 rfl rfl
theorem en15 : Enters Try.prog 15 := Enters.mk' Try.func15 rfl rfl
theorem en16 : Enters Try.prog 16 := Enters.mk' Try.func16 rfl rfl
theorem en17 : Enters Try.prog 17 := Enters.mk' Try.func17 rfl rfl
theorem en18 : Enters Try.prog 18 := Enters.mk' Try.func18 rfl rfl
theorem en19 : Enters Try.prog 19 := Enters.mk' Try.func19 rfl rfl
theorem en20 : Enters Try.prog 20 := Enters.mk' Try.func20 rfl rfl
theorem en21 : Enters Try.prog 21 := Enters.mk' Try.func21 rfl rfl
theorem en22 : Enters Try.prog 22 := Enters.mk' Try.func22 rfl rfl
theorem en23 : Enters Try.prog 23 := Enters.mk' Try.func23 rfl rfl
theorem en24 : Enters Try.prog 24 := Enters.mk' Try.func24 rfl rfl
theorem en25 : Enters Try.prog 25 := Enters.mk' Try.func25 rfl rfl
theorem en26 : Enters Try.prog 26 := Enters.mk' Try.func26 rfl rfl

theorem held24 (n lo hi : Int) : Con Try.prog 24 [.int .i64 n, .int .i64 lo, .int .i64 hi] [] [] (fun v Γ M => v = .int .i64 (hold n lo hi) ∧ Γ = [] ∧ M = []) := by
  refine Con.body 12 Try.func24 rfl Try.ntmps24 rfl fun X H₀ L₀ => ?_
  refine At.seq ?_
  refine At.region ?_
  refine At.skim 1 rfl rfl ?_
  refine At.nil ?_
  refine At.then ?_
  refine At.seq ?_
  refine At.region ?_
  refine At.skim 2 rfl rfl ?_
  refine At.quiet (q_max rfl rfl) rfl ?_
  refine At.skim 1 rfl rfl ?_
  refine At.quiet (q_min rfl rfl) rfl ?_
  refine At.skim 1 rfl rfl ?_
  refine At.nil ?_
  refine At.then ?_
  refine At.ret ?_
  exact At.results (Γr := []) (M := []) rfl (RVals.cons (RVal.tmp rfl) RVals.nil) (.head _) (fun _ _ => trivial) (.refl _) ⟨rfl, rfl, rfl⟩

theorem hold25 (n lo hi : Int) (h : lo ≤ hi) : Con Try.prog 25 [.int .i64 n, .int .i64 lo, .int .i64 hi] [] [] (fun v Γ M => v = .int .i64 (hold n lo hi) ∧ Γ = [] ∧ M = []) := by
  refine Con.body 12 Try.func25 rfl Try.ntmps25 rfl fun X H₀ L₀ => ?_
  refine At.seq ?_
  refine At.region ?_
  refine At.skim 1 rfl rfl ?_
  refine At.nil ?_
  refine At.then ?_
  refine At.seq ?_
  refine At.region ?_
  refine At.skim 3 rfl rfl ?_
  refine At.quiet (q_min rfl rfl) rfl ?_
  refine At.quiet (q_max rfl rfl) rfl ?_
  refine At.skim 1 rfl rfl ?_
  refine At.nil ?_
  refine At.then ?_
  refine At.ret ?_
  exact At.results (Γr := []) (M := []) rfl (RVals.cons (RVal.tmp rfl) RVals.nil) (.head _) (fun _ _ => trivial) (.refl _) ⟨by simp only [resVal, hold_other n lo hi h], rfl, rfl⟩

theorem held26 (n : Int) : Con Try.prog 26 [.int .i64 n] [] [] (fun v Γ M => v = .int .i64 (heldS n) ∧ Γ = [] ∧ M = []) := by
  refine Con.body 6 Try.func26 rfl Try.ntmps26 rfl fun X H₀ L₀ => ?_
  refine At.seq ?_
  refine At.region ?_
  refine At.skim 1 rfl rfl ?_
  refine At.nil ?_
  refine At.then ?_
  refine At.seq ?_
  refine At.region ?_
  refine At.skim 1 rfl rfl ?_
  refine At.quiet (q_max rfl rfl) rfl ?_
  refine At.quiet (q_min rfl rfl) rfl ?_
  refine At.skim 1 rfl rfl ?_
  refine At.nil ?_
  refine At.then ?_
  refine At.ret ?_
  exact At.results (Γr := []) (M := []) rfl (RVals.cons (RVal.tmp rfl) RVals.nil) (.head _) (fun _ _ => trivial) (.refl _) ⟨rfl, rfl, rfl⟩

theorem clamp12 (p : Pol) : Con Try.prog 12 [p.val] [] [] (fun v Γ M => v = p.clamp.val ∧ Γ = [] ∧ M = []) := by
  refine Con.body 19 Try.func12 rfl Try.ntmps12 rfl fun X H₀ L₀ => ?_
  refine At.seq ?_
  refine At.region ?_
  refine At.loud (l_box rfl) rfl ?_
  rintro _ _ _ ⟨b1, rfl, rfl, rfl⟩
  refine At.freeze 0 (φ := blk b1 _) rfl (fun _ h => blk_def.2 ⟨_, _, h⟩) ?_
  refine At.loud (l_alloc t23) rfl ?_
  rintro _ _ _ ⟨b2, rfl, rfl, rfl⟩
  refine At.nil ?_
  refine At.then ?_
  refine At.seq ?_
  refine At.draw 16 (.q 0 (.q 1 (.q 3 (.q 4 (.q 6 (.q 7 (.q 9 (.q 10 (.q 12 (.q 13 (.o 2 (.o 5 (.o 8 (.o 11 (.o 14 (.q 15 (.e))))))))))))))))) _ (List.Sublist.refl _) mixed (by kernel_rfl) rfl ?_
  refine AtO.quiet rfl (q_fieldAddr s23 rfl rfl rfl) rfl (Calm.then Post.calm) ?_
  refine AtO.quiet rfl (q_load t3 rfl (Rd.blk (.head _) rfl)) rfl (Calm.then Post.calm) ?_
  refine AtO.quiet rfl (q_fieldAddr s23 rfl rfl rfl) rfl (Calm.then Post.calm) ?_
  refine AtO.quiet rfl (q_load t3 rfl (Rd.blk (.head _) rfl)) rfl (Calm.then Post.calm) ?_
  refine AtO.quiet rfl (q_fieldAddr s23 rfl rfl rfl) rfl (Calm.then Post.calm) ?_
  refine AtO.quiet rfl (q_load t3 rfl (Rd.blk (.head _) rfl)) rfl (Calm.then Post.calm) ?_
  refine AtO.quiet rfl (q_fieldAddr s23 rfl rfl rfl) rfl (Calm.then Post.calm) ?_
  refine AtO.quiet rfl (q_load t3 rfl (Rd.blk (.head _) rfl)) rfl (Calm.then Post.calm) ?_
  refine AtO.quiet rfl (q_fieldAddr s23 rfl rfl rfl) rfl (Calm.then Post.calm) ?_
  refine AtO.quiet rfl (q_load t3 rfl (Rd.blk (.head _) rfl)) rfl (Calm.then Post.calm) ?_
  refine AtO.call rfl en24 rfl (held24 _ _ _) (fun _ _ => trivial) (List.Perm.refl _) rfl (.cons_cons _ (.refl _)) ?_
  rintro _ _ _ ⟨rfl, rfl, rfl⟩
  refine AtO.call rfl en24 rfl (held24 _ _ _) (fun _ _ => trivial) (List.Perm.refl _) rfl (.cons_cons _ (.refl _)) ?_
  rintro _ _ _ ⟨rfl, rfl, rfl⟩
  refine AtO.call rfl en24 rfl (held24 _ _ _) (fun _ _ => trivial) (List.Perm.refl _) rfl (.cons_cons _ (.refl _)) ?_
  rintro _ _ _ ⟨rfl, rfl, rfl⟩
  refine AtO.call rfl en24 rfl (held24 _ _ _) (fun _ _ => trivial) (List.Perm.refl _) rfl (.cons_cons _ (.refl _)) ?_
  rintro _ _ _ ⟨rfl, rfl, rfl⟩
  refine AtO.call rfl en24 rfl (held24 _ _ _) (fun _ _ => trivial) (List.Perm.refl _) rfl (.cons_cons _ (.refl _)) ?_
  rintro _ _ _ ⟨rfl, rfl, rfl⟩
  refine AtO.quiet rfl (q_build t23 s23 rfl rfl) rfl (Calm.then Post.calm) ?_
  refine AtO.done ?_
  refine At.loudN (l_store t23 rfl rfl (i := 0) rfl rfl rfl rfl) ?_
  rintro _ _ _ ⟨rfl, rfl⟩
  refine At.nil ?_
  refine At.then ?_
  refine At.ret ?_
  exact At.results (Γr := []) (M := []) rfl (RVals.cons (RVal.cellS rfl t23 (RdS.loc (i := 0) rfl (m := 5) rfl) rfl) RVals.nil) (.tail _ (.head _)) (fun _ _ => trivial) (.cons _ (.refl _)) ⟨rfl, rfl, rfl⟩

theorem clamp13 (p : Pol) : Con Try.prog 13 [p.val] [] [] (fun v Γ M => v = p.clamp.val ∧ Γ = [] ∧ M = []) := by
  refine Con.body 19 Try.func13 rfl Try.ntmps13 rfl fun X H₀ L₀ => ?_
  refine At.seq ?_
  refine At.region ?_
  refine At.loud (l_box rfl) rfl ?_
  rintro _ _ _ ⟨b1, rfl, rfl, rfl⟩
  refine At.freeze 0 (φ := blk b1 _) rfl (fun _ h => blk_def.2 ⟨_, _, h⟩) ?_
  refine At.loud (l_alloc t23) rfl ?_
  rintro _ _ _ ⟨b2, rfl, rfl, rfl⟩
  refine At.nil ?_
  refine At.then ?_
  refine At.seq ?_
  refine At.draw 16 (.q 0 (.q 1 (.q 3 (.q 4 (.q 6 (.q 7 (.q 9 (.q 10 (.q 12 (.q 13 (.o 2 (.o 5 (.o 8 (.o 11 (.o 14 (.q 15 (.e))))))))))))))))) _ (List.Sublist.refl _) mixed (by kernel_rfl) rfl ?_
  refine AtO.quiet rfl (q_fieldAddr s23 rfl rfl rfl) rfl (Calm.then Post.calm) ?_
  refine AtO.quiet rfl (q_load t3 rfl (Rd.blk (.head _) rfl)) rfl (Calm.then Post.calm) ?_
  refine AtO.quiet rfl (q_fieldAddr s23 rfl rfl rfl) rfl (Calm.then Post.calm) ?_
  refine AtO.quiet rfl (q_load t3 rfl (Rd.blk (.head _) rfl)) rfl (Calm.then Post.calm) ?_
  refine AtO.quiet rfl (q_fieldAddr s23 rfl rfl rfl) rfl (Calm.then Post.calm) ?_
  refine AtO.quiet rfl (q_load t3 rfl (Rd.blk (.head _) rfl)) rfl (Calm.then Post.calm) ?_
  refine AtO.quiet rfl (q_fieldAddr s23 rfl rfl rfl) rfl (Calm.then Post.calm) ?_
  refine AtO.quiet rfl (q_load t3 rfl (Rd.blk (.head _) rfl)) rfl (Calm.then Post.calm) ?_
  refine AtO.quiet rfl (q_fieldAddr s23 rfl rfl rfl) rfl (Calm.then Post.calm) ?_
  refine AtO.quiet rfl (q_load t3 rfl (Rd.blk (.head _) rfl)) rfl (Calm.then Post.calm) ?_
  refine AtO.call rfl en25 rfl (hold25 _ _ _ (by omega)) (fun _ _ => trivial) (List.Perm.refl _) rfl (.cons_cons _ (.refl _)) ?_
  rintro _ _ _ ⟨rfl, rfl, rfl⟩
  refine AtO.call rfl en25 rfl (hold25 _ _ _ (by omega)) (fun _ _ => trivial) (List.Perm.refl _) rfl (.cons_cons _ (.refl _)) ?_
  rintro _ _ _ ⟨rfl, rfl, rfl⟩
  refine AtO.call rfl en25 rfl (hold25 _ _ _ (by omega)) (fun _ _ => trivial) (List.Perm.refl _) rfl (.cons_cons _ (.refl _)) ?_
  rintro _ _ _ ⟨rfl, rfl, rfl⟩
  refine AtO.call rfl en25 rfl (hold25 _ _ _ (by omega)) (fun _ _ => trivial) (List.Perm.refl _) rfl (.cons_cons _ (.refl _)) ?_
  rintro _ _ _ ⟨rfl, rfl, rfl⟩
  refine AtO.call rfl en25 rfl (hold25 _ _ _ (by omega)) (fun _ _ => trivial) (List.Perm.refl _) rfl (.cons_cons _ (.refl _)) ?_
  rintro _ _ _ ⟨rfl, rfl, rfl⟩
  refine AtO.quiet rfl (q_build t23 s23 rfl rfl) rfl (Calm.then Post.calm) ?_
  refine AtO.done ?_
  refine At.loudN (l_store t23 rfl rfl (i := 0) rfl rfl rfl rfl) ?_
  rintro _ _ _ ⟨rfl, rfl⟩
  refine At.nil ?_
  refine At.then ?_
  refine At.ret ?_
  exact At.results (Γr := []) (M := []) rfl (RVals.cons (RVal.cellS rfl t23 (RdS.loc (i := 0) rfl (m := 5) rfl) rfl) RVals.nil) (.tail _ (.head _)) (fun _ _ => trivial) (.cons _ (.refl _)) ⟨rfl, rfl, rfl⟩

theorem may14 (p : Pol) : Con Try.prog 14 [p.val] [] [] (fun v Γ M => v = .bool (decide (p.clamp = p)) ∧ Γ = [] ∧ M = []) := by
  refine Con.body 7 Try.func14 rfl Try.ntmps14 rfl fun X H₀ L₀ => ?_
  refine At.seq ?_
  refine At.region ?_
  refine At.loud (l_box rfl) rfl ?_
  rintro _ _ _ ⟨b1, rfl, rfl, rfl⟩
  refine At.freeze 0 (φ := blk b1 _) rfl (fun _ h => blk_def.2 ⟨_, _, h⟩) ?_
  refine At.skim 1 rfl rfl ?_
  refine At.nil ?_
  refine At.then ?_
  refine At.seq ?_
  refine At.draw 4 (.q 0 (.q 2 (.o 1 (.q 3 (.e))))) _ (List.Sublist.refl _) mixed (by kernel_rfl) rfl ?_
  refine AtO.quiet rfl (q_loadS t23 rfl (RdS.blk (.head _) (m := 5) rfl) rfl) rfl (Calm.then Post.calm) ?_
  refine AtO.quiet rfl (q_loadS t23 rfl (RdS.blk (.head _) (m := 5) rfl) rfl) rfl (Calm.then Post.calm) ?_
  refine AtO.call rfl en12 rfl (clamp12 p) (fun _ _ => trivial) (List.Perm.refl _) rfl (.refl _) ?_
  rintro _ _ _ ⟨rfl, rfl, rfl⟩
  refine AtO.quiet rfl (q_eqStruct e23 rfl rfl rfl rfl rfl rfl) rfl (Calm.then Post.calm) ?_
  refine AtO.done ?_
  refine At.skim 1 rfl rfl ?_
  refine At.nil ?_
  refine At.then ?_
  refine At.ret ?_
  exact At.results (Γr := []) (M := []) rfl (RVals.cons (RVal.tmp rfl) RVals.nil) (.tail _ (.head _)) (fun _ _ => trivial) (.refl _) ⟨by simp only [resVal, ← Pol.list_eq] <;> rfl, rfl, rfl⟩

theorem off15  : Con Try.prog 15 [] [] [] (fun v Γ M => v = Pol.off.val ∧ Γ = [] ∧ M = []) := by
  refine Con.body 2 Try.func15 rfl Try.ntmps15 rfl fun X H₀ L₀ => ?_
  refine At.seq ?_
  refine At.region ?_
  refine At.loud (l_alloc t23) rfl ?_
  rintro _ _ _ ⟨b1, rfl, rfl, rfl⟩
  refine At.nil ?_
  refine At.then ?_
  refine At.seq ?_
  refine At.region ?_
  refine At.quiet (q_build t23 s23 rfl rfl) rfl ?_
  refine At.loudN (l_store t23 rfl rfl (i := 0) rfl rfl rfl rfl) ?_
  rintro _ _ _ ⟨rfl, rfl⟩
  refine At.nil ?_
  refine At.then ?_
  refine At.ret ?_
  exact At.results (Γr := []) (M := []) rfl (RVals.cons (RVal.cellS rfl t23 (RdS.loc (i := 0) rfl (m := 5) rfl) rfl) RVals.nil) (.head _) (fun _ _ => trivial) (.cons _ (.refl _)) ⟨rfl, rfl, rfl⟩

theorem eager16  : Con Try.prog 16 [] [] [] (fun v Γ M => v = Pol.eager.val ∧ Γ = [] ∧ M = []) := by
  refine Con.body 2 Try.func16 rfl Try.ntmps16 rfl fun X H₀ L₀ => ?_
  refine At.seq ?_
  refine At.region ?_
  refine At.loud (l_alloc t23) rfl ?_
  rintro _ _ _ ⟨b1, rfl, rfl, rfl⟩
  refine At.nil ?_
  refine At.then ?_
  refine At.seq ?_
  refine At.region ?_
  refine At.quiet (q_build t23 s23 rfl rfl) rfl ?_
  refine At.loudN (l_store t23 rfl rfl (i := 0) rfl rfl rfl rfl) ?_
  rintro _ _ _ ⟨rfl, rfl⟩
  refine At.nil ?_
  refine At.then ?_
  refine At.ret ?_
  exact At.results (Γr := []) (M := []) rfl (RVals.cons (RVal.cellS rfl t23 (RdS.loc (i := 0) rfl (m := 5) rfl) rfl) RVals.nil) (.head _) (fun _ _ => trivial) (.cons _ (.refl _)) ⟨rfl, rfl, rfl⟩

theorem next20 (p : Pol) (s w : Int) : Con Try.prog 20 [p.val, .int .i64 s, .int .i64 w] [] [] (fun v Γ M => v = .int .i64 (nextS p s w) ∧ Γ = [] ∧ M = []) := by
  have hs := heldS_bd s
  have hs2 : -1000000 ≤ hold s (-1000000) 1000000 ∧ hold s (-1000000) 1000000 ≤ 1000000 := hs
  have hp := p.clamp_bd
  refine Con.body 32 Try.func20 rfl Try.ntmps20 rfl fun X H₀ L₀ => ?_
  refine At.seq ?_
  refine At.region ?_
  refine At.loud (l_box rfl) rfl ?_
  rintro _ _ _ ⟨b1, rfl, rfl, rfl⟩
  refine At.skim 1 rfl rfl ?_
  refine At.nil ?_
  refine At.then ?_
  refine At.seq ?_
  refine At.region ?_
  refine At.quiet (q_loadS t23 rfl (RdS.loc (i := 0) rfl (m := 5) rfl) rfl) rfl ?_
  refine At.call en12 rfl (clamp12 p) (fun _ _ => trivial) (List.Perm.refl _) rfl ?_
  rintro _ _ _ ⟨rfl, rfl, rfl⟩
  refine At.skim 1 rfl rfl ?_
  refine At.call en26 rfl (held26 _) (fun _ _ => trivial) (List.Perm.refl _) rfl ?_
  rintro _ _ _ ⟨rfl, rfl, rfl⟩
  refine At.loudN (l_store t23 rfl rfl (i := 0) rfl rfl rfl rfl) ?_
  rintro _ _ _ ⟨rfl, rfl⟩
  refine At.skim 1 rfl rfl ?_
  refine At.nil ?_
  refine At.then ?_
  refine At.seq ?_
  refine At.seq ?_
  refine At.region ?_
  refine At.skim 1 rfl rfl ?_
  refine At.nil ?_
  refine At.then ?_
  refine At.block ?_
  refine At.seq ?_
  refine At.region ?_
  refine At.skim 2 rfl rfl ?_
  refine At.nil ?_
  refine At.then ?_
  refine At.if rfl (fun h1 => ?_) (fun h1 => ?_)
  · skip
    refine At.region ?_
    refine At.skim 1 rfl rfl ?_
    refine At.fld s23 t3 rfl rfl rfl (Rd.loc (i := 0) rfl rfl) rfl rfl ?_
    refine At.quiet (q_add rfl rfl (by omega) (by omega)) rfl ?_
    refine At.skim 1 rfl rfl ?_
    refine At.nil ?_
    refine At.inNormal ?_
    refine At.then ?_
    refine At.seq ?_
    refine At.region ?_
    refine At.skim 1 rfl rfl ?_
    refine At.call en26 rfl (held26 _) (fun _ _ => trivial) (List.Perm.refl _) rfl ?_
    rintro _ _ _ ⟨rfl, rfl, rfl⟩
    refine At.skim 1 rfl rfl ?_
    refine At.nil ?_
    refine At.then ?_
    refine At.ret ?_
    exact At.results (Γr := []) (M := []) rfl (RVals.cons (RVal.tmp rfl) RVals.nil) (.head _) (fun _ _ => trivial) (.cons _ (.refl _)) ⟨by simp only [resVal, nextS, pushed, if_pos h1] <;> rfl, rfl, rfl⟩
  · skip
    refine At.seq ?_
    refine At.region ?_
    refine At.skim 2 rfl rfl ?_
    refine At.nil ?_
    refine At.then ?_
    refine At.if rfl (fun h2 => ?_) (fun h2 => ?_)
    · skip
      refine At.region ?_
      refine At.skim 1 rfl rfl ?_
      refine At.fld s23 t3 rfl rfl rfl (Rd.loc (i := 0) rfl rfl) rfl rfl ?_
      refine At.quiet (q_sub rfl rfl (by omega) (by omega)) rfl ?_
      refine At.skim 1 rfl rfl ?_
      refine At.nil ?_
      refine At.inNormal ?_
      refine At.then ?_
      refine At.seq ?_
      refine At.region ?_
      refine At.skim 1 rfl rfl ?_
      refine At.call en26 rfl (held26 _) (fun _ _ => trivial) (List.Perm.refl _) rfl ?_
      rintro _ _ _ ⟨rfl, rfl, rfl⟩
      refine At.skim 1 rfl rfl ?_
      refine At.nil ?_
      refine At.then ?_
      refine At.ret ?_
      exact At.results (Γr := []) (M := []) rfl (RVals.cons (RVal.tmp rfl) RVals.nil) (.head _) (fun _ _ => trivial) (.cons _ (.refl _)) ⟨by simp only [resVal, nextS, pushed, if_neg h1, if_pos h2] <;> rfl, rfl, rfl⟩
    · skip
      refine At.seq ?_
      refine At.region ?_
      refine At.skim 2 rfl rfl ?_
      refine At.nil ?_
      refine At.then ?_
      refine At.if rfl (fun h3 => ?_) (fun h3 => ?_)
      · skip
        refine At.region ?_
        refine At.skim 1 rfl rfl ?_
        refine At.fld s23 t3 rfl rfl rfl (Rd.loc (i := 0) rfl rfl) rfl rfl ?_
        refine At.quiet (q_sub rfl rfl (by omega) (by omega)) rfl ?_
        refine At.skim 1 rfl rfl ?_
        refine At.nil ?_
        refine At.inNormal ?_
        refine At.then ?_
        refine At.seq ?_
        refine At.region ?_
        refine At.skim 1 rfl rfl ?_
        refine At.call en26 rfl (held26 _) (fun _ _ => trivial) (List.Perm.refl _) rfl ?_
        rintro _ _ _ ⟨rfl, rfl, rfl⟩
        refine At.skim 1 rfl rfl ?_
        refine At.nil ?_
        refine At.then ?_
        refine At.ret ?_
        exact At.results (Γr := []) (M := []) rfl (RVals.cons (RVal.tmp rfl) RVals.nil) (.head _) (fun _ _ => trivial) (.cons _ (.refl _)) ⟨by simp only [resVal, nextS, pushed, if_neg h1, if_neg h2, if_pos h3] <;> rfl, rfl, rfl⟩
      · skip
        refine At.skip ?_
        refine At.inNormal ?_
        refine At.then ?_
        refine At.seq ?_
        refine At.region ?_
        refine At.skim 1 rfl rfl ?_
        refine At.call en26 rfl (held26 _) (fun _ _ => trivial) (List.Perm.refl _) rfl ?_
        rintro _ _ _ ⟨rfl, rfl, rfl⟩
        refine At.skim 1 rfl rfl ?_
        refine At.nil ?_
        refine At.then ?_
        refine At.ret ?_
        exact At.results (Γr := []) (M := []) rfl (RVals.cons (RVal.tmp rfl) RVals.nil) (.head _) (fun _ _ => trivial) (.cons _ (.refl _)) ⟨by simp only [resVal, nextS, pushed, if_neg h1, if_neg h2, if_neg h3] <;> rfl, rfl, rfl⟩

theorem next19 (p : Pol) (s w : Int) : Con Try.prog 19 [p.val, .int .i64 s, .int .i64 w] [] [] (fun v Γ M => v = .int .i64 (nextS p s w) ∧ Γ = [] ∧ M = []) := by
  have hs := heldS_bd s
  have hs2 : -1000000 ≤ hold s (-1000000) 1000000 ∧ hold s (-1000000) 1000000 ≤ 1000000 := hs
  have hp := p.clamp_bd
  refine Con.body 32 Try.func19 rfl Try.ntmps19 rfl fun X H₀ L₀ => ?_
  refine At.seq ?_
  refine At.region ?_
  refine At.loud (l_box rfl) rfl ?_
  rintro _ _ _ ⟨b1, rfl, rfl, rfl⟩
  refine At.skim 1 rfl rfl ?_
  refine At.nil ?_
  refine At.then ?_
  refine At.seq ?_
  refine At.region ?_
  refine At.quiet (q_loadS t23 rfl (RdS.loc (i := 0) rfl (m := 5) rfl) rfl) rfl ?_
  refine At.call en13 rfl (clamp13 p) (fun _ _ => trivial) (List.Perm.refl _) rfl ?_
  rintro _ _ _ ⟨rfl, rfl, rfl⟩
  refine At.loudN (l_store t23 rfl rfl (i := 0) rfl rfl rfl rfl) ?_
  rintro _ _ _ ⟨rfl, rfl⟩
  refine At.nil ?_
  refine At.then ?_
  refine At.seq ?_
  refine At.region ?_
  refine At.skim 1 rfl rfl ?_
  refine At.call en25 rfl (hold25 _ _ _ (by omega)) (fun _ _ => trivial) (List.Perm.refl _) rfl ?_
  rintro _ _ _ ⟨rfl, rfl, rfl⟩
  refine At.skim 1 rfl rfl ?_
  refine At.nil ?_
  refine At.then ?_
  refine At.seq ?_
  refine At.seq ?_
  refine At.region ?_
  refine At.skim 1 rfl rfl ?_
  refine At.nil ?_
  refine At.then ?_
  refine At.block ?_
  refine At.seq ?_
  refine At.region ?_
  refine At.skim 2 rfl rfl ?_
  refine At.nil ?_
  refine At.then ?_
  refine At.if rfl (fun h1 => ?_) (fun h1 => ?_)
  · skip
    refine At.region ?_
    refine At.skim 1 rfl rfl ?_
    refine At.fld s23 t3 rfl rfl rfl (Rd.loc (i := 0) rfl rfl) rfl rfl ?_
    refine At.quiet (q_add rfl rfl (by omega) (by omega)) rfl ?_
    refine At.skim 1 rfl rfl ?_
    refine At.nil ?_
    refine At.inNormal ?_
    refine At.then ?_
    refine At.seq ?_
    refine At.region ?_
    refine At.skim 1 rfl rfl ?_
    refine At.call en25 rfl (hold25 _ _ _ (by omega)) (fun _ _ => trivial) (List.Perm.refl _) rfl ?_
    rintro _ _ _ ⟨rfl, rfl, rfl⟩
    refine At.skim 1 rfl rfl ?_
    refine At.nil ?_
    refine At.then ?_
    refine At.ret ?_
    exact At.results (Γr := []) (M := []) rfl (RVals.cons (RVal.tmp rfl) RVals.nil) (.head _) (fun _ _ => trivial) (.cons _ (.refl _)) ⟨by simp only [resVal, nextS, pushed, if_pos h1] <;> rfl, rfl, rfl⟩
  · skip
    refine At.seq ?_
    refine At.region ?_
    refine At.skim 2 rfl rfl ?_
    refine At.nil ?_
    refine At.then ?_
    refine At.if rfl (fun h2 => ?_) (fun h2 => ?_)
    · skip
      refine At.region ?_
      refine At.skim 1 rfl rfl ?_
      refine At.fld s23 t3 rfl rfl rfl (Rd.loc (i := 0) rfl rfl) rfl rfl ?_
      refine At.quiet (q_sub rfl rfl (by omega) (by omega)) rfl ?_
      refine At.skim 1 rfl rfl ?_
      refine At.nil ?_
      refine At.inNormal ?_
      refine At.then ?_
      refine At.seq ?_
      refine At.region ?_
      refine At.skim 1 rfl rfl ?_
      refine At.call en25 rfl (hold25 _ _ _ (by omega)) (fun _ _ => trivial) (List.Perm.refl _) rfl ?_
      rintro _ _ _ ⟨rfl, rfl, rfl⟩
      refine At.skim 1 rfl rfl ?_
      refine At.nil ?_
      refine At.then ?_
      refine At.ret ?_
      exact At.results (Γr := []) (M := []) rfl (RVals.cons (RVal.tmp rfl) RVals.nil) (.head _) (fun _ _ => trivial) (.cons _ (.refl _)) ⟨by simp only [resVal, nextS, pushed, if_neg h1, if_pos h2] <;> rfl, rfl, rfl⟩
    · skip
      refine At.seq ?_
      refine At.region ?_
      refine At.skim 2 rfl rfl ?_
      refine At.nil ?_
      refine At.then ?_
      refine At.if rfl (fun h3 => ?_) (fun h3 => ?_)
      · skip
        refine At.region ?_
        refine At.skim 1 rfl rfl ?_
        refine At.fld s23 t3 rfl rfl rfl (Rd.loc (i := 0) rfl rfl) rfl rfl ?_
        refine At.quiet (q_sub rfl rfl (by omega) (by omega)) rfl ?_
        refine At.skim 1 rfl rfl ?_
        refine At.nil ?_
        refine At.inNormal ?_
        refine At.then ?_
        refine At.seq ?_
        refine At.region ?_
        refine At.skim 1 rfl rfl ?_
        refine At.call en25 rfl (hold25 _ _ _ (by omega)) (fun _ _ => trivial) (List.Perm.refl _) rfl ?_
        rintro _ _ _ ⟨rfl, rfl, rfl⟩
        refine At.skim 1 rfl rfl ?_
        refine At.nil ?_
        refine At.then ?_
        refine At.ret ?_
        exact At.results (Γr := []) (M := []) rfl (RVals.cons (RVal.tmp rfl) RVals.nil) (.head _) (fun _ _ => trivial) (.cons _ (.refl _)) ⟨by simp only [resVal, nextS, pushed, if_neg h1, if_neg h2, if_pos h3] <;> rfl, rfl, rfl⟩
      · skip
        refine At.skip ?_
        refine At.inNormal ?_
        refine At.then ?_
        refine At.seq ?_
        refine At.region ?_
        refine At.skim 1 rfl rfl ?_
        refine At.call en25 rfl (hold25 _ _ _ (by omega)) (fun _ _ => trivial) (List.Perm.refl _) rfl ?_
        rintro _ _ _ ⟨rfl, rfl, rfl⟩
        refine At.skim 1 rfl rfl ?_
        refine At.nil ?_
        refine At.then ?_
        refine At.ret ?_
        exact At.results (Γr := []) (M := []) rfl (RVals.cons (RVal.tmp rfl) RVals.nil) (.head _) (fun _ _ => trivial) (.cons _ (.refl _)) ⟨by simp only [resVal, nextS, pushed, if_neg h1, if_neg h2, if_neg h3] <;> rfl, rfl, rfl⟩

theorem decide21 (p : Pol) (s : Int) : Con Try.prog 21 [p.val, .int .i64 s] [] [] (fun v Γ M => v = .int .i64 (decideS p s) ∧ Γ = [] ∧ M = []) := by
  refine Con.body 19 Try.func21 rfl Try.ntmps21 rfl fun X H₀ L₀ => ?_
  refine At.seq ?_
  refine At.region ?_
  refine At.loud (l_box rfl) rfl ?_
  rintro _ _ _ ⟨b1, rfl, rfl, rfl⟩
  refine At.skim 1 rfl rfl ?_
  refine At.nil ?_
  refine At.then ?_
  refine At.seq ?_
  refine At.region ?_
  refine At.quiet (q_loadS t23 rfl (RdS.loc (i := 0) rfl (m := 5) rfl) rfl) rfl ?_
  refine At.call en12 rfl (clamp12 p) (fun _ _ => trivial) (List.Perm.refl _) rfl ?_
  rintro _ _ _ ⟨rfl, rfl, rfl⟩
  refine At.skim 1 rfl rfl ?_
  refine At.call en26 rfl (held26 _) (fun _ _ => trivial) (List.Perm.refl _) rfl ?_
  rintro _ _ _ ⟨rfl, rfl, rfl⟩
  refine At.loudN (l_store t23 rfl rfl (i := 0) rfl rfl rfl rfl) ?_
  rintro _ _ _ ⟨rfl, rfl⟩
  refine At.skim 1 rfl rfl ?_
  refine At.nil ?_
  refine At.then ?_
  refine At.seq ?_
  refine At.block ?_
  refine At.seq ?_
  refine At.region ?_
  refine At.skim 1 rfl rfl ?_
  refine At.fld s23 t3 rfl rfl rfl (Rd.loc (i := 0) rfl rfl) rfl rfl ?_
  refine At.skim 2 rfl rfl ?_
  refine At.nil ?_
  refine At.then ?_
  refine At.if rfl (fun h1 => ?_) (fun h1 => ?_)
  · skip
    refine At.seq ?_
    refine At.region ?_
    refine At.skim 1 rfl rfl ?_
    refine At.nil ?_
    refine At.then ?_
    refine At.ret ?_
    refine At.inRet ?_
    refine At.thenRet ?_
    exact At.results (Γr := []) (M := []) rfl (RVals.cons (RVal.tmp rfl) RVals.nil) (.head _) (fun _ _ => trivial) (.cons _ (.refl _)) ⟨by simp only [resVal, decideS, if_pos (show p.clamp.high < heldS s from h1)] <;> rfl, rfl, rfl⟩
  · skip
    refine At.seq ?_
    refine At.region ?_
    refine At.skim 1 rfl rfl ?_
    refine At.fld s23 t3 rfl rfl rfl (Rd.loc (i := 0) rfl rfl) rfl rfl ?_
    refine At.skim 2 rfl rfl ?_
    refine At.nil ?_
    refine At.then ?_
    refine At.if rfl (fun h2 => ?_) (fun h2 => ?_)
    · skip
      refine At.seq ?_
      refine At.region ?_
      refine At.skim 1 rfl rfl ?_
      refine At.nil ?_
      refine At.then ?_
      refine At.ret ?_
      refine At.inRet ?_
      refine At.thenRet ?_
      exact At.results (Γr := []) (M := []) rfl (RVals.cons (RVal.tmp rfl) RVals.nil) (.head _) (fun _ _ => trivial) (.cons _ (.refl _)) ⟨by simp only [resVal, decideS, if_neg (show ¬ p.clamp.high < heldS s from h1), if_pos (show heldS s < p.clamp.low from h2)] <;> rfl, rfl, rfl⟩
    · skip
      refine At.skip ?_
      refine At.inNormal ?_
      refine At.then ?_
      refine At.seq ?_
      refine At.region ?_
      refine At.skim 1 rfl rfl ?_
      refine At.nil ?_
      refine At.then ?_
      refine At.ret ?_
      exact At.results (Γr := []) (M := []) rfl (RVals.cons (RVal.tmp rfl) RVals.nil) (.head _) (fun _ _ => trivial) (.cons _ (.refl _)) ⟨by simp only [resVal, decideS, if_neg (show ¬ p.clamp.high < heldS s from h1), if_neg (show ¬ heldS s < p.clamp.low from h2)] <;> rfl, rfl, rfl⟩

theorem decide22 (p : Pol) (s : Int) : Con Try.prog 22 [p.val, .int .i64 s] [] [] (fun v Γ M => v = .int .i64 (decideS p s) ∧ Γ = [] ∧ M = []) := by
  refine Con.body 19 Try.func22 rfl Try.ntmps22 rfl fun X H₀ L₀ => ?_
  refine At.seq ?_
  refine At.region ?_
  refine At.loud (l_box rfl) rfl ?_
  rintro _ _ _ ⟨b1, rfl, rfl, rfl⟩
  refine At.skim 1 rfl rfl ?_
  refine At.nil ?_
  refine At.then ?_
  refine At.seq ?_
  refine At.region ?_
  refine At.quiet (q_loadS t23 rfl (RdS.loc (i := 0) rfl (m := 5) rfl) rfl) rfl ?_
  refine At.call en13 rfl (clamp13 p) (fun _ _ => trivial) (List.Perm.refl _) rfl ?_
  rintro _ _ _ ⟨rfl, rfl, rfl⟩
  refine At.loudN (l_store t23 rfl rfl (i := 0) rfl rfl rfl rfl) ?_
  rintro _ _ _ ⟨rfl, rfl⟩
  refine At.nil ?_
  refine At.then ?_
  refine At.seq ?_
  refine At.seq ?_
  refine At.region ?_
  refine At.skim 1 rfl rfl ?_
  refine At.call en25 rfl (hold25 _ _ _ (by omega)) (fun _ _ => trivial) (List.Perm.refl _) rfl ?_
  rintro _ _ _ ⟨rfl, rfl, rfl⟩
  refine At.skim 1 rfl rfl ?_
  refine At.nil ?_
  refine At.then ?_
  refine At.block ?_
  refine At.seq ?_
  refine At.region ?_
  refine At.skim 1 rfl rfl ?_
  refine At.fld s23 t3 rfl rfl rfl (Rd.loc (i := 0) rfl rfl) rfl rfl ?_
  refine At.skim 2 rfl rfl ?_
  refine At.nil ?_
  refine At.then ?_
  refine At.if rfl (fun h1 => ?_) (fun h1 => ?_)
  · skip
    refine At.seq ?_
    refine At.region ?_
    refine At.skim 1 rfl rfl ?_
    refine At.nil ?_
    refine At.then ?_
    refine At.ret ?_
    refine At.inRet ?_
    refine At.thenRet ?_
    exact At.results (Γr := []) (M := []) rfl (RVals.cons (RVal.tmp rfl) RVals.nil) (.head _) (fun _ _ => trivial) (.cons _ (.refl _)) ⟨by simp only [resVal, decideS, if_pos (show p.clamp.high < heldS s from h1)] <;> rfl, rfl, rfl⟩
  · skip
    refine At.seq ?_
    refine At.region ?_
    refine At.skim 1 rfl rfl ?_
    refine At.fld s23 t3 rfl rfl rfl (Rd.loc (i := 0) rfl rfl) rfl rfl ?_
    refine At.skim 2 rfl rfl ?_
    refine At.nil ?_
    refine At.then ?_
    refine At.if rfl (fun h2 => ?_) (fun h2 => ?_)
    · skip
      refine At.seq ?_
      refine At.region ?_
      refine At.skim 1 rfl rfl ?_
      refine At.nil ?_
      refine At.then ?_
      refine At.ret ?_
      refine At.inRet ?_
      refine At.thenRet ?_
      exact At.results (Γr := []) (M := []) rfl (RVals.cons (RVal.tmp rfl) RVals.nil) (.head _) (fun _ _ => trivial) (.cons _ (.refl _)) ⟨by simp only [resVal, decideS, if_neg (show ¬ p.clamp.high < heldS s from h1), if_pos (show heldS s < p.clamp.low from h2)] <;> rfl, rfl, rfl⟩
    · skip
      refine At.skip ?_
      refine At.inNormal ?_
      refine At.then ?_
      refine At.seq ?_
      refine At.region ?_
      refine At.skim 1 rfl rfl ?_
      refine At.nil ?_
      refine At.then ?_
      refine At.ret ?_
      exact At.results (Γr := []) (M := []) rfl (RVals.cons (RVal.tmp rfl) RVals.nil) (.head _) (fun _ _ => trivial) (.cons _ (.refl _)) ⟨by simp only [resVal, decideS, if_neg (show ¬ p.clamp.high < heldS s from h1), if_neg (show ¬ heldS s < p.clamp.low from h2)] <;> rfl, rfl, rfl⟩

theorem after23 (p : Pol) (s : Int) (l : Sl Int) (hl : l.l.length ≤ 4611686018427387904) : Con Try.prog 23 [p.val, .int .i64 s, l.val] [intsP l] [] (fun v Γ M => v = .int .i64 (afterS p s l.l) ∧ Γ = [] ∧ M = []) := by
  refine Con.body 23 Try.func23 rfl Try.ntmps23 rfl fun X H₀ L₀ => ?_
  refine At.seq ?_
  refine At.region ?_
  refine At.loud (l_box rfl) rfl ?_
  rintro _ _ _ ⟨b1, rfl, rfl, rfl⟩
  refine At.freeze 0 (φ := blk b1 _) rfl (fun _ h => blk_def.2 ⟨_, _, h⟩) ?_
  refine At.skim 1 rfl rfl ?_
  refine At.nil ?_
  refine At.then ?_
  refine At.seq ?_
  refine At.region ?_
  refine At.skim 1 rfl rfl ?_
  refine At.call en26 rfl (held26 _) (fun _ _ => trivial) (List.Perm.refl _) rfl ?_
  rintro _ _ _ ⟨rfl, rfl, rfl⟩
  refine At.skim 1 rfl rfl ?_
  refine At.nil ?_
  refine At.then ?_
  refine At.seq ?_
  refine At.seq ?_
  refine At.region ?_
  refine At.skim 1 rfl rfl ?_
  refine At.quiet (q_len Try.underlying31 rfl) rfl ?_
  refine At.skim 1 rfl rfl ?_
  refine At.nil ?_
  refine At.then ?_
  refine At.block ?_
  refine At.loopK (ι := Nat) [1, 8, 13, 14, 15, 16, 17, 18, 19, 20, 21] (fun k => [(1, .int .i64 (afterS p s (l.l.take k))), (13, .int .i64 (k : Int))]) (fun k => []) (fun k => []) _ (fun k => k ≤ l.l.length) (fun k => l.l.length - k) 0 (Nat.zero_le _) ⟨rfl, rfl, trivial⟩ (fun _ _ => trivial) (.refl _) ?_
  intro k hk0
  refine At.seq ?_
  refine At.region ?_
  refine At.skim 1 rfl rfl ?_
  refine At.nil ?_
  refine At.then ?_
  refine At.seq ?_
  refine At.if rfl (fun hk => ?_) (fun hk => ?_)
  · skip
    obtain ⟨x, hx⟩ := get_of_lt (l := l.l) (i := k) (by omega)
    refine At.skip ?_
    refine At.then ?_
    refine At.seq ?_
    refine At.block ?_
    refine At.seq ?_
    refine At.region ?_
    refine At.quiet (q_index Try.underlying31 t3 rfl (.tail _ (.tail _ (.head _))) (by simp) rfl rfl (lt_of_get hx)) rfl ?_
    refine At.quiet (q_load t3 rfl (Rd.sl0 (.tail _ (.tail _ (.head _))) (map_get hx) rfl)) rfl ?_
    refine At.skim 1 rfl rfl ?_
    refine At.nil ?_
    refine At.then ?_
    refine At.region ?_
    refine At.quiet (q_loadS t23 rfl (RdS.blk (.head _) (m := 5) rfl) rfl) rfl ?_
    refine At.skim 2 rfl rfl ?_
    refine At.call en20 rfl (next20 p _ _) (fun _ _ => trivial) (List.Perm.refl _) rfl ?_
    rintro _ _ _ ⟨rfl, rfl, rfl⟩
    refine At.skim 1 rfl rfl ?_
    refine At.nil ?_
    refine At.inNormal ?_
    refine At.then ?_
    refine At.region ?_
    refine At.quiet (q_add rfl rfl (by omega) (by omega)) rfl ?_
    refine At.skim 1 rfl rfl ?_
    refine At.nil ?_
    have := lt_of_get hx
    have e : afterS p s (l.l.take (k + 1)) = nextS p (afterS p s (l.l.take k)) x := by rw [List.take_succ_eq_append_getElem (lt_of_get hx), afterS_snoc]; congr 1; have := (List.getElem?_eq_some_iff.1 hx).2; exact this
    refine At.say 1 (.int .i64 (afterS p s (l.l.take (k + 1)))) rfl (by rw [e]) ?_
    refine At.then ?_
    exact At.againK (k + 1) (lt_of_get hx) (by (try dsimp only); omega) (Tells.end 14 ⟨rfl, rfl, trivial⟩ rfl rfl) (fun _ h => h) (.refl _)
  · skip
    refine At.exit ?_
    refine At.thenExit ?_
    refine At.thenExit ?_
    refine At.inHere rfl ?_
    refine At.then ?_
    refine At.seq ?_
    refine At.region ?_
    refine At.skim 2 rfl rfl ?_
    refine At.nil ?_
    refine At.then ?_
    refine At.ret ?_
    exact At.results (Γr := []) (M := []) rfl (RVals.cons (RVal.tmp rfl) RVals.nil) (.tail _ (.head _)) (fun _ _ => trivial) (.refl _) ⟨by rw [show k = l.l.length by omega, List.take_length]; rfl, rfl, rfl⟩

end Go.Proofs.Ytfihjmbonejddaa
