/- The laws. -/
import Derived.Test.YtfihjmbonejddaaA1
namespace Go.Proofs.Ytfihjmbonejddaa
open E

theorem awake17  : Con Try.prog 17 [] [] [] (fun v Γ M => v = .bool true ∧ Γ = [] ∧ M = []) := by
  refine Con.body 19 Try.func17 rfl Try.ntmps17 rfl fun X H₀ L₀ => ?_
  refine At.seq ?_
  refine At.region ?_
  refine At.skim 1 rfl rfl ?_
  refine At.nil ?_
  refine At.then ?_
  refine At.seq ?_
  refine At.region ?_
  refine At.quiet (q_build t23 s23 rfl rfl) rfl ?_
  refine At.call en12 rfl (clamp12 ⟨0, 5, 1000000, 0, 0⟩) (fun _ _ => trivial) (List.Perm.refl _) rfl ?_
  rintro _ _ _ ⟨rfl, rfl, rfl⟩
  refine At.quiet (q_build t23 s23 rfl rfl) rfl ?_
  refine At.quiet (q_eqStruct e23 rfl rfl rfl rfl rfl rfl) rfl ?_
  refine At.skim 1 rfl rfl ?_
  refine At.say 5 (.bool true) rfl (congrArg Value.bool (by decide)) ?_
  refine At.open rfl rfl ?_
  refine At.call en15 rfl (off15) (fun _ _ => trivial) (List.Perm.refl _) rfl ?_
  rintro _ _ _ ⟨rfl, rfl, rfl⟩
  refine At.open rfl rfl ?_
  refine At.quiet (q_field s23 rfl rfl rfl) rfl ?_
  refine At.skim 3 rfl rfl ?_
  refine At.say 10 (.bool true) rfl (congrArg Value.bool (by decide)) ?_
  refine At.open rfl rfl ?_
  refine At.call en16 rfl (eager16) (fun _ _ => trivial) (List.Perm.refl _) rfl ?_
  rintro _ _ _ ⟨rfl, rfl, rfl⟩
  refine At.open rfl rfl ?_
  refine At.quiet (q_field s23 rfl rfl rfl) rfl ?_
  refine At.skim 3 rfl rfl ?_
  refine At.say 15 (.bool true) rfl (congrArg Value.bool (by decide)) ?_
  refine At.open rfl rfl ?_
  refine At.call en16 rfl (eager16) (fun _ _ => trivial) (List.Perm.refl _) rfl ?_
  rintro _ _ _ ⟨rfl, rfl, rfl⟩
  refine At.open rfl rfl ?_
  refine At.call en14 rfl (may14 Pol.eager) (fun _ _ => trivial) (List.Perm.refl _) rfl ?_
  rintro _ _ _ ⟨rfl, rfl, rfl⟩
  refine At.skim 2 rfl rfl ?_
  refine At.nil ?_
  refine At.then ?_
  refine At.ret ?_
  exact At.results (Γr := []) (M := []) rfl (RVals.cons (RVal.tmp rfl) RVals.nil) (.head _) (fun _ _ => trivial) (.refl _) ⟨congrArg Value.bool (by decide), rfl, rfl⟩

theorem awake18  : Con Try.prog 18 [] [] [] (fun v Γ M => v = .bool true ∧ Γ = [] ∧ M = []) := by
  refine Con.body 22 Try.func18 rfl Try.ntmps18 rfl fun X H₀ L₀ => ?_
  refine At.seq ?_
  refine At.region ?_
  refine At.skim 1 rfl rfl ?_
  refine At.nil ?_
  refine At.then ?_
  refine At.seq ?_
  refine At.region ?_
  refine At.call en16 rfl (eager16) (fun _ _ => trivial) (List.Perm.refl _) rfl ?_
  rintro _ _ _ ⟨rfl, rfl, rfl⟩
  refine At.loud (l_alloc t23) rfl ?_
  rintro _ _ _ ⟨b1, rfl, rfl, rfl⟩
  refine At.loudN (l_store t23 rfl rfl (i := 0) rfl rfl rfl rfl) ?_
  rintro _ _ _ ⟨rfl, rfl⟩
  refine At.nil ?_
  refine At.then ?_
  refine At.seq ?_
  refine At.region ?_
  refine At.quiet (q_loadS t23 rfl (RdS.loc (i := 0) rfl (m := 5) rfl) rfl) rfl ?_
  refine At.call en20 rfl (next20 Pol.eager _ _) (fun _ _ => trivial) (List.Perm.refl _) rfl ?_
  rintro _ _ _ ⟨rfl, rfl, rfl⟩
  refine At.skim 2 rfl rfl ?_
  refine At.say 6 (.bool true) rfl (congrArg Value.bool (by decide)) ?_
  refine At.open rfl rfl ?_
  refine At.quiet (q_loadS t23 rfl (RdS.loc (i := 0) rfl (m := 5) rfl) rfl) rfl ?_
  refine At.open rfl rfl ?_
  refine At.call en21 rfl (decide21 Pol.eager _) (fun _ _ => trivial) (List.Perm.refl _) rfl ?_
  rintro _ _ _ ⟨rfl, rfl, rfl⟩
  refine At.skim 3 rfl rfl ?_
  refine At.say 11 (.bool true) rfl (congrArg Value.bool (by decide)) ?_
  refine At.open rfl rfl ?_
  refine At.quiet (q_loadS t23 rfl (RdS.loc (i := 0) rfl (m := 5) rfl) rfl) rfl ?_
  refine At.open rfl rfl ?_
  refine At.call en21 rfl (decide21 Pol.eager _) (fun _ _ => trivial) (List.Perm.refl _) rfl ?_
  rintro _ _ _ ⟨rfl, rfl, rfl⟩
  refine At.skim 3 rfl rfl ?_
  refine At.say 16 (.bool true) rfl (congrArg Value.bool (by decide)) ?_
  refine At.open rfl rfl ?_
  refine At.quiet (q_loadS t23 rfl (RdS.loc (i := 0) rfl (m := 5) rfl) rfl) rfl ?_
  refine At.open rfl rfl ?_
  refine At.loud (l_buildSlice Try.underlying31 t3 rfl rfl rfl rfl rfl) rfl ?_
  rintro _ _ _ ⟨b2, rfl, rfl, rfl⟩
  refine At.freeze 0 (φ := sl (some ⟨b2, 0, none⟩) 2 1 [rowI 1, rowI 3]) rfl (fun _ h => sl_of_block h rfl (by simp [rowI]) rfl) ?_
  refine At.open rfl rfl ?_
  refine At.call en23 rfl (after23 Pol.eager _ ⟨some ⟨b2, 0, none⟩, 2, [1, 3]⟩ (by simp)) (fun _ h => ⟨h.1, trivial⟩) (List.Perm.refl _) rfl ?_
  rintro _ _ _ ⟨rfl, rfl, rfl⟩
  refine At.skim 3 rfl rfl ?_
  refine At.nil ?_
  refine At.then ?_
  refine At.ret ?_
  exact At.results (Γr := []) (M := []) rfl (RVals.cons (RVal.tmp rfl) RVals.nil) (.tail _ (.head _)) (fun _ _ => trivial) (.cons _ (.refl _)) ⟨congrArg Value.bool (decide_eq_true (show afterS Pol.eager 0 [1, 3] = -1 from by decide)), rfl, rfl⟩

theorem forms3 (p : Pol) : Con Try.prog 3 [p.val] [] [] (fun v Γ M => v = .bool true ∧ Γ = [] ∧ M = []) := by
  refine Con.body 30 Try.func3 rfl Try.ntmps3 rfl fun X H₀ L₀ => ?_
  refine At.seq ?_
  refine At.region ?_
  refine At.loud (l_box rfl) rfl ?_
  rintro _ _ _ ⟨b1, rfl, rfl, rfl⟩
  refine At.freeze 0 (φ := blk b1 _) rfl (fun _ h => blk_def.2 ⟨_, _, h⟩) ?_
  refine At.skim 1 rfl rfl ?_
  refine At.nil ?_
  refine At.then ?_
  refine At.seq ?_
  refine At.draw 27 (.q 0 (.q 2 (.o 1 (.o 3 (.q 4 (.q 5 (.q 6 (.q 8 (.q 10 (.o 7 (.o 9 (.q 11 (.q 12 (.q 13 (.q 14 (.q 16 (.o 15 (.q 17 (.q 18 (.q 19 (.q 21 (.o 20 (.q 22 (.q 23 (.q 24 (.o 25 (.q 26 (.e)))))))))))))))))))))))))))) _ (List.Sublist.refl _) mixed (by kernel_rfl) rfl ?_
  refine AtO.quiet rfl (q_loadS t23 rfl (RdS.blk (.head _) (m := 5) rfl) rfl) rfl (Calm.then Post.calm) ?_
  refine AtO.quiet rfl (q_loadS t23 rfl (RdS.blk (.head _) (m := 5) rfl) rfl) rfl (Calm.then Post.calm) ?_
  refine AtO.call rfl en12 rfl (clamp12 p) (fun _ _ => trivial) (List.Perm.refl _) rfl (.refl _) ?_
  rintro _ _ _ ⟨rfl, rfl, rfl⟩
  refine AtO.call rfl en13 rfl (clamp13 p) (fun _ _ => trivial) (List.Perm.refl _) rfl (.refl _) ?_
  rintro _ _ _ ⟨rfl, rfl, rfl⟩
  refine AtO.quiet rfl (q_eqStruct e23 rfl rfl rfl rfl rfl rfl) rfl (Calm.then Post.calm) ?_
  refine AtO.quiet rfl (q_move rfl) rfl (Calm.then Post.calm) ?_
  refine AtO.say 8 (.bool true) rfl (congrArg Value.bool (by simp)) ?_
  refine AtO.quietG rfl rfl rfl (q_loadS t23 rfl (RdS.blk (.head _) (m := 5) rfl) rfl) rfl (Calm.then Post.calm) ?_
  refine AtO.quietG rfl rfl rfl (q_loadS t23 rfl (RdS.blk (.head _) (m := 5) rfl) rfl) rfl (Calm.then Post.calm) ?_
  refine AtO.quietG rfl rfl rfl (q_loadS t23 rfl (RdS.blk (.head _) (m := 5) rfl) rfl) rfl (Calm.then Post.calm) ?_
  refine AtO.callG rfl rfl rfl en14 rfl (may14 p) (fun _ _ => trivial) (List.Perm.refl _) rfl (.refl _) ?_
  rintro _ _ _ ⟨rfl, rfl, rfl⟩
  refine AtO.callG rfl rfl rfl en13 rfl (clamp13 p) (fun _ _ => trivial) (List.Perm.refl _) rfl (.refl _) ?_
  rintro _ _ _ ⟨rfl, rfl, rfl⟩
  refine AtO.quietG rfl rfl rfl (q_eqStruct e23 rfl rfl rfl rfl rfl rfl) rfl (Calm.then Post.calm) ?_
  refine AtO.quietG rfl rfl rfl (q_eqBool Try.underlying4 rfl rfl) rfl (Calm.then Post.calm) ?_
  refine AtO.quiet rfl (q_pickT rfl rfl) rfl (Calm.then Post.calm) ?_
  refine AtO.quiet rfl (q_move rfl) rfl (Calm.then Post.calm) ?_
  refine AtO.say 17 (.bool true) rfl (congrArg Value.bool (by simp only [Pol.list_eq]; simp)) ?_
  refine AtO.quietG rfl rfl rfl (q_build t23 s23 rfl rfl) rfl (Calm.then Post.calm) ?_
  refine AtO.callG rfl rfl rfl en15 rfl (off15) (fun _ _ => trivial) (List.Perm.refl _) rfl (.refl _) ?_
  rintro _ _ _ ⟨rfl, rfl, rfl⟩
  refine AtO.quietG rfl rfl rfl (q_eqStruct e23 rfl rfl rfl rfl rfl rfl) rfl (Calm.then Post.calm) ?_
  refine AtO.quiet rfl (q_pickT rfl rfl) rfl (Calm.then Post.calm) ?_
  refine AtO.quiet rfl (q_move rfl) rfl (Calm.then Post.calm) ?_
  refine AtO.say 22 (.bool true) rfl (congrArg Value.bool (by decide)) ?_
  refine AtO.quietG rfl rfl rfl (q_build t23 s23 rfl rfl) rfl (Calm.then Post.calm) ?_
  refine AtO.callG rfl rfl rfl en16 rfl (eager16) (fun _ _ => trivial) (List.Perm.refl _) rfl (.refl _) ?_
  rintro _ _ _ ⟨rfl, rfl, rfl⟩
  refine AtO.quietG rfl rfl rfl (q_eqStruct e23 rfl rfl rfl rfl rfl rfl) rfl (Calm.then Post.calm) ?_
  refine AtO.quiet rfl (q_pickT rfl rfl) rfl (Calm.then Post.calm) ?_
  refine AtO.quiet rfl (q_move rfl) rfl (Calm.then Post.calm) ?_
  refine AtO.say 27 (.bool true) rfl (congrArg Value.bool (by decide)) ?_
  refine AtO.callG rfl rfl rfl en17 rfl (awake17) (fun _ _ => trivial) (List.Perm.refl _) rfl (.refl _) ?_
  rintro _ _ _ ⟨rfl, rfl, rfl⟩
  refine AtO.quiet rfl (q_pickT rfl rfl) rfl (Calm.then Post.calm) ?_
  refine AtO.done ?_
  refine At.skim 1 rfl rfl ?_
  refine At.nil ?_
  refine At.then ?_
  refine At.ret ?_
  exact At.results (Γr := []) (M := []) rfl (RVals.cons (RVal.tmp rfl) RVals.nil) (.tail _ (.head _)) (fun _ _ => trivial) (.refl _) ⟨rfl, rfl, rfl⟩

theorem stays4 (p q : Pol) : Con Try.prog 4 [p.val, q.val] [] [] (fun v Γ M => v = .bool true ∧ Γ = [] ∧ M = []) := by
  refine Con.body 105 Try.func4 rfl Try.ntmps4 rfl fun X H₀ L₀ => ?_
  refine At.seq ?_
  refine At.region ?_
  refine At.loud (l_box rfl) rfl ?_
  rintro _ _ _ ⟨b1, rfl, rfl, rfl⟩
  refine At.freeze 0 (φ := blk b1 _) rfl (fun _ h => blk_def.2 ⟨_, _, h⟩) ?_
  refine At.loud (l_box rfl) rfl ?_
  rintro _ _ _ ⟨b2, rfl, rfl, rfl⟩
  refine At.freeze 0 (φ := blk b2 _) rfl (fun _ h => blk_def.2 ⟨_, _, h⟩) ?_
  refine At.skim 1 rfl rfl ?_
  refine At.nil ?_
  refine At.then ?_
  refine At.cutD (ι := Nat × Nat) .z [5, 6, 7, 8, 9, 10] (fun ⟨c1, c2⟩ => [(5, .pointer (some ⟨c1, 0, none⟩)), (6, .pointer (some ⟨c2, 0, none⟩))]) (fun ⟨c1, c2⟩ => []) (fun ⟨c1, c2⟩ => [[(c1, .cells (p.clamp.val).cells 23 (0, 0))], [(c2, .cells (q.clamp.val).cells 23 (0, 0))]]) (fun ⟨c1, c2⟩ => True) ?_ ?_
  · skip
    refine At.draw 7 (.q 0 (.q 2 (.u 1 (.u 3 (.t 4 (.o 5 (.o 6 (.e))) 5 (.o 4 (.o 6 (.e)))) 4 (.t 3 (.o 5 (.o 6 (.e))) 5 (.o 3 (.o 6 (.e)))) 5 (.t 3 (.o 4 (.o 6 (.e))) 4 (.o 3 (.o 6 (.e))))) 4 (.t 1 (.t 3 (.o 5 (.o 6 (.e))) 5 (.o 3 (.o 6 (.e)))) 5 (.o 1 (.o 3 (.o 6 (.e))))) 5 (.t 1 (.t 3 (.o 4 (.o 6 (.e))) 4 (.o 3 (.o 6 (.e)))) 4 (.o 1 (.o 3 (.o 6 (.e)))))))) _ (List.Sublist.refl _) mixed (by kernel_rfl) rfl ?_
    refine AtO.quiet rfl (q_loadS t23 rfl (RdS.blk (.tail _ (.head _)) (m := 5) rfl) rfl) rfl (Calm.then Post.calm) ?_
    refine AtO.quiet rfl (q_loadS t23 rfl (RdS.blk (.head _) (m := 5) rfl) rfl) rfl (Calm.then Post.calm) ?_
    refine AtO.three ?_ ?_ ?_
    · skip
      refine AtO.call rfl en12 rfl (clamp12 p) (fun _ _ => trivial) (List.Perm.refl _) rfl (.refl _) ?_
      rintro _ _ _ ⟨rfl, rfl, rfl⟩
      refine AtO.three ?_ ?_ ?_
      · skip
        refine AtO.call rfl en12 rfl (clamp12 q) (fun _ _ => trivial) (List.Perm.refl _) rfl (.refl _) ?_
        rintro _ _ _ ⟨rfl, rfl, rfl⟩
        refine AtO.two ?_ ?_
        · skip
          refine AtO.loud rfl (l_alloc t23) rfl (by rintro _ _ _ ⟨_, rfl, rfl, rfl⟩; exact ⟨fun _ h => h, .cons _ (.refl _)⟩) ?_
          rintro _ _ _ ⟨b3, rfl, rfl, rfl⟩
          refine AtO.loud rfl (l_alloc t23) rfl (by rintro _ _ _ ⟨_, rfl, rfl, rfl⟩; exact ⟨fun _ h => h, .cons _ (.cons _ (.refl _))⟩) ?_
          rintro _ _ _ ⟨b4, rfl, rfl, rfl⟩
          refine AtO.loudN rfl (l_store t23 rfl rfl (i := 1) rfl rfl rfl rfl) (by rintro _ _ _ ⟨rfl, rfl⟩; exact ⟨fun _ h => h, (.cons _ (.cons _ (.refl _)))⟩) ?_
          rintro _ _ _ ⟨rfl, rfl⟩
          refine AtO.done ?_
          refine At.loudN (l_store t23 rfl rfl (i := 0) rfl rfl rfl rfl) ?_
          rintro _ _ _ ⟨rfl, rfl⟩
          refine At.nil ?_
          refine At.front 0 rfl ?_
          refine At.front 1 rfl ?_
          refine At.then ?_
          exact At.meetK (b3, b4) trivial (Tells.meet 6 ⟨rfl, rfl, trivial⟩ rfl rfl) (fun _ h => h) (.cons_cons _ (.cons_cons _ (.refl _)))
        · skip
          refine AtO.loud rfl (l_alloc t23) rfl (by rintro _ _ _ ⟨_, rfl, rfl, rfl⟩; exact ⟨fun _ h => h, .cons _ (.refl _)⟩) ?_
          rintro _ _ _ ⟨b5, rfl, rfl, rfl⟩
          refine AtO.loud rfl (l_alloc t23) rfl (by rintro _ _ _ ⟨_, rfl, rfl, rfl⟩; exact ⟨fun _ h => h, .cons _ (.cons _ (.refl _))⟩) ?_
          rintro _ _ _ ⟨b6, rfl, rfl, rfl⟩
          refine AtO.loudN rfl (l_store t23 rfl rfl (i := 0) rfl rfl rfl rfl) (by rintro _ _ _ ⟨rfl, rfl⟩; exact ⟨fun _ h => h, (.cons _ (.cons _ (.refl _)))⟩) ?_
          rintro _ _ _ ⟨rfl, rfl⟩
          refine AtO.done ?_
          refine At.loudN (l_store t23 rfl rfl (i := 1) rfl rfl rfl rfl) ?_
          rintro _ _ _ ⟨rfl, rfl⟩
          refine At.nil ?_
          refine At.front 1 rfl ?_
          refine At.front 1 rfl ?_
          refine At.then ?_
          exact At.meetK (b6, b5) trivial (Tells.meet 6 ⟨rfl, rfl, trivial⟩ rfl rfl) (fun _ h => h) (.cons_cons _ (.cons_cons _ (.refl _)))
      · skip
        refine AtO.loud rfl (l_alloc t23) rfl (by rintro _ _ _ ⟨_, rfl, rfl, rfl⟩; exact ⟨fun _ h => h, .cons _ (.refl _)⟩) ?_
        rintro _ _ _ ⟨b7, rfl, rfl, rfl⟩
        refine AtO.two ?_ ?_
        · skip
          refine AtO.call rfl en12 rfl (clamp12 q) (fun _ _ => trivial) (List.Perm.refl _) rfl (.cons _ (.refl _)) ?_
          rintro _ _ _ ⟨rfl, rfl, rfl⟩
          refine AtO.loud rfl (l_alloc t23) rfl (by rintro _ _ _ ⟨_, rfl, rfl, rfl⟩; exact ⟨fun _ h => h, .cons _ (.cons _ (.refl _))⟩) ?_
          rintro _ _ _ ⟨b8, rfl, rfl, rfl⟩
          refine AtO.loudN rfl (l_store t23 rfl rfl (i := 1) rfl rfl rfl rfl) (by rintro _ _ _ ⟨rfl, rfl⟩; exact ⟨fun _ h => h, (.cons _ (.cons _ (.refl _)))⟩) ?_
          rintro _ _ _ ⟨rfl, rfl⟩
          refine AtO.done ?_
          refine At.loudN (l_store t23 rfl rfl (i := 0) rfl rfl rfl rfl) ?_
          rintro _ _ _ ⟨rfl, rfl⟩
          refine At.nil ?_
          refine At.front 0 rfl ?_
          refine At.front 1 rfl ?_
          refine At.then ?_
          exact At.meetK (b7, b8) trivial (Tells.meet 6 ⟨rfl, rfl, trivial⟩ rfl rfl) (fun _ h => h) (.cons_cons _ (.cons_cons _ (.refl _)))
        · skip
          refine AtO.loud rfl (l_alloc t23) rfl (by rintro _ _ _ ⟨_, rfl, rfl, rfl⟩; exact ⟨fun _ h => h, .cons _ (.cons _ (.refl _))⟩) ?_
          rintro _ _ _ ⟨b9, rfl, rfl, rfl⟩
          refine AtO.call rfl en12 rfl (clamp12 q) (fun _ _ => trivial) (List.Perm.refl _) rfl (.cons _ (.cons _ (.refl _))) ?_
          rintro _ _ _ ⟨rfl, rfl, rfl⟩
          refine AtO.loudN rfl (l_store t23 rfl rfl (i := 1) rfl rfl rfl rfl) (by rintro _ _ _ ⟨rfl, rfl⟩; exact ⟨fun _ h => h, (.cons _ (.cons _ (.refl _)))⟩) ?_
          rintro _ _ _ ⟨rfl, rfl⟩
          refine AtO.done ?_
          refine At.loudN (l_store t23 rfl rfl (i := 0) rfl rfl rfl rfl) ?_
          rintro _ _ _ ⟨rfl, rfl⟩
          refine At.nil ?_
          refine At.front 0 rfl ?_
          refine At.front 1 rfl ?_
          refine At.then ?_
          exact At.meetK (b7, b9) trivial (Tells.meet 6 ⟨rfl, rfl, trivial⟩ rfl rfl) (fun _ h => h) (.cons_cons _ (.cons_cons _ (.refl _)))
      · skip
        refine AtO.loud rfl (l_alloc t23) rfl (by rintro _ _ _ ⟨_, rfl, rfl, rfl⟩; exact ⟨fun _ h => h, .cons _ (.refl _)⟩) ?_
        rintro _ _ _ ⟨b10, rfl, rfl, rfl⟩
        refine AtO.two ?_ ?_
        · skip
          refine AtO.call rfl en12 rfl (clamp12 q) (fun _ _ => trivial) (List.Perm.refl _) rfl (.cons _ (.refl _)) ?_
          rintro _ _ _ ⟨rfl, rfl, rfl⟩
          refine AtO.loud rfl (l_alloc t23) rfl (by rintro _ _ _ ⟨_, rfl, rfl, rfl⟩; exact ⟨fun _ h => h, .cons _ (.cons _ (.refl _))⟩) ?_
          rintro _ _ _ ⟨b11, rfl, rfl, rfl⟩
          refine AtO.loudN rfl (l_store t23 rfl rfl (i := 0) rfl rfl rfl rfl) (by rintro _ _ _ ⟨rfl, rfl⟩; exact ⟨fun _ h => h, (.cons _ (.cons _ (.refl _)))⟩) ?_
          rintro _ _ _ ⟨rfl, rfl⟩
          refine AtO.done ?_
          refine At.loudN (l_store t23 rfl rfl (i := 1) rfl rfl rfl rfl) ?_
          rintro _ _ _ ⟨rfl, rfl⟩
          refine At.nil ?_
          refine At.front 1 rfl ?_
          refine At.front 1 rfl ?_
          refine At.then ?_
          exact At.meetK (b11, b10) trivial (Tells.meet 6 ⟨rfl, rfl, trivial⟩ rfl rfl) (fun _ h => h) (.cons_cons _ (.cons_cons _ (.refl _)))
        · skip
          refine AtO.loud rfl (l_alloc t23) rfl (by rintro _ _ _ ⟨_, rfl, rfl, rfl⟩; exact ⟨fun _ h => h, .cons _ (.cons _ (.refl _))⟩) ?_
          rintro _ _ _ ⟨b12, rfl, rfl, rfl⟩
          refine AtO.call rfl en12 rfl (clamp12 q) (fun _ _ => trivial) (List.Perm.refl _) rfl (.cons _ (.cons _ (.refl _))) ?_
          rintro _ _ _ ⟨rfl, rfl, rfl⟩
          refine AtO.loudN rfl (l_store t23 rfl rfl (i := 0) rfl rfl rfl rfl) (by rintro _ _ _ ⟨rfl, rfl⟩; exact ⟨fun _ h => h, (.cons _ (.cons _ (.refl _)))⟩) ?_
          rintro _ _ _ ⟨rfl, rfl⟩
          refine AtO.done ?_
          refine At.loudN (l_store t23 rfl rfl (i := 1) rfl rfl rfl rfl) ?_
          rintro _ _ _ ⟨rfl, rfl⟩
          refine At.nil ?_
          refine At.front 1 rfl ?_
          refine At.front 1 rfl ?_
          refine At.then ?_
          exact At.meetK (b12, b10) trivial (Tells.meet 6 ⟨rfl, rfl, trivial⟩ rfl rfl) (fun _ h => h) (.cons_cons _ (.cons_cons _ (.refl _)))
    · skip
      refine AtO.loud rfl (l_alloc t23) rfl (by rintro _ _ _ ⟨_, rfl, rfl, rfl⟩; exact ⟨fun _ h => h, .cons _ (.refl _)⟩) ?_
      rintro _ _ _ ⟨b13, rfl, rfl, rfl⟩
      refine AtO.two ?_ ?_
      · skip
        refine AtO.call rfl en12 rfl (clamp12 p) (fun _ _ => trivial) (List.Perm.refl _) rfl (.cons _ (.refl _)) ?_
        rintro _ _ _ ⟨rfl, rfl, rfl⟩
        refine AtO.two ?_ ?_
        · skip
          refine AtO.call rfl en12 rfl (clamp12 q) (fun _ _ => trivial) (List.Perm.refl _) rfl (.cons _ (.refl _)) ?_
          rintro _ _ _ ⟨rfl, rfl, rfl⟩
          refine AtO.loud rfl (l_alloc t23) rfl (by rintro _ _ _ ⟨_, rfl, rfl, rfl⟩; exact ⟨fun _ h => h, .cons _ (.cons _ (.refl _))⟩) ?_
          rintro _ _ _ ⟨b14, rfl, rfl, rfl⟩
          refine AtO.loudN rfl (l_store t23 rfl rfl (i := 1) rfl rfl rfl rfl) (by rintro _ _ _ ⟨rfl, rfl⟩; exact ⟨fun _ h => h, (.cons _ (.cons _ (.refl _)))⟩) ?_
          rintro _ _ _ ⟨rfl, rfl⟩
          refine AtO.done ?_
          refine At.loudN (l_store t23 rfl rfl (i := 0) rfl rfl rfl rfl) ?_
          rintro _ _ _ ⟨rfl, rfl⟩
          refine At.nil ?_
          refine At.front 0 rfl ?_
          refine At.front 1 rfl ?_
          refine At.then ?_
          exact At.meetK (b13, b14) trivial (Tells.meet 6 ⟨rfl, rfl, trivial⟩ rfl rfl) (fun _ h => h) (.cons_cons _ (.cons_cons _ (.refl _)))
        · skip
          refine AtO.loud rfl (l_alloc t23) rfl (by rintro _ _ _ ⟨_, rfl, rfl, rfl⟩; exact ⟨fun _ h => h, .cons _ (.cons _ (.refl _))⟩) ?_
          rintro _ _ _ ⟨b15, rfl, rfl, rfl⟩
          refine AtO.call rfl en12 rfl (clamp12 q) (fun _ _ => trivial) (List.Perm.refl _) rfl (.cons _ (.cons _ (.refl _))) ?_
          rintro _ _ _ ⟨rfl, rfl, rfl⟩
          refine AtO.loudN rfl (l_store t23 rfl rfl (i := 1) rfl rfl rfl rfl) (by rintro _ _ _ ⟨rfl, rfl⟩; exact ⟨fun _ h => h, (.cons _ (.cons _ (.refl _)))⟩) ?_
          rintro _ _ _ ⟨rfl, rfl⟩
          refine AtO.done ?_
          refine At.loudN (l_store t23 rfl rfl (i := 0) rfl rfl rfl rfl) ?_
          rintro _ _ _ ⟨rfl, rfl⟩
          refine At.nil ?_
          refine At.front 0 rfl ?_
          refine At.front 1 rfl ?_
          refine At.then ?_
          exact At.meetK (b13, b15) trivial (Tells.meet 6 ⟨rfl, rfl, trivial⟩ rfl rfl) (fun _ h => h) (.cons_cons _ (.cons_cons _ (.refl _)))
      · skip
        refine AtO.loud rfl (l_alloc t23) rfl (by rintro _ _ _ ⟨_, rfl, rfl, rfl⟩; exact ⟨fun _ h => h, .cons _ (.cons _ (.refl _))⟩) ?_
        rintro _ _ _ ⟨b16, rfl, rfl, rfl⟩
        refine AtO.call rfl en12 rfl (clamp12 p) (fun _ _ => trivial) (List.Perm.refl _) rfl (.cons _ (.cons _ (.refl _))) ?_
        rintro _ _ _ ⟨rfl, rfl, rfl⟩
        refine AtO.call rfl en12 rfl (clamp12 q) (fun _ _ => trivial) (List.Perm.refl _) rfl (.cons _ (.cons _ (.refl _))) ?_
        rintro _ _ _ ⟨rfl, rfl, rfl⟩
        refine AtO.loudN rfl (l_store t23 rfl rfl (i := 1) rfl rfl rfl rfl) (by rintro _ _ _ ⟨rfl, rfl⟩; exact ⟨fun _ h => h, (.cons _ (.cons _ (.refl _)))⟩) ?_
        rintro _ _ _ ⟨rfl, rfl⟩
        refine AtO.done ?_
        refine At.loudN (l_store t23 rfl rfl (i := 0) rfl rfl rfl rfl) ?_
        rintro _ _ _ ⟨rfl, rfl⟩
        refine At.nil ?_
        refine At.front 0 rfl ?_
        refine At.front 1 rfl ?_
        refine At.then ?_
        exact At.meetK (b13, b16) trivial (Tells.meet 6 ⟨rfl, rfl, trivial⟩ rfl rfl) (fun _ h => h) (.cons_cons _ (.cons_cons _ (.refl _)))
    · skip
      refine AtO.loud rfl (l_alloc t23) rfl (by rintro _ _ _ ⟨_, rfl, rfl, rfl⟩; exact ⟨fun _ h => h, .cons _ (.refl _)⟩) ?_
      rintro _ _ _ ⟨b17, rfl, rfl, rfl⟩
      refine AtO.two ?_ ?_
      · skip
        refine AtO.call rfl en12 rfl (clamp12 p) (fun _ _ => trivial) (List.Perm.refl _) rfl (.cons _ (.refl _)) ?_
        rintro _ _ _ ⟨rfl, rfl, rfl⟩
        refine AtO.two ?_ ?_
        · skip
          refine AtO.call rfl en12 rfl (clamp12 q) (fun _ _ => trivial) (List.Perm.refl _) rfl (.cons _ (.refl _)) ?_
          rintro _ _ _ ⟨rfl, rfl, rfl⟩
          refine AtO.loud rfl (l_alloc t23) rfl (by rintro _ _ _ ⟨_, rfl, rfl, rfl⟩; exact ⟨fun _ h => h, .cons _ (.cons _ (.refl _))⟩) ?_
          rintro _ _ _ ⟨b18, rfl, rfl, rfl⟩
          refine AtO.loudN rfl (l_store t23 rfl rfl (i := 0) rfl rfl rfl rfl) (by rintro _ _ _ ⟨rfl, rfl⟩; exact ⟨fun _ h => h, (.cons _ (.cons _ (.refl _)))⟩) ?_
          rintro _ _ _ ⟨rfl, rfl⟩
          refine AtO.done ?_
          refine At.loudN (l_store t23 rfl rfl (i := 1) rfl rfl rfl rfl) ?_
          rintro _ _ _ ⟨rfl, rfl⟩
          refine At.nil ?_
          refine At.front 1 rfl ?_
          refine At.front 1 rfl ?_
          refine At.then ?_
          exact At.meetK (b18, b17) trivial (Tells.meet 6 ⟨rfl, rfl, trivial⟩ rfl rfl) (fun _ h => h) (.cons_cons _ (.cons_cons _ (.refl _)))
        · skip
          refine AtO.loud rfl (l_alloc t23) rfl (by rintro _ _ _ ⟨_, rfl, rfl, rfl⟩; exact ⟨fun _ h => h, .cons _ (.cons _ (.refl _))⟩) ?_
          rintro _ _ _ ⟨b19, rfl, rfl, rfl⟩
          refine AtO.call rfl en12 rfl (clamp12 q) (fun _ _ => trivial) (List.Perm.refl _) rfl (.cons _ (.cons _ (.refl _))) ?_
          rintro _ _ _ ⟨rfl, rfl, rfl⟩
          refine AtO.loudN rfl (l_store t23 rfl rfl (i := 0) rfl rfl rfl rfl) (by rintro _ _ _ ⟨rfl, rfl⟩; exact ⟨fun _ h => h, (.cons _ (.cons _ (.refl _)))⟩) ?_
          rintro _ _ _ ⟨rfl, rfl⟩
          refine AtO.done ?_
          refine At.loudN (l_store t23 rfl rfl (i := 1) rfl rfl rfl rfl) ?_
          rintro _ _ _ ⟨rfl, rfl⟩
          refine At.nil ?_
          refine At.front 1 rfl ?_
          refine At.front 1 rfl ?_
          refine At.then ?_
          exact At.meetK (b19, b17) trivial (Tells.meet 6 ⟨rfl, rfl, trivial⟩ rfl rfl) (fun _ h => h) (.cons_cons _ (.cons_cons _ (.refl _)))
      · skip
        refine AtO.loud rfl (l_alloc t23) rfl (by rintro _ _ _ ⟨_, rfl, rfl, rfl⟩; exact ⟨fun _ h => h, .cons _ (.cons _ (.refl _))⟩) ?_
        rintro _ _ _ ⟨b20, rfl, rfl, rfl⟩
        refine AtO.call rfl en12 rfl (clamp12 p) (fun _ _ => trivial) (List.Perm.refl _) rfl (.cons _ (.cons _ (.refl _))) ?_
        rintro _ _ _ ⟨rfl, rfl, rfl⟩
        refine AtO.call rfl en12 rfl (clamp12 q) (fun _ _ => trivial) (List.Perm.refl _) rfl (.cons _ (.cons _ (.refl _))) ?_
        rintro _ _ _ ⟨rfl, rfl, rfl⟩
        refine AtO.loudN rfl (l_store t23 rfl rfl (i := 0) rfl rfl rfl rfl) (by rintro _ _ _ ⟨rfl, rfl⟩; exact ⟨fun _ h => h, (.cons _ (.cons _ (.refl _)))⟩) ?_
        rintro _ _ _ ⟨rfl, rfl⟩
        refine AtO.done ?_
        refine At.loudN (l_store t23 rfl rfl (i := 1) rfl rfl rfl rfl) ?_
        rintro _ _ _ ⟨rfl, rfl⟩
        refine At.nil ?_
        refine At.front 1 rfl ?_
        refine At.front 1 rfl ?_
        refine At.then ?_
        exact At.meetK (b20, b17) trivial (Tells.meet 6 ⟨rfl, rfl, trivial⟩ rfl rfl) (fun _ h => h) (.cons_cons _ (.cons_cons _ (.refl _)))
  intro i hI
  obtain ⟨c1, c2⟩ := i
  refine At.seq ?_
  refine At.seq ?_
  refine At.draw 23 (.q 0 (.o 1 (.q 2 (.q 3 (.q 4 (.q 6 (.o 5 (.q 7 (.q 8 (.q 9 (.q 10 (.o 11 (.q 12 (.q 13 (.q 14 (.q 15 (.q 16 (.q 17 (.q 18 (.o 19 (.o 20 (.q 21 (.q 22 (.e)))))))))))))))))))))))) _ (List.Sublist.refl _) mixed (by kernel_rfl) rfl ?_
  refine AtO.quiet rfl (q_loadS t23 rfl (RdS.loc (i := 0) rfl (m := 5) rfl) rfl) rfl (Calm.then (Calm.then Post.calm)) ?_
  refine AtO.call rfl en14 rfl (may14 p.clamp) (fun _ _ => trivial) (List.Perm.refl _) rfl (.cons_cons _ (.cons_cons _ (.refl _))) ?_
  rintro _ _ _ ⟨rfl, rfl, rfl⟩
  refine AtO.quiet rfl (q_not rfl) rfl (Calm.then (Calm.then Post.calm)) ?_
  refine AtO.quiet rfl (q_move rfl) rfl (Calm.then (Calm.then Post.calm)) ?_
  refine AtO.say 14 (.bool false) rfl (congrArg Value.bool (by simp [Pol.clamp_clamp])) ?_
  refine AtO.quietG rfl rfl rfl (q_loadS t23 rfl (RdS.loc (i := 0) rfl (m := 5) rfl) rfl) rfl (Calm.then (Calm.then Post.calm)) ?_
  refine AtO.quietG rfl rfl rfl (q_loadS t23 rfl (RdS.loc (i := 0) rfl (m := 5) rfl) rfl) rfl (Calm.then (Calm.then Post.calm)) ?_
  refine AtO.callG rfl rfl rfl en12 rfl (clamp12 p.clamp) (fun _ _ => trivial) (List.Perm.refl _) rfl (.cons_cons _ (.cons_cons _ (.refl _))) ?_
  rintro _ _ _ ⟨rfl, rfl, rfl⟩
  refine AtO.quietG rfl rfl rfl (q_neqStruct e23 rfl rfl rfl rfl rfl rfl) rfl (Calm.then (Calm.then Post.calm)) ?_
  refine AtO.quiet rfl (q_pickF rfl rfl) rfl (Calm.then (Calm.then Post.calm)) ?_
  refine AtO.quiet rfl (q_move rfl) rfl (Calm.then (Calm.then Post.calm)) ?_
  refine AtO.say 20 (.bool false) rfl (congrArg Value.bool (by rw [Pol.clamp_clamp]; simp)) ?_
  refine AtO.quietG rfl rfl rfl (q_loadS t23 rfl (RdS.blk (.tail _ (.head _)) (m := 5) rfl) rfl) rfl (Calm.then (Calm.then Post.calm)) ?_
  refine AtO.callG rfl rfl rfl en14 rfl (may14 p) (fun _ _ => trivial) (List.Perm.refl _) rfl (.cons_cons _ (.cons_cons _ (.refl _))) ?_
  rintro _ _ _ ⟨rfl, rfl, rfl⟩
  refine AtO.quietG rfl rfl rfl (q_move rfl) rfl (Calm.then (Calm.then Post.calm)) ?_
  refine AtO.splitP (d := 23) rfl (fun h0 => ?_) (fun h0 => ?_)
  · skip
    refine AtO.quietG rfl rfl rfl (q_loadS t23 rfl (RdS.loc (i := 0) rfl (m := 5) rfl) rfl) rfl (Calm.then (Calm.then Post.calm)) ?_
    refine AtO.quietG rfl rfl rfl (q_loadS t23 rfl (RdS.blk (.tail _ (.head _)) (m := 5) rfl) rfl) rfl (Calm.then (Calm.then Post.calm)) ?_
    refine AtO.quietG rfl rfl rfl (q_neqStruct e23 rfl rfl rfl rfl rfl rfl) rfl (Calm.then (Calm.then Post.calm)) ?_
    refine AtO.quietG rfl rfl rfl (q_pickT rfl rfl) rfl (Calm.then (Calm.then Post.calm)) ?_
    refine AtO.quiet rfl (q_pickF rfl rfl) rfl (Calm.then (Calm.then Post.calm)) ?_
    refine AtO.quiet rfl (q_move rfl) rfl (Calm.then (Calm.then Post.calm)) ?_
    refine AtO.say 29 (.bool false) rfl (congrArg Value.bool (by rw [h0]; simp)) ?_
    refine AtO.callG rfl rfl rfl en15 rfl (off15) (fun _ _ => trivial) (List.Perm.refl _) rfl (.cons_cons _ (.cons_cons _ (.refl _))) ?_
    rintro _ _ _ ⟨rfl, rfl, rfl⟩
    refine AtO.callG rfl rfl rfl en14 rfl (may14 Pol.off) (fun _ _ => trivial) (List.Perm.refl _) rfl (.cons_cons _ (.cons_cons _ (.refl _))) ?_
    rintro _ _ _ ⟨rfl, rfl, rfl⟩
    refine AtO.quietG rfl rfl rfl (q_not rfl) rfl (Calm.then (Calm.then Post.calm)) ?_
    refine AtO.quiet rfl (q_pickF rfl rfl) rfl (Calm.then (Calm.then Post.calm)) ?_
    refine AtO.done ?_
    refine At.nil ?_
    refine At.then ?_
    refine At.say 33 (.bool false) rfl (congrArg Value.bool (by decide)) ?_
    refine At.condF rfl ?_
    refine At.skip ?_
    refine At.then ?_
    refine At.seq ?_
    refine At.region ?_
    refine At.cutOpsD (ι := Unit) .z 12 [34, 35, 36, 37, 38, 39, 40, 41, 42, 43, 44, 45] (fun _ => [(45, .bool true)]) (fun _ => []) (fun _ => []) (fun _ => True) rfl ?_ ?_
    · skip
      refine At.fld s23 t3 rfl rfl rfl (Rd.blk (.tail _ (.head _)) rfl) rfl rfl ?_
      refine At.fld s23 t3 rfl rfl rfl (Rd.blk (.head _) rfl) rfl rfl ?_
      refine At.skim 2 rfl rfl ?_
      refine At.splitP (d := 39) rfl (fun hh0 => ?_) (fun hh0 => ?_)
      · skip
        refine At.skim 6 rfl rfl ?_
        refine At.nil ?_
        refine At.then ?_
        exact At.meetK () trivial (Tells.meet 13 ⟨rfl, trivial⟩ rfl rfl) (fun _ h => h) (.refl _)
      · skip
        refine At.open rfl rfl ?_
        refine At.quiet (q_fieldAddr s23 rfl rfl rfl) rfl ?_
        refine At.open rfl rfl ?_
        refine At.quiet (q_load t3 rfl (Rd.loc (i := 0) rfl rfl)) rfl ?_
        refine At.open rfl rfl ?_
        refine At.quiet (q_fieldAddr s23 rfl rfl rfl) rfl ?_
        refine At.open rfl rfl ?_
        refine At.quiet (q_load t3 rfl (Rd.loc (i := 1) rfl rfl)) rfl ?_
        refine At.skim 2 rfl rfl ?_
        refine At.nil ?_
        refine At.say 45 (.bool true) rfl (congrArg Value.bool (by simp only [Pol.clamp]; exact decide_eq_true (hold_mono _ _ _ _ (by omega)))) ?_
        refine At.then ?_
        exact At.meetK () trivial (Tells.meet 14 ⟨rfl, trivial⟩ rfl rfl) (fun _ h => h) (.refl _)
    intro u hI
    obtain _ := u
    refine At.skim 1 rfl rfl ?_
    refine At.cutOpsD (ι := Unit) .z 13 [47, 48, 49, 50, 51, 52, 53, 54, 55, 56, 57, 58, 59] (fun _ => [(59, .bool true)]) (fun _ => []) (fun _ => []) (fun _ => True) rfl ?_ ?_
    · skip
      refine At.open rfl rfl ?_
      refine At.quiet (q_fieldAddr s23 rfl rfl rfl) rfl ?_
      refine At.open rfl rfl ?_
      refine At.quiet (q_load t3 rfl (Rd.blk (.tail _ (.head _)) rfl)) rfl ?_
      refine At.open rfl rfl ?_
      refine At.quiet (q_fieldAddr s23 rfl rfl rfl) rfl ?_
      refine At.open rfl rfl ?_
      refine At.quiet (q_load t3 rfl (Rd.blk (.head _) rfl)) rfl ?_
      refine At.skim 2 rfl rfl ?_
      refine At.splitP (d := 52) rfl (fun hh1 => ?_) (fun hh1 => ?_)
      · skip
        refine At.skim 7 rfl rfl ?_
        refine At.nil ?_
        refine At.then ?_
        exact At.meetK () trivial (Tells.meet 14 ⟨rfl, trivial⟩ rfl rfl) (fun _ h => h) (.refl _)
      · skip
        refine At.open rfl rfl ?_
        refine At.quiet (q_fieldAddr s23 rfl rfl rfl) rfl ?_
        refine At.open rfl rfl ?_
        refine At.quiet (q_load t3 rfl (Rd.loc (i := 0) rfl rfl)) rfl ?_
        refine At.open rfl rfl ?_
        refine At.quiet (q_fieldAddr s23 rfl rfl rfl) rfl ?_
        refine At.open rfl rfl ?_
        refine At.quiet (q_load t3 rfl (Rd.loc (i := 1) rfl rfl)) rfl ?_
        refine At.skim 3 rfl rfl ?_
        refine At.nil ?_
        refine At.say 59 (.bool true) rfl (congrArg Value.bool (by simp only [Pol.clamp]; exact decide_eq_true (hold_mono _ _ _ _ (by omega)))) ?_
        refine At.then ?_
        exact At.meetK () trivial (Tells.meet 15 ⟨rfl, trivial⟩ rfl rfl) (fun _ h => h) (.refl _)
    intro u hI
    obtain _ := u
    refine At.skim 1 rfl rfl ?_
    refine At.cutOpsD (ι := Unit) .z 13 [61, 62, 63, 64, 65, 66, 67, 68, 69, 70, 71, 72, 73] (fun _ => [(73, .bool true)]) (fun _ => []) (fun _ => []) (fun _ => True) rfl ?_ ?_
    · skip
      refine At.open rfl rfl ?_
      refine At.quiet (q_fieldAddr s23 rfl rfl rfl) rfl ?_
      refine At.open rfl rfl ?_
      refine At.quiet (q_load t3 rfl (Rd.blk (.tail _ (.head _)) rfl)) rfl ?_
      refine At.open rfl rfl ?_
      refine At.quiet (q_fieldAddr s23 rfl rfl rfl) rfl ?_
      refine At.open rfl rfl ?_
      refine At.quiet (q_load t3 rfl (Rd.blk (.head _) rfl)) rfl ?_
      refine At.skim 2 rfl rfl ?_
      refine At.splitP (d := 66) rfl (fun hh2 => ?_) (fun hh2 => ?_)
      · skip
        refine At.skim 7 rfl rfl ?_
        refine At.nil ?_
        refine At.then ?_
        exact At.meetK () trivial (Tells.meet 14 ⟨rfl, trivial⟩ rfl rfl) (fun _ h => h) (.refl _)
      · skip
        refine At.open rfl rfl ?_
        refine At.quiet (q_fieldAddr s23 rfl rfl rfl) rfl ?_
        refine At.open rfl rfl ?_
        refine At.quiet (q_load t3 rfl (Rd.loc (i := 0) rfl rfl)) rfl ?_
        refine At.open rfl rfl ?_
        refine At.quiet (q_fieldAddr s23 rfl rfl rfl) rfl ?_
        refine At.open rfl rfl ?_
        refine At.quiet (q_load t3 rfl (Rd.loc (i := 1) rfl rfl)) rfl ?_
        refine At.skim 3 rfl rfl ?_
        refine At.nil ?_
        refine At.say 73 (.bool true) rfl (congrArg Value.bool (by simp only [Pol.clamp]; exact decide_eq_true (hold_mono _ _ _ _ (by omega)))) ?_
        refine At.then ?_
        exact At.meetK () trivial (Tells.meet 15 ⟨rfl, trivial⟩ rfl rfl) (fun _ h => h) (.refl _)
    intro u hI
    obtain _ := u
    refine At.skim 1 rfl rfl ?_
    refine At.cutOpsD (ι := Unit) .z 13 [75, 76, 77, 78, 79, 80, 81, 82, 83, 84, 85, 86, 87] (fun _ => [(87, .bool true)]) (fun _ => []) (fun _ => []) (fun _ => True) rfl ?_ ?_
    · skip
      refine At.open rfl rfl ?_
      refine At.quiet (q_fieldAddr s23 rfl rfl rfl) rfl ?_
      refine At.open rfl rfl ?_
      refine At.quiet (q_load t3 rfl (Rd.blk (.tail _ (.head _)) rfl)) rfl ?_
      refine At.open rfl rfl ?_
      refine At.quiet (q_fieldAddr s23 rfl rfl rfl) rfl ?_
      refine At.open rfl rfl ?_
      refine At.quiet (q_load t3 rfl (Rd.blk (.head _) rfl)) rfl ?_
      refine At.skim 2 rfl rfl ?_
      refine At.splitP (d := 80) rfl (fun hh3 => ?_) (fun hh3 => ?_)
      · skip
        refine At.skim 7 rfl rfl ?_
        refine At.nil ?_
        refine At.then ?_
        exact At.meetK () trivial (Tells.meet 14 ⟨rfl, trivial⟩ rfl rfl) (fun _ h => h) (.refl _)
      · skip
        refine At.open rfl rfl ?_
        refine At.quiet (q_fieldAddr s23 rfl rfl rfl) rfl ?_
        refine At.open rfl rfl ?_
        refine At.quiet (q_load t3 rfl (Rd.loc (i := 0) rfl rfl)) rfl ?_
        refine At.open rfl rfl ?_
        refine At.quiet (q_fieldAddr s23 rfl rfl rfl) rfl ?_
        refine At.open rfl rfl ?_
        refine At.quiet (q_load t3 rfl (Rd.loc (i := 1) rfl rfl)) rfl ?_
        refine At.skim 3 rfl rfl ?_
        refine At.nil ?_
        refine At.say 87 (.bool true) rfl (congrArg Value.bool (by simp only [Pol.clamp]; exact decide_eq_true (hold_mono _ _ _ _ (by omega)))) ?_
        refine At.then ?_
        exact At.meetK () trivial (Tells.meet 15 ⟨rfl, trivial⟩ rfl rfl) (fun _ h => h) (.refl _)
    intro u hI
    obtain _ := u
    refine At.skim 1 rfl rfl ?_
    refine At.cutOpsD (ι := Unit) .z 13 [89, 90, 91, 92, 93, 94, 95, 96, 97, 98, 99, 100, 101] (fun _ => [(101, .bool true)]) (fun _ => []) (fun _ => []) (fun _ => True) rfl ?_ ?_
    · skip
      refine At.open rfl rfl ?_
      refine At.quiet (q_fieldAddr s23 rfl rfl rfl) rfl ?_
      refine At.open rfl rfl ?_
      refine At.quiet (q_load t3 rfl (Rd.blk (.tail _ (.head _)) rfl)) rfl ?_
      refine At.open rfl rfl ?_
      refine At.quiet (q_fieldAddr s23 rfl rfl rfl) rfl ?_
      refine At.open rfl rfl ?_
      refine At.quiet (q_load t3 rfl (Rd.blk (.head _) rfl)) rfl ?_
      refine At.skim 2 rfl rfl ?_
      refine At.splitP (d := 94) rfl (fun hh4 => ?_) (fun hh4 => ?_)
      · skip
        refine At.skim 7 rfl rfl ?_
        refine At.nil ?_
        refine At.then ?_
        exact At.meetK () trivial (Tells.meet 14 ⟨rfl, trivial⟩ rfl rfl) (fun _ h => h) (.refl _)
      · skip
        refine At.open rfl rfl ?_
        refine At.quiet (q_fieldAddr s23 rfl rfl rfl) rfl ?_
        refine At.open rfl rfl ?_
        refine At.quiet (q_load t3 rfl (Rd.loc (i := 0) rfl rfl)) rfl ?_
        refine At.open rfl rfl ?_
        refine At.quiet (q_fieldAddr s23 rfl rfl rfl) rfl ?_
        refine At.open rfl rfl ?_
        refine At.quiet (q_load t3 rfl (Rd.loc (i := 1) rfl rfl)) rfl ?_
        refine At.skim 3 rfl rfl ?_
        refine At.nil ?_
        refine At.say 101 (.bool true) rfl (congrArg Value.bool (by simp only [Pol.clamp]; exact decide_eq_true (hold_mono _ _ _ _ (by omega)))) ?_
        refine At.then ?_
        exact At.meetK () trivial (Tells.meet 15 ⟨rfl, trivial⟩ rfl rfl) (fun _ h => h) (.refl _)
    intro u hI
    obtain _ := u
    refine At.skim 1 rfl rfl ?_
    refine At.open rfl rfl ?_
    refine At.call en17 rfl (awake17) (fun _ _ => trivial) (List.Perm.refl _) rfl ?_
    rintro _ _ _ ⟨rfl, rfl, rfl⟩
    refine At.skim 2 rfl rfl ?_
    refine At.nil ?_
    refine At.then ?_
    refine At.ret ?_
    exact At.results (Γr := []) (M := []) rfl (RVals.cons (RVal.tmp rfl) RVals.nil) (.tail _ (.tail _ (.head _))) (fun _ _ => trivial) (.cons _ (.cons _ (.refl _))) ⟨rfl, rfl, rfl⟩
  · skip
    refine AtO.shut rfl rfl rfl rfl (Calm.then (Calm.then Post.calm)) ?_
    refine AtO.shut rfl rfl rfl rfl (Calm.then (Calm.then Post.calm)) ?_
    refine AtO.shut rfl rfl rfl rfl (Calm.then (Calm.then Post.calm)) ?_
    refine AtO.quietG rfl rfl rfl (q_pickF rfl rfl) rfl (Calm.then (Calm.then Post.calm)) ?_
    refine AtO.quiet rfl (q_pickF rfl rfl) rfl (Calm.then (Calm.then Post.calm)) ?_
    refine AtO.quiet rfl (q_move rfl) rfl (Calm.then (Calm.then Post.calm)) ?_
    refine AtO.callG rfl rfl rfl en15 rfl (off15) (fun _ _ => trivial) (List.Perm.refl _) rfl (.cons_cons _ (.cons_cons _ (.refl _))) ?_
    rintro _ _ _ ⟨rfl, rfl, rfl⟩
    refine AtO.callG rfl rfl rfl en14 rfl (may14 Pol.off) (fun _ _ => trivial) (List.Perm.refl _) rfl (.cons_cons _ (.cons_cons _ (.refl _))) ?_
    rintro _ _ _ ⟨rfl, rfl, rfl⟩
    refine AtO.quietG rfl rfl rfl (q_not rfl) rfl (Calm.then (Calm.then Post.calm)) ?_
    refine AtO.quiet rfl (q_pickF rfl rfl) rfl (Calm.then (Calm.then Post.calm)) ?_
    refine AtO.done ?_
    refine At.nil ?_
    refine At.then ?_
    refine At.say 33 (.bool false) rfl (congrArg Value.bool (by decide)) ?_
    refine At.condF rfl ?_
    refine At.skip ?_
    refine At.then ?_
    refine At.seq ?_
    refine At.region ?_
    refine At.cutOpsD (ι := Unit) .z 12 [34, 35, 36, 37, 38, 39, 40, 41, 42, 43, 44, 45] (fun _ => [(45, .bool true)]) (fun _ => []) (fun _ => []) (fun _ => True) rfl ?_ ?_
    · skip
      refine At.fld s23 t3 rfl rfl rfl (Rd.blk (.tail _ (.head _)) rfl) rfl rfl ?_
      refine At.fld s23 t3 rfl rfl rfl (Rd.blk (.head _) rfl) rfl rfl ?_
      refine At.skim 2 rfl rfl ?_
      refine At.splitP (d := 39) rfl (fun hh0 => ?_) (fun hh0 => ?_)
      · skip
        refine At.skim 6 rfl rfl ?_
        refine At.nil ?_
        refine At.then ?_
        exact At.meetK () trivial (Tells.meet 13 ⟨rfl, trivial⟩ rfl rfl) (fun _ h => h) (.refl _)
      · skip
        refine At.open rfl rfl ?_
        refine At.quiet (q_fieldAddr s23 rfl rfl rfl) rfl ?_
        refine At.open rfl rfl ?_
        refine At.quiet (q_load t3 rfl (Rd.loc (i := 0) rfl rfl)) rfl ?_
        refine At.open rfl rfl ?_
        refine At.quiet (q_fieldAddr s23 rfl rfl rfl) rfl ?_
        refine At.open rfl rfl ?_
        refine At.quiet (q_load t3 rfl (Rd.loc (i := 1) rfl rfl)) rfl ?_
        refine At.skim 2 rfl rfl ?_
        refine At.nil ?_
        refine At.say 45 (.bool true) rfl (congrArg Value.bool (by simp only [Pol.clamp]; exact decide_eq_true (hold_mono _ _ _ _ (by omega)))) ?_
        refine At.then ?_
        exact At.meetK () trivial (Tells.meet 14 ⟨rfl, trivial⟩ rfl rfl) (fun _ h => h) (.refl _)
    intro u hI
    obtain _ := u
    refine At.skim 1 rfl rfl ?_
    refine At.cutOpsD (ι := Unit) .z 13 [47, 48, 49, 50, 51, 52, 53, 54, 55, 56, 57, 58, 59] (fun _ => [(59, .bool true)]) (fun _ => []) (fun _ => []) (fun _ => True) rfl ?_ ?_
    · skip
      refine At.open rfl rfl ?_
      refine At.quiet (q_fieldAddr s23 rfl rfl rfl) rfl ?_
      refine At.open rfl rfl ?_
      refine At.quiet (q_load t3 rfl (Rd.blk (.tail _ (.head _)) rfl)) rfl ?_
      refine At.open rfl rfl ?_
      refine At.quiet (q_fieldAddr s23 rfl rfl rfl) rfl ?_
      refine At.open rfl rfl ?_
      refine At.quiet (q_load t3 rfl (Rd.blk (.head _) rfl)) rfl ?_
      refine At.skim 2 rfl rfl ?_
      refine At.splitP (d := 52) rfl (fun hh1 => ?_) (fun hh1 => ?_)
      · skip
        refine At.skim 7 rfl rfl ?_
        refine At.nil ?_
        refine At.then ?_
        exact At.meetK () trivial (Tells.meet 14 ⟨rfl, trivial⟩ rfl rfl) (fun _ h => h) (.refl _)
      · skip
        refine At.open rfl rfl ?_
        refine At.quiet (q_fieldAddr s23 rfl rfl rfl) rfl ?_
        refine At.open rfl rfl ?_
        refine At.quiet (q_load t3 rfl (Rd.loc (i := 0) rfl rfl)) rfl ?_
        refine At.open rfl rfl ?_
        refine At.quiet (q_fieldAddr s23 rfl rfl rfl) rfl ?_
        refine At.open rfl rfl ?_
        refine At.quiet (q_load t3 rfl (Rd.loc (i := 1) rfl rfl)) rfl ?_
        refine At.skim 3 rfl rfl ?_
        refine At.nil ?_
        refine At.say 59 (.bool true) rfl (congrArg Value.bool (by simp only [Pol.clamp]; exact decide_eq_true (hold_mono _ _ _ _ (by omega)))) ?_
        refine At.then ?_
        exact At.meetK () trivial (Tells.meet 15 ⟨rfl, trivial⟩ rfl rfl) (fun _ h => h) (.refl _)
    intro u hI
    obtain _ := u
    refine At.skim 1 rfl rfl ?_
    refine At.cutOpsD (ι := Unit) .z 13 [61, 62, 63, 64, 65, 66, 67, 68, 69, 70, 71, 72, 73] (fun _ => [(73, .bool true)]) (fun _ => []) (fun _ => []) (fun _ => True) rfl ?_ ?_
    · skip
      refine At.open rfl rfl ?_
      refine At.quiet (q_fieldAddr s23 rfl rfl rfl) rfl ?_
      refine At.open rfl rfl ?_
      refine At.quiet (q_load t3 rfl (Rd.blk (.tail _ (.head _)) rfl)) rfl ?_
      refine At.open rfl rfl ?_
      refine At.quiet (q_fieldAddr s23 rfl rfl rfl) rfl ?_
      refine At.open rfl rfl ?_
      refine At.quiet (q_load t3 rfl (Rd.blk (.head _) rfl)) rfl ?_
      refine At.skim 2 rfl rfl ?_
      refine At.splitP (d := 66) rfl (fun hh2 => ?_) (fun hh2 => ?_)
      · skip
        refine At.skim 7 rfl rfl ?_
        refine At.nil ?_
        refine At.then ?_
        exact At.meetK () trivial (Tells.meet 14 ⟨rfl, trivial⟩ rfl rfl) (fun _ h => h) (.refl _)
      · skip
        refine At.open rfl rfl ?_
        refine At.quiet (q_fieldAddr s23 rfl rfl rfl) rfl ?_
        refine At.open rfl rfl ?_
        refine At.quiet (q_load t3 rfl (Rd.loc (i := 0) rfl rfl)) rfl ?_
        refine At.open rfl rfl ?_
        refine At.quiet (q_fieldAddr s23 rfl rfl rfl) rfl ?_
        refine At.open rfl rfl ?_
        refine At.quiet (q_load t3 rfl (Rd.loc (i := 1) rfl rfl)) rfl ?_
        refine At.skim 3 rfl rfl ?_
        refine At.nil ?_
        refine At.say 73 (.bool true) rfl (congrArg Value.bool (by simp only [Pol.clamp]; exact decide_eq_true (hold_mono _ _ _ _ (by omega)))) ?_
        refine At.then ?_
        exact At.meetK () trivial (Tells.meet 15 ⟨rfl, trivial⟩ rfl rfl) (fun _ h => h) (.refl _)
    intro u hI
    obtain _ := u
    refine At.skim 1 rfl rfl ?_
    refine At.cutOpsD (ι := Unit) .z 13 [75, 76, 77, 78, 79, 80, 81, 82, 83, 84, 85, 86, 87] (fun _ => [(87, .bool true)]) (fun _ => []) (fun _ => []) (fun _ => True) rfl ?_ ?_
    · skip
      refine At.open rfl rfl ?_
      refine At.quiet (q_fieldAddr s23 rfl rfl rfl) rfl ?_
      refine At.open rfl rfl ?_
      refine At.quiet (q_load t3 rfl (Rd.blk (.tail _ (.head _)) rfl)) rfl ?_
      refine At.open rfl rfl ?_
      refine At.quiet (q_fieldAddr s23 rfl rfl rfl) rfl ?_
      refine At.open rfl rfl ?_
      refine At.quiet (q_load t3 rfl (Rd.blk (.head _) rfl)) rfl ?_
      refine At.skim 2 rfl rfl ?_
      refine At.splitP (d := 80) rfl (fun hh3 => ?_) (fun hh3 => ?_)
      · skip
        refine At.skim 7 rfl rfl ?_
        refine At.nil ?_
        refine At.then ?_
        exact At.meetK () trivial (Tells.meet 14 ⟨rfl, trivial⟩ rfl rfl) (fun _ h => h) (.refl _)
      · skip
        refine At.open rfl rfl ?_
        refine At.quiet (q_fieldAddr s23 rfl rfl rfl) rfl ?_
        refine At.open rfl rfl ?_
        refine At.quiet (q_load t3 rfl (Rd.loc (i := 0) rfl rfl)) rfl ?_
        refine At.open rfl rfl ?_
        refine At.quiet (q_fieldAddr s23 rfl rfl rfl) rfl ?_
        refine At.open rfl rfl ?_
        refine At.quiet (q_load t3 rfl (Rd.loc (i := 1) rfl rfl)) rfl ?_
        refine At.skim 3 rfl rfl ?_
        refine At.nil ?_
        refine At.say 87 (.bool true) rfl (congrArg Value.bool (by simp only [Pol.clamp]; exact decide_eq_true (hold_mono _ _ _ _ (by omega)))) ?_
        refine At.then ?_
        exact At.meetK () trivial (Tells.meet 15 ⟨rfl, trivial⟩ rfl rfl) (fun _ h => h) (.refl _)
    intro u hI
    obtain _ := u
    refine At.skim 1 rfl rfl ?_
    refine At.cutOpsD (ι := Unit) .z 13 [89, 90, 91, 92, 93, 94, 95, 96, 97, 98, 99, 100, 101] (fun _ => [(101, .bool true)]) (fun _ => []) (fun _ => []) (fun _ => True) rfl ?_ ?_
    · skip
      refine At.open rfl rfl ?_
      refine At.quiet (q_fieldAddr s23 rfl rfl rfl) rfl ?_
      refine At.open rfl rfl ?_
      refine At.quiet (q_load t3 rfl (Rd.blk (.tail _ (.head _)) rfl)) rfl ?_
      refine At.open rfl rfl ?_
      refine At.quiet (q_fieldAddr s23 rfl rfl rfl) rfl ?_
      refine At.open rfl rfl ?_
      refine At.quiet (q_load t3 rfl (Rd.blk (.head _) rfl)) rfl ?_
      refine At.skim 2 rfl rfl ?_
      refine At.splitP (d := 94) rfl (fun hh4 => ?_) (fun hh4 => ?_)
      · skip
        refine At.skim 7 rfl rfl ?_
        refine At.nil ?_
        refine At.then ?_
        exact At.meetK () trivial (Tells.meet 14 ⟨rfl, trivial⟩ rfl rfl) (fun _ h => h) (.refl _)
      · skip
        refine At.open rfl rfl ?_
        refine At.quiet (q_fieldAddr s23 rfl rfl rfl) rfl ?_
        refine At.open rfl rfl ?_
        refine At.quiet (q_load t3 rfl (Rd.loc (i := 0) rfl rfl)) rfl ?_
        refine At.open rfl rfl ?_
        refine At.quiet (q_fieldAddr s23 rfl rfl rfl) rfl ?_
        refine At.open rfl rfl ?_
        refine At.quiet (q_load t3 rfl (Rd.loc (i := 1) rfl rfl)) rfl ?_
        refine At.skim 3 rfl rfl ?_
        refine At.nil ?_
        refine At.say 101 (.bool true) rfl (congrArg Value.bool (by simp only [Pol.clamp]; exact decide_eq_true (hold_mono _ _ _ _ (by omega)))) ?_
        refine At.then ?_
        exact At.meetK () trivial (Tells.meet 15 ⟨rfl, trivial⟩ rfl rfl) (fun _ h => h) (.refl _)
    intro u hI
    obtain _ := u
    refine At.skim 1 rfl rfl ?_
    refine At.open rfl rfl ?_
    refine At.call en17 rfl (awake17) (fun _ _ => trivial) (List.Perm.refl _) rfl ?_
    rintro _ _ _ ⟨rfl, rfl, rfl⟩
    refine At.skim 2 rfl rfl ?_
    refine At.nil ?_
    refine At.then ?_
    refine At.ret ?_
    exact At.results (Γr := []) (M := []) rfl (RVals.cons (RVal.tmp rfl) RVals.nil) (.tail _ (.tail _ (.head _))) (fun _ _ => trivial) (.cons _ (.cons _ (.refl _))) ⟨rfl, rfl, rfl⟩

theorem each5 (p q : Pol) : Con Try.prog 5 [p.val, q.val] [] [] (fun v Γ M => v = .bool true ∧ Γ = [] ∧ M = []) := by
  have hp := p.clamp_bd
  refine Con.body 76 Try.func5 rfl Try.ntmps5 rfl fun X H₀ L₀ => ?_
  refine At.seq ?_
  refine At.region ?_
  refine At.loud (l_box rfl) rfl ?_
  rintro _ _ _ ⟨b1, rfl, rfl, rfl⟩
  refine At.freeze 0 (φ := blk b1 _) rfl (fun _ h => blk_def.2 ⟨_, _, h⟩) ?_
  refine At.loud (l_box rfl) rfl ?_
  rintro _ _ _ ⟨b2, rfl, rfl, rfl⟩
  refine At.freeze 0 (φ := blk b2 _) rfl (fun _ h => blk_def.2 ⟨_, _, h⟩) ?_
  refine At.skim 1 rfl rfl ?_
  refine At.nil ?_
  refine At.then ?_
  refine At.seq ?_
  refine At.region ?_
  refine At.quiet (q_loadS t23 rfl (RdS.blk (.tail _ (.head _)) (m := 5) rfl) rfl) rfl ?_
  refine At.call en12 rfl (clamp12 p) (fun _ _ => trivial) (List.Perm.refl _) rfl ?_
  rintro _ _ _ ⟨rfl, rfl, rfl⟩
  refine At.loud (l_alloc t23) rfl ?_
  rintro _ _ _ ⟨b3, rfl, rfl, rfl⟩
  refine At.loudN (l_store t23 rfl rfl (i := 0) rfl rfl rfl rfl) ?_
  rintro _ _ _ ⟨rfl, rfl⟩
  refine At.nil ?_
  refine At.then ?_
  refine At.seq ?_
  refine At.region ?_
  refine At.quiet (q_loadS t23 rfl (RdS.blk (.head _) (m := 5) rfl) rfl) rfl ?_
  refine At.loud (l_alloc t23) rfl ?_
  rintro _ _ _ ⟨b4, rfl, rfl, rfl⟩
  refine At.loudN (l_store t23 rfl rfl (i := 0) rfl rfl rfl rfl) ?_
  rintro _ _ _ ⟨rfl, rfl⟩
  refine At.nil ?_
  refine At.then ?_
  refine At.seq ?_
  refine At.region ?_
  refine At.fld s23 t3 rfl rfl rfl (Rd.blk (.tail _ (.head _)) rfl) rfl rfl ?_
  refine At.quiet (q_fieldAddr s23 rfl rfl rfl) rfl ?_
  refine At.loudN (l_store t3 rfl rfl (i := 0) rfl rfl rfl rfl) ?_
  rintro _ _ _ ⟨rfl, rfl⟩
  refine At.nil ?_
  refine At.then ?_
  refine At.seq ?_
  refine At.seq ?_
  refine At.draw 6 (.q 0 (.q 3 (.q 4 (.o 1 (.q 2 (.q 5 (.e))))))) _ (List.Sublist.refl _) mixed (by kernel_rfl) rfl ?_
  refine AtO.quiet rfl (q_loadS t23 rfl (RdS.loc (i := 0) rfl (m := 5) rfl) rfl) rfl (Calm.then (Calm.then Post.calm)) ?_
  refine AtO.quiet rfl (q_fieldAddr s23 rfl rfl rfl) rfl (Calm.then (Calm.then Post.calm)) ?_
  refine AtO.quiet rfl (q_load t3 rfl (Rd.loc (i := 1) rfl rfl)) rfl (Calm.then (Calm.then Post.calm)) ?_
  refine AtO.call rfl en12 rfl (clamp12 ⟨p.high, q.low, q.cont, q.uncont, q.multi⟩) (fun _ _ => trivial) (List.Perm.refl _) rfl (.cons_cons _ (.cons_cons _ (.refl _))) ?_
  rintro _ _ _ ⟨rfl, rfl, rfl⟩
  refine AtO.quiet rfl (q_field s23 rfl rfl rfl) rfl (Calm.then (Calm.then Post.calm)) ?_
  refine AtO.quiet rfl (q_neq rfl rfl) rfl (Calm.then (Calm.then Post.calm)) ?_
  refine AtO.done ?_
  refine At.nil ?_
  refine At.then ?_
  refine At.say 20 (.bool false) rfl (congrArg Value.bool (by simp [Pol.clamp])) ?_
  refine At.condF rfl ?_
  refine At.skip ?_
  refine At.then ?_
  refine At.seq ?_
  refine At.region ?_
  refine At.quiet (q_loadS t23 rfl (RdS.blk (.head _) (m := 5) rfl) rfl) rfl ?_
  refine At.loudN (l_store t23 rfl rfl (i := 0) rfl rfl rfl rfl) ?_
  rintro _ _ _ ⟨rfl, rfl⟩
  refine At.nil ?_
  refine At.then ?_
  refine At.seq ?_
  refine At.draw 6 (.q 0 (.q 1 (.q 2 (.q 3 (.q 4 (.o 5 (.e))))))) (_ :: L₀) (.cons _ (.cons_cons _ (.refl _))) mixed (by kernel_rfl) rfl ?_
  refine AtO.quiet rfl (q_fieldAddr s23 rfl rfl rfl) rfl (Calm.then Post.calm) ?_
  refine AtO.quiet rfl (q_load t3 rfl (Rd.blk (.tail _ (.head _)) rfl)) rfl (Calm.then Post.calm) ?_
  refine AtO.quiet rfl (q_fieldAddr s23 rfl rfl rfl) rfl (Calm.then Post.calm) ?_
  refine AtO.quiet rfl (q_load t3 rfl (Rd.blk (.tail _ (.head _)) rfl)) rfl (Calm.then Post.calm) ?_
  refine AtO.quiet rfl (q_fieldAddr s23 rfl rfl rfl) rfl (Calm.then Post.calm) ?_
  refine AtO.loudN rfl (l_store t3 rfl rfl (i := 0) rfl rfl rfl rfl) (by rintro _ _ _ ⟨rfl, rfl⟩; exact ⟨fun _ h => h, (.cons _ (.cons_cons _ (.refl _)))⟩) ?_
  rintro _ _ _ ⟨rfl, rfl⟩
  refine AtO.done ?_
  refine At.quiet (q_fieldAddr s23 rfl rfl rfl) rfl ?_
  refine At.loudN (l_store t3 rfl rfl (i := 0) rfl rfl rfl rfl) ?_
  rintro _ _ _ ⟨rfl, rfl⟩
  refine At.nil ?_
  refine At.then ?_
  refine At.seq ?_
  refine At.seq ?_
  refine At.region ?_
  refine At.quiet (q_loadS t23 rfl (RdS.loc (i := 0) rfl (m := 5) rfl) rfl) rfl ?_
  refine At.call en12 rfl (clamp12 ⟨q.high, p.low, p.cont, q.uncont, q.multi⟩) (fun _ _ => trivial) (List.Perm.refl _) rfl ?_
  rintro _ _ _ ⟨rfl, rfl, rfl⟩
  refine At.loud (l_alloc t23) rfl ?_
  rintro _ _ _ ⟨b5, rfl, rfl, rfl⟩
  refine At.loudN (l_store t23 rfl rfl (i := 0) rfl rfl rfl rfl) ?_
  rintro _ _ _ ⟨rfl, rfl⟩
  refine At.nil ?_
  refine At.then ?_
  refine At.seq ?_
  refine At.region ?_
  refine At.fld s23 t3 rfl rfl rfl (Rd.loc (i := 0) rfl rfl) rfl rfl ?_
  refine At.fld s23 t3 rfl rfl rfl (Rd.loc (i := 2) rfl rfl) rfl rfl ?_
  refine At.skim 2 rfl rfl ?_
  refine At.say 35 (.bool false) rfl (congrArg Value.bool (by simp [Pol.clamp])) ?_
  refine At.open rfl rfl ?_
  refine At.quiet (q_fieldAddr s23 rfl rfl rfl) rfl ?_
  refine At.open rfl rfl ?_
  refine At.quiet (q_load t3 rfl (Rd.loc (i := 0) rfl rfl)) rfl ?_
  refine At.open rfl rfl ?_
  refine At.quiet (q_fieldAddr s23 rfl rfl rfl) rfl ?_
  refine At.open rfl rfl ?_
  refine At.quiet (q_load t3 rfl (Rd.loc (i := 2) rfl rfl)) rfl ?_
  refine At.skim 2 rfl rfl ?_
  refine At.nil ?_
  refine At.then ?_
  refine At.say 41 (.bool false) rfl (congrArg Value.bool (by simp [Pol.clamp])) ?_
  refine At.condF rfl ?_
  refine At.skip ?_
  refine At.then ?_
  refine At.seq ?_
  refine At.region ?_
  refine At.quiet (q_loadS t23 rfl (RdS.blk (.head _) (m := 5) rfl) rfl) rfl ?_
  refine At.loudN (l_store t23 rfl rfl (i := 1) rfl rfl rfl rfl) ?_
  rintro _ _ _ ⟨rfl, rfl⟩
  refine At.nil ?_
  refine At.then ?_
  refine At.seq ?_
  refine At.draw 6 (.q 0 (.q 1 (.q 2 (.q 3 (.q 4 (.o 5 (.e))))))) (_ :: _ :: L₀) (.cons_cons _ (.cons _ (.cons_cons _ (.refl _)))) mixed (by kernel_rfl) rfl ?_
  refine AtO.quiet rfl (q_fieldAddr s23 rfl rfl rfl) rfl (Calm.then Post.calm) ?_
  refine AtO.quiet rfl (q_load t3 rfl (Rd.blk (.tail _ (.head _)) rfl)) rfl (Calm.then Post.calm) ?_
  refine AtO.quiet rfl (q_fieldAddr s23 rfl rfl rfl) rfl (Calm.then Post.calm) ?_
  refine AtO.quiet rfl (q_load t3 rfl (Rd.blk (.tail _ (.head _)) rfl)) rfl (Calm.then Post.calm) ?_
  refine AtO.quiet rfl (q_fieldAddr s23 rfl rfl rfl) rfl (Calm.then Post.calm) ?_
  refine AtO.loudN rfl (l_store t3 rfl rfl (i := 1) rfl rfl rfl rfl) (by rintro _ _ _ ⟨rfl, rfl⟩; exact ⟨fun _ h => h, (.cons_cons _ (.cons _ (.cons_cons _ (.refl _))))⟩) ?_
  rintro _ _ _ ⟨rfl, rfl⟩
  refine AtO.done ?_
  refine At.quiet (q_fieldAddr s23 rfl rfl rfl) rfl ?_
  refine At.loudN (l_store t3 rfl rfl (i := 1) rfl rfl rfl rfl) ?_
  rintro _ _ _ ⟨rfl, rfl⟩
  refine At.nil ?_
  refine At.then ?_
  refine At.seq ?_
  refine At.region ?_
  refine At.quiet (q_loadS t23 rfl (RdS.loc (i := 1) rfl (m := 5) rfl) rfl) rfl ?_
  refine At.call en12 rfl (clamp12 ⟨q.high, q.low, q.cont, p.uncont, p.multi⟩) (fun _ _ => trivial) (List.Perm.refl _) rfl ?_
  rintro _ _ _ ⟨rfl, rfl, rfl⟩
  refine At.loud (l_alloc t23) rfl ?_
  rintro _ _ _ ⟨b6, rfl, rfl, rfl⟩
  refine At.loudN (l_store t23 rfl rfl (i := 0) rfl rfl rfl rfl) ?_
  rintro _ _ _ ⟨rfl, rfl⟩
  refine At.nil ?_
  refine At.then ?_
  refine At.seq ?_
  refine At.region ?_
  refine At.fld s23 t3 rfl rfl rfl (Rd.loc (i := 0) rfl rfl) rfl rfl ?_
  refine At.fld s23 t3 rfl rfl rfl (Rd.loc (i := 3) rfl rfl) rfl rfl ?_
  refine At.skim 2 rfl rfl ?_
  refine At.say 56 (.bool true) rfl (congrArg Value.bool (by simp [Pol.clamp])) ?_
  refine At.open rfl rfl ?_
  refine At.quiet (q_fieldAddr s23 rfl rfl rfl) rfl ?_
  refine At.open rfl rfl ?_
  refine At.quiet (q_load t3 rfl (Rd.loc (i := 0) rfl rfl)) rfl ?_
  refine At.open rfl rfl ?_
  refine At.quiet (q_fieldAddr s23 rfl rfl rfl) rfl ?_
  refine At.open rfl rfl ?_
  refine At.quiet (q_load t3 rfl (Rd.loc (i := 3) rfl rfl)) rfl ?_
  refine At.skim 3 rfl rfl ?_
  refine At.say 63 (.bool true) rfl (congrArg Value.bool (by simp [Pol.clamp])) ?_
  refine At.open rfl rfl ?_
  refine At.quiet (q_fieldAddr s23 rfl rfl rfl) rfl ?_
  refine At.open rfl rfl ?_
  refine At.quiet (q_load t3 rfl (Rd.loc (i := 3) rfl rfl)) rfl ?_
  refine At.skim 3 rfl rfl ?_
  refine At.say 68 (.bool true) rfl (congrArg Value.bool (by simp only [decide_eq_true_eq]; omega)) ?_
  refine At.open rfl rfl ?_
  refine At.quiet (q_fieldAddr s23 rfl rfl rfl) rfl ?_
  refine At.open rfl rfl ?_
  refine At.quiet (q_load t3 rfl (Rd.loc (i := 3) rfl rfl)) rfl ?_
  refine At.skim 3 rfl rfl ?_
  refine At.say 73 (.bool true) rfl (congrArg Value.bool (by simp only [decide_eq_true_eq]; omega)) ?_
  refine At.open rfl rfl ?_
  refine At.call en17 rfl (awake17) (fun _ _ => trivial) (List.Perm.refl _) rfl ?_
  rintro _ _ _ ⟨rfl, rfl, rfl⟩
  refine At.skim 2 rfl rfl ?_
  refine At.nil ?_
  refine At.then ?_
  refine At.ret ?_
  exact At.results (Γr := []) (M := []) rfl (RVals.cons (RVal.tmp rfl) RVals.nil) (.tail _ (.tail _ (.head _))) (fun _ _ => trivial) (.cons _ (.cons _ (.cons _ (.cons _ (.refl _))))) ⟨rfl, rfl, rfl⟩

theorem edges6 (n : Int) (up : Bool) : Con Try.prog 6 [.int .i64 n, .bool up] [] [] (fun v Γ M => v = .bool true ∧ Γ = [] ∧ M = []) := by
  refine Con.body 78 Try.func6 rfl Try.ntmps6 rfl fun X H₀ L₀ => ?_
  refine At.seq ?_
  refine At.region ?_
  refine At.skim 1 rfl rfl ?_
  refine At.nil ?_
  refine At.then ?_
  refine At.seq ?_
  refine At.region ?_
  refine At.call en15 rfl (off15) (fun _ _ => trivial) (List.Perm.refl _) rfl ?_
  rintro _ _ _ ⟨rfl, rfl, rfl⟩
  refine At.loud (l_alloc t23) rfl ?_
  rintro _ _ _ ⟨b1, rfl, rfl, rfl⟩
  refine At.loudN (l_store t23 rfl rfl (i := 0) rfl rfl rfl rfl) ?_
  rintro _ _ _ ⟨rfl, rfl⟩
  refine At.nil ?_
  refine At.then ?_
  refine At.seq ?_
  refine At.region ?_
  refine At.skim 2 rfl rfl ?_
  refine At.nil ?_
  refine At.then ?_
  refine At.seq ?_
  refine At.seq ?_
  refine At.region ?_
  refine At.skim 2 rfl rfl ?_
  refine At.nil ?_
  refine At.then ?_
  refine At.cond rfl (fun hu => ?_) (fun hu => ?_)
  · skip
    refine At.region ?_
    refine At.skim 2 rfl rfl ?_
    refine At.nil ?_
    refine At.then ?_
    refine At.seq ?_
    refine At.region ?_
    refine At.loud (l_alloc t23) rfl ?_
    rintro _ _ _ ⟨b2, rfl, rfl, rfl⟩
    refine At.nil ?_
    refine At.then ?_
    refine At.seq ?_
    refine At.seq ?_
    refine At.region ?_
    refine At.skim 1 rfl rfl ?_
    refine At.quiet (q_convInt Try.underlying3 Try.underlying29 rfl) rfl ?_
    refine At.quiet (q_rem rfl rfl (by omega)) rfl ?_
    refine At.nil ?_
    refine At.then ?_
    refine At.block ?_
    refine At.seq ?_
    refine At.region ?_
    refine At.skim 2 rfl rfl ?_
    refine At.nil ?_
    refine At.then ?_
    refine At.if rfl (fun h0 => ?_) (fun h0 => ?_)
    · skip
      refine At.seq ?_
      refine At.region ?_
      refine At.skim 1 rfl rfl ?_
      refine At.quiet (q_max rfl rfl) rfl ?_
      refine At.quiet (q_loadS t23 rfl (RdS.loc (i := 1) rfl (m := 5) rfl) rfl) rfl ?_
      refine At.quiet (q_fieldAddr s23 rfl rfl rfl) rfl ?_
      refine At.loudN (l_store t3 rfl rfl (i := 1) rfl rfl rfl rfl) ?_
      rintro _ _ _ ⟨rfl, rfl⟩
      refine At.loudN (l_store t23 rfl rfl (i := 0) rfl rfl rfl rfl) ?_
      rintro _ _ _ ⟨rfl, rfl⟩
      refine At.nil ?_
      refine At.then ?_
      refine At.region ?_
      refine At.fld s23 t3 rfl rfl rfl (Rd.loc (i := 1) rfl rfl) rfl rfl ?_
      refine At.skim 1 rfl rfl ?_
      refine At.quiet (q_add rfl rfl (by omega) (by omega)) rfl ?_
      refine At.quiet (q_fieldAddr s23 rfl rfl rfl) rfl ?_
      refine At.loudN (l_store t3 rfl rfl (i := 0) rfl rfl rfl rfl) ?_
      rintro _ _ _ ⟨rfl, rfl⟩
      refine At.nil ?_
      refine At.inNormal ?_
      refine At.then ?_
      refine At.seq ?_
      refine At.draw 16 (.q 0 (.o 1 (.q 2 (.q 3 (.o 4 (.q 5 (.q 6 (.q 7 (.q 8 (.q 10 (.o 9 (.q 11 (.q 12 (.q 13 (.o 14 (.q 15 (.e))))))))))))))))) _ (List.Sublist.refl _) mixed (by kernel_rfl) rfl ?_
      refine AtO.quiet rfl (q_loadS t23 rfl (RdS.loc (i := 1) rfl (m := 5) rfl) rfl) rfl (Calm.then Post.calm) ?_
      refine AtO.call rfl en14 rfl (may14 ⟨(max 1 (-100000)), (-100000), 0, 0, 0⟩) (fun _ _ => trivial) (List.Perm.refl _) rfl (.cons_cons _ (.cons_cons _ (.refl _))) ?_
      rintro _ _ _ ⟨rfl, rfl, rfl⟩
      refine AtO.quiet rfl (q_move rfl) rfl (Calm.then Post.calm) ?_
      refine AtO.say 64 (.bool true) rfl (congrArg Value.bool (by decide)) ?_
      refine AtO.quietG rfl rfl rfl (q_loadS t23 rfl (RdS.loc (i := 0) rfl (m := 5) rfl) rfl) rfl (Calm.then Post.calm) ?_
      refine AtO.callG rfl rfl rfl en14 rfl (may14 ⟨((max 1 (-100000)) + (-1)), (-100000), 0, 0, 0⟩) (fun _ _ => trivial) (List.Perm.refl _) rfl (.cons_cons _ (.cons_cons _ (.refl _))) ?_
      rintro _ _ _ ⟨rfl, rfl, rfl⟩
      refine AtO.quietG rfl rfl rfl (q_not rfl) rfl (Calm.then Post.calm) ?_
      refine AtO.quiet rfl (q_pickT rfl rfl) rfl (Calm.then Post.calm) ?_
      refine AtO.quiet rfl (q_move rfl) rfl (Calm.then Post.calm) ?_
      refine AtO.say 69 (.bool true) rfl (congrArg Value.bool (by decide)) ?_
      refine AtO.quietG rfl rfl rfl (q_loadS t23 rfl (RdS.loc (i := 0) rfl (m := 5) rfl) rfl) rfl (Calm.then Post.calm) ?_
      refine AtO.quietG rfl rfl rfl (q_loadS t23 rfl (RdS.loc (i := 1) rfl (m := 5) rfl) rfl) rfl (Calm.then Post.calm) ?_
      refine AtO.callG rfl rfl rfl en12 rfl (clamp12 ⟨((max 1 (-100000)) + (-1)), (-100000), 0, 0, 0⟩) (fun _ _ => trivial) (List.Perm.refl _) rfl (.cons_cons _ (.cons_cons _ (.refl _))) ?_
      rintro _ _ _ ⟨rfl, rfl, rfl⟩
      refine AtO.quietG rfl rfl rfl (q_eqStruct e23 rfl rfl rfl rfl rfl rfl) rfl (Calm.then Post.calm) ?_
      refine AtO.quiet rfl (q_pickT rfl rfl) rfl (Calm.then Post.calm) ?_
      refine AtO.quiet rfl (q_move rfl) rfl (Calm.then Post.calm) ?_
      refine AtO.say 75 (.bool true) rfl (congrArg Value.bool (by decide)) ?_
      refine AtO.callG rfl rfl rfl en17 rfl (awake17) (fun _ _ => trivial) (List.Perm.refl _) rfl (.cons_cons _ (.cons_cons _ (.refl _))) ?_
      rintro _ _ _ ⟨rfl, rfl, rfl⟩
      refine AtO.quiet rfl (q_pickT rfl rfl) rfl (Calm.then Post.calm) ?_
      refine AtO.done ?_
      refine At.skim 1 rfl rfl ?_
      refine At.nil ?_
      refine At.then ?_
      refine At.ret ?_
      exact At.results (Γr := []) (M := []) rfl (RVals.cons (RVal.tmp rfl) RVals.nil) (.head _) (fun _ _ => trivial) (.cons _ (.cons _ (.refl _))) ⟨rfl, rfl, rfl⟩
    · skip
      refine At.seq ?_
      refine At.region ?_
      refine At.skim 2 rfl rfl ?_
      refine At.nil ?_
      refine At.then ?_
      refine At.if rfl (fun h1 => ?_) (fun h1 => ?_)
      · skip
        refine At.seq ?_
        refine At.region ?_
        refine At.skim 1 rfl rfl ?_
        refine At.quiet (q_min rfl rfl) rfl ?_
        refine At.quiet (q_loadS t23 rfl (RdS.loc (i := 1) rfl (m := 5) rfl) rfl) rfl ?_
        refine At.quiet (q_fieldAddr s23 rfl rfl rfl) rfl ?_
        refine At.loudN (l_store t3 rfl rfl (i := 1) rfl rfl rfl rfl) ?_
        rintro _ _ _ ⟨rfl, rfl⟩
        refine At.loudN (l_store t23 rfl rfl (i := 0) rfl rfl rfl rfl) ?_
        rintro _ _ _ ⟨rfl, rfl⟩
        refine At.nil ?_
        refine At.then ?_
        refine At.region ?_
        refine At.fld s23 t3 rfl rfl rfl (Rd.loc (i := 1) rfl rfl) rfl rfl ?_
        refine At.skim 1 rfl rfl ?_
        refine At.quiet (q_add rfl rfl (by omega) (by omega)) rfl ?_
        refine At.quiet (q_fieldAddr s23 rfl rfl rfl) rfl ?_
        refine At.loudN (l_store t3 rfl rfl (i := 0) rfl rfl rfl rfl) ?_
        rintro _ _ _ ⟨rfl, rfl⟩
        refine At.nil ?_
        refine At.inNormal ?_
        refine At.then ?_
        refine At.seq ?_
        refine At.draw 16 (.q 0 (.o 1 (.q 2 (.q 3 (.o 4 (.q 5 (.q 6 (.q 7 (.q 8 (.q 10 (.o 9 (.q 11 (.q 12 (.q 13 (.o 14 (.q 15 (.e))))))))))))))))) _ (List.Sublist.refl _) mixed (by kernel_rfl) rfl ?_
        refine AtO.quiet rfl (q_loadS t23 rfl (RdS.loc (i := 1) rfl (m := 5) rfl) rfl) rfl (Calm.then Post.calm) ?_
        refine AtO.call rfl en14 rfl (may14 ⟨100000, (min 0 (-100000)), 0, 0, 0⟩) (fun _ _ => trivial) (List.Perm.refl _) rfl (.cons_cons _ (.cons_cons _ (.refl _))) ?_
        rintro _ _ _ ⟨rfl, rfl, rfl⟩
        refine AtO.quiet rfl (q_move rfl) rfl (Calm.then Post.calm) ?_
        refine AtO.say 64 (.bool true) rfl (congrArg Value.bool (by decide)) ?_
        refine AtO.quietG rfl rfl rfl (q_loadS t23 rfl (RdS.loc (i := 0) rfl (m := 5) rfl) rfl) rfl (Calm.then Post.calm) ?_
        refine AtO.callG rfl rfl rfl en14 rfl (may14 ⟨100000, ((min 0 (-100000)) + (-1)), 0, 0, 0⟩) (fun _ _ => trivial) (List.Perm.refl _) rfl (.cons_cons _ (.cons_cons _ (.refl _))) ?_
        rintro _ _ _ ⟨rfl, rfl, rfl⟩
        refine AtO.quietG rfl rfl rfl (q_not rfl) rfl (Calm.then Post.calm) ?_
        refine AtO.quiet rfl (q_pickT rfl rfl) rfl (Calm.then Post.calm) ?_
        refine AtO.quiet rfl (q_move rfl) rfl (Calm.then Post.calm) ?_
        refine AtO.say 69 (.bool true) rfl (congrArg Value.bool (by decide)) ?_
        refine AtO.quietG rfl rfl rfl (q_loadS t23 rfl (RdS.loc (i := 0) rfl (m := 5) rfl) rfl) rfl (Calm.then Post.calm) ?_
        refine AtO.quietG rfl rfl rfl (q_loadS t23 rfl (RdS.loc (i := 1) rfl (m := 5) rfl) rfl) rfl (Calm.then Post.calm) ?_
        refine AtO.callG rfl rfl rfl en12 rfl (clamp12 ⟨100000, ((min 0 (-100000)) + (-1)), 0, 0, 0⟩) (fun _ _ => trivial) (List.Perm.refl _) rfl (.cons_cons _ (.cons_cons _ (.refl _))) ?_
        rintro _ _ _ ⟨rfl, rfl, rfl⟩
        refine AtO.quietG rfl rfl rfl (q_eqStruct e23 rfl rfl rfl rfl rfl rfl) rfl (Calm.then Post.calm) ?_
        refine AtO.quiet rfl (q_pickT rfl rfl) rfl (Calm.then Post.calm) ?_
        refine AtO.quiet rfl (q_move rfl) rfl (Calm.then Post.calm) ?_
        refine AtO.say 75 (.bool true) rfl (congrArg Value.bool (by decide)) ?_
        refine AtO.callG rfl rfl rfl en17 rfl (awake17) (fun _ _ => trivial) (List.Perm.refl _) rfl (.cons_cons _ (.cons_cons _ (.refl _))) ?_
        rintro _ _ _ ⟨rfl, rfl, rfl⟩
        refine AtO.quiet rfl (q_pickT rfl rfl) rfl (Calm.then Post.calm) ?_
        refine AtO.done ?_
        refine At.skim 1 rfl rfl ?_
        refine At.nil ?_
        refine At.then ?_
        refine At.ret ?_
        exact At.results (Γr := []) (M := []) rfl (RVals.cons (RVal.tmp rfl) RVals.nil) (.head _) (fun _ _ => trivial) (.cons _ (.cons _ (.refl _))) ⟨rfl, rfl, rfl⟩
      · skip
        refine At.seq ?_
        refine At.region ?_
        refine At.skim 2 rfl rfl ?_
        refine At.nil ?_
        refine At.then ?_
        refine At.if rfl (fun h2 => ?_) (fun h2 => ?_)
        · skip
          refine At.seq ?_
          refine At.region ?_
          refine At.skim 1 rfl rfl ?_
          refine At.quiet (q_loadS t23 rfl (RdS.loc (i := 1) rfl (m := 5) rfl) rfl) rfl ?_
          refine At.quiet (q_fieldAddr s23 rfl rfl rfl) rfl ?_
          refine At.loudN (l_store t3 rfl rfl (i := 1) rfl rfl rfl rfl) ?_
          rintro _ _ _ ⟨rfl, rfl⟩
          refine At.loudN (l_store t23 rfl rfl (i := 0) rfl rfl rfl rfl) ?_
          rintro _ _ _ ⟨rfl, rfl⟩
          refine At.nil ?_
          refine At.then ?_
          refine At.region ?_
          refine At.skim 2 rfl rfl ?_
          refine At.quiet (q_add rfl rfl (by omega) (by omega)) rfl ?_
          refine At.quiet (q_fieldAddr s23 rfl rfl rfl) rfl ?_
          refine At.loudN (l_store t3 rfl rfl (i := 0) rfl rfl rfl rfl) ?_
          rintro _ _ _ ⟨rfl, rfl⟩
          refine At.nil ?_
          refine At.inNormal ?_
          refine At.then ?_
          refine At.seq ?_
          refine At.draw 16 (.q 0 (.o 1 (.q 2 (.q 3 (.o 4 (.q 5 (.q 6 (.q 7 (.q 8 (.q 10 (.o 9 (.q 11 (.q 12 (.q 13 (.o 14 (.q 15 (.e))))))))))))))))) _ (List.Sublist.refl _) mixed (by kernel_rfl) rfl ?_
          refine AtO.quiet rfl (q_loadS t23 rfl (RdS.loc (i := 1) rfl (m := 5) rfl) rfl) rfl (Calm.then Post.calm) ?_
          refine AtO.call rfl en14 rfl (may14 ⟨100000, (-100000), (-100000), 0, 0⟩) (fun _ _ => trivial) (List.Perm.refl _) rfl (.cons_cons _ (.cons_cons _ (.refl _))) ?_
          rintro _ _ _ ⟨rfl, rfl, rfl⟩
          refine AtO.quiet rfl (q_move rfl) rfl (Calm.then Post.calm) ?_
          refine AtO.say 64 (.bool true) rfl (congrArg Value.bool (by decide)) ?_
          refine AtO.quietG rfl rfl rfl (q_loadS t23 rfl (RdS.loc (i := 0) rfl (m := 5) rfl) rfl) rfl (Calm.then Post.calm) ?_
          refine AtO.callG rfl rfl rfl en14 rfl (may14 ⟨100000, (-100000), ((-100000) + (-1)), 0, 0⟩) (fun _ _ => trivial) (List.Perm.refl _) rfl (.cons_cons _ (.cons_cons _ (.refl _))) ?_
          rintro _ _ _ ⟨rfl, rfl, rfl⟩
          refine AtO.quietG rfl rfl rfl (q_not rfl) rfl (Calm.then Post.calm) ?_
          refine AtO.quiet rfl (q_pickT rfl rfl) rfl (Calm.then Post.calm) ?_
          refine AtO.quiet rfl (q_move rfl) rfl (Calm.then Post.calm) ?_
          refine AtO.say 69 (.bool true) rfl (congrArg Value.bool (by decide)) ?_
          refine AtO.quietG rfl rfl rfl (q_loadS t23 rfl (RdS.loc (i := 0) rfl (m := 5) rfl) rfl) rfl (Calm.then Post.calm) ?_
          refine AtO.quietG rfl rfl rfl (q_loadS t23 rfl (RdS.loc (i := 1) rfl (m := 5) rfl) rfl) rfl (Calm.then Post.calm) ?_
          refine AtO.callG rfl rfl rfl en12 rfl (clamp12 ⟨100000, (-100000), ((-100000) + (-1)), 0, 0⟩) (fun _ _ => trivial) (List.Perm.refl _) rfl (.cons_cons _ (.cons_cons _ (.refl _))) ?_
          rintro _ _ _ ⟨rfl, rfl, rfl⟩
          refine AtO.quietG rfl rfl rfl (q_eqStruct e23 rfl rfl rfl rfl rfl rfl) rfl (Calm.then Post.calm) ?_
          refine AtO.quiet rfl (q_pickT rfl rfl) rfl (Calm.then Post.calm) ?_
          refine AtO.quiet rfl (q_move rfl) rfl (Calm.then Post.calm) ?_
          refine AtO.say 75 (.bool true) rfl (congrArg Value.bool (by decide)) ?_
          refine AtO.callG rfl rfl rfl en17 rfl (awake17) (fun _ _ => trivial) (List.Perm.refl _) rfl (.cons_cons _ (.cons_cons _ (.refl _))) ?_
          rintro _ _ _ ⟨rfl, rfl, rfl⟩
          refine AtO.quiet rfl (q_pickT rfl rfl) rfl (Calm.then Post.calm) ?_
          refine AtO.done ?_
          refine At.skim 1 rfl rfl ?_
          refine At.nil ?_
          refine At.then ?_
          refine At.ret ?_
          exact At.results (Γr := []) (M := []) rfl (RVals.cons (RVal.tmp rfl) RVals.nil) (.head _) (fun _ _ => trivial) (.cons _ (.cons _ (.refl _))) ⟨rfl, rfl, rfl⟩
        · skip
          refine At.seq ?_
          refine At.region ?_
          refine At.skim 2 rfl rfl ?_
          refine At.nil ?_
          refine At.then ?_
          refine At.if rfl (fun h3 => ?_) (fun h3 => ?_)
          · skip
            refine At.seq ?_
            refine At.region ?_
            refine At.skim 1 rfl rfl ?_
            refine At.quiet (q_loadS t23 rfl (RdS.loc (i := 1) rfl (m := 5) rfl) rfl) rfl ?_
            refine At.quiet (q_fieldAddr s23 rfl rfl rfl) rfl ?_
            refine At.loudN (l_store t3 rfl rfl (i := 1) rfl rfl rfl rfl) ?_
            rintro _ _ _ ⟨rfl, rfl⟩
            refine At.loudN (l_store t23 rfl rfl (i := 0) rfl rfl rfl rfl) ?_
            rintro _ _ _ ⟨rfl, rfl⟩
            refine At.nil ?_
            refine At.then ?_
            refine At.region ?_
            refine At.skim 2 rfl rfl ?_
            refine At.quiet (q_add rfl rfl (by omega) (by omega)) rfl ?_
            refine At.quiet (q_fieldAddr s23 rfl rfl rfl) rfl ?_
            refine At.loudN (l_store t3 rfl rfl (i := 0) rfl rfl rfl rfl) ?_
            rintro _ _ _ ⟨rfl, rfl⟩
            refine At.nil ?_
            refine At.inNormal ?_
            refine At.then ?_
            refine At.seq ?_
            refine At.draw 16 (.q 0 (.o 1 (.q 2 (.q 3 (.o 4 (.q 5 (.q 6 (.q 7 (.q 8 (.q 10 (.o 9 (.q 11 (.q 12 (.q 13 (.o 14 (.q 15 (.e))))))))))))))))) _ (List.Sublist.refl _) mixed (by kernel_rfl) rfl ?_
            refine AtO.quiet rfl (q_loadS t23 rfl (RdS.loc (i := 1) rfl (m := 5) rfl) rfl) rfl (Calm.then Post.calm) ?_
            refine AtO.call rfl en14 rfl (may14 ⟨100000, (-100000), 0, (-100000), 0⟩) (fun _ _ => trivial) (List.Perm.refl _) rfl (.cons_cons _ (.cons_cons _ (.refl _))) ?_
            rintro _ _ _ ⟨rfl, rfl, rfl⟩
            refine AtO.quiet rfl (q_move rfl) rfl (Calm.then Post.calm) ?_
            refine AtO.say 64 (.bool true) rfl (congrArg Value.bool (by decide)) ?_
            refine AtO.quietG rfl rfl rfl (q_loadS t23 rfl (RdS.loc (i := 0) rfl (m := 5) rfl) rfl) rfl (Calm.then Post.calm) ?_
            refine AtO.callG rfl rfl rfl en14 rfl (may14 ⟨100000, (-100000), 0, ((-100000) + (-1)), 0⟩) (fun _ _ => trivial) (List.Perm.refl _) rfl (.cons_cons _ (.cons_cons _ (.refl _))) ?_
            rintro _ _ _ ⟨rfl, rfl, rfl⟩
            refine AtO.quietG rfl rfl rfl (q_not rfl) rfl (Calm.then Post.calm) ?_
            refine AtO.quiet rfl (q_pickT rfl rfl) rfl (Calm.then Post.calm) ?_
            refine AtO.quiet rfl (q_move rfl) rfl (Calm.then Post.calm) ?_
            refine AtO.say 69 (.bool true) rfl (congrArg Value.bool (by decide)) ?_
            refine AtO.quietG rfl rfl rfl (q_loadS t23 rfl (RdS.loc (i := 0) rfl (m := 5) rfl) rfl) rfl (Calm.then Post.calm) ?_
            refine AtO.quietG rfl rfl rfl (q_loadS t23 rfl (RdS.loc (i := 1) rfl (m := 5) rfl) rfl) rfl (Calm.then Post.calm) ?_
            refine AtO.callG rfl rfl rfl en12 rfl (clamp12 ⟨100000, (-100000), 0, ((-100000) + (-1)), 0⟩) (fun _ _ => trivial) (List.Perm.refl _) rfl (.cons_cons _ (.cons_cons _ (.refl _))) ?_
            rintro _ _ _ ⟨rfl, rfl, rfl⟩
            refine AtO.quietG rfl rfl rfl (q_eqStruct e23 rfl rfl rfl rfl rfl rfl) rfl (Calm.then Post.calm) ?_
            refine AtO.quiet rfl (q_pickT rfl rfl) rfl (Calm.then Post.calm) ?_
            refine AtO.quiet rfl (q_move rfl) rfl (Calm.then Post.calm) ?_
            refine AtO.say 75 (.bool true) rfl (congrArg Value.bool (by decide)) ?_
            refine AtO.callG rfl rfl rfl en17 rfl (awake17) (fun _ _ => trivial) (List.Perm.refl _) rfl (.cons_cons _ (.cons_cons _ (.refl _))) ?_
            rintro _ _ _ ⟨rfl, rfl, rfl⟩
            refine AtO.quiet rfl (q_pickT rfl rfl) rfl (Calm.then Post.calm) ?_
            refine AtO.done ?_
            refine At.skim 1 rfl rfl ?_
            refine At.nil ?_
            refine At.then ?_
            refine At.ret ?_
            exact At.results (Γr := []) (M := []) rfl (RVals.cons (RVal.tmp rfl) RVals.nil) (.head _) (fun _ _ => trivial) (.cons _ (.cons _ (.refl _))) ⟨rfl, rfl, rfl⟩
          · skip
            refine At.seq ?_
            refine At.region ?_
            refine At.skim 1 rfl rfl ?_
            refine At.quiet (q_loadS t23 rfl (RdS.loc (i := 1) rfl (m := 5) rfl) rfl) rfl ?_
            refine At.quiet (q_fieldAddr s23 rfl rfl rfl) rfl ?_
            refine At.loudN (l_store t3 rfl rfl (i := 1) rfl rfl rfl rfl) ?_
            rintro _ _ _ ⟨rfl, rfl⟩
            refine At.loudN (l_store t23 rfl rfl (i := 0) rfl rfl rfl rfl) ?_
            rintro _ _ _ ⟨rfl, rfl⟩
            refine At.nil ?_
            refine At.then ?_
            refine At.region ?_
            refine At.skim 2 rfl rfl ?_
            refine At.quiet (q_add rfl rfl (by omega) (by omega)) rfl ?_
            refine At.quiet (q_fieldAddr s23 rfl rfl rfl) rfl ?_
            refine At.loudN (l_store t3 rfl rfl (i := 0) rfl rfl rfl rfl) ?_
            rintro _ _ _ ⟨rfl, rfl⟩
            refine At.nil ?_
            refine At.inNormal ?_
            refine At.then ?_
            refine At.seq ?_
            refine At.draw 16 (.q 0 (.o 1 (.q 2 (.q 3 (.o 4 (.q 5 (.q 6 (.q 7 (.q 8 (.q 10 (.o 9 (.q 11 (.q 12 (.q 13 (.o 14 (.q 15 (.e))))))))))))))))) _ (List.Sublist.refl _) mixed (by kernel_rfl) rfl ?_
            refine AtO.quiet rfl (q_loadS t23 rfl (RdS.loc (i := 1) rfl (m := 5) rfl) rfl) rfl (Calm.then Post.calm) ?_
            refine AtO.call rfl en14 rfl (may14 ⟨100000, (-100000), 0, 0, (-100000)⟩) (fun _ _ => trivial) (List.Perm.refl _) rfl (.cons_cons _ (.cons_cons _ (.refl _))) ?_
            rintro _ _ _ ⟨rfl, rfl, rfl⟩
            refine AtO.quiet rfl (q_move rfl) rfl (Calm.then Post.calm) ?_
            refine AtO.say 64 (.bool true) rfl (congrArg Value.bool (by decide)) ?_
            refine AtO.quietG rfl rfl rfl (q_loadS t23 rfl (RdS.loc (i := 0) rfl (m := 5) rfl) rfl) rfl (Calm.then Post.calm) ?_
            refine AtO.callG rfl rfl rfl en14 rfl (may14 ⟨100000, (-100000), 0, 0, ((-100000) + (-1))⟩) (fun _ _ => trivial) (List.Perm.refl _) rfl (.cons_cons _ (.cons_cons _ (.refl _))) ?_
            rintro _ _ _ ⟨rfl, rfl, rfl⟩
            refine AtO.quietG rfl rfl rfl (q_not rfl) rfl (Calm.then Post.calm) ?_
            refine AtO.quiet rfl (q_pickT rfl rfl) rfl (Calm.then Post.calm) ?_
            refine AtO.quiet rfl (q_move rfl) rfl (Calm.then Post.calm) ?_
            refine AtO.say 69 (.bool true) rfl (congrArg Value.bool (by decide)) ?_
            refine AtO.quietG rfl rfl rfl (q_loadS t23 rfl (RdS.loc (i := 0) rfl (m := 5) rfl) rfl) rfl (Calm.then Post.calm) ?_
            refine AtO.quietG rfl rfl rfl (q_loadS t23 rfl (RdS.loc (i := 1) rfl (m := 5) rfl) rfl) rfl (Calm.then Post.calm) ?_
            refine AtO.callG rfl rfl rfl en12 rfl (clamp12 ⟨100000, (-100000), 0, 0, ((-100000) + (-1))⟩) (fun _ _ => trivial) (List.Perm.refl _) rfl (.cons_cons _ (.cons_cons _ (.refl _))) ?_
            rintro _ _ _ ⟨rfl, rfl, rfl⟩
            refine AtO.quietG rfl rfl rfl (q_eqStruct e23 rfl rfl rfl rfl rfl rfl) rfl (Calm.then Post.calm) ?_
            refine AtO.quiet rfl (q_pickT rfl rfl) rfl (Calm.then Post.calm) ?_
            refine AtO.quiet rfl (q_move rfl) rfl (Calm.then Post.calm) ?_
            refine AtO.say 75 (.bool true) rfl (congrArg Value.bool (by decide)) ?_
            refine AtO.callG rfl rfl rfl en17 rfl (awake17) (fun _ _ => trivial) (List.Perm.refl _) rfl (.cons_cons _ (.cons_cons _ (.refl _))) ?_
            rintro _ _ _ ⟨rfl, rfl, rfl⟩
            refine AtO.quiet rfl (q_pickT rfl rfl) rfl (Calm.then Post.calm) ?_
            refine AtO.done ?_
            refine At.skim 1 rfl rfl ?_
            refine At.nil ?_
            refine At.then ?_
            refine At.ret ?_
            exact At.results (Γr := []) (M := []) rfl (RVals.cons (RVal.tmp rfl) RVals.nil) (.head _) (fun _ _ => trivial) (.cons _ (.cons _ (.refl _))) ⟨rfl, rfl, rfl⟩
  · skip
    refine At.skip ?_
    refine At.then ?_
    refine At.seq ?_
    refine At.region ?_
    refine At.loud (l_alloc t23) rfl ?_
    rintro _ _ _ ⟨b3, rfl, rfl, rfl⟩
    refine At.nil ?_
    refine At.then ?_
    refine At.seq ?_
    refine At.seq ?_
    refine At.region ?_
    refine At.skim 1 rfl rfl ?_
    refine At.quiet (q_convInt Try.underlying3 Try.underlying29 rfl) rfl ?_
    refine At.quiet (q_rem rfl rfl (by omega)) rfl ?_
    refine At.nil ?_
    refine At.then ?_
    refine At.block ?_
    refine At.seq ?_
    refine At.region ?_
    refine At.skim 2 rfl rfl ?_
    refine At.nil ?_
    refine At.then ?_
    refine At.if rfl (fun h0 => ?_) (fun h0 => ?_)
    · skip
      refine At.seq ?_
      refine At.region ?_
      refine At.skim 1 rfl rfl ?_
      refine At.quiet (q_max rfl rfl) rfl ?_
      refine At.quiet (q_loadS t23 rfl (RdS.loc (i := 1) rfl (m := 5) rfl) rfl) rfl ?_
      refine At.quiet (q_fieldAddr s23 rfl rfl rfl) rfl ?_
      refine At.loudN (l_store t3 rfl rfl (i := 1) rfl rfl rfl rfl) ?_
      rintro _ _ _ ⟨rfl, rfl⟩
      refine At.loudN (l_store t23 rfl rfl (i := 0) rfl rfl rfl rfl) ?_
      rintro _ _ _ ⟨rfl, rfl⟩
      refine At.nil ?_
      refine At.then ?_
      refine At.region ?_
      refine At.fld s23 t3 rfl rfl rfl (Rd.loc (i := 1) rfl rfl) rfl rfl ?_
      refine At.skim 1 rfl rfl ?_
      refine At.quiet (q_add rfl rfl (by omega) (by omega)) rfl ?_
      refine At.quiet (q_fieldAddr s23 rfl rfl rfl) rfl ?_
      refine At.loudN (l_store t3 rfl rfl (i := 0) rfl rfl rfl rfl) ?_
      rintro _ _ _ ⟨rfl, rfl⟩
      refine At.nil ?_
      refine At.inNormal ?_
      refine At.then ?_
      refine At.seq ?_
      refine At.draw 16 (.q 0 (.o 1 (.q 2 (.q 3 (.o 4 (.q 5 (.q 6 (.q 7 (.q 8 (.q 10 (.o 9 (.q 11 (.q 12 (.q 13 (.o 14 (.q 15 (.e))))))))))))))))) _ (List.Sublist.refl _) mixed (by kernel_rfl) rfl ?_
      refine AtO.quiet rfl (q_loadS t23 rfl (RdS.loc (i := 1) rfl (m := 5) rfl) rfl) rfl (Calm.then Post.calm) ?_
      refine AtO.call rfl en14 rfl (may14 ⟨(max 1 100000), (-100000), 0, 0, 0⟩) (fun _ _ => trivial) (List.Perm.refl _) rfl (.cons_cons _ (.cons_cons _ (.refl _))) ?_
      rintro _ _ _ ⟨rfl, rfl, rfl⟩
      refine AtO.quiet rfl (q_move rfl) rfl (Calm.then Post.calm) ?_
      refine AtO.say 64 (.bool true) rfl (congrArg Value.bool (by decide)) ?_
      refine AtO.quietG rfl rfl rfl (q_loadS t23 rfl (RdS.loc (i := 0) rfl (m := 5) rfl) rfl) rfl (Calm.then Post.calm) ?_
      refine AtO.callG rfl rfl rfl en14 rfl (may14 ⟨((max 1 100000) + 1), (-100000), 0, 0, 0⟩) (fun _ _ => trivial) (List.Perm.refl _) rfl (.cons_cons _ (.cons_cons _ (.refl _))) ?_
      rintro _ _ _ ⟨rfl, rfl, rfl⟩
      refine AtO.quietG rfl rfl rfl (q_not rfl) rfl (Calm.then Post.calm) ?_
      refine AtO.quiet rfl (q_pickT rfl rfl) rfl (Calm.then Post.calm) ?_
      refine AtO.quiet rfl (q_move rfl) rfl (Calm.then Post.calm) ?_
      refine AtO.say 69 (.bool true) rfl (congrArg Value.bool (by decide)) ?_
      refine AtO.quietG rfl rfl rfl (q_loadS t23 rfl (RdS.loc (i := 0) rfl (m := 5) rfl) rfl) rfl (Calm.then Post.calm) ?_
      refine AtO.quietG rfl rfl rfl (q_loadS t23 rfl (RdS.loc (i := 1) rfl (m := 5) rfl) rfl) rfl (Calm.then Post.calm) ?_
      refine AtO.callG rfl rfl rfl en12 rfl (clamp12 ⟨((max 1 100000) + 1), (-100000), 0, 0, 0⟩) (fun _ _ => trivial) (List.Perm.refl _) rfl (.cons_cons _ (.cons_cons _ (.refl _))) ?_
      rintro _ _ _ ⟨rfl, rfl, rfl⟩
      refine AtO.quietG rfl rfl rfl (q_eqStruct e23 rfl rfl rfl rfl rfl rfl) rfl (Calm.then Post.calm) ?_
      refine AtO.quiet rfl (q_pickT rfl rfl) rfl (Calm.then Post.calm) ?_
      refine AtO.quiet rfl (q_move rfl) rfl (Calm.then Post.calm) ?_
      refine AtO.say 75 (.bool true) rfl (congrArg Value.bool (by decide)) ?_
      refine AtO.callG rfl rfl rfl en17 rfl (awake17) (fun _ _ => trivial) (List.Perm.refl _) rfl (.cons_cons _ (.cons_cons _ (.refl _))) ?_
      rintro _ _ _ ⟨rfl, rfl, rfl⟩
      refine AtO.quiet rfl (q_pickT rfl rfl) rfl (Calm.then Post.calm) ?_
      refine AtO.done ?_
      refine At.skim 1 rfl rfl ?_
      refine At.nil ?_
      refine At.then ?_
      refine At.ret ?_
      exact At.results (Γr := []) (M := []) rfl (RVals.cons (RVal.tmp rfl) RVals.nil) (.head _) (fun _ _ => trivial) (.cons _ (.cons _ (.refl _))) ⟨rfl, rfl, rfl⟩
    · skip
      refine At.seq ?_
      refine At.region ?_
      refine At.skim 2 rfl rfl ?_
      refine At.nil ?_
      refine At.then ?_
      refine At.if rfl (fun h1 => ?_) (fun h1 => ?_)
      · skip
        refine At.seq ?_
        refine At.region ?_
        refine At.skim 1 rfl rfl ?_
        refine At.quiet (q_min rfl rfl) rfl ?_
        refine At.quiet (q_loadS t23 rfl (RdS.loc (i := 1) rfl (m := 5) rfl) rfl) rfl ?_
        refine At.quiet (q_fieldAddr s23 rfl rfl rfl) rfl ?_
        refine At.loudN (l_store t3 rfl rfl (i := 1) rfl rfl rfl rfl) ?_
        rintro _ _ _ ⟨rfl, rfl⟩
        refine At.loudN (l_store t23 rfl rfl (i := 0) rfl rfl rfl rfl) ?_
        rintro _ _ _ ⟨rfl, rfl⟩
        refine At.nil ?_
        refine At.then ?_
        refine At.region ?_
        refine At.fld s23 t3 rfl rfl rfl (Rd.loc (i := 1) rfl rfl) rfl rfl ?_
        refine At.skim 1 rfl rfl ?_
        refine At.quiet (q_add rfl rfl (by omega) (by omega)) rfl ?_
        refine At.quiet (q_fieldAddr s23 rfl rfl rfl) rfl ?_
        refine At.loudN (l_store t3 rfl rfl (i := 0) rfl rfl rfl rfl) ?_
        rintro _ _ _ ⟨rfl, rfl⟩
        refine At.nil ?_
        refine At.inNormal ?_
        refine At.then ?_
        refine At.seq ?_
        refine At.draw 16 (.q 0 (.o 1 (.q 2 (.q 3 (.o 4 (.q 5 (.q 6 (.q 7 (.q 8 (.q 10 (.o 9 (.q 11 (.q 12 (.q 13 (.o 14 (.q 15 (.e))))))))))))))))) _ (List.Sublist.refl _) mixed (by kernel_rfl) rfl ?_
        refine AtO.quiet rfl (q_loadS t23 rfl (RdS.loc (i := 1) rfl (m := 5) rfl) rfl) rfl (Calm.then Post.calm) ?_
        refine AtO.call rfl en14 rfl (may14 ⟨100000, (min 0 100000), 0, 0, 0⟩) (fun _ _ => trivial) (List.Perm.refl _) rfl (.cons_cons _ (.cons_cons _ (.refl _))) ?_
        rintro _ _ _ ⟨rfl, rfl, rfl⟩
        refine AtO.quiet rfl (q_move rfl) rfl (Calm.then Post.calm) ?_
        refine AtO.say 64 (.bool true) rfl (congrArg Value.bool (by decide)) ?_
        refine AtO.quietG rfl rfl rfl (q_loadS t23 rfl (RdS.loc (i := 0) rfl (m := 5) rfl) rfl) rfl (Calm.then Post.calm) ?_
        refine AtO.callG rfl rfl rfl en14 rfl (may14 ⟨100000, ((min 0 100000) + 1), 0, 0, 0⟩) (fun _ _ => trivial) (List.Perm.refl _) rfl (.cons_cons _ (.cons_cons _ (.refl _))) ?_
        rintro _ _ _ ⟨rfl, rfl, rfl⟩
        refine AtO.quietG rfl rfl rfl (q_not rfl) rfl (Calm.then Post.calm) ?_
        refine AtO.quiet rfl (q_pickT rfl rfl) rfl (Calm.then Post.calm) ?_
        refine AtO.quiet rfl (q_move rfl) rfl (Calm.then Post.calm) ?_
        refine AtO.say 69 (.bool true) rfl (congrArg Value.bool (by decide)) ?_
        refine AtO.quietG rfl rfl rfl (q_loadS t23 rfl (RdS.loc (i := 0) rfl (m := 5) rfl) rfl) rfl (Calm.then Post.calm) ?_
        refine AtO.quietG rfl rfl rfl (q_loadS t23 rfl (RdS.loc (i := 1) rfl (m := 5) rfl) rfl) rfl (Calm.then Post.calm) ?_
        refine AtO.callG rfl rfl rfl en12 rfl (clamp12 ⟨100000, ((min 0 100000) + 1), 0, 0, 0⟩) (fun _ _ => trivial) (List.Perm.refl _) rfl (.cons_cons _ (.cons_cons _ (.refl _))) ?_
        rintro _ _ _ ⟨rfl, rfl, rfl⟩
        refine AtO.quietG rfl rfl rfl (q_eqStruct e23 rfl rfl rfl rfl rfl rfl) rfl (Calm.then Post.calm) ?_
        refine AtO.quiet rfl (q_pickT rfl rfl) rfl (Calm.then Post.calm) ?_
        refine AtO.quiet rfl (q_move rfl) rfl (Calm.then Post.calm) ?_
        refine AtO.say 75 (.bool true) rfl (congrArg Value.bool (by decide)) ?_
        refine AtO.callG rfl rfl rfl en17 rfl (awake17) (fun _ _ => trivial) (List.Perm.refl _) rfl (.cons_cons _ (.cons_cons _ (.refl _))) ?_
        rintro _ _ _ ⟨rfl, rfl, rfl⟩
        refine AtO.quiet rfl (q_pickT rfl rfl) rfl (Calm.then Post.calm) ?_
        refine AtO.done ?_
        refine At.skim 1 rfl rfl ?_
        refine At.nil ?_
        refine At.then ?_
        refine At.ret ?_
        exact At.results (Γr := []) (M := []) rfl (RVals.cons (RVal.tmp rfl) RVals.nil) (.head _) (fun _ _ => trivial) (.cons _ (.cons _ (.refl _))) ⟨rfl, rfl, rfl⟩
      · skip
        refine At.seq ?_
        refine At.region ?_
        refine At.skim 2 rfl rfl ?_
        refine At.nil ?_
        refine At.then ?_
        refine At.if rfl (fun h2 => ?_) (fun h2 => ?_)
        · skip
          refine At.seq ?_
          refine At.region ?_
          refine At.skim 1 rfl rfl ?_
          refine At.quiet (q_loadS t23 rfl (RdS.loc (i := 1) rfl (m := 5) rfl) rfl) rfl ?_
          refine At.quiet (q_fieldAddr s23 rfl rfl rfl) rfl ?_
          refine At.loudN (l_store t3 rfl rfl (i := 1) rfl rfl rfl rfl) ?_
          rintro _ _ _ ⟨rfl, rfl⟩
          refine At.loudN (l_store t23 rfl rfl (i := 0) rfl rfl rfl rfl) ?_
          rintro _ _ _ ⟨rfl, rfl⟩
          refine At.nil ?_
          refine At.then ?_
          refine At.region ?_
          refine At.skim 2 rfl rfl ?_
          refine At.quiet (q_add rfl rfl (by omega) (by omega)) rfl ?_
          refine At.quiet (q_fieldAddr s23 rfl rfl rfl) rfl ?_
          refine At.loudN (l_store t3 rfl rfl (i := 0) rfl rfl rfl rfl) ?_
          rintro _ _ _ ⟨rfl, rfl⟩
          refine At.nil ?_
          refine At.inNormal ?_
          refine At.then ?_
          refine At.seq ?_
          refine At.draw 16 (.q 0 (.o 1 (.q 2 (.q 3 (.o 4 (.q 5 (.q 6 (.q 7 (.q 8 (.q 10 (.o 9 (.q 11 (.q 12 (.q 13 (.o 14 (.q 15 (.e))))))))))))))))) _ (List.Sublist.refl _) mixed (by kernel_rfl) rfl ?_
          refine AtO.quiet rfl (q_loadS t23 rfl (RdS.loc (i := 1) rfl (m := 5) rfl) rfl) rfl (Calm.then Post.calm) ?_
          refine AtO.call rfl en14 rfl (may14 ⟨100000, (-100000), 100000, 0, 0⟩) (fun _ _ => trivial) (List.Perm.refl _) rfl (.cons_cons _ (.cons_cons _ (.refl _))) ?_
          rintro _ _ _ ⟨rfl, rfl, rfl⟩
          refine AtO.quiet rfl (q_move rfl) rfl (Calm.then Post.calm) ?_
          refine AtO.say 64 (.bool true) rfl (congrArg Value.bool (by decide)) ?_
          refine AtO.quietG rfl rfl rfl (q_loadS t23 rfl (RdS.loc (i := 0) rfl (m := 5) rfl) rfl) rfl (Calm.then Post.calm) ?_
          refine AtO.callG rfl rfl rfl en14 rfl (may14 ⟨100000, (-100000), (100000 + 1), 0, 0⟩) (fun _ _ => trivial) (List.Perm.refl _) rfl (.cons_cons _ (.cons_cons _ (.refl _))) ?_
          rintro _ _ _ ⟨rfl, rfl, rfl⟩
          refine AtO.quietG rfl rfl rfl (q_not rfl) rfl (Calm.then Post.calm) ?_
          refine AtO.quiet rfl (q_pickT rfl rfl) rfl (Calm.then Post.calm) ?_
          refine AtO.quiet rfl (q_move rfl) rfl (Calm.then Post.calm) ?_
          refine AtO.say 69 (.bool true) rfl (congrArg Value.bool (by decide)) ?_
          refine AtO.quietG rfl rfl rfl (q_loadS t23 rfl (RdS.loc (i := 0) rfl (m := 5) rfl) rfl) rfl (Calm.then Post.calm) ?_
          refine AtO.quietG rfl rfl rfl (q_loadS t23 rfl (RdS.loc (i := 1) rfl (m := 5) rfl) rfl) rfl (Calm.then Post.calm) ?_
          refine AtO.callG rfl rfl rfl en12 rfl (clamp12 ⟨100000, (-100000), (100000 + 1), 0, 0⟩) (fun _ _ => trivial) (List.Perm.refl _) rfl (.cons_cons _ (.cons_cons _ (.refl _))) ?_
          rintro _ _ _ ⟨rfl, rfl, rfl⟩
          refine AtO.quietG rfl rfl rfl (q_eqStruct e23 rfl rfl rfl rfl rfl rfl) rfl (Calm.then Post.calm) ?_
          refine AtO.quiet rfl (q_pickT rfl rfl) rfl (Calm.then Post.calm) ?_
          refine AtO.quiet rfl (q_move rfl) rfl (Calm.then Post.calm) ?_
          refine AtO.say 75 (.bool true) rfl (congrArg Value.bool (by decide)) ?_
          refine AtO.callG rfl rfl rfl en17 rfl (awake17) (fun _ _ => trivial) (List.Perm.refl _) rfl (.cons_cons _ (.cons_cons _ (.refl _))) ?_
          rintro _ _ _ ⟨rfl, rfl, rfl⟩
          refine AtO.quiet rfl (q_pickT rfl rfl) rfl (Calm.then Post.calm) ?_
          refine AtO.done ?_
          refine At.skim 1 rfl rfl ?_
          refine At.nil ?_
          refine At.then ?_
          refine At.ret ?_
          exact At.results (Γr := []) (M := []) rfl (RVals.cons (RVal.tmp rfl) RVals.nil) (.head _) (fun _ _ => trivial) (.cons _ (.cons _ (.refl _))) ⟨rfl, rfl, rfl⟩
        · skip
          refine At.seq ?_
          refine At.region ?_
          refine At.skim 2 rfl rfl ?_
          refine At.nil ?_
          refine At.then ?_
          refine At.if rfl (fun h3 => ?_) (fun h3 => ?_)
          · skip
            refine At.seq ?_
            refine At.region ?_
            refine At.skim 1 rfl rfl ?_
            refine At.quiet (q_loadS t23 rfl (RdS.loc (i := 1) rfl (m := 5) rfl) rfl) rfl ?_
            refine At.quiet (q_fieldAddr s23 rfl rfl rfl) rfl ?_
            refine At.loudN (l_store t3 rfl rfl (i := 1) rfl rfl rfl rfl) ?_
            rintro _ _ _ ⟨rfl, rfl⟩
            refine At.loudN (l_store t23 rfl rfl (i := 0) rfl rfl rfl rfl) ?_
            rintro _ _ _ ⟨rfl, rfl⟩
            refine At.nil ?_
            refine At.then ?_
            refine At.region ?_
            refine At.skim 2 rfl rfl ?_
            refine At.quiet (q_add rfl rfl (by omega) (by omega)) rfl ?_
            refine At.quiet (q_fieldAddr s23 rfl rfl rfl) rfl ?_
            refine At.loudN (l_store t3 rfl rfl (i := 0) rfl rfl rfl rfl) ?_
            rintro _ _ _ ⟨rfl, rfl⟩
            refine At.nil ?_
            refine At.inNormal ?_
            refine At.then ?_
            refine At.seq ?_
            refine At.draw 16 (.q 0 (.o 1 (.q 2 (.q 3 (.o 4 (.q 5 (.q 6 (.q 7 (.q 8 (.q 10 (.o 9 (.q 11 (.q 12 (.q 13 (.o 14 (.q 15 (.e))))))))))))))))) _ (List.Sublist.refl _) mixed (by kernel_rfl) rfl ?_
            refine AtO.quiet rfl (q_loadS t23 rfl (RdS.loc (i := 1) rfl (m := 5) rfl) rfl) rfl (Calm.then Post.calm) ?_
            refine AtO.call rfl en14 rfl (may14 ⟨100000, (-100000), 0, 100000, 0⟩) (fun _ _ => trivial) (List.Perm.refl _) rfl (.cons_cons _ (.cons_cons _ (.refl _))) ?_
            rintro _ _ _ ⟨rfl, rfl, rfl⟩
            refine AtO.quiet rfl (q_move rfl) rfl (Calm.then Post.calm) ?_
            refine AtO.say 64 (.bool true) rfl (congrArg Value.bool (by decide)) ?_
            refine AtO.quietG rfl rfl rfl (q_loadS t23 rfl (RdS.loc (i := 0) rfl (m := 5) rfl) rfl) rfl (Calm.then Post.calm) ?_
            refine AtO.callG rfl rfl rfl en14 rfl (may14 ⟨100000, (-100000), 0, (100000 + 1), 0⟩) (fun _ _ => trivial) (List.Perm.refl _) rfl (.cons_cons _ (.cons_cons _ (.refl _))) ?_
            rintro _ _ _ ⟨rfl, rfl, rfl⟩
            refine AtO.quietG rfl rfl rfl (q_not rfl) rfl (Calm.then Post.calm) ?_
            refine AtO.quiet rfl (q_pickT rfl rfl) rfl (Calm.then Post.calm) ?_
            refine AtO.quiet rfl (q_move rfl) rfl (Calm.then Post.calm) ?_
            refine AtO.say 69 (.bool true) rfl (congrArg Value.bool (by decide)) ?_
            refine AtO.quietG rfl rfl rfl (q_loadS t23 rfl (RdS.loc (i := 0) rfl (m := 5) rfl) rfl) rfl (Calm.then Post.calm) ?_
            refine AtO.quietG rfl rfl rfl (q_loadS t23 rfl (RdS.loc (i := 1) rfl (m := 5) rfl) rfl) rfl (Calm.then Post.calm) ?_
            refine AtO.callG rfl rfl rfl en12 rfl (clamp12 ⟨100000, (-100000), 0, (100000 + 1), 0⟩) (fun _ _ => trivial) (List.Perm.refl _) rfl (.cons_cons _ (.cons_cons _ (.refl _))) ?_
            rintro _ _ _ ⟨rfl, rfl, rfl⟩
            refine AtO.quietG rfl rfl rfl (q_eqStruct e23 rfl rfl rfl rfl rfl rfl) rfl (Calm.then Post.calm) ?_
            refine AtO.quiet rfl (q_pickT rfl rfl) rfl (Calm.then Post.calm) ?_
            refine AtO.quiet rfl (q_move rfl) rfl (Calm.then Post.calm) ?_
            refine AtO.say 75 (.bool true) rfl (congrArg Value.bool (by decide)) ?_
            refine AtO.callG rfl rfl rfl en17 rfl (awake17) (fun _ _ => trivial) (List.Perm.refl _) rfl (.cons_cons _ (.cons_cons _ (.refl _))) ?_
            rintro _ _ _ ⟨rfl, rfl, rfl⟩
            refine AtO.quiet rfl (q_pickT rfl rfl) rfl (Calm.then Post.calm) ?_
            refine AtO.done ?_
            refine At.skim 1 rfl rfl ?_
            refine At.nil ?_
            refine At.then ?_
            refine At.ret ?_
            exact At.results (Γr := []) (M := []) rfl (RVals.cons (RVal.tmp rfl) RVals.nil) (.head _) (fun _ _ => trivial) (.cons _ (.cons _ (.refl _))) ⟨rfl, rfl, rfl⟩
          · skip
            refine At.seq ?_
            refine At.region ?_
            refine At.skim 1 rfl rfl ?_
            refine At.quiet (q_loadS t23 rfl (RdS.loc (i := 1) rfl (m := 5) rfl) rfl) rfl ?_
            refine At.quiet (q_fieldAddr s23 rfl rfl rfl) rfl ?_
            refine At.loudN (l_store t3 rfl rfl (i := 1) rfl rfl rfl rfl) ?_
            rintro _ _ _ ⟨rfl, rfl⟩
            refine At.loudN (l_store t23 rfl rfl (i := 0) rfl rfl rfl rfl) ?_
            rintro _ _ _ ⟨rfl, rfl⟩
            refine At.nil ?_
            refine At.then ?_
            refine At.region ?_
            refine At.skim 2 rfl rfl ?_
            refine At.quiet (q_add rfl rfl (by omega) (by omega)) rfl ?_
            refine At.quiet (q_fieldAddr s23 rfl rfl rfl) rfl ?_
            refine At.loudN (l_store t3 rfl rfl (i := 0) rfl rfl rfl rfl) ?_
            rintro _ _ _ ⟨rfl, rfl⟩
            refine At.nil ?_
            refine At.inNormal ?_
            refine At.then ?_
            refine At.seq ?_
            refine At.draw 16 (.q 0 (.o 1 (.q 2 (.q 3 (.o 4 (.q 5 (.q 6 (.q 7 (.q 8 (.q 10 (.o 9 (.q 11 (.q 12 (.q 13 (.o 14 (.q 15 (.e))))))))))))))))) _ (List.Sublist.refl _) mixed (by kernel_rfl) rfl ?_
            refine AtO.quiet rfl (q_loadS t23 rfl (RdS.loc (i := 1) rfl (m := 5) rfl) rfl) rfl (Calm.then Post.calm) ?_
            refine AtO.call rfl en14 rfl (may14 ⟨100000, (-100000), 0, 0, 100000⟩) (fun _ _ => trivial) (List.Perm.refl _) rfl (.cons_cons _ (.cons_cons _ (.refl _))) ?_
            rintro _ _ _ ⟨rfl, rfl, rfl⟩
            refine AtO.quiet rfl (q_move rfl) rfl (Calm.then Post.calm) ?_
            refine AtO.say 64 (.bool true) rfl (congrArg Value.bool (by decide)) ?_
            refine AtO.quietG rfl rfl rfl (q_loadS t23 rfl (RdS.loc (i := 0) rfl (m := 5) rfl) rfl) rfl (Calm.then Post.calm) ?_
            refine AtO.callG rfl rfl rfl en14 rfl (may14 ⟨100000, (-100000), 0, 0, (100000 + 1)⟩) (fun _ _ => trivial) (List.Perm.refl _) rfl (.cons_cons _ (.cons_cons _ (.refl _))) ?_
            rintro _ _ _ ⟨rfl, rfl, rfl⟩
            refine AtO.quietG rfl rfl rfl (q_not rfl) rfl (Calm.then Post.calm) ?_
            refine AtO.quiet rfl (q_pickT rfl rfl) rfl (Calm.then Post.calm) ?_
            refine AtO.quiet rfl (q_move rfl) rfl (Calm.then Post.calm) ?_
            refine AtO.say 69 (.bool true) rfl (congrArg Value.bool (by decide)) ?_
            refine AtO.quietG rfl rfl rfl (q_loadS t23 rfl (RdS.loc (i := 0) rfl (m := 5) rfl) rfl) rfl (Calm.then Post.calm) ?_
            refine AtO.quietG rfl rfl rfl (q_loadS t23 rfl (RdS.loc (i := 1) rfl (m := 5) rfl) rfl) rfl (Calm.then Post.calm) ?_
            refine AtO.callG rfl rfl rfl en12 rfl (clamp12 ⟨100000, (-100000), 0, 0, (100000 + 1)⟩) (fun _ _ => trivial) (List.Perm.refl _) rfl (.cons_cons _ (.cons_cons _ (.refl _))) ?_
            rintro _ _ _ ⟨rfl, rfl, rfl⟩
            refine AtO.quietG rfl rfl rfl (q_eqStruct e23 rfl rfl rfl rfl rfl rfl) rfl (Calm.then Post.calm) ?_
            refine AtO.quiet rfl (q_pickT rfl rfl) rfl (Calm.then Post.calm) ?_
            refine AtO.quiet rfl (q_move rfl) rfl (Calm.then Post.calm) ?_
            refine AtO.say 75 (.bool true) rfl (congrArg Value.bool (by decide)) ?_
            refine AtO.callG rfl rfl rfl en17 rfl (awake17) (fun _ _ => trivial) (List.Perm.refl _) rfl (.cons_cons _ (.cons_cons _ (.refl _))) ?_
            rintro _ _ _ ⟨rfl, rfl, rfl⟩
            refine AtO.quiet rfl (q_pickT rfl rfl) rfl (Calm.then Post.calm) ?_
            refine AtO.done ?_
            refine At.skim 1 rfl rfl ?_
            refine At.nil ?_
            refine At.then ?_
            refine At.ret ?_
            exact At.results (Γr := []) (M := []) rfl (RVals.cons (RVal.tmp rfl) RVals.nil) (.head _) (fun _ _ => trivial) (.cons _ (.cons _ (.refl _))) ⟨rfl, rfl, rfl⟩

theorem forms7 (p : Pol) (n w : Int) (l : Sl Int) : Con Try.prog 7 [p.val, .int .i64 n, .int .i64 w, l.val] [intsP l] [] (fun v Γ M => v = .bool true ∧ Γ = [] ∧ M = []) := by
  refine Con.body 69 Try.func7 rfl Try.ntmps7 rfl fun X H₀ L₀ => ?_
  refine At.seq ?_
  refine At.region ?_
  refine At.loud (l_box rfl) rfl ?_
  rintro _ _ _ ⟨b1, rfl, rfl, rfl⟩
  refine At.freeze 0 (φ := blk b1 _) rfl (fun _ h => blk_def.2 ⟨_, _, h⟩) ?_
  refine At.skim 1 rfl rfl ?_
  refine At.nil ?_
  refine At.then ?_
  refine At.seq ?_
  refine At.seq ?_
  refine At.region ?_
  refine At.skim 1 rfl rfl ?_
  refine At.quiet (q_len Try.underlying31 rfl) rfl ?_
  refine At.skim 1 rfl rfl ?_
  refine At.nil ?_
  refine At.then ?_
  refine At.if rfl (fun hl => ?_) (fun hl => ?_)
  · skip
    refine At.seq ?_
    refine At.region ?_
    refine At.call en18 rfl (awake18) (fun _ _ => trivial) (List.Perm.refl _) rfl ?_
    rintro _ _ _ ⟨rfl, rfl, rfl⟩
    refine At.skim 1 rfl rfl ?_
    refine At.nil ?_
    refine At.then ?_
    refine At.ret ?_
    refine At.thenRet ?_
    exact At.results (Γr := []) (M := []) rfl (RVals.cons (RVal.tmp rfl) RVals.nil) (.tail _ (.head _)) (fun _ _ => trivial) (.refl _) ⟨rfl, rfl, rfl⟩
  · skip
    refine At.skip ?_
    refine At.then ?_
    refine At.seq ?_
    refine At.region ?_
    refine At.skim 1 rfl rfl ?_
    refine At.quiet (q_min rfl rfl) rfl ?_
    refine At.quiet (q_max rfl rfl) rfl ?_
    refine At.skim 1 rfl rfl ?_
    refine At.nil ?_
    refine At.then ?_
    refine At.seq ?_
    refine At.seq ?_
    refine At.region ?_
    refine At.skim 1 rfl rfl ?_
    refine At.quiet (q_len Try.underlying31 rfl) rfl ?_
    refine At.skim 1 rfl rfl ?_
    refine At.nil ?_
    refine At.then ?_
    refine At.block ?_
    refine At.say 9 (.int .i64 (if 0 = 0 then heldS n else afterS p n (l.l.take 0))) rfl (by rw [if_pos rfl, hold_other _ _ _ (by omega)]; rfl) ?_
    refine At.loopK (ι := Nat) [9, 10, 11, 21, 22, 23, 24, 25, 26, 27, 28, 29, 30, 31, 32, 33] (fun k => [(9, .int .i64 (if k = 0 then heldS n else afterS p n (l.l.take k))), (21, .int .i64 (k : Int))]) (fun k => []) (fun k => []) _ (fun k => k ≤ l.l.length) (fun k => l.l.length - k) 0 (Nat.zero_le _) ⟨rfl, rfl, trivial⟩ (fun _ _ => trivial) (.refl _) ?_
    intro k hk0
    refine At.seq ?_
    refine At.region ?_
    refine At.skim 1 rfl rfl ?_
    refine At.nil ?_
    refine At.then ?_
    refine At.seq ?_
    refine At.if rfl (fun hk => ?_) (fun hk => ?_)
    · skip
      obtain ⟨x, hx⟩ := get_of_lt (l := l.l) (i := k) (by omega)
      have hk1 := lt_of_get hx
      have hx2 := (List.getElem?_eq_some_iff.1 hx).2
      have e1 := afterS_first p n l.l k hk1
      rw [hx2] at e1
      refine At.skip ?_
      refine At.then ?_
      refine At.seq ?_
      refine At.block ?_
      refine At.seq ?_
      refine At.region ?_
      refine At.skim 1 rfl rfl ?_
      refine At.quiet (q_index Try.underlying31 t3 rfl (.tail _ (.tail _ (.head _))) (by simp) rfl rfl (lt_of_get hx)) rfl ?_
      refine At.quiet (q_load t3 rfl (Rd.sl0 (.tail _ (.tail _ (.head _))) (map_get hx) rfl)) rfl ?_
      refine At.skim 2 rfl rfl ?_
      refine At.nil ?_
      refine At.then ?_
      refine At.seq ?_
      refine At.seq ?_
      refine At.region ?_
      refine At.skim 2 rfl rfl ?_
      refine At.nil ?_
      refine At.then ?_
      refine At.if rfl (fun h0 => ?_) (fun h0 => ?_)
      · skip
        refine At.region ?_
        refine At.skim 2 rfl rfl ?_
        refine At.nil ?_
        refine At.then ?_
        refine At.region ?_
        refine At.quiet (q_loadS t23 rfl (RdS.blk (.head _) (m := 5) rfl) rfl) rfl ?_
        refine At.skim 2 rfl rfl ?_
        refine At.call en19 rfl (next19 p _ _) (fun _ _ => trivial) (List.Perm.refl _) rfl ?_
        rintro _ _ _ ⟨rfl, rfl, rfl⟩
        refine At.skim 1 rfl rfl ?_
        refine At.nil ?_
        refine At.inNormal ?_
        refine At.then ?_
        refine At.region ?_
        refine At.quiet (q_add rfl rfl (by omega) (by omega)) rfl ?_
        refine At.skim 1 rfl rfl ?_
        refine At.nil ?_
        refine At.say 9 (.int .i64 (if k + 1 = 0 then heldS n else afterS p n (l.l.take (k + 1)))) rfl (by rw [if_neg (by omega), ← e1, if_pos (by omega)]) ?_
        refine At.then ?_
        exact At.againK (k + 1) hk1 (by (try dsimp only); omega) (Tells.end 20 ⟨rfl, rfl, trivial⟩ rfl rfl) (fun _ h => h) (.refl _)
      · skip
        refine At.skip ?_
        refine At.then ?_
        refine At.region ?_
        refine At.quiet (q_loadS t23 rfl (RdS.blk (.head _) (m := 5) rfl) rfl) rfl ?_
        refine At.skim 2 rfl rfl ?_
        refine At.call en19 rfl (next19 p _ _) (fun _ _ => trivial) (List.Perm.refl _) rfl ?_
        rintro _ _ _ ⟨rfl, rfl, rfl⟩
        refine At.skim 1 rfl rfl ?_
        refine At.nil ?_
        refine At.inNormal ?_
        refine At.then ?_
        refine At.region ?_
        refine At.quiet (q_add rfl rfl (by omega) (by omega)) rfl ?_
        refine At.skim 1 rfl rfl ?_
        refine At.nil ?_
        refine At.say 9 (.int .i64 (if k + 1 = 0 then heldS n else afterS p n (l.l.take (k + 1)))) rfl (by rw [if_neg (by omega), ← e1, if_neg (by omega), if_neg (by omega)]) ?_
        refine At.then ?_
        exact At.againK (k + 1) hk1 (by (try dsimp only); omega) (Tells.end 18 ⟨rfl, rfl, trivial⟩ rfl rfl) (fun _ h => h) (.refl _)
    · skip
      obtain rfl : k = l.l.length := by omega
      refine At.exit ?_
      refine At.thenExit ?_
      refine At.thenExit ?_
      refine At.inHere rfl ?_
      refine At.then ?_
      refine At.seq ?_
      refine At.seq ?_
      refine At.region ?_
      refine At.skim 1 rfl rfl ?_
      refine At.quiet (q_len Try.underlying31 rfl) rfl ?_
      refine At.skim 1 rfl rfl ?_
      refine At.nil ?_
      refine At.then ?_
      refine At.if rfl (fun h0 => ?_) (fun h0 => ?_)
      · skip
        refine At.region ?_
        refine At.quiet (q_loadS t23 rfl (RdS.blk (.head _) (m := 5) rfl) rfl) rfl ?_
        refine At.skim 1 rfl rfl ?_
        refine At.call en19 rfl (next19 p _ _) (fun _ _ => trivial) (List.Perm.refl _) rfl ?_
        rintro _ _ _ ⟨rfl, rfl, rfl⟩
        refine At.skim 1 rfl rfl ?_
        refine At.nil ?_
        refine At.then ?_
        refine At.seq ?_
        refine At.draw 29 (.q 0 (.q 1 (.q 2 (.q 4 (.q 5 (.q 6 (.o 3 (.o 7 (.q 8 (.q 9 (.q 10 (.q 11 (.q 13 (.q 14 (.o 12 (.o 15 (.q 16 (.q 17 (.q 18 (.q 19 (.q 20 (.q 21 (.q 23 (.o 22 (.q 24 (.q 25 (.q 26 (.o 27 (.q 28 (.e)))))))))))))))))))))))))))))) _ (List.Sublist.refl _) mixed (by kernel_rfl) rfl ?_
        refine AtO.quiet rfl (q_loadS t23 rfl (RdS.blk (.head _) (m := 5) rfl) rfl) rfl (Calm.then Post.calm) ?_
        refine AtO.quiet rfl (q_move rfl) rfl (Calm.then Post.calm) ?_
        refine AtO.quiet rfl (q_move rfl) rfl (Calm.then Post.calm) ?_
        refine AtO.quiet rfl (q_loadS t23 rfl (RdS.blk (.head _) (m := 5) rfl) rfl) rfl (Calm.then Post.calm) ?_
        refine AtO.quiet rfl (q_move rfl) rfl (Calm.then Post.calm) ?_
        refine AtO.quiet rfl (q_move rfl) rfl (Calm.then Post.calm) ?_
        refine AtO.call rfl en20 rfl (next20 p _ _) (fun _ _ => trivial) (List.Perm.refl _) rfl (.refl _) ?_
        rintro _ _ _ ⟨rfl, rfl, rfl⟩
        refine AtO.call rfl en19 rfl (next19 p _ _) (fun _ _ => trivial) (List.Perm.refl _) rfl (.refl _) ?_
        rintro _ _ _ ⟨rfl, rfl, rfl⟩
        refine AtO.quiet rfl (q_eql rfl rfl) rfl (Calm.then Post.calm) ?_
        refine AtO.quiet rfl (q_move rfl) rfl (Calm.then Post.calm) ?_
        refine AtO.say 49 (.bool true) rfl (congrArg Value.bool (by simp)) ?_
        refine AtO.quietG rfl rfl rfl (q_loadS t23 rfl (RdS.blk (.head _) (m := 5) rfl) rfl) rfl (Calm.then Post.calm) ?_
        refine AtO.quietG rfl rfl rfl (q_move rfl) rfl (Calm.then Post.calm) ?_
        refine AtO.quietG rfl rfl rfl (q_loadS t23 rfl (RdS.blk (.head _) (m := 5) rfl) rfl) rfl (Calm.then Post.calm) ?_
        refine AtO.quietG rfl rfl rfl (q_move rfl) rfl (Calm.then Post.calm) ?_
        refine AtO.callG rfl rfl rfl en21 rfl (decide21 p _) (fun _ _ => trivial) (List.Perm.refl _) rfl (.refl _) ?_
        rintro _ _ _ ⟨rfl, rfl, rfl⟩
        refine AtO.callG rfl rfl rfl en22 rfl (decide22 p _) (fun _ _ => trivial) (List.Perm.refl _) rfl (.refl _) ?_
        rintro _ _ _ ⟨rfl, rfl, rfl⟩
        refine AtO.quietG rfl rfl rfl (q_eql rfl rfl) rfl (Calm.then Post.calm) ?_
        refine AtO.quiet rfl (q_pickT rfl rfl) rfl (Calm.then Post.calm) ?_
        refine AtO.quiet rfl (q_move rfl) rfl (Calm.then Post.calm) ?_
        refine AtO.say 58 (.bool true) rfl (congrArg Value.bool (by simp)) ?_
        refine AtO.quietG rfl rfl rfl (q_loadS t23 rfl (RdS.blk (.head _) (m := 5) rfl) rfl) rfl (Calm.then Post.calm) ?_
        refine AtO.quietG rfl rfl rfl (q_move rfl) rfl (Calm.then Post.calm) ?_
        refine AtO.quietG rfl rfl rfl (q_move rfl) rfl (Calm.then Post.calm) ?_
        refine AtO.quietG rfl rfl rfl (q_move rfl) rfl (Calm.then Post.calm) ?_
        refine AtO.callG rfl rfl rfl en23 rfl (after23 p _ l (by omega)) (fun _ h => ⟨h.2.2.1, trivial⟩) (List.Perm.refl _) rfl (.refl _) ?_
        rintro _ _ _ ⟨rfl, rfl, rfl⟩
        refine AtO.quietG rfl rfl rfl (q_eql rfl rfl) rfl (Calm.then Post.calm) ?_
        refine AtO.quiet rfl (q_pickT rfl rfl) rfl (Calm.then Post.calm) ?_
        refine AtO.quiet rfl (q_move rfl) rfl (Calm.then Post.calm) ?_
        refine AtO.say 66 (.bool true) rfl (congrArg Value.bool (by
            have e0 : l.l = [] := List.eq_nil_of_length_eq_zero (by omega)
            rw [e0]
            simp only [decide_eq_true_eq]
            show heldS n = heldS (pushed p n 0)
            simp only [pushed]
            exact (heldS_id _ (heldS_bd n).1 (heldS_bd n).2).symm)) ?_
        refine AtO.callG rfl rfl rfl en18 rfl (awake18) (fun _ _ => trivial) (List.Perm.refl _) rfl (.refl _) ?_
        rintro _ _ _ ⟨rfl, rfl, rfl⟩
        refine AtO.quiet rfl (q_pickT rfl rfl) rfl (Calm.then Post.calm) ?_
        refine AtO.done ?_
        refine At.skim 1 rfl rfl ?_
        refine At.nil ?_
        refine At.then ?_
        refine At.ret ?_
        exact At.results (Γr := []) (M := []) rfl (RVals.cons (RVal.tmp rfl) RVals.nil) (.tail _ (.head _)) (fun _ _ => trivial) (.refl _) ⟨rfl, rfl, rfl⟩
      · skip
        refine At.skip ?_
        refine At.then ?_
        refine At.seq ?_
        refine At.draw 29 (.q 0 (.q 1 (.q 2 (.q 4 (.q 5 (.q 6 (.o 3 (.o 7 (.q 8 (.q 9 (.q 10 (.q 11 (.q 13 (.q 14 (.o 12 (.o 15 (.q 16 (.q 17 (.q 18 (.q 19 (.q 20 (.q 21 (.q 23 (.o 22 (.q 24 (.q 25 (.q 26 (.o 27 (.q 28 (.e)))))))))))))))))))))))))))))) _ (List.Sublist.refl _) mixed (by kernel_rfl) rfl ?_
        refine AtO.quiet rfl (q_loadS t23 rfl (RdS.blk (.head _) (m := 5) rfl) rfl) rfl (Calm.then Post.calm) ?_
        refine AtO.quiet rfl (q_move rfl) rfl (Calm.then Post.calm) ?_
        refine AtO.quiet rfl (q_move rfl) rfl (Calm.then Post.calm) ?_
        refine AtO.quiet rfl (q_loadS t23 rfl (RdS.blk (.head _) (m := 5) rfl) rfl) rfl (Calm.then Post.calm) ?_
        refine AtO.quiet rfl (q_move rfl) rfl (Calm.then Post.calm) ?_
        refine AtO.quiet rfl (q_move rfl) rfl (Calm.then Post.calm) ?_
        refine AtO.call rfl en20 rfl (next20 p _ _) (fun _ _ => trivial) (List.Perm.refl _) rfl (.refl _) ?_
        rintro _ _ _ ⟨rfl, rfl, rfl⟩
        refine AtO.call rfl en19 rfl (next19 p _ _) (fun _ _ => trivial) (List.Perm.refl _) rfl (.refl _) ?_
        rintro _ _ _ ⟨rfl, rfl, rfl⟩
        refine AtO.quiet rfl (q_eql rfl rfl) rfl (Calm.then Post.calm) ?_
        refine AtO.quiet rfl (q_move rfl) rfl (Calm.then Post.calm) ?_
        refine AtO.say 49 (.bool true) rfl (congrArg Value.bool (by simp)) ?_
        refine AtO.quietG rfl rfl rfl (q_loadS t23 rfl (RdS.blk (.head _) (m := 5) rfl) rfl) rfl (Calm.then Post.calm) ?_
        refine AtO.quietG rfl rfl rfl (q_move rfl) rfl (Calm.then Post.calm) ?_
        refine AtO.quietG rfl rfl rfl (q_loadS t23 rfl (RdS.blk (.head _) (m := 5) rfl) rfl) rfl (Calm.then Post.calm) ?_
        refine AtO.quietG rfl rfl rfl (q_move rfl) rfl (Calm.then Post.calm) ?_
        refine AtO.callG rfl rfl rfl en21 rfl (decide21 p _) (fun _ _ => trivial) (List.Perm.refl _) rfl (.refl _) ?_
        rintro _ _ _ ⟨rfl, rfl, rfl⟩
        refine AtO.callG rfl rfl rfl en22 rfl (decide22 p _) (fun _ _ => trivial) (List.Perm.refl _) rfl (.refl _) ?_
        rintro _ _ _ ⟨rfl, rfl, rfl⟩
        refine AtO.quietG rfl rfl rfl (q_eql rfl rfl) rfl (Calm.then Post.calm) ?_
        refine AtO.quiet rfl (q_pickT rfl rfl) rfl (Calm.then Post.calm) ?_
        refine AtO.quiet rfl (q_move rfl) rfl (Calm.then Post.calm) ?_
        refine AtO.say 58 (.bool true) rfl (congrArg Value.bool (by simp)) ?_
        refine AtO.quietG rfl rfl rfl (q_loadS t23 rfl (RdS.blk (.head _) (m := 5) rfl) rfl) rfl (Calm.then Post.calm) ?_
        refine AtO.quietG rfl rfl rfl (q_move rfl) rfl (Calm.then Post.calm) ?_
        refine AtO.quietG rfl rfl rfl (q_move rfl) rfl (Calm.then Post.calm) ?_
        refine AtO.quietG rfl rfl rfl (q_move rfl) rfl (Calm.then Post.calm) ?_
        refine AtO.callG rfl rfl rfl en23 rfl (after23 p _ l (by omega)) (fun _ h => ⟨h.2.2.1, trivial⟩) (List.Perm.refl _) rfl (.refl _) ?_
        rintro _ _ _ ⟨rfl, rfl, rfl⟩
        refine AtO.quietG rfl rfl rfl (q_eql rfl rfl) rfl (Calm.then Post.calm) ?_
        refine AtO.quiet rfl (q_pickT rfl rfl) rfl (Calm.then Post.calm) ?_
        refine AtO.quiet rfl (q_move rfl) rfl (Calm.then Post.calm) ?_
        refine AtO.say 66 (.bool true) rfl (congrArg Value.bool (by rw [if_neg (by omega), List.take_length]; simp)) ?_
        refine AtO.callG rfl rfl rfl en18 rfl (awake18) (fun _ _ => trivial) (List.Perm.refl _) rfl (.refl _) ?_
        rintro _ _ _ ⟨rfl, rfl, rfl⟩
        refine AtO.quiet rfl (q_pickT rfl rfl) rfl (Calm.then Post.calm) ?_
        refine AtO.done ?_
        refine At.skim 1 rfl rfl ?_
        refine At.nil ?_
        refine At.then ?_
        refine At.ret ?_
        exact At.results (Γr := []) (M := []) rfl (RVals.cons (RVal.tmp rfl) RVals.nil) (.tail _ (.head _)) (fun _ _ => trivial) (.refl _) ⟨rfl, rfl, rfl⟩

theorem rises8 (p : Pol) (a b w : Int) : Con Try.prog 8 [p.val, .int .i64 a, .int .i64 b, .int .i64 w] [] [] (fun v Γ M => v = .bool true ∧ Γ = [] ∧ M = []) := by
  refine Con.body 48 Try.func8 rfl Try.ntmps8 rfl fun X H₀ L₀ => ?_
  refine At.seq ?_
  refine At.region ?_
  refine At.loud (l_box rfl) rfl ?_
  rintro _ _ _ ⟨b1, rfl, rfl, rfl⟩
  refine At.freeze 0 (φ := blk b1 _) rfl (fun _ h => blk_def.2 ⟨_, _, h⟩) ?_
  refine At.skim 1 rfl rfl ?_
  refine At.nil ?_
  refine At.then ?_
  refine At.seq ?_
  refine At.seq ?_
  refine At.region ?_
  refine At.skim 3 rfl rfl ?_
  refine At.nil ?_
  refine At.then ?_
  refine At.if rfl (fun hab => ?_) (fun hab => ?_)
  · skip
    refine At.region ?_
    refine At.skim 4 rfl rfl ?_
    refine At.nil ?_
    refine At.then ?_
    refine At.seq ?_
    refine At.seq ?_
    refine At.draw 9 (.q 0 (.q 1 (.q 2 (.q 4 (.q 5 (.q 6 (.o 3 (.o 7 (.q 8 (.e)))))))))) _ (List.Sublist.refl _) mixed (by kernel_rfl) rfl ?_
    refine AtO.quiet rfl (q_loadS t23 rfl (RdS.blk (.head _) (m := 5) rfl) rfl) rfl (Calm.then (Calm.then Post.calm)) ?_
    refine AtO.quiet rfl (q_move rfl) rfl (Calm.then (Calm.then Post.calm)) ?_
    refine AtO.quiet rfl (q_move rfl) rfl (Calm.then (Calm.then Post.calm)) ?_
    refine AtO.quiet rfl (q_loadS t23 rfl (RdS.blk (.head _) (m := 5) rfl) rfl) rfl (Calm.then (Calm.then Post.calm)) ?_
    refine AtO.quiet rfl (q_move rfl) rfl (Calm.then (Calm.then Post.calm)) ?_
    refine AtO.quiet rfl (q_move rfl) rfl (Calm.then (Calm.then Post.calm)) ?_
    refine AtO.call rfl en20 rfl (next20 p _ _) (fun _ _ => trivial) (List.Perm.refl _) rfl (.refl _) ?_
    rintro _ _ _ ⟨rfl, rfl, rfl⟩
    refine AtO.call rfl en20 rfl (next20 p _ _) (fun _ _ => trivial) (List.Perm.refl _) rfl (.refl _) ?_
    rintro _ _ _ ⟨rfl, rfl, rfl⟩
    refine AtO.quiet rfl (q_gtr rfl rfl) rfl (Calm.then (Calm.then Post.calm)) ?_
    refine AtO.done ?_
    refine At.nil ?_
    refine At.then ?_
    refine At.say 24 (.bool false) rfl (congrArg Value.bool (by have := nextS_mono p b a w (by omega); simp only [decide_eq_false_iff_not]; omega)) ?_
    refine At.condF rfl ?_
    refine At.skip ?_
    refine At.then ?_
    refine At.seq ?_
    refine At.draw 7 (.q 0 (.q 1 (.q 3 (.q 4 (.o 2 (.o 5 (.q 6 (.e)))))))) _ (List.Sublist.refl _) mixed (by kernel_rfl) rfl ?_
    refine AtO.quiet rfl (q_loadS t23 rfl (RdS.blk (.head _) (m := 5) rfl) rfl) rfl (Calm.then Post.calm) ?_
    refine AtO.quiet rfl (q_move rfl) rfl (Calm.then Post.calm) ?_
    refine AtO.quiet rfl (q_loadS t23 rfl (RdS.blk (.head _) (m := 5) rfl) rfl) rfl (Calm.then Post.calm) ?_
    refine AtO.quiet rfl (q_move rfl) rfl (Calm.then Post.calm) ?_
    refine AtO.call rfl en21 rfl (decide21 p _) (fun _ _ => trivial) (List.Perm.refl _) rfl (.refl _) ?_
    rintro _ _ _ ⟨rfl, rfl, rfl⟩
    refine AtO.call rfl en21 rfl (decide21 p _) (fun _ _ => trivial) (List.Perm.refl _) rfl (.refl _) ?_
    rintro _ _ _ ⟨rfl, rfl, rfl⟩
    have hd := decideS_mono p b a (by omega)
    refine AtO.quiet rfl (q_assign rfl) rfl (Calm.then Post.calm) ?_
    refine AtO.done ?_
    refine At.skim 1 rfl rfl ?_
    refine At.nil ?_
    refine At.then ?_
    refine At.seq ?_
    refine At.region ?_
    refine At.skim 3 rfl rfl ?_
    refine At.splitP (d := 33) rfl (fun h1 => ?_) (fun h1 => ?_)
    · skip
      refine At.skim 7 rfl rfl ?_
      refine At.splitP (d := 40) rfl (fun h2 => ?_) (fun h2 => ?_)
      · skip
        refine At.skim 5 rfl rfl ?_
        refine At.open rfl rfl ?_
        refine At.call en18 rfl (awake18) (fun _ _ => trivial) (List.Perm.refl _) rfl ?_
        rintro _ _ _ ⟨rfl, rfl, rfl⟩
        refine At.skim 2 rfl rfl ?_
        refine At.nil ?_
        refine At.then ?_
        refine At.ret ?_
        exact At.results (Γr := []) (M := []) rfl (RVals.cons (RVal.tmp rfl) RVals.nil) (.tail _ (.head _)) (fun _ _ => trivial) (.refl _) ⟨rfl, rfl, rfl⟩
      · skip
        refine At.skim 5 rfl rfl ?_
        refine At.say 45 (.bool true) rfl (congrArg Value.bool (by simp only [decide_eq_true_eq]; exact hd.2 (by omega))) ?_
        refine At.open rfl rfl ?_
        refine At.call en18 rfl (awake18) (fun _ _ => trivial) (List.Perm.refl _) rfl ?_
        rintro _ _ _ ⟨rfl, rfl, rfl⟩
        refine At.skim 2 rfl rfl ?_
        refine At.nil ?_
        refine At.then ?_
        refine At.ret ?_
        exact At.results (Γr := []) (M := []) rfl (RVals.cons (RVal.tmp rfl) RVals.nil) (.tail _ (.head _)) (fun _ _ => trivial) (.refl _) ⟨rfl, rfl, rfl⟩
    · skip
      refine At.skim 4 rfl rfl ?_
      refine At.say 37 (.bool true) rfl (congrArg Value.bool (by simp only [decide_eq_true_eq]; exact hd.1 (by omega))) ?_
      refine At.skim 3 rfl rfl ?_
      refine At.splitP (d := 40) rfl (fun h2 => ?_) (fun h2 => ?_)
      · skip
        refine At.skim 5 rfl rfl ?_
        refine At.open rfl rfl ?_
        refine At.call en18 rfl (awake18) (fun _ _ => trivial) (List.Perm.refl _) rfl ?_
        rintro _ _ _ ⟨rfl, rfl, rfl⟩
        refine At.skim 2 rfl rfl ?_
        refine At.nil ?_
        refine At.then ?_
        refine At.ret ?_
        exact At.results (Γr := []) (M := []) rfl (RVals.cons (RVal.tmp rfl) RVals.nil) (.tail _ (.head _)) (fun _ _ => trivial) (.refl _) ⟨rfl, rfl, rfl⟩
      · skip
        refine At.skim 5 rfl rfl ?_
        refine At.say 45 (.bool true) rfl (congrArg Value.bool (by simp only [decide_eq_true_eq]; exact hd.2 (by omega))) ?_
        refine At.open rfl rfl ?_
        refine At.call en18 rfl (awake18) (fun _ _ => trivial) (List.Perm.refl _) rfl ?_
        rintro _ _ _ ⟨rfl, rfl, rfl⟩
        refine At.skim 2 rfl rfl ?_
        refine At.nil ?_
        refine At.then ?_
        refine At.ret ?_
        exact At.results (Γr := []) (M := []) rfl (RVals.cons (RVal.tmp rfl) RVals.nil) (.tail _ (.head _)) (fun _ _ => trivial) (.refl _) ⟨rfl, rfl, rfl⟩
  · skip
    refine At.skip ?_
    refine At.then ?_
    refine At.seq ?_
    refine At.seq ?_
    refine At.draw 9 (.q 0 (.q 1 (.q 2 (.q 4 (.q 5 (.q 6 (.o 3 (.o 7 (.q 8 (.e)))))))))) _ (List.Sublist.refl _) mixed (by kernel_rfl) rfl ?_
    refine AtO.quiet rfl (q_loadS t23 rfl (RdS.blk (.head _) (m := 5) rfl) rfl) rfl (Calm.then (Calm.then Post.calm)) ?_
    refine AtO.quiet rfl (q_move rfl) rfl (Calm.then (Calm.then Post.calm)) ?_
    refine AtO.quiet rfl (q_move rfl) rfl (Calm.then (Calm.then Post.calm)) ?_
    refine AtO.quiet rfl (q_loadS t23 rfl (RdS.blk (.head _) (m := 5) rfl) rfl) rfl (Calm.then (Calm.then Post.calm)) ?_
    refine AtO.quiet rfl (q_move rfl) rfl (Calm.then (Calm.then Post.calm)) ?_
    refine AtO.quiet rfl (q_move rfl) rfl (Calm.then (Calm.then Post.calm)) ?_
    refine AtO.call rfl en20 rfl (next20 p _ _) (fun _ _ => trivial) (List.Perm.refl _) rfl (.refl _) ?_
    rintro _ _ _ ⟨rfl, rfl, rfl⟩
    refine AtO.call rfl en20 rfl (next20 p _ _) (fun _ _ => trivial) (List.Perm.refl _) rfl (.refl _) ?_
    rintro _ _ _ ⟨rfl, rfl, rfl⟩
    refine AtO.quiet rfl (q_gtr rfl rfl) rfl (Calm.then (Calm.then Post.calm)) ?_
    refine AtO.done ?_
    refine At.nil ?_
    refine At.then ?_
    refine At.say 24 (.bool false) rfl (congrArg Value.bool (by have := nextS_mono p a b w (by omega); simp only [decide_eq_false_iff_not]; omega)) ?_
    refine At.condF rfl ?_
    refine At.skip ?_
    refine At.then ?_
    refine At.seq ?_
    refine At.draw 7 (.q 0 (.q 1 (.q 3 (.q 4 (.o 2 (.o 5 (.q 6 (.e)))))))) _ (List.Sublist.refl _) mixed (by kernel_rfl) rfl ?_
    refine AtO.quiet rfl (q_loadS t23 rfl (RdS.blk (.head _) (m := 5) rfl) rfl) rfl (Calm.then Post.calm) ?_
    refine AtO.quiet rfl (q_move rfl) rfl (Calm.then Post.calm) ?_
    refine AtO.quiet rfl (q_loadS t23 rfl (RdS.blk (.head _) (m := 5) rfl) rfl) rfl (Calm.then Post.calm) ?_
    refine AtO.quiet rfl (q_move rfl) rfl (Calm.then Post.calm) ?_
    refine AtO.call rfl en21 rfl (decide21 p _) (fun _ _ => trivial) (List.Perm.refl _) rfl (.refl _) ?_
    rintro _ _ _ ⟨rfl, rfl, rfl⟩
    refine AtO.call rfl en21 rfl (decide21 p _) (fun _ _ => trivial) (List.Perm.refl _) rfl (.refl _) ?_
    rintro _ _ _ ⟨rfl, rfl, rfl⟩
    have hd := decideS_mono p a b (by omega)
    refine AtO.quiet rfl (q_assign rfl) rfl (Calm.then Post.calm) ?_
    refine AtO.done ?_
    refine At.skim 1 rfl rfl ?_
    refine At.nil ?_
    refine At.then ?_
    refine At.seq ?_
    refine At.region ?_
    refine At.skim 3 rfl rfl ?_
    refine At.splitP (d := 33) rfl (fun h1 => ?_) (fun h1 => ?_)
    · skip
      refine At.skim 7 rfl rfl ?_
      refine At.splitP (d := 40) rfl (fun h2 => ?_) (fun h2 => ?_)
      · skip
        refine At.skim 5 rfl rfl ?_
        refine At.open rfl rfl ?_
        refine At.call en18 rfl (awake18) (fun _ _ => trivial) (List.Perm.refl _) rfl ?_
        rintro _ _ _ ⟨rfl, rfl, rfl⟩
        refine At.skim 2 rfl rfl ?_
        refine At.nil ?_
        refine At.then ?_
        refine At.ret ?_
        exact At.results (Γr := []) (M := []) rfl (RVals.cons (RVal.tmp rfl) RVals.nil) (.tail _ (.head _)) (fun _ _ => trivial) (.refl _) ⟨rfl, rfl, rfl⟩
      · skip
        refine At.skim 5 rfl rfl ?_
        refine At.say 45 (.bool true) rfl (congrArg Value.bool (by simp only [decide_eq_true_eq]; exact hd.2 (by omega))) ?_
        refine At.open rfl rfl ?_
        refine At.call en18 rfl (awake18) (fun _ _ => trivial) (List.Perm.refl _) rfl ?_
        rintro _ _ _ ⟨rfl, rfl, rfl⟩
        refine At.skim 2 rfl rfl ?_
        refine At.nil ?_
        refine At.then ?_
        refine At.ret ?_
        exact At.results (Γr := []) (M := []) rfl (RVals.cons (RVal.tmp rfl) RVals.nil) (.tail _ (.head _)) (fun _ _ => trivial) (.refl _) ⟨rfl, rfl, rfl⟩
    · skip
      refine At.skim 4 rfl rfl ?_
      refine At.say 37 (.bool true) rfl (congrArg Value.bool (by simp only [decide_eq_true_eq]; exact hd.1 (by omega))) ?_
      refine At.skim 3 rfl rfl ?_
      refine At.splitP (d := 40) rfl (fun h2 => ?_) (fun h2 => ?_)
      · skip
        refine At.skim 5 rfl rfl ?_
        refine At.open rfl rfl ?_
        refine At.call en18 rfl (awake18) (fun _ _ => trivial) (List.Perm.refl _) rfl ?_
        rintro _ _ _ ⟨rfl, rfl, rfl⟩
        refine At.skim 2 rfl rfl ?_
        refine At.nil ?_
        refine At.then ?_
        refine At.ret ?_
        exact At.results (Γr := []) (M := []) rfl (RVals.cons (RVal.tmp rfl) RVals.nil) (.tail _ (.head _)) (fun _ _ => trivial) (.refl _) ⟨rfl, rfl, rfl⟩
      · skip
        refine At.skim 5 rfl rfl ?_
        refine At.say 45 (.bool true) rfl (congrArg Value.bool (by simp only [decide_eq_true_eq]; exact hd.2 (by omega))) ?_
        refine At.open rfl rfl ?_
        refine At.call en18 rfl (awake18) (fun _ _ => trivial) (List.Perm.refl _) rfl ?_
        rintro _ _ _ ⟨rfl, rfl, rfl⟩
        refine At.skim 2 rfl rfl ?_
        refine At.nil ?_
        refine At.then ?_
        refine At.ret ?_
        exact At.results (Γr := []) (M := []) rfl (RVals.cons (RVal.tmp rfl) RVals.nil) (.tail _ (.head _)) (fun _ _ => trivial) (.refl _) ⟨rfl, rfl, rfl⟩

theorem off11 (p : Pol) (n : Int) (l : Sl Int) : Con Try.prog 11 [p.val, .int .i64 n, l.val] [intsP l] [] (fun v Γ M => v = .bool true ∧ Γ = [] ∧ M = []) := by
  refine Con.body 46 Try.func11 rfl Try.ntmps11 rfl fun X H₀ L₀ => ?_
  refine At.seq ?_
  refine At.region ?_
  refine At.loud (l_box rfl) rfl ?_
  rintro _ _ _ ⟨b1, rfl, rfl, rfl⟩
  refine At.freeze 0 (φ := blk b1 _) rfl (fun _ h => blk_def.2 ⟨_, _, h⟩) ?_
  refine At.skim 1 rfl rfl ?_
  refine At.nil ?_
  refine At.then ?_
  refine At.seq ?_
  refine At.seq ?_
  refine At.region ?_
  refine At.skim 1 rfl rfl ?_
  refine At.quiet (q_len Try.underlying31 rfl) rfl ?_
  refine At.skim 1 rfl rfl ?_
  refine At.nil ?_
  refine At.then ?_
  refine At.if rfl (fun hl => ?_) (fun hl => ?_)
  · skip
    refine At.seq ?_
    refine At.region ?_
    refine At.call en18 rfl (awake18) (fun _ _ => trivial) (List.Perm.refl _) rfl ?_
    rintro _ _ _ ⟨rfl, rfl, rfl⟩
    refine At.skim 1 rfl rfl ?_
    refine At.nil ?_
    refine At.then ?_
    refine At.ret ?_
    refine At.thenRet ?_
    exact At.results (Γr := []) (M := []) rfl (RVals.cons (RVal.tmp rfl) RVals.nil) (.tail _ (.head _)) (fun _ _ => trivial) (.refl _) ⟨rfl, rfl, rfl⟩
  · skip
    refine At.skip ?_
    refine At.then ?_
    refine At.seq ?_
    refine At.seq ?_
    refine At.region ?_
    refine At.call en15 rfl (off15) (fun _ _ => trivial) (List.Perm.refl _) rfl ?_
    rintro _ _ _ ⟨rfl, rfl, rfl⟩
    refine At.skim 1 rfl rfl ?_
    refine At.call en23 rfl (after23 Pol.off _ l (by omega)) (fun _ h => ⟨h.2.2.1, trivial⟩) (List.Perm.refl _) rfl ?_
    rintro _ _ _ ⟨rfl, rfl, rfl⟩
    refine At.skim 2 rfl rfl ?_
    refine At.say 17 (.bool false) rfl (congrArg Value.bool (by simp [afterS_off])) ?_
    refine At.open rfl rfl ?_
    refine At.call en15 rfl (off15) (fun _ _ => trivial) (List.Perm.refl _) rfl ?_
    rintro _ _ _ ⟨rfl, rfl, rfl⟩
    refine At.open rfl rfl ?_
    refine At.call en21 rfl (decide21 Pol.off _) (fun _ _ => trivial) (List.Perm.refl _) rfl ?_
    rintro _ _ _ ⟨rfl, rfl, rfl⟩
    refine At.skim 2 rfl rfl ?_
    refine At.nil ?_
    refine At.then ?_
    refine At.say 21 (.bool false) rfl (congrArg Value.bool (by decide)) ?_
    refine At.condF rfl ?_
    refine At.skip ?_
    refine At.then ?_
    refine At.seq ?_
    refine At.region ?_
    refine At.quiet (q_loadS t23 rfl (RdS.blk (.head _) (m := 5) rfl) rfl) rfl ?_
    refine At.skim 2 rfl rfl ?_
    refine At.call en23 rfl (after23 p _ l (by omega)) (fun _ h => ⟨h.2.2.1, trivial⟩) (List.Perm.refl _) rfl ?_
    rintro _ _ _ ⟨rfl, rfl, rfl⟩
    refine At.skim 1 rfl rfl ?_
    refine At.nil ?_
    refine At.then ?_
    refine At.seq ?_
    refine At.region ?_
    refine At.quiet (q_loadS t23 rfl (RdS.blk (.head _) (m := 5) rfl) rfl) rfl ?_
    refine At.skim 1 rfl rfl ?_
    refine At.call en21 rfl (decide21 p _) (fun _ _ => trivial) (List.Perm.refl _) rfl ?_
    rintro _ _ _ ⟨rfl, rfl, rfl⟩
    have h1 := afterS_bd p n l.l
    have h2 := decideS_bd p (afterS p n l.l)
    refine At.skim 1 rfl rfl ?_
    refine At.nil ?_
    refine At.then ?_
    refine At.seq ?_
    refine At.region ?_
    refine At.skim 3 rfl rfl ?_
    refine At.say 31 (.bool true) rfl (congrArg Value.bool (by simp only [decide_eq_true_eq]; omega)) ?_
    refine At.skim 4 rfl rfl ?_
    refine At.say 35 (.bool true) rfl (congrArg Value.bool (by simp only [decide_eq_true_eq]; omega)) ?_
    refine At.skim 4 rfl rfl ?_
    refine At.say 39 (.bool true) rfl (congrArg Value.bool (by simp only [decide_eq_true_eq]; omega)) ?_
    refine At.skim 4 rfl rfl ?_
    refine At.say 43 (.bool true) rfl (congrArg Value.bool (by simp only [decide_eq_true_eq]; omega)) ?_
    refine At.open rfl rfl ?_
    refine At.call en18 rfl (awake18) (fun _ _ => trivial) (List.Perm.refl _) rfl ?_
    rintro _ _ _ ⟨rfl, rfl, rfl⟩
    refine At.skim 2 rfl rfl ?_
    refine At.nil ?_
    refine At.then ?_
    refine At.ret ?_
    exact At.results (Γr := []) (M := []) rfl (RVals.cons (RVal.tmp rfl) RVals.nil) (.tail _ (.head _)) (fun _ _ => trivial) (.refl _) ⟨rfl, rfl, rfl⟩

theorem held9 (p : Pol) (n : Int) : Con Try.prog 9 [p.val, .int .i64 n] [] [] (fun v Γ M => v = .bool true ∧ Γ = [] ∧ M = []) := by
  refine Con.body 63 Try.func9 rfl Try.ntmps9 rfl fun X H₀ L₀ => ?_
  refine At.seq ?_
  refine At.region ?_
  refine At.loud (l_box rfl) rfl ?_
  rintro _ _ _ ⟨b1, rfl, rfl, rfl⟩
  refine At.freeze 0 (φ := blk b1 _) rfl (fun _ h => blk_def.2 ⟨_, _, h⟩) ?_
  refine At.skim 1 rfl rfl ?_
  refine At.nil ?_
  refine At.then ?_
  refine At.seq ?_
  refine At.region ?_
  refine At.skim 1 rfl rfl ?_
  refine At.quiet (q_convInt Try.underlying3 Try.underlying29 rfl) rfl ?_
  refine At.quiet (q_rem rfl rfl (by omega)) rfl ?_
  refine At.quiet (q_convInt Try.underlying29 Try.underlying3 rfl) rfl ?_
  refine At.skim 1 rfl rfl ?_
  refine At.nil ?_
  refine At.then ?_
  refine At.seq ?_
  refine At.region ?_
  have hr := remN_eq n 60 (by omega) (by omega)
  refine At.say 1 (.int .i64 (remN n 60 : Int)) rfl (congrArg (Value.int .i64) hr.1) ?_
  generalize remN n 60 = m at hr ⊢
  refine At.skim 1 rfl rfl ?_
  refine At.nil ?_
  refine At.then ?_
  refine At.seq ?_
  refine At.seq ?_
  refine At.region ?_
  refine At.nilSeg ?_
  refine At.skim 2 rfl rfl ?_
  refine At.nil ?_
  refine At.then ?_
  refine At.block ?_
  refine At.loopK (ι := Nat × Option Addr × Nat × Seg) [5, 14, 15, 16, 17, 18, 19] (fun ⟨k, a, c, M⟩ => [(5, .slice a k c), (14, .int .i64 (k : Int))]) (fun ⟨k, a, c, M⟩ => []) (fun ⟨k, a, c, M⟩ => [M]) _ (fun ⟨k, a, c, M⟩ => Own 3 1 ((List.replicate k (1 : Int)).map rowI) a c M ∧ k ≤ m) (fun ⟨k, a, c, M⟩ => m - k) (0, none, 0, []) ⟨Own.nil _ _, Nat.zero_le _⟩ ⟨rfl, rfl, trivial⟩ (fun _ _ => trivial) (.cons_cons _ (.refl _)) ?_
  intro i hI0
  obtain ⟨k, a, c, M⟩ := i
  obtain ⟨hO, hkm⟩ := hI0
  refine At.seq ?_
  refine At.region ?_
  refine At.skim 1 rfl rfl ?_
  refine At.nil ?_
  refine At.then ?_
  refine At.seq ?_
  refine At.if rfl (fun hk => ?_) (fun hk => ?_)
  · skip
    refine At.skip ?_
    refine At.then ?_
    refine At.seq ?_
    refine At.block ?_
    refine At.region ?_
    refine At.skim 1 rfl rfl ?_
    refine At.loud (l_buildSlice Try.underlying31 t3 rfl rfl rfl rfl rfl) rfl ?_
    rintro _ _ _ ⟨b2, rfl, rfl, rfl⟩
    refine At.loud (l_append rfl Try.underlying31 t3 rfl rfl hO (by simp) (i := 1) rfl rfl (news := [rowI 1]) (by simp [rowI]) (RdS.loc (i := 0) rfl (m := 1) rfl) rfl rfl rfl (by omega) (by unfold maxLen; omega)) rfl ?_
    rintro _ _ _ ⟨a2, c2, M2, rfl, ow, rfl, rfl⟩
    refine At.skim 1 rfl rfl ?_
    refine At.nil ?_
    refine At.inNormal ?_
    refine At.then ?_
    refine At.region ?_
    refine At.quiet (q_add rfl rfl (by omega) (by omega)) rfl ?_
    refine At.skim 1 rfl rfl ?_
    refine At.nil ?_
    refine At.front 1 rfl ?_
    refine At.then ?_
    exact At.againK (k + 1, a2, c2, M2) ⟨by rw [List.replicate_succ', List.map_append]; exact ow, by omega⟩ (by (try dsimp only); omega) (Tells.end 9 ⟨rfl, rfl, trivial⟩ rfl rfl) (fun _ h => h) (.cons_cons _ (.cons _ (.refl _)))
  · skip
    obtain rfl : k = m := by omega
    refine At.freezeOwn 0 hO rfl ?_
    refine At.say 5 (Sl.val ⟨a, c, List.replicate k (1 : Int)⟩) rfl (by simp [Sl.val]) ?_
    refine At.exit ?_
    refine At.thenExit ?_
    refine At.thenExit ?_
    refine At.inHere rfl ?_
    refine At.then ?_
    refine At.seq ?_
    refine At.region ?_
    refine At.quiet (q_loadS t23 rfl (RdS.blk (.tail _ (.head _)) (m := 5) rfl) rfl) rfl ?_
    refine At.skim 1 rfl rfl ?_
    refine At.call en23 rfl (after23 p 1000000 ⟨a, c, (List.replicate k (1 : Int))⟩ (by simp; omega)) (fun _ h => ⟨h.1, trivial⟩) (List.Perm.refl _) rfl ?_
    rintro _ _ _ ⟨rfl, rfl, rfl⟩
    refine At.skim 1 rfl rfl ?_
    refine At.nil ?_
    refine At.then ?_
    refine At.seq ?_
    refine At.region ?_
    refine At.quiet (q_loadS t23 rfl (RdS.blk (.tail _ (.head _)) (m := 5) rfl) rfl) rfl ?_
    refine At.skim 1 rfl rfl ?_
    refine At.call en23 rfl (after23 p (-1000000) ⟨a, c, (List.replicate k (1 : Int))⟩ (by simp; omega)) (fun _ h => ⟨h.1, trivial⟩) (List.Perm.refl _) rfl ?_
    rintro _ _ _ ⟨rfl, rfl, rfl⟩
    refine At.skim 1 rfl rfl ?_
    refine At.nil ?_
    refine At.then ?_
    refine At.seq ?_
    refine At.seq ?_
    refine At.region ?_
    refine At.skim 3 rfl rfl ?_
    refine At.say 28 (.bool false) rfl (congrArg Value.bool (by have := afterS_bd p 1000000 (List.replicate k (1 : Int)); simp only [decide_eq_false_iff_not]; omega)) ?_
    refine At.skim 4 rfl rfl ?_
    refine At.say 32 (.bool false) rfl (congrArg Value.bool (by have := afterS_bd p (-1000000) (List.replicate k (1 : Int)); simp only [decide_eq_false_iff_not]; omega)) ?_
    refine At.open rfl rfl ?_
    refine At.quiet (q_loadS t23 rfl (RdS.blk (.tail _ (.head _)) (m := 5) rfl) rfl) rfl ?_
    refine At.open rfl rfl ?_
    refine At.call en20 rfl (next20 p 4611686018427387904 0) (fun _ _ => trivial) (List.Perm.refl _) rfl ?_
    rintro _ _ _ ⟨rfl, rfl, rfl⟩
    refine At.skim 3 rfl rfl ?_
    refine At.say 37 (.bool false) rfl (congrArg Value.bool (by rw [next_zero]; decide)) ?_
    refine At.open rfl rfl ?_
    refine At.quiet (q_loadS t23 rfl (RdS.blk (.tail _ (.head _)) (m := 5) rfl) rfl) rfl ?_
    refine At.open rfl rfl ?_
    refine At.call en20 rfl (next20 p (-4611686018427387904) 0) (fun _ _ => trivial) (List.Perm.refl _) rfl ?_
    rintro _ _ _ ⟨rfl, rfl, rfl⟩
    refine At.skim 2 rfl rfl ?_
    refine At.nil ?_
    refine At.then ?_
    refine At.say 41 (.bool false) rfl (congrArg Value.bool (by rw [next_zero]; decide)) ?_
    refine At.condF rfl ?_
    refine At.skip ?_
    refine At.then ?_
    refine At.seq ?_
    refine At.region ?_
    refine At.quiet (q_loadS t23 rfl (RdS.blk (.tail _ (.head _)) (m := 5) rfl) rfl) rfl ?_
    refine At.call en20 rfl (next20 p 0 1) (fun _ _ => trivial) (List.Perm.refl _) rfl ?_
    rintro _ _ _ ⟨rfl, rfl, rfl⟩
    refine At.skim 1 rfl rfl ?_
    refine At.nil ?_
    refine At.then ?_
    refine At.seq ?_
    refine At.region ?_
    refine At.quiet (q_loadS t23 rfl (RdS.blk (.tail _ (.head _)) (m := 5) rfl) rfl) rfl ?_
    refine At.skim 1 rfl rfl ?_
    refine At.call en23 rfl (after23 p 0 ⟨a, c, (List.replicate k (1 : Int))⟩ (by simp; omega)) (fun _ h => ⟨h.1, trivial⟩) (List.Perm.refl _) rfl ?_
    rintro _ _ _ ⟨rfl, rfl, rfl⟩
    refine At.skim 2 rfl rfl ?_
    have h1 := (nextS_bd p 0 1)
    have hb : -60000000 ≤ nextS p 0 1 * (k : Int) ∧ nextS p 0 1 * (k : Int) ≤ 60000000 := mul_bd _ _ h1 (by omega)
    refine At.quiet (q_mul rfl rfl (by omega) (by omega)) rfl ?_
    refine At.quiet (q_min rfl rfl) rfl ?_
    refine At.quiet (q_max rfl rfl) rfl ?_
    refine At.skim 2 rfl rfl ?_
    refine At.say 53 (.bool true) rfl (congrArg Value.bool (decide_eq_true (rem_held p k))) ?_
    refine At.open rfl rfl ?_
    refine At.quiet (q_loadS t23 rfl (RdS.blk (.tail _ (.head _)) (m := 5) rfl) rfl) rfl ?_
    refine At.skim 1 rfl rfl ?_
    refine At.open rfl rfl ?_
    refine At.call en20 rfl (next20 p _ 77) (fun _ _ => trivial) (List.Perm.refl _) rfl ?_
    rintro _ _ _ ⟨rfl, rfl, rfl⟩
    refine At.skim 4 rfl rfl ?_
    refine At.say 60 (.bool true) rfl (congrArg Value.bool (decide_eq_true (next_odd p 0))) ?_
    refine At.open rfl rfl ?_
    refine At.call en18 rfl (awake18) (fun _ _ => trivial) (List.Perm.refl _) rfl ?_
    rintro _ _ _ ⟨rfl, rfl, rfl⟩
    refine At.skim 2 rfl rfl ?_
    refine At.nil ?_
    refine At.then ?_
    refine At.ret ?_
    exact At.results (Γr := []) (M := []) rfl (RVals.cons (RVal.tmp rfl) RVals.nil) (.tail _ (.tail _ (.head _))) (fun _ _ => trivial) (.refl _) ⟨rfl, rfl, rfl⟩

theorem parts10 (p : Pol) (s : Int) (l : Sl Int) (n : Int) : Con Try.prog 10 [p.val, .int .i64 s, l.val, .int .i64 n] [intsP l] [] (fun v Γ M => v = .bool true ∧ Γ = [] ∧ M = []) := by
  refine Con.body 41 Try.func10 rfl Try.ntmps10 rfl fun X H₀ L₀ => ?_
  refine At.seq ?_
  refine At.region ?_
  refine At.loud (l_box rfl) rfl ?_
  rintro _ _ _ ⟨b1, rfl, rfl, rfl⟩
  refine At.freeze 0 (φ := blk b1 _) rfl (fun _ h => blk_def.2 ⟨_, _, h⟩) ?_
  refine At.skim 1 rfl rfl ?_
  refine At.nil ?_
  refine At.then ?_
  refine At.seq ?_
  refine At.seq ?_
  refine At.region ?_
  refine At.skim 1 rfl rfl ?_
  refine At.quiet (q_len Try.underlying31 rfl) rfl ?_
  refine At.skim 1 rfl rfl ?_
  refine At.nil ?_
  refine At.then ?_
  refine At.if rfl (fun hl => ?_) (fun hl => ?_)
  · skip
    refine At.seq ?_
    refine At.region ?_
    refine At.call en18 rfl (awake18) (fun _ _ => trivial) (List.Perm.refl _) rfl ?_
    rintro _ _ _ ⟨rfl, rfl, rfl⟩
    refine At.skim 1 rfl rfl ?_
    refine At.nil ?_
    refine At.then ?_
    refine At.ret ?_
    refine At.thenRet ?_
    exact At.results (Γr := []) (M := []) rfl (RVals.cons (RVal.tmp rfl) RVals.nil) (.tail _ (.head _)) (fun _ _ => trivial) (.refl _) ⟨rfl, rfl, rfl⟩
  · skip
    refine At.skip ?_
    refine At.then ?_
    refine At.seq ?_
    refine At.region ?_
    have hw := u64_id ((l.l.length : Int) + 1) (by omega) (by omega)
    refine At.skim 1 rfl rfl ?_
    refine At.quiet (q_convInt Try.underlying3 Try.underlying29 rfl) rfl ?_
    refine At.skim 1 rfl rfl ?_
    refine At.quiet (q_len Try.underlying31 rfl) rfl ?_
    refine At.quiet (q_add rfl rfl (by omega) (by omega)) rfl ?_
    refine At.quiet (q_convInt Try.underlying3 Try.underlying29 rfl) rfl ?_
    refine At.quiet (q_rem rfl rfl (by omega)) rfl ?_
    refine At.quiet (q_convInt Try.underlying29 Try.underlying3 rfl) rfl ?_
    refine At.skim 1 rfl rfl ?_
    refine At.nil ?_
    refine At.then ?_
    refine At.seq ?_
    have hr := remN_eq n ((l.l.length : Int) + 1) (by omega) (by omega)
    refine At.say 9 (.int .i64 (remN n ((l.l.length : Int) + 1) : Int)) rfl (congrArg (Value.int .i64) (by rw [hw]; exact hr.1)) ?_
    generalize remN n ((l.l.length : Int) + 1) = j at hr ⊢
    refine At.capOf (hs := .tail _ (.tail _ (.head _))) fun hc => ?_
    rw [List.length_map] at hc
    refine At.know (intsP ⟨subA l.a l.c 1 0, l.c, l.l.take j⟩) (fun _ h => by have := sl_sub (l := 0) (h := j) h.2.2.1 (by omega) (by simp; omega); simpa [intsP, List.map_take] using this) ?_
    refine At.know (intsP ⟨subA l.a l.c 1 j, l.c - j, l.l.drop j⟩) (fun _ h => by have := sl_sub (l := j) (h := l.l.length) h.2.2.2.1 (by omega) (by simp); simpa [intsP, List.map_drop, List.take_of_length_le] using this) ?_
    refine At.draw 19 (.q 0 (.q 1 (.q 2 (.q 3 (.q 4 (.q 5 (.q 7 (.q 8 (.q 9 (.q 11 (.q 12 (.q 13 (.o 6 (.o 10 (.o 14 (.q 15 (.q 16 (.o 17 (.q 18 (.e)))))))))))))))))))) _ (List.Sublist.refl _) mixed (by kernel_rfl) rfl ?_
    refine AtO.quiet rfl (q_loadS t23 rfl (RdS.blk (.tail _ (.tail _ (.head _))) (m := 5) rfl) rfl) rfl (Calm.then Post.calm) ?_
    refine AtO.quiet rfl (q_loadS t23 rfl (RdS.blk (.tail _ (.tail _ (.head _))) (m := 5) rfl) rfl) rfl (Calm.then Post.calm) ?_
    refine AtO.quiet rfl (q_move rfl) rfl (Calm.then Post.calm) ?_
    refine AtO.quiet rfl (q_move rfl) rfl (Calm.then Post.calm) ?_
    refine AtO.quiet rfl (q_move rfl) rfl (Calm.then Post.calm) ?_
    refine AtO.quiet rfl (q_sliceHi Try.underlying31 t3 rfl rfl rfl (by omega)) rfl (Calm.then Post.calm) ?_
    refine AtO.quiet rfl (q_move rfl) rfl (Calm.then Post.calm) ?_
    refine AtO.quiet rfl (q_move rfl) rfl (Calm.then Post.calm) ?_
    refine AtO.quiet rfl (q_sliceLo Try.underlying31 t3 rfl rfl rfl (by omega)) rfl (Calm.then Post.calm) ?_
    refine AtO.say 27 (Sl.val ⟨subA l.a l.c 1 0, l.c, l.l.take j⟩) rfl (by simp [Sl.val]; omega) ?_
    refine AtO.say 31 (Sl.val ⟨subA l.a l.c 1 j, l.c - j, l.l.drop j⟩) rfl (by simp [Sl.val]) ?_
    refine AtO.quiet rfl (q_loadS t23 rfl (RdS.blk (.tail _ (.tail _ (.head _))) (m := 5) rfl) rfl) rfl (Calm.then Post.calm) ?_
    refine AtO.quiet rfl (q_move rfl) rfl (Calm.then Post.calm) ?_
    refine AtO.quiet rfl (q_move rfl) rfl (Calm.then Post.calm) ?_
    refine AtO.call rfl en23 rfl (after23 p _ ⟨_, _, l.l.take j⟩ (by simp; omega)) (fun _ h => ⟨h.2.1, trivial⟩) (List.Perm.refl _) rfl (.refl _) ?_
    rintro _ _ _ ⟨rfl, rfl, rfl⟩
    refine AtO.call rfl en23 rfl (after23 p _ ⟨_, _, l.l.drop j⟩ (by simp; omega)) (fun _ h => ⟨h.1, trivial⟩) (List.Perm.refl _) rfl (.refl _) ?_
    rintro _ _ _ ⟨rfl, rfl, rfl⟩
    refine AtO.call rfl en23 rfl (after23 p _ l (by omega)) (fun _ h => ⟨h.2.2.2.2.1, trivial⟩) (List.Perm.refl _) rfl (.refl _) ?_
    rintro _ _ _ ⟨rfl, rfl, rfl⟩
    refine AtO.quiet rfl (q_eql rfl rfl) rfl (Calm.then Post.calm) ?_
    refine AtO.quiet rfl (q_move rfl) rfl (Calm.then Post.calm) ?_
    refine AtO.say 38 (.bool true) rfl (congrArg Value.bool (by rw [afterS_append, List.take_append_drop]; simp)) ?_
    refine AtO.callG rfl rfl rfl en18 rfl (awake18) (fun _ _ => trivial) (List.Perm.refl _) rfl (.refl _) ?_
    rintro _ _ _ ⟨rfl, rfl, rfl⟩
    refine AtO.quiet rfl (q_pickT rfl rfl) rfl (Calm.then Post.calm) ?_
    refine AtO.done ?_
    refine At.skim 1 rfl rfl ?_
    refine At.nil ?_
    refine At.then ?_
    refine At.ret ?_
    exact At.results (Γr := []) (M := []) rfl (RVals.cons (RVal.tmp rfl) RVals.nil) (.tail _ (.tail _ (.tail _ (.head _)))) (fun _ _ => trivial) (.refl _) ⟨rfl, rfl, rfl⟩

end Go.Proofs.Ytfihjmbonejddaa
