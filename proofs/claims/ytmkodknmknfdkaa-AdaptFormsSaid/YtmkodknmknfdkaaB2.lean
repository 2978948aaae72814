/- The walks of trees. -/
import Derived.Test.YtmkodknmknfdkaaB1
set_option linter.unusedVariables false
set_option linter.unusedSimpArgs false
namespace Go.Proofs.Ytmkodknmknfdkaa
open E
set_option maxRecDepth 4000

theorem t22 : tRow Try.prog 22 = some (true, 1, 24, .slice none 0 0) := by kernel_rfl
theorem t24 : tRow Try.prog 24 = some (false, 2, 32, .agg #[.int .i64 0, .slice none 0 0]) := by kernel_rfl
theorem t38 : tRow Try.prog 38 = some (true, 1, 24, .slice none 0 0) := by kernel_rfl
theorem t97 : tRow Try.prog 97 = some (false, 4, 64, .agg #[.int .i64 0, .slice none 0 0, .slice none 0 0, .int .i64 0]) := by kernel_rfl
theorem s24 : sRow Try.prog 24 = some [(0, 1, true), (1, 1, true)] := by kernel_rfl
theorem s97 : sRow Try.prog 97 = some [(0, 2, false), (2, 1, true), (3, 1, true)] := by kernel_rfl
theorem en68 : Enters Try.prog 68 := Enters.mk' Try.func68 rfl rfl
theorem en69 : Enters Try.prog 69 := Enters.mk' Try.func69 rfl rfl
theorem en71 : Enters Try.prog 71 := Enters.mk' Try.func71 rfl rfl
theorem en73 : Enters Try.prog 73 := Enters.mk' Try.func73 rfl rfl
theorem en74 : Enters Try.prog 74 := Enters.mk' Try.func74 rfl rfl
theorem en76 : Enters Try.prog 76 := Enters.mk' Try.func76 rfl rfl
theorem en103 : Enters Try.prog 103 := Enters.mk' Try.func103 rfl rfl

theorem same75 (a b : Sl Nd) : Con Try.prog 75 [a.val, b.val, .func (.func 76) #[] #[]] [ndsP a, psP a.l, ndsP b, psP b.l] [] (fun v Γ M => v = .bool (decide (a.l.map Nd.p = b.l.map Nd.p)) ∧ Γ = [] ∧ M = []) := by
  refine Con.body 32 Try.func75 rfl Try.ntmps75 rfl fun X H₀ L₀ => ?_
  refine At.lenOf (hs := (.tail _ (.head _))) fun ha => ?_
  rw [List.length_map] at ha
  refine At.lenOf (hs := (.tail _ (.tail _ (.tail _ (.head _))))) fun hb => ?_
  rw [List.length_map] at hb
  refine At.seq ?_
  refine At.region ?_
  refine At.skim 1 rfl rfl ?_
  refine At.nil ?_
  refine At.then ?_
  refine At.seq ?_
  refine At.seq ?_
  refine At.region ?_
  refine At.skim 1 rfl rfl ?_
  refine At.quiet (q_len Try.underlying22 rfl) rfl ?_
  refine At.skim 1 rfl rfl ?_
  refine At.quiet (q_len Try.underlying22 rfl) rfl ?_
  refine At.skim 1 rfl rfl ?_
  refine At.nil ?_
  refine At.then ?_
  refine At.if rfl (fun hn => ?_) (fun hn => ?_)
  · skip
    refine At.seq ?_
    refine At.region ?_
    refine At.skim 1 rfl rfl ?_
    refine At.nil ?_
    refine At.then ?_
    refine At.ret ?_
    refine At.thenRet ?_
    exact At.results (Γr := []) (M := []) rfl (RVals.cons (RVal.tmp rfl) RVals.nil) (.head _) (fun _ _ => trivial) (.refl _) ⟨congrArg Value.bool ((decide_eq_false (len_ne (by simpa using hn))).symm), rfl, rfl⟩
  · skip
    have hab : a.l.length = b.l.length := by omega
    refine At.skip ?_
    refine At.then ?_
    refine At.seq ?_
    refine At.seq ?_
    refine At.region ?_
    refine At.skim 1 rfl rfl ?_
    refine At.quiet (q_len Try.underlying22 rfl) rfl ?_
    refine At.skim 1 rfl rfl ?_
    refine At.nil ?_
    refine At.then ?_
    refine At.block ?_
    refine At.loopK (ι := Nat) [6, 7, 8, 9, 17, 18, 19, 20, 21, 22, 23, 24, 25, 26, 27, 28, 29, 30, 31] (fun k => [(17, .int .i64 (k : Int))]) (fun k => []) (fun k => []) _ (fun k => k ≤ a.l.length ∧ (a.l.map Nd.p).take k = (b.l.map Nd.p).take k) (fun k => a.l.length - k) 0 ⟨Nat.zero_le _, by simp⟩ ⟨rfl, trivial⟩ (fun _ _ => trivial) (.refl _) ?_
    intro k hI
    refine At.seq ?_
    refine At.region ?_
    refine At.skim 1 rfl rfl ?_
    refine At.nil ?_
    refine At.then ?_
    refine At.seq ?_
    refine At.if rfl (fun hk => ?_) (fun hk => ?_)
    · skip
      obtain ⟨x, hx⟩ := get_of_lt (l := a.l) (i := k) (by omega)
      obtain ⟨y, hy⟩ := get_of_lt (l := b.l) (i := k) (by omega)
      have hk1 := lt_of_get hx
      refine At.know (prsP x.ps) (fun _ h => psP_get h.2.2.1 hx) ?_
      refine At.know (prsP y.ps) (fun _ h => psP_get h.2.2.2.2.2.1 hy) ?_
      refine At.skip ?_
      refine At.then ?_
      refine At.seq ?_
      refine At.block ?_
      refine At.seq ?_
      refine At.region ?_
      refine At.skim 1 rfl rfl ?_
      refine At.quiet (q_index Try.underlying22 t33 rfl (.tail _ (.tail _ (.tail _ (.head _)))) (by simp) rfl rfl (lt_of_get hx)) rfl ?_
      refine At.quiet (q_loadS t33 rfl (RdS.sl0 (.tail _ (.tail _ (.tail _ (.head _)))) (map_get hx)) rfl) rfl ?_
      refine At.loud (l_alloc t33) rfl ?_
      rintro _ _ _ ⟨b1, rfl, rfl, rfl⟩
      refine At.skim 1 rfl rfl ?_
      refine At.loudN (l_store t33 rfl rfl (i := 0) rfl rfl rfl rfl) ?_
      rintro _ _ _ ⟨rfl, rfl⟩
      refine At.nil ?_
      refine At.then ?_
      refine At.seq ?_
      refine At.region ?_
      refine At.skim 2 rfl rfl ?_
      refine At.quiet (q_index Try.underlying22 t33 rfl (.tail _ (.tail _ (.tail _ (.tail _ (.tail _ (.head _)))))) (by simp) rfl rfl (lt_of_get hy)) rfl ?_
      refine At.quiet (q_loadS t33 rfl (RdS.sl0 (.tail _ (.tail _ (.tail _ (.tail _ (.tail _ (.head _)))))) (map_get hy)) rfl) rfl ?_
      refine At.loud (l_alloc t33) rfl ?_
      rintro _ _ _ ⟨b2, rfl, rfl, rfl⟩
      refine At.loudN (l_store t33 rfl rfl (i := 0) rfl rfl rfl rfl) ?_
      rintro _ _ _ ⟨rfl, rfl⟩
      refine At.nil ?_
      refine At.then ?_
      refine At.seq ?_
      refine At.region ?_
      refine At.skim 1 rfl rfl ?_
      refine At.quiet (q_loadS t33 rfl (RdS.loc (i := 1) rfl (m := 6) rfl) rfl) rfl ?_
      refine At.quiet (q_loadS t33 rfl (RdS.loc (i := 0) rfl (m := 6) rfl) rfl) rfl ?_
      refine At.callV en76 rfl rfl rfl (same76 x y) (fun _ h => ⟨h.2.1, h.1, trivial⟩) (List.Perm.refl _) rfl ?_
      rintro _ _ _ ⟨rfl, rfl, rfl⟩
      refine At.skim 1 rfl rfl ?_
      refine At.nil ?_
      refine At.then ?_
      refine At.cond rfl (fun hxy => ?_) (fun hxy => ?_)
      · skip
        refine At.seq ?_
        refine At.region ?_
        refine At.skim 1 rfl rfl ?_
        refine At.nil ?_
        refine At.then ?_
        refine At.ret ?_
        refine At.inRet ?_
        refine At.thenRet ?_
        refine At.thenRet ?_
        refine At.inRet ?_
        refine At.thenRet ?_
        exact At.results (Γr := []) (M := []) rfl (RVals.cons (RVal.tmp rfl) RVals.nil) (.tail _ (.tail _ (.head _))) (fun _ _ => trivial) (.cons _ (.cons _ (.refl _))) ⟨congrArg Value.bool ((decide_eq_false (ne_at (map_get hx) (map_get hy) (by simpa using hxy))).symm), rfl, rfl⟩
      · skip
        refine At.skip ?_
        refine At.inNormal ?_
        refine At.then ?_
        refine At.region ?_
        refine At.quiet (q_add rfl rfl (by omega) (by omega)) rfl ?_
        refine At.skim 1 rfl rfl ?_
        refine At.nil ?_
        refine At.then ?_
        exact At.againK (k + 1) ⟨hk1, take_step (map_get hx) (by rw [show x.p = y.p by simpa using hxy]; exact map_get hy) hI.2⟩ (by (try dsimp only); omega) (Tells.end 19 ⟨rfl, trivial⟩ rfl rfl) (fun _ h => h.2.2) (.cons _ (.cons _ (.refl _)))
    · skip
      refine At.exit ?_
      refine At.thenExit ?_
      refine At.thenExit ?_
      refine At.inHere rfl ?_
      refine At.then ?_
      refine At.seq ?_
      refine At.region ?_
      refine At.skim 1 rfl rfl ?_
      refine At.nil ?_
      refine At.then ?_
      refine At.ret ?_
      exact At.results (Γr := []) (M := []) rfl (RVals.cons (RVal.tmp rfl) RVals.nil) (.head _) (fun _ _ => trivial) (.refl _) ⟨congrArg Value.bool ((decide_eq_true (eq_of_takes (by simpa using hab) (by simp; omega) hI.2)).symm), rfl, rfl⟩

theorem same36 (a b : Tr) : Con Try.prog 36 [a.val, b.val] [ndsP a.ns, psP a.ns.l, ndsP b.ns, psP b.ns.l] [] (fun v Γ M => v = .bool (decide (a.p = b.p)) ∧ Γ = [] ∧ M = []) := by
  refine Con.body 39 Try.func36 rfl Try.ntmps36 rfl fun X H₀ L₀ => ?_
  refine At.lenOf (hs := (.tail _ (.head _))) fun ha => ?_
  rw [List.length_map] at ha
  refine At.lenOf (hs := (.tail _ (.tail _ (.tail _ (.head _))))) fun hb => ?_
  rw [List.length_map] at hb
  refine At.seq ?_
  refine At.region ?_
  refine At.loud (l_box rfl) rfl ?_
  rintro _ _ _ ⟨b1, rfl, rfl, rfl⟩
  refine At.freeze 0 (φ := blk b1 _) rfl (fun _ h => blk_def.2 ⟨_, _, h⟩) ?_
  refine At.loud (l_box rfl) rfl ?_
  rintro _ _ _ ⟨b2, rfl, rfl, rfl⟩
  refine At.freeze 0 (φ := blk b2 _) rfl (fun _ h => blk_def.2 ⟨_, _, h⟩) ?_
  refine At.skim 1 rfl rfl ?_
  refine At.nil ?_
  refine At.then ?_
  refine At.seq ?_
  refine At.seq ?_
  refine At.region ?_
  refine At.fld s24 t3 rfl rfl rfl (Rd.blk (.tail _ (.head _)) rfl) rfl rfl ?_
  refine At.fld s24 t3 rfl rfl rfl (Rd.blk (.head _) rfl) rfl rfl ?_
  refine At.skim 2 rfl rfl ?_
  refine At.splitP (d := 11) rfl (fun hr => ?_) (fun hr => ?_)
  · skip
    refine At.skim 8 rfl rfl ?_
    refine At.nil ?_
    refine At.then ?_
    refine At.condT rfl ?_
    refine At.seq ?_
    refine At.region ?_
    refine At.skim 1 rfl rfl ?_
    refine At.nil ?_
    refine At.then ?_
    refine At.ret ?_
    refine At.thenRet ?_
    exact At.results (Γr := []) (M := []) rfl (RVals.cons (RVal.tmp rfl) RVals.nil) (.tail _ (.tail _ (.head _))) (fun _ _ => trivial) (.refl _) ⟨congrArg Value.bool ((decide_eq_false fun e => hr (congrArg PT.root e)).symm), rfl, rfl⟩
  · skip
    refine At.open rfl rfl ?_
    refine At.quiet (q_fieldAddr s24 rfl rfl rfl) rfl ?_
    refine At.open rfl rfl ?_
    refine At.quiet (q_load t22 rfl (Rd.blk (.tail _ (.head _)) rfl)) rfl ?_
    refine At.open rfl rfl ?_
    refine At.quiet (q_len Try.underlying22 rfl) rfl ?_
    refine At.open rfl rfl ?_
    refine At.quiet (q_fieldAddr s24 rfl rfl rfl) rfl ?_
    refine At.open rfl rfl ?_
    refine At.quiet (q_load t22 rfl (Rd.blk (.head _) rfl)) rfl ?_
    refine At.open rfl rfl ?_
    refine At.quiet (q_len Try.underlying22 rfl) rfl ?_
    refine At.skim 2 rfl rfl ?_
    refine At.nil ?_
    refine At.then ?_
    refine At.if rfl (fun hn => ?_) (fun hn => ?_)
    · skip
      refine At.seq ?_
      refine At.region ?_
      refine At.skim 1 rfl rfl ?_
      refine At.nil ?_
      refine At.then ?_
      refine At.ret ?_
      refine At.thenRet ?_
      exact At.results (Γr := []) (M := []) rfl (RVals.cons (RVal.tmp rfl) RVals.nil) (.tail _ (.tail _ (.head _))) (fun _ _ => trivial) (.refl _) ⟨congrArg Value.bool ((decide_eq_false fun e => (len_ne (by simpa [Tr.p] using hn)) (congrArg PT.ns e)).symm), rfl, rfl⟩
    · skip
      have hab : a.ns.l.length = b.ns.l.length := by omega
      refine At.skip ?_
      refine At.then ?_
      refine At.seq ?_
      refine At.seq ?_
      refine At.region ?_
      refine At.fld s24 t22 rfl rfl rfl (Rd.blk (.tail _ (.head _)) rfl) rfl rfl ?_
      refine At.quiet (q_len Try.underlying22 rfl) rfl ?_
      refine At.skim 1 rfl rfl ?_
      refine At.nil ?_
      refine At.then ?_
      refine At.block ?_
      refine At.loopK (ι := Nat) [4, 5, 23, 24, 25, 26, 27, 28, 29, 30, 31, 32, 33, 34, 35, 36, 37, 38] (fun k => [(23, .int .i64 (k : Int))]) (fun k => []) (fun k => []) _ (fun k => k ≤ a.ns.l.length ∧ (a.ns.l.map Nd.p).take k = (b.ns.l.map Nd.p).take k) (fun k => a.ns.l.length - k) 0 ⟨Nat.zero_le _, by simp⟩ ⟨rfl, trivial⟩ (fun _ _ => trivial) (.refl _) ?_
      intro k hI
      refine At.seq ?_
      refine At.region ?_
      refine At.skim 1 rfl rfl ?_
      refine At.nil ?_
      refine At.then ?_
      refine At.seq ?_
      refine At.if rfl (fun hk => ?_) (fun hk => ?_)
      · skip
        obtain ⟨x, hx⟩ := get_of_lt (l := a.ns.l) (i := k) (by omega)
        obtain ⟨y, hy⟩ := get_of_lt (l := b.ns.l) (i := k) (by omega)
        have hk1 := lt_of_get hx
        refine At.know (prsP x.ps) (fun _ h => psP_get h.2.2.2.2.1 hx) ?_
        refine At.know (prsP y.ps) (fun _ h => psP_get h.2.2.2.2.2.2.2.1 hy) ?_
        refine At.skip ?_
        refine At.then ?_
        refine At.seq ?_
        refine At.block ?_
        refine At.seq ?_
        refine At.region ?_
        refine At.skim 2 rfl rfl ?_
        refine At.nil ?_
        refine At.then ?_
        refine At.seq ?_
        refine At.draw 10 (.q 0 (.q 1 (.q 2 (.q 3 (.q 4 (.q 5 (.q 6 (.q 7 (.q 8 (.q 9 (.e))))))))))) _ (List.Sublist.refl _) mixed (by kernel_rfl) rfl ?_
        refine AtO.quiet rfl (q_fieldAddr s24 rfl rfl rfl) rfl (Calm.then (Calm.inBlock (Calm.then (Calm.then (Calm.inBlock (Calm.then Post.calm)))))) ?_
        refine AtO.quiet rfl (q_load t22 rfl (Rd.blk (.tail _ (.tail _ (.tail _ (.head _)))) rfl)) rfl (Calm.then (Calm.inBlock (Calm.then (Calm.then (Calm.inBlock (Calm.then Post.calm)))))) ?_
        refine AtO.quiet rfl (q_move rfl) rfl (Calm.then (Calm.inBlock (Calm.then (Calm.then (Calm.inBlock (Calm.then Post.calm)))))) ?_
        refine AtO.quiet rfl (q_index Try.underlying22 t33 rfl (.tail _ (.tail _ (.tail _ (.tail _ (.tail _ (.head _)))))) (by simp) rfl rfl (lt_of_get hx)) rfl (Calm.then (Calm.inBlock (Calm.then (Calm.then (Calm.inBlock (Calm.then Post.calm)))))) ?_
        refine AtO.quiet rfl (q_loadS t33 rfl (RdS.sl0 (.tail _ (.tail _ (.tail _ (.tail _ (.tail _ (.head _)))))) (map_get hx)) rfl) rfl (Calm.then (Calm.inBlock (Calm.then (Calm.then (Calm.inBlock (Calm.then Post.calm)))))) ?_
        refine AtO.quiet rfl (q_fieldAddr s24 rfl rfl rfl) rfl (Calm.then (Calm.inBlock (Calm.then (Calm.then (Calm.inBlock (Calm.then Post.calm)))))) ?_
        refine AtO.quiet rfl (q_load t22 rfl (Rd.blk (.tail _ (.tail _ (.head _))) rfl)) rfl (Calm.then (Calm.inBlock (Calm.then (Calm.then (Calm.inBlock (Calm.then Post.calm)))))) ?_
        refine AtO.quiet rfl (q_move rfl) rfl (Calm.then (Calm.inBlock (Calm.then (Calm.then (Calm.inBlock (Calm.then Post.calm)))))) ?_
        refine AtO.quiet rfl (q_index Try.underlying22 t33 rfl (.tail _ (.tail _ (.tail _ (.tail _ (.tail _ (.tail _ (.tail _ (.head _)))))))) (by simp) rfl rfl (lt_of_get hy)) rfl (Calm.then (Calm.inBlock (Calm.then (Calm.then (Calm.inBlock (Calm.then Post.calm)))))) ?_
        refine AtO.quiet rfl (q_loadS t33 rfl (RdS.sl0 (.tail _ (.tail _ (.tail _ (.tail _ (.tail _ (.tail _ (.tail _ (.head _)))))))) (map_get hy)) rfl) rfl (Calm.then (Calm.inBlock (Calm.then (Calm.then (Calm.inBlock (Calm.then Post.calm)))))) ?_
        refine AtO.done ?_
        refine At.call en74 rfl (same74 x y) (fun _ h => ⟨h.2.1, h.1, trivial⟩) (List.Perm.refl _) rfl ?_
        rintro _ _ _ ⟨rfl, rfl, rfl⟩
        refine At.skim 1 rfl rfl ?_
        refine At.nil ?_
        refine At.then ?_
        refine At.cond rfl (fun hxy => ?_) (fun hxy => ?_)
        · skip
          refine At.seq ?_
          refine At.region ?_
          refine At.skim 1 rfl rfl ?_
          refine At.nil ?_
          refine At.then ?_
          refine At.ret ?_
          refine At.inRet ?_
          refine At.thenRet ?_
          refine At.thenRet ?_
          refine At.inRet ?_
          refine At.thenRet ?_
          exact At.results (Γr := []) (M := []) rfl (RVals.cons (RVal.tmp rfl) RVals.nil) (.tail _ (.tail _ (.tail _ (.tail _ (.head _))))) (fun _ _ => trivial) (.refl _) ⟨congrArg Value.bool ((decide_eq_false fun e => (ne_at (map_get hx) (map_get hy) (by simpa using hxy)) (congrArg PT.ns e)).symm), rfl, rfl⟩
        · skip
          refine At.skip ?_
          refine At.inNormal ?_
          refine At.then ?_
          refine At.region ?_
          refine At.quiet (q_add rfl rfl (by omega) (by omega)) rfl ?_
          refine At.skim 1 rfl rfl ?_
          refine At.nil ?_
          refine At.then ?_
          exact At.againK (k + 1) ⟨hk1, take_step (map_get hx) (by rw [show x.p = y.p by simpa using hxy]; exact map_get hy) hI.2⟩ (by (try dsimp only); omega) (Tells.end 18 ⟨rfl, trivial⟩ rfl rfl) (fun _ h => h.2.2) (.refl _)
      · skip
        refine At.exit ?_
        refine At.thenExit ?_
        refine At.thenExit ?_
        refine At.inHere rfl ?_
        refine At.then ?_
        refine At.seq ?_
        refine At.region ?_
        refine At.skim 1 rfl rfl ?_
        refine At.nil ?_
        refine At.then ?_
        refine At.ret ?_
        exact At.results (Γr := []) (M := []) rfl (RVals.cons (RVal.tmp rfl) RVals.nil) (.tail _ (.tail _ (.head _))) (fun _ _ => trivial) (.refl _) ⟨congrArg Value.bool ((decide_eq_true (pt_eq (show a.root = b.root by omega) (eq_of_takes (by simpa [Tr.p] using hab) (by simp [Tr.p]; omega) hI.2))).symm), rfl, rfl⟩

theorem may68_step (t : Tr) (f : Nat) (ih : May68 t f) : May68 t (f + 1) := by
  intro met at_ k b a c Mm hb hO
  refine Con.body 139 Try.func68 rfl Try.ntmps68 rfl fun X H₀ L₀ => ?_
  refine At.lenOf (hs := (.tail _ (.head _))) fun hlen => ?_
  rw [List.length_map] at hlen
  refine At.seq ?_
  refine At.region ?_
  refine At.loud (l_box rfl) rfl ?_
  rintro _ _ _ ⟨b1, rfl, rfl, rfl⟩
  refine At.freeze 0 (φ := blk b1 _) rfl (fun _ h => blk_def.2 ⟨_, _, h⟩) ?_
  refine At.skim 1 rfl rfl ?_
  refine At.nil ?_
  refine At.then ?_
  refine At.seq ?_
  refine At.seq ?_
  refine At.region ?_
  refine At.skim 3 rfl rfl ?_
  refine At.splitP (d := 12) rfl (fun hneg => ?_) (fun hneg => ?_)
  · skip
    refine At.skim 18 rfl rfl ?_
    refine At.nil ?_
    refine At.then ?_
    refine At.condT rfl ?_
    refine At.seq ?_
    refine At.region ?_
    refine At.skim 1 rfl rfl ?_
    refine At.nil ?_
    refine At.then ?_
    refine At.ret ?_
    refine At.thenRet ?_
    exact At.results (Γr := []) (M := [[(b, .cells #[.int .i64 t.root, t.ns.val, .slice a t.ns.l.length c, .int .i64 ((bits t.ns.l.length met).count true : Nat)] 97 (0, 0))], Mm]) rfl (RVals.cons (RVal.tmp rfl) RVals.nil) (.tail _ (.head _)) (fun _ _ => trivial) (.cons_cons _ (.cons_cons _ (.refl _))) ⟨_, _, congrArg Value.bool (by rw [sh_neg hneg]; rfl), rfl, rfl, .no (sh_neg hneg)⟩
  · skip
    obtain ⟨i, rfl⟩ := Int.eq_ofNat_of_zero_le (show 0 ≤ at_ by omega)
    refine At.skim 3 rfl rfl ?_
    refine At.open rfl rfl ?_
    refine At.quiet (q_fieldAddr s97 rfl rfl rfl) rfl ?_
    refine At.open rfl rfl ?_
    refine At.quiet (q_fieldAddr s24 rfl rfl rfl) rfl ?_
    refine At.open rfl rfl ?_
    refine At.quiet (q_load t22 rfl (Rd.loc (i := 0) rfl rfl)) rfl ?_
    refine At.open rfl rfl ?_
    refine At.quiet (q_len Try.underlying22 rfl) rfl ?_
    refine At.skim 3 rfl rfl ?_
    refine At.splitP (d := 22) rfl (fun hout => ?_) (fun hout => ?_)
    · skip
      refine At.skim 8 rfl rfl ?_
      refine At.nil ?_
      refine At.then ?_
      refine At.condT rfl ?_
      refine At.seq ?_
      refine At.region ?_
      refine At.skim 1 rfl rfl ?_
      refine At.nil ?_
      refine At.then ?_
      refine At.ret ?_
      refine At.thenRet ?_
      exact At.results (Γr := []) (M := [[(b, .cells #[.int .i64 t.root, t.ns.val, .slice a t.ns.l.length c, .int .i64 ((bits t.ns.l.length met).count true : Nat)] 97 (0, 0))], Mm]) rfl (RVals.cons (RVal.tmp rfl) RVals.nil) (.tail _ (.head _)) (fun _ _ => trivial) (.cons_cons _ (.cons_cons _ (.refl _))) ⟨_, _, congrArg Value.bool (by rw [sh_out (by simp [Tr.p]; omega)]; rfl), rfl, rfl, .no (sh_out (by simp [Tr.p]; omega))⟩
    · skip
      have hi : i < t.ns.l.length := by omega
      obtain ⟨x, hx⟩ := get_of_lt hi
      have hxp : t.p.ns[i]? = some x.p := map_get hx
      have hcl := count_le t.ns.l.length met
      refine At.skim 2 rfl rfl ?_
      refine At.open rfl rfl ?_
      refine At.quiet (q_fieldAddr s97 rfl rfl rfl) rfl ?_
      refine At.open rfl rfl ?_
      refine At.quiet (q_load t38 rfl (Rd.loc (i := 0) rfl rfl)) rfl ?_
      refine At.skim 1 rfl rfl ?_
      refine At.open rfl rfl ?_
      refine At.quiet (q_indexOwn Try.underlying38 t4 rfl hO (by simp [bits_length]) rfl rfl hi) rfl ?_
      refine At.open rfl rfl ?_
      refine At.quiet (q_load t4 rfl (Rd.own0 hO (i := 1) rfl (map_get (bits_get hi)) rfl)) rfl ?_
      refine At.skim 1 rfl rfl ?_
      refine At.nil ?_
      refine At.then ?_
      refine At.cond rfl (fun hmet => ?_) (fun hmet => ?_)
      · skip
        refine At.seq ?_
        refine At.region ?_
        refine At.skim 1 rfl rfl ?_
        refine At.nil ?_
        refine At.then ?_
        refine At.ret ?_
        refine At.thenRet ?_
        exact At.results (Γr := []) (M := [[(b, .cells #[.int .i64 t.root, t.ns.val, .slice a t.ns.l.length c, .int .i64 ((bits t.ns.l.length met).count true : Nat)] 97 (0, 0))], Mm]) rfl (RVals.cons (RVal.tmp rfl) RVals.nil) (.tail _ (.head _)) (fun _ _ => trivial) (.cons_cons _ (.cons_cons _ (.refl _))) ⟨_, _, congrArg Value.bool (by rw [sh_met hmet]; rfl), rfl, rfl, .no (sh_met hmet)⟩
      · skip
        have hcs := count_step hi hmet
        have hcl2 := count_le t.ns.l.length (i :: met)
        refine At.skip ?_
        refine At.then ?_
        refine At.seq ?_
        refine At.region ?_
        refine At.skim 2 rfl rfl ?_
        refine At.fld s97 t38 rfl rfl rfl (Rd.loc (i := 0) rfl rfl) rfl rfl ?_
        refine At.skim 1 rfl rfl ?_
        refine At.quiet (q_indexOwn Try.underlying38 t4 rfl hO (by simp [bits_length]) rfl rfl hi) rfl ?_
        refine At.loudN (l_storeOwn0 t4 rfl rfl hO (i := 1) rfl (map_get (bits_get hi)) rfl rfl rfl) ?_
        rintro _ _ _ ⟨Mow1, ow1, rfl, rfl⟩
        refine At.nil ?_
        refine At.then ?_
        refine At.seq ?_
        refine At.region ?_
        have hO2 : Own 4 1 ((bits t.ns.l.length (i :: met)).map rowB) a c Mow1 := by rw [← bits_row _ _ _ (met.contains i)]; exact ow1
        refine At.skim 2 rfl rfl ?_
        refine At.fld s97 t3 rfl rfl rfl (Rd.loc (i := 0) rfl rfl) rfl rfl ?_
        refine At.quiet (q_add rfl rfl (by omega) (by omega)) rfl ?_
        refine At.say 41 (.int .i64 ((bits t.ns.l.length (i :: met)).count true : Nat)) rfl (congrArg (Value.int .i64) (by omega)) ?_
        refine At.know (prsP x.ps) (fun _ h => psP_get h.2.2.2.1 hx) ?_
        refine At.skim 1 rfl rfl ?_
        refine At.quiet (q_fieldAddr s97 rfl rfl rfl) rfl ?_
        refine At.loudN (l_store t3 rfl rfl (i := 0) rfl rfl rfl rfl) ?_
        rintro _ _ _ ⟨rfl, rfl⟩
        refine At.nil ?_
        refine At.then ?_
        refine At.seq ?_
        refine At.region ?_
        refine At.skim 2 rfl rfl ?_
        refine At.quiet (q_fieldAddr s97 rfl rfl rfl) rfl ?_
        refine At.fld s24 t22 rfl rfl rfl (Rd.loc (i := 0) rfl rfl) rfl rfl ?_
        refine At.skim 1 rfl rfl ?_
        refine At.quiet (q_index Try.underlying22 t33 rfl (.tail _ (.tail _ (.tail _ (.head _)))) (by simp) rfl rfl (lt_of_get hx)) rfl ?_
        refine At.quiet (q_loadS t33 rfl (RdS.sl0 (.tail _ (.tail _ (.tail _ (.head _)))) (map_get hx)) rfl) rfl ?_
        refine At.loud (l_alloc t33) rfl ?_
        rintro _ _ _ ⟨b2, rfl, rfl, rfl⟩
        refine At.loudN (l_store t33 rfl rfl (i := 0) rfl rfl rfl rfl) ?_
        rintro _ _ _ ⟨rfl, rfl⟩
        refine At.nil ?_
        refine At.then ?_
        refine At.seq ?_
        refine At.seq ?_
        refine At.region ?_
        refine At.fld s33 t4 rfl rfl rfl (Rd.loc (i := 0) rfl rfl) rfl rfl ?_
        refine At.skim 1 rfl rfl ?_
        refine At.nil ?_
        refine At.then ?_
        refine At.cond rfl (fun hleaf => ?_) (fun hleaf => ?_)
        · skip
          refine At.seq ?_
          refine At.region ?_
          refine At.fld s33 t3 rfl rfl rfl (Rd.loc (i := 0) rfl rfl) rfl rfl ?_
          refine At.skim 2 rfl rfl ?_
          refine At.splitP (d := 58) rfl (fun h2 => ?_) (fun h2 => ?_)
          · skip
            refine At.open rfl rfl ?_
            refine At.quiet (q_fieldAddr s33 rfl rfl rfl) rfl ?_
            refine At.open rfl rfl ?_
            refine At.quiet (q_load t3 rfl (Rd.loc (i := 0) rfl rfl)) rfl ?_
            refine At.skim 3 rfl rfl ?_
            refine At.splitP (d := 63) rfl (fun h3 => ?_) (fun h3 => ?_)
            · skip
              refine At.open rfl rfl ?_
              refine At.quiet (q_fieldAddr s33 rfl rfl rfl) rfl ?_
              refine At.open rfl rfl ?_
              refine At.quiet (q_load t3 rfl (Rd.loc (i := 0) rfl rfl)) rfl ?_
              refine At.skim 3 rfl rfl ?_
              refine At.splitP (d := 68) rfl (fun h4 => ?_) (fun h4 => ?_)
              · skip
                refine At.open rfl rfl ?_
                refine At.quiet (q_fieldAddr s33 rfl rfl rfl) rfl ?_
                refine At.open rfl rfl ?_
                refine At.quiet (q_load t31 rfl (Rd.loc (i := 0) rfl rfl)) rfl ?_
                refine At.open rfl rfl ?_
                refine At.call en71 rfl (may71 _) (fun _ h => ⟨h.1, trivial⟩) (List.Perm.refl _) rfl ?_
                rintro _ _ _ ⟨rfl, rfl, rfl⟩
                refine At.skim 2 rfl rfl ?_
                refine At.split (d := 73) rfl (fun h5 => ?_) (fun h5 => ?_)
                · skip
                  refine At.open rfl rfl ?_
                  refine At.quiet (q_fieldAddr s33 rfl rfl rfl) rfl ?_
                  refine At.open rfl rfl ?_
                  refine At.quiet (q_load t3 rfl (Rd.loc (i := 0) rfl rfl)) rfl ?_
                  refine At.skim 3 rfl rfl ?_
                  refine At.splitP (d := 78) rfl (fun h6 => ?_) (fun h6 => ?_)
                  · skip
                    refine At.open rfl rfl ?_
                    refine At.quiet (q_fieldAddr s33 rfl rfl rfl) rfl ?_
                    refine At.open rfl rfl ?_
                    refine At.quiet (q_load t3 rfl (Rd.loc (i := 0) rfl rfl)) rfl ?_
                    refine At.skim 3 rfl rfl ?_
                    refine At.splitP (d := 83) rfl (fun h7 => ?_) (fun h7 => ?_)
                    · skip
                      refine At.open rfl rfl ?_
                      refine At.quiet (q_fieldAddr s33 rfl rfl rfl) rfl ?_
                      refine At.open rfl rfl ?_
                      refine At.quiet (q_load t31 rfl (Rd.loc (i := 0) rfl rfl)) rfl ?_
                      refine At.open rfl rfl ?_
                      refine At.quiet (q_makeFunc rfl rfl) rfl ?_
                      refine At.open rfl rfl ?_
                      refine At.call en103 rfl (some103 _ 104 [_] (fun p => !k.has p.k) _ en104 (fun y => out104 k y b1)) (fun _ h => ⟨h.1, h.2.1, trivial⟩) (List.Perm.refl _) rfl ?_
                      rintro _ _ _ ⟨rfl, rfl, rfl⟩
                      refine At.skim 3 rfl rfl ?_
                      refine At.nil ?_
                      refine At.then ?_
                      refine At.ret ?_
                      refine At.thenRet ?_
                      exact At.results (Γr := []) (M := [[(b, .cells #[.int .i64 t.root, t.ns.val, .slice a t.ns.l.length c, .int .i64 ((bits t.ns.l.length (i :: met)).count true : Nat)] 97 (0, 0))], _]) rfl (RVals.cons (RVal.tmp rfl) RVals.nil) (.tail _ (.tail _ (.head _))) (fun _ _ => trivial) (.cons _ (.cons_cons _ (.cons_cons _ (.refl _)))) ⟨_, _, congrArg Value.bool (by rw [sh_leaf hxp hmet (by simpa [Nd.p] using hleaf), isSome_ite]; simp [leafOk, Nd.p, any_not, hneg, hout, hmet, hleaf, h2, h3, h4, h5, h6, h7] <;> omega), rfl, rfl, .leaf (sh_leaf hxp hmet (by simpa [Nd.p] using hleaf)) hO2⟩
                    · skip
                      refine At.skim 7 rfl rfl ?_
                      refine At.nil ?_
                      refine At.then ?_
                      refine At.ret ?_
                      refine At.thenRet ?_
                      exact At.results (Γr := []) (M := [[(b, .cells #[.int .i64 t.root, t.ns.val, .slice a t.ns.l.length c, .int .i64 ((bits t.ns.l.length (i :: met)).count true : Nat)] 97 (0, 0))], _]) rfl (RVals.cons (RVal.tmp rfl) RVals.nil) (.tail _ (.tail _ (.head _))) (fun _ _ => trivial) (.cons _ (.cons_cons _ (.cons_cons _ (.refl _)))) ⟨_, _, congrArg Value.bool (by rw [sh_leaf hxp hmet (by simpa [Nd.p] using hleaf), isSome_ite]; simp [leafOk, Nd.p, any_not, hneg, hout, hmet, hleaf, h2, h3, h4, h5, h6, h7] <;> omega), rfl, rfl, .leaf (sh_leaf hxp hmet (by simpa [Nd.p] using hleaf)) hO2⟩
                  · skip
                    refine At.skim 12 rfl rfl ?_
                    refine At.nil ?_
                    refine At.then ?_
                    refine At.ret ?_
                    refine At.thenRet ?_
                    exact At.results (Γr := []) (M := [[(b, .cells #[.int .i64 t.root, t.ns.val, .slice a t.ns.l.length c, .int .i64 ((bits t.ns.l.length (i :: met)).count true : Nat)] 97 (0, 0))], _]) rfl (RVals.cons (RVal.tmp rfl) RVals.nil) (.tail _ (.tail _ (.head _))) (fun _ _ => trivial) (.cons _ (.cons_cons _ (.cons_cons _ (.refl _)))) ⟨_, _, congrArg Value.bool (by rw [sh_leaf hxp hmet (by simpa [Nd.p] using hleaf), isSome_ite]; simp [leafOk, Nd.p, any_not, hneg, hout, hmet, hleaf, h2, h3, h4, h5, h6] <;> omega), rfl, rfl, .leaf (sh_leaf hxp hmet (by simpa [Nd.p] using hleaf)) hO2⟩
                · skip
                  refine At.skim 17 rfl rfl ?_
                  refine At.nil ?_
                  refine At.then ?_
                  refine At.ret ?_
                  refine At.thenRet ?_
                  exact At.results (Γr := []) (M := [[(b, .cells #[.int .i64 t.root, t.ns.val, .slice a t.ns.l.length c, .int .i64 ((bits t.ns.l.length (i :: met)).count true : Nat)] 97 (0, 0))], _]) rfl (RVals.cons (RVal.tmp rfl) RVals.nil) (.tail _ (.tail _ (.head _))) (fun _ _ => trivial) (.cons _ (.cons_cons _ (.cons_cons _ (.refl _)))) ⟨_, _, congrArg Value.bool (by rw [sh_leaf hxp hmet (by simpa [Nd.p] using hleaf), isSome_ite]; simp [leafOk, Nd.p, any_not, hneg, hout, hmet, hleaf, h2, h3, h4, h5] <;> omega), rfl, rfl, .leaf (sh_leaf hxp hmet (by simpa [Nd.p] using hleaf)) hO2⟩
              · skip
                refine At.skim 22 rfl rfl ?_
                refine At.nil ?_
                refine At.then ?_
                refine At.ret ?_
                refine At.thenRet ?_
                exact At.results (Γr := []) (M := [[(b, .cells #[.int .i64 t.root, t.ns.val, .slice a t.ns.l.length c, .int .i64 ((bits t.ns.l.length (i :: met)).count true : Nat)] 97 (0, 0))], _]) rfl (RVals.cons (RVal.tmp rfl) RVals.nil) (.tail _ (.tail _ (.head _))) (fun _ _ => trivial) (.cons _ (.cons_cons _ (.cons_cons _ (.refl _)))) ⟨_, _, congrArg Value.bool (by rw [sh_leaf hxp hmet (by simpa [Nd.p] using hleaf), isSome_ite]; simp [leafOk, Nd.p, any_not, hneg, hout, hmet, hleaf, h2, h3, h4] <;> omega), rfl, rfl, .leaf (sh_leaf hxp hmet (by simpa [Nd.p] using hleaf)) hO2⟩
            · skip
              refine At.skim 27 rfl rfl ?_
              refine At.nil ?_
              refine At.then ?_
              refine At.ret ?_
              refine At.thenRet ?_
              exact At.results (Γr := []) (M := [[(b, .cells #[.int .i64 t.root, t.ns.val, .slice a t.ns.l.length c, .int .i64 ((bits t.ns.l.length (i :: met)).count true : Nat)] 97 (0, 0))], _]) rfl (RVals.cons (RVal.tmp rfl) RVals.nil) (.tail _ (.tail _ (.head _))) (fun _ _ => trivial) (.cons _ (.cons_cons _ (.cons_cons _ (.refl _)))) ⟨_, _, congrArg Value.bool (by rw [sh_leaf hxp hmet (by simpa [Nd.p] using hleaf), isSome_ite]; simp [leafOk, Nd.p, any_not, hneg, hout, hmet, hleaf, h2, h3] <;> omega), rfl, rfl, .leaf (sh_leaf hxp hmet (by simpa [Nd.p] using hleaf)) hO2⟩
          · skip
            refine At.skim 32 rfl rfl ?_
            refine At.nil ?_
            refine At.then ?_
            refine At.ret ?_
            refine At.thenRet ?_
            exact At.results (Γr := []) (M := [[(b, .cells #[.int .i64 t.root, t.ns.val, .slice a t.ns.l.length c, .int .i64 ((bits t.ns.l.length (i :: met)).count true : Nat)] 97 (0, 0))], _]) rfl (RVals.cons (RVal.tmp rfl) RVals.nil) (.tail _ (.tail _ (.head _))) (fun _ _ => trivial) (.cons _ (.cons_cons _ (.cons_cons _ (.refl _)))) ⟨_, _, congrArg Value.bool (by rw [sh_leaf hxp hmet (by simpa [Nd.p] using hleaf), isSome_ite]; simp [leafOk, Nd.p, any_not, hneg, hout, hmet, hleaf, h2] <;> omega), rfl, rfl, .leaf (sh_leaf hxp hmet (by simpa [Nd.p] using hleaf)) hO2⟩
        · skip
          have hroute : x.p.route = true := by simpa [Nd.p] using hleaf
          refine At.skip ?_
          refine At.then ?_
          refine At.seq ?_
          refine At.seq ?_
          refine At.region ?_
          refine At.fld s33 t31 rfl rfl rfl (Rd.loc (i := 0) rfl rfl) rfl rfl ?_
          refine At.quiet (q_len Try.underlying31 rfl) rfl ?_
          refine At.skim 2 rfl rfl ?_
          refine At.splitP (d := 94) rfl (fun hlen0 => ?_) (fun hlen0 => ?_)
          · skip
            refine At.skim 22 rfl rfl ?_
            refine At.nil ?_
            refine At.then ?_
            refine At.condT rfl ?_
            refine At.seq ?_
            refine At.region ?_
            refine At.skim 1 rfl rfl ?_
            refine At.nil ?_
            refine At.then ?_
            refine At.ret ?_
            refine At.thenRet ?_
            exact At.results (Γr := []) (M := [[(b, .cells #[.int .i64 t.root, t.ns.val, .slice a t.ns.l.length c, .int .i64 ((bits t.ns.l.length (i :: met)).count true : Nat)] 97 (0, 0))], _]) rfl (RVals.cons (RVal.tmp rfl) RVals.nil) (.tail _ (.tail _ (.head _))) (fun _ _ => trivial) (.cons _ (.cons_cons _ (.cons_cons _ (.refl _)))) ⟨_, _, congrArg Value.bool (by rw [sh_bad hxp hroute (by cases hps : x.ps.l <;> simp_all [routeOk, Nd.p])]; rfl), rfl, rfl, .no (sh_bad hxp hroute (by cases hps : x.ps.l <;> simp_all [routeOk, Nd.p]))⟩
          · skip
            refine At.open rfl rfl ?_
            refine At.quiet (q_fieldAddr s33 rfl rfl rfl) rfl ?_
            refine At.open rfl rfl ?_
            refine At.quiet (q_load t3 rfl (Rd.loc (i := 0) rfl rfl)) rfl ?_
            refine At.skim 3 rfl rfl ?_
            refine At.splitP (d := 99) rfl (fun hstat => ?_) (fun hstat => ?_)
            · skip
              refine At.skim 17 rfl rfl ?_
              refine At.nil ?_
              refine At.then ?_
              refine At.condT rfl ?_
              refine At.seq ?_
              refine At.region ?_
              refine At.skim 1 rfl rfl ?_
              refine At.nil ?_
              refine At.then ?_
              refine At.ret ?_
              refine At.thenRet ?_
              exact At.results (Γr := []) (M := [[(b, .cells #[.int .i64 t.root, t.ns.val, .slice a t.ns.l.length c, .int .i64 ((bits t.ns.l.length (i :: met)).count true : Nat)] 97 (0, 0))], _]) rfl (RVals.cons (RVal.tmp rfl) RVals.nil) (.tail _ (.tail _ (.head _))) (fun _ _ => trivial) (.cons _ (.cons_cons _ (.cons_cons _ (.refl _)))) ⟨_, _, congrArg Value.bool (by rw [sh_bad hxp hroute (by simp_all [routeOk, Nd.p])]; rfl), rfl, rfl, .no (sh_bad hxp hroute (by simp_all [routeOk, Nd.p]))⟩
            · skip
              refine At.open rfl rfl ?_
              refine At.quiet (q_loadS t100 rfl (RdS.blk (.tail _ (.head _)) (m := 4) rfl) rfl) rfl ?_
              refine At.open rfl rfl ?_
              refine At.quiet (q_fieldAddr s33 rfl rfl rfl) rfl ?_
              refine At.open rfl rfl ?_
              refine At.quiet (q_load t3 rfl (Rd.loc (i := 0) rfl rfl)) rfl ?_
              refine At.open rfl rfl ?_
              refine At.call en105 rfl (has105 _ _) (fun _ _ => trivial) (List.Perm.refl _) rfl ?_
              rintro _ _ _ ⟨rfl, rfl, rfl⟩
              refine At.skim 3 rfl rfl ?_
              refine At.split (d := 106) rfl (fun hhas => ?_) (fun hhas => ?_)
              · skip
                refine At.skim 10 rfl rfl ?_
                refine At.nil ?_
                refine At.then ?_
                refine At.condT rfl ?_
                refine At.seq ?_
                refine At.region ?_
                refine At.skim 1 rfl rfl ?_
                refine At.nil ?_
                refine At.then ?_
                refine At.ret ?_
                refine At.thenRet ?_
                exact At.results (Γr := []) (M := [[(b, .cells #[.int .i64 t.root, t.ns.val, .slice a t.ns.l.length c, .int .i64 ((bits t.ns.l.length (i :: met)).count true : Nat)] 97 (0, 0))], _]) rfl (RVals.cons (RVal.tmp rfl) RVals.nil) (.tail _ (.tail _ (.head _))) (fun _ _ => trivial) (.cons _ (.cons_cons _ (.cons_cons _ (.refl _)))) ⟨_, _, congrArg Value.bool (by rw [sh_bad hxp hroute (by simp_all [routeOk, Nd.p])]; rfl), rfl, rfl, .no (sh_bad hxp hroute (by simp_all [routeOk, Nd.p]))⟩
              · skip
                refine At.open rfl rfl ?_
                refine At.quiet (q_fieldAddr s100 rfl rfl rfl) rfl ?_
                refine At.open rfl rfl ?_
                refine At.quiet (q_load t4 rfl (Rd.blk (.tail _ (.head _)) rfl)) rfl ?_
                refine At.skim 1 rfl rfl ?_
                refine At.split (d := 109) rfl (fun hil => ?_) (fun hil => ?_)
                · skip
                  refine At.open rfl rfl ?_
                  refine At.quiet (q_fieldAddr s33 rfl rfl rfl) rfl ?_
                  refine At.open rfl rfl ?_
                  refine At.quiet (q_load t3 rfl (Rd.loc (i := 0) rfl rfl)) rfl ?_
                  refine At.open rfl rfl ?_
                  refine At.quiet (q_fieldAddr s100 rfl rfl rfl) rfl ?_
                  refine At.open rfl rfl ?_
                  refine At.quiet (q_load t3 rfl (Rd.blk (.tail _ (.head _)) rfl)) rfl ?_
                  refine At.skim 3 rfl rfl ?_
                  refine At.nil ?_
                  refine At.then ?_
                  refine At.if rfl (fun hkl => ?_) (fun hkl => ?_)
                  · skip
                    refine At.seq ?_
                    refine At.region ?_
                    refine At.skim 1 rfl rfl ?_
                    refine At.nil ?_
                    refine At.then ?_
                    refine At.ret ?_
                    refine At.thenRet ?_
                    exact At.results (Γr := []) (M := [[(b, .cells #[.int .i64 t.root, t.ns.val, .slice a t.ns.l.length c, .int .i64 ((bits t.ns.l.length (i :: met)).count true : Nat)] 97 (0, 0))], _]) rfl (RVals.cons (RVal.tmp rfl) RVals.nil) (.tail _ (.tail _ (.head _))) (fun _ _ => trivial) (.cons _ (.cons_cons _ (.cons_cons _ (.refl _)))) ⟨_, _, congrArg Value.bool (by rw [sh_bad hxp hroute (by simp_all [routeOk, Nd.p])]; rfl), rfl, rfl, .no (sh_bad hxp hroute (by simp_all [routeOk, Nd.p]))⟩
                  · skip
                    have hgood : routeOk x.p k = true := by simp_all [routeOk, Nd.p]
                    have hfull := count_more
                    refine At.skip ?_
                    refine At.then ?_
                    refine At.seq ?_
                    refine At.draw 5 (.q 0 (.q 1 (.t 2 (.o 3 (.o 4 (.e))) 3 (.o 2 (.o 4 (.e)))))) _ (List.Sublist.refl _) mixed (by kernel_rfl) rfl ?_
                    refine AtO.quiet rfl (q_loadS t100 rfl (RdS.blk (.tail _ (.head _)) (m := 4) rfl) rfl) rfl (Calm.then Post.calm) ?_
                    refine AtO.quiet rfl (q_loadS t100 rfl (RdS.blk (.tail _ (.head _)) (m := 4) rfl) rfl) rfl (Calm.then Post.calm) ?_
                    refine AtO.two ?_ ?_
                    · skip
                      refine AtO.loud rfl (l_alloc t100) rfl (by rintro _ _ _ ⟨_, rfl, rfl, rfl⟩; exact ⟨fun _ h => h, .cons _ (.refl _)⟩) ?_
                      rintro _ _ _ ⟨b3, rfl, rfl, rfl⟩
                      refine AtO.loud rfl (l_alloc t100) rfl (by rintro _ _ _ ⟨_, rfl, rfl, rfl⟩; exact ⟨fun _ h => h, .cons _ (.cons _ (.cons_cons _ (.cons_cons _ (.cons_cons _ (.refl _)))))⟩) ?_
                      rintro _ _ _ ⟨b4, rfl, rfl, rfl⟩
                      refine AtO.loudNA rfl (l_store t100 rfl rfl (i := 1) rfl rfl rfl rfl) (by rintro _ _ _ ⟨rfl, rfl⟩; exact ⟨fun _ h => h, (.cons _ (.cons _ (.cons_cons _ (.cons_cons _ (.cons_cons _ (.refl _))))))⟩) ?_
                      rintro _ _ _ ⟨rfl, rfl⟩
                      refine AtO.done ?_
                      refine At.loudN (l_store t100 rfl rfl (i := 0) rfl rfl rfl rfl) ?_
                      rintro _ _ _ ⟨rfl, rfl⟩
                      refine At.nil ?_
                      refine At.then ?_
                      refine At.seq ?_
                      refine At.region ?_
                      refine At.fld s33 t3 rfl rfl rfl (Rd.loc (i := 2) rfl rfl) rfl rfl ?_
                      refine At.quiet (q_fieldAddr s100 rfl rfl rfl) rfl ?_
                      refine At.loudN (l_store t3 rfl rfl (i := 1) rfl rfl rfl rfl) ?_
                      rintro _ _ _ ⟨rfl, rfl⟩
                      refine At.quiet (q_fieldAddr s100 rfl rfl rfl) rfl ?_
                      refine At.loudN (l_store t4 rfl rfl (i := 1) rfl rfl rfl rfl) ?_
                      rintro _ _ _ ⟨rfl, rfl⟩
                      refine At.nil ?_
                      refine At.then ?_
                      refine At.seq ?_
                      refine At.region ?_
                      refine At.fld s33 t3 rfl rfl rfl (Rd.loc (i := 2) rfl rfl) rfl rfl ?_
                      refine At.quiet (q_fieldAddr s100 rfl rfl rfl) rfl ?_
                      refine At.loudN (l_store t3 rfl rfl (i := 0) rfl rfl rfl rfl) ?_
                      rintro _ _ _ ⟨rfl, rfl⟩
                      refine At.quiet (q_fieldAddr s100 rfl rfl rfl) rfl ?_
                      refine At.loudN (l_store t4 rfl rfl (i := 0) rfl rfl rfl rfl) ?_
                      rintro _ _ _ ⟨rfl, rfl⟩
                      refine At.nil ?_
                      refine At.then ?_
                      refine At.seq ?_
                      refine At.region ?_
                      refine At.skim 1 rfl rfl ?_
                      refine At.fld s33 t3 rfl rfl rfl (Rd.loc (i := 2) rfl rfl) rfl rfl ?_
                      refine At.quiet (q_loadS t100 rfl (RdS.loc (i := 1) rfl (m := 4) rfl) rfl) rfl ?_
                      refine At.front 4 rfl ?_
                      refine At.front 4 rfl ?_
                      refine At.call en68 rfl (ih (i :: met) x.left (k.lefts x.key) b a c _ (by omega) hO2) (fun _ h => ⟨h.2.2.2.1, h.2.2.2.2.1, trivial⟩) (List.Perm.refl _) rfl ?_
                      rintro _ _ _ ⟨n1, m2, rfl, rfl, rfl, he1⟩
                      refine At.skim 1 rfl rfl ?_
                      refine At.split (d := 132) rfl (fun hl => ?_) (fun hl => ?_)
                      · skip
                        obtain ⟨s1, hs1⟩ := Option.isSome_iff_exists.1 hl
                        obtain ⟨rfl, hO3⟩ := he1 s1 hs1
                        have hcm := count_more t.ns.l.length s1.places (i :: met)
                        refine At.skim 1 rfl rfl ?_
                        refine At.open rfl rfl ?_
                        refine At.quiet (q_fieldAddr s33 rfl rfl rfl) rfl ?_
                        refine At.open rfl rfl ?_
                        refine At.quiet (q_load t3 rfl (Rd.loc (i := 4) rfl rfl)) rfl ?_
                        refine At.open rfl rfl ?_
                        refine At.quiet (q_loadS t100 rfl (RdS.loc (i := 2) rfl (m := 4) rfl) rfl) rfl ?_
                        refine At.open rfl rfl ?_
                        refine At.front 1 rfl ?_
                        refine At.front 1 rfl ?_
                        refine At.call en68 rfl (ih (s1.places ++ i :: met) x.right (k.rights x.key) b a c _ (by omega) hO3) (fun _ h => ⟨h.2.2.2.1, h.2.2.2.2.1, trivial⟩) (List.Perm.refl _) rfl ?_
                        rintro _ _ _ ⟨n2, m3, rfl, rfl, rfl, he2⟩
                        refine At.skim 2 rfl rfl ?_
                        refine At.nil ?_
                        refine At.then ?_
                        refine At.ret ?_
                        exact At.results (Γr := []) (M := [[(b, .cells #[.int .i64 t.root, t.ns.val, .slice a t.ns.l.length c, .int .i64 n2] 97 (0, 0))], m3]) rfl (RVals.cons (RVal.tmp rfl) RVals.nil) (.tail _ (.tail _ (.head _))) (fun _ _ => trivial) (.cons_cons _ (.cons_cons _ (.cons _ (.cons _ (.cons _ (.refl _)))))) ⟨_, _, congrArg Value.bool (by rw [sh_right hxp hmet hroute hgood hs1, isSome_map]; rfl), rfl, rfl, .node (sh_right hxp hmet hroute hgood hs1) he2⟩
                      · skip
                        have hs1 : shape t.p.ns f (i :: met) x.p.left (k.lefts x.p.key) = none := none_of hl
                        refine At.skim 7 rfl rfl ?_
                        refine At.nil ?_
                        refine At.then ?_
                        refine At.ret ?_
                        exact At.results (Γr := []) (M := [[(b, .cells #[.int .i64 t.root, t.ns.val, .slice a t.ns.l.length c, .int .i64 n1] 97 (0, 0))], m2]) rfl (RVals.cons (RVal.tmp rfl) RVals.nil) (.tail _ (.tail _ (.head _))) (fun _ _ => trivial) (.cons_cons _ (.cons_cons _ (.cons _ (.cons _ (.cons _ (.refl _)))))) ⟨_, _, congrArg Value.bool (by rw [sh_left hxp hroute hgood hs1]; rfl), rfl, rfl, .no (sh_left hxp hroute hgood hs1)⟩
                    · skip
                      refine AtO.loud rfl (l_alloc t100) rfl (by rintro _ _ _ ⟨_, rfl, rfl, rfl⟩; exact ⟨fun _ h => h, .cons _ (.refl _)⟩) ?_
                      rintro _ _ _ ⟨b5, rfl, rfl, rfl⟩
                      refine AtO.loud rfl (l_alloc t100) rfl (by rintro _ _ _ ⟨_, rfl, rfl, rfl⟩; exact ⟨fun _ h => h, .cons _ (.cons _ (.cons_cons _ (.cons_cons _ (.cons_cons _ (.refl _)))))⟩) ?_
                      rintro _ _ _ ⟨b6, rfl, rfl, rfl⟩
                      refine AtO.loudNA rfl (l_store t100 rfl rfl (i := 0) rfl rfl rfl rfl) (by rintro _ _ _ ⟨rfl, rfl⟩; exact ⟨fun _ h => h, (.cons _ (.cons _ (.cons_cons _ (.cons_cons _ (.cons_cons _ (.refl _))))))⟩) ?_
                      rintro _ _ _ ⟨rfl, rfl⟩
                      refine AtO.done ?_
                      refine At.loudN (l_store t100 rfl rfl (i := 1) rfl rfl rfl rfl) ?_
                      rintro _ _ _ ⟨rfl, rfl⟩
                      refine At.nil ?_
                      refine At.then ?_
                      refine At.seq ?_
                      refine At.region ?_
                      refine At.fld s33 t3 rfl rfl rfl (Rd.loc (i := 2) rfl rfl) rfl rfl ?_
                      refine At.quiet (q_fieldAddr s100 rfl rfl rfl) rfl ?_
                      refine At.loudN (l_store t3 rfl rfl (i := 0) rfl rfl rfl rfl) ?_
                      rintro _ _ _ ⟨rfl, rfl⟩
                      refine At.quiet (q_fieldAddr s100 rfl rfl rfl) rfl ?_
                      refine At.loudN (l_store t4 rfl rfl (i := 0) rfl rfl rfl rfl) ?_
                      rintro _ _ _ ⟨rfl, rfl⟩
                      refine At.nil ?_
                      refine At.then ?_
                      refine At.seq ?_
                      refine At.region ?_
                      refine At.fld s33 t3 rfl rfl rfl (Rd.loc (i := 2) rfl rfl) rfl rfl ?_
                      refine At.quiet (q_fieldAddr s100 rfl rfl rfl) rfl ?_
                      refine At.loudN (l_store t3 rfl rfl (i := 1) rfl rfl rfl rfl) ?_
                      rintro _ _ _ ⟨rfl, rfl⟩
                      refine At.quiet (q_fieldAddr s100 rfl rfl rfl) rfl ?_
                      refine At.loudN (l_store t4 rfl rfl (i := 1) rfl rfl rfl rfl) ?_
                      rintro _ _ _ ⟨rfl, rfl⟩
                      refine At.nil ?_
                      refine At.then ?_
                      refine At.seq ?_
                      refine At.region ?_
                      refine At.skim 1 rfl rfl ?_
                      refine At.fld s33 t3 rfl rfl rfl (Rd.loc (i := 2) rfl rfl) rfl rfl ?_
                      refine At.quiet (q_loadS t100 rfl (RdS.loc (i := 0) rfl (m := 4) rfl) rfl) rfl ?_
                      refine At.front 4 rfl ?_
                      refine At.front 4 rfl ?_
                      refine At.call en68 rfl (ih (i :: met) x.left (k.lefts x.key) b a c _ (by omega) hO2) (fun _ h => ⟨h.2.2.2.1, h.2.2.2.2.1, trivial⟩) (List.Perm.refl _) rfl ?_
                      rintro _ _ _ ⟨n1, m2, rfl, rfl, rfl, he1⟩
                      refine At.skim 1 rfl rfl ?_
                      refine At.split (d := 132) rfl (fun hl => ?_) (fun hl => ?_)
                      · skip
                        obtain ⟨s1, hs1⟩ := Option.isSome_iff_exists.1 hl
                        obtain ⟨rfl, hO3⟩ := he1 s1 hs1
                        have hcm := count_more t.ns.l.length s1.places (i :: met)
                        refine At.skim 1 rfl rfl ?_
                        refine At.open rfl rfl ?_
                        refine At.quiet (q_fieldAddr s33 rfl rfl rfl) rfl ?_
                        refine At.open rfl rfl ?_
                        refine At.quiet (q_load t3 rfl (Rd.loc (i := 4) rfl rfl)) rfl ?_
                        refine At.open rfl rfl ?_
                        refine At.quiet (q_loadS t100 rfl (RdS.loc (i := 3) rfl (m := 4) rfl) rfl) rfl ?_
                        refine At.open rfl rfl ?_
                        refine At.front 1 rfl ?_
                        refine At.front 1 rfl ?_
                        refine At.call en68 rfl (ih (s1.places ++ i :: met) x.right (k.rights x.key) b a c _ (by omega) hO3) (fun _ h => ⟨h.2.2.2.1, h.2.2.2.2.1, trivial⟩) (List.Perm.refl _) rfl ?_
                        rintro _ _ _ ⟨n2, m3, rfl, rfl, rfl, he2⟩
                        refine At.skim 2 rfl rfl ?_
                        refine At.nil ?_
                        refine At.then ?_
                        refine At.ret ?_
                        exact At.results (Γr := []) (M := [[(b, .cells #[.int .i64 t.root, t.ns.val, .slice a t.ns.l.length c, .int .i64 n2] 97 (0, 0))], m3]) rfl (RVals.cons (RVal.tmp rfl) RVals.nil) (.tail _ (.tail _ (.head _))) (fun _ _ => trivial) (.cons_cons _ (.cons_cons _ (.cons _ (.cons _ (.cons _ (.refl _)))))) ⟨_, _, congrArg Value.bool (by rw [sh_right hxp hmet hroute hgood hs1, isSome_map]; rfl), rfl, rfl, .node (sh_right hxp hmet hroute hgood hs1) he2⟩
                      · skip
                        have hs1 : shape t.p.ns f (i :: met) x.p.left (k.lefts x.p.key) = none := none_of hl
                        refine At.skim 7 rfl rfl ?_
                        refine At.nil ?_
                        refine At.then ?_
                        refine At.ret ?_
                        exact At.results (Γr := []) (M := [[(b, .cells #[.int .i64 t.root, t.ns.val, .slice a t.ns.l.length c, .int .i64 n1] 97 (0, 0))], m2]) rfl (RVals.cons (RVal.tmp rfl) RVals.nil) (.tail _ (.tail _ (.head _))) (fun _ _ => trivial) (.cons_cons _ (.cons_cons _ (.cons _ (.cons _ (.cons _ (.refl _)))))) ⟨_, _, congrArg Value.bool (by rw [sh_left hxp hroute hgood hs1]; rfl), rfl, rfl, .no (sh_left hxp hroute hgood hs1)⟩
                · skip
                  have hgood : routeOk x.p k = true := by simp_all [routeOk, Nd.p]
                  have hfull := count_more
                  refine At.skim 7 rfl rfl ?_
                  refine At.nil ?_
                  refine At.then ?_
                  refine At.condF rfl ?_
                  refine At.skip ?_
                  refine At.then ?_
                  refine At.seq ?_
                  refine At.draw 5 (.q 0 (.q 1 (.t 2 (.o 3 (.o 4 (.e))) 3 (.o 2 (.o 4 (.e)))))) _ (List.Sublist.refl _) mixed (by kernel_rfl) rfl ?_
                  refine AtO.quiet rfl (q_loadS t100 rfl (RdS.blk (.tail _ (.head _)) (m := 4) rfl) rfl) rfl (Calm.then Post.calm) ?_
                  refine AtO.quiet rfl (q_loadS t100 rfl (RdS.blk (.tail _ (.head _)) (m := 4) rfl) rfl) rfl (Calm.then Post.calm) ?_
                  refine AtO.two ?_ ?_
                  · skip
                    refine AtO.loud rfl (l_alloc t100) rfl (by rintro _ _ _ ⟨_, rfl, rfl, rfl⟩; exact ⟨fun _ h => h, .cons _ (.refl _)⟩) ?_
                    rintro _ _ _ ⟨b7, rfl, rfl, rfl⟩
                    refine AtO.loud rfl (l_alloc t100) rfl (by rintro _ _ _ ⟨_, rfl, rfl, rfl⟩; exact ⟨fun _ h => h, .cons _ (.cons _ (.cons_cons _ (.cons_cons _ (.cons_cons _ (.refl _)))))⟩) ?_
                    rintro _ _ _ ⟨b8, rfl, rfl, rfl⟩
                    refine AtO.loudNA rfl (l_store t100 rfl rfl (i := 1) rfl rfl rfl rfl) (by rintro _ _ _ ⟨rfl, rfl⟩; exact ⟨fun _ h => h, (.cons _ (.cons _ (.cons_cons _ (.cons_cons _ (.cons_cons _ (.refl _))))))⟩) ?_
                    rintro _ _ _ ⟨rfl, rfl⟩
                    refine AtO.done ?_
                    refine At.loudN (l_store t100 rfl rfl (i := 0) rfl rfl rfl rfl) ?_
                    rintro _ _ _ ⟨rfl, rfl⟩
                    refine At.nil ?_
                    refine At.then ?_
                    refine At.seq ?_
                    refine At.region ?_
                    refine At.fld s33 t3 rfl rfl rfl (Rd.loc (i := 2) rfl rfl) rfl rfl ?_
                    refine At.quiet (q_fieldAddr s100 rfl rfl rfl) rfl ?_
                    refine At.loudN (l_store t3 rfl rfl (i := 1) rfl rfl rfl rfl) ?_
                    rintro _ _ _ ⟨rfl, rfl⟩
                    refine At.quiet (q_fieldAddr s100 rfl rfl rfl) rfl ?_
                    refine At.loudN (l_store t4 rfl rfl (i := 1) rfl rfl rfl rfl) ?_
                    rintro _ _ _ ⟨rfl, rfl⟩
                    refine At.nil ?_
                    refine At.then ?_
                    refine At.seq ?_
                    refine At.region ?_
                    refine At.fld s33 t3 rfl rfl rfl (Rd.loc (i := 2) rfl rfl) rfl rfl ?_
                    refine At.quiet (q_fieldAddr s100 rfl rfl rfl) rfl ?_
                    refine At.loudN (l_store t3 rfl rfl (i := 0) rfl rfl rfl rfl) ?_
                    rintro _ _ _ ⟨rfl, rfl⟩
                    refine At.quiet (q_fieldAddr s100 rfl rfl rfl) rfl ?_
                    refine At.loudN (l_store t4 rfl rfl (i := 0) rfl rfl rfl rfl) ?_
                    rintro _ _ _ ⟨rfl, rfl⟩
                    refine At.nil ?_
                    refine At.then ?_
                    refine At.seq ?_
                    refine At.region ?_
                    refine At.skim 1 rfl rfl ?_
                    refine At.fld s33 t3 rfl rfl rfl (Rd.loc (i := 2) rfl rfl) rfl rfl ?_
                    refine At.quiet (q_loadS t100 rfl (RdS.loc (i := 1) rfl (m := 4) rfl) rfl) rfl ?_
                    refine At.front 4 rfl ?_
                    refine At.front 4 rfl ?_
                    refine At.call en68 rfl (ih (i :: met) x.left (k.lefts x.key) b a c _ (by omega) hO2) (fun _ h => ⟨h.2.2.2.1, h.2.2.2.2.1, trivial⟩) (List.Perm.refl _) rfl ?_
                    rintro _ _ _ ⟨n1, m2, rfl, rfl, rfl, he1⟩
                    refine At.skim 1 rfl rfl ?_
                    refine At.split (d := 132) rfl (fun hl => ?_) (fun hl => ?_)
                    · skip
                      obtain ⟨s1, hs1⟩ := Option.isSome_iff_exists.1 hl
                      obtain ⟨rfl, hO3⟩ := he1 s1 hs1
                      have hcm := count_more t.ns.l.length s1.places (i :: met)
                      refine At.skim 1 rfl rfl ?_
                      refine At.open rfl rfl ?_
                      refine At.quiet (q_fieldAddr s33 rfl rfl rfl) rfl ?_
                      refine At.open rfl rfl ?_
                      refine At.quiet (q_load t3 rfl (Rd.loc (i := 4) rfl rfl)) rfl ?_
                      refine At.open rfl rfl ?_
                      refine At.quiet (q_loadS t100 rfl (RdS.loc (i := 2) rfl (m := 4) rfl) rfl) rfl ?_
                      refine At.open rfl rfl ?_
                      refine At.front 1 rfl ?_
                      refine At.front 1 rfl ?_
                      refine At.call en68 rfl (ih (s1.places ++ i :: met) x.right (k.rights x.key) b a c _ (by omega) hO3) (fun _ h => ⟨h.2.2.2.1, h.2.2.2.2.1, trivial⟩) (List.Perm.refl _) rfl ?_
                      rintro _ _ _ ⟨n2, m3, rfl, rfl, rfl, he2⟩
                      refine At.skim 2 rfl rfl ?_
                      refine At.nil ?_
                      refine At.then ?_
                      refine At.ret ?_
                      exact At.results (Γr := []) (M := [[(b, .cells #[.int .i64 t.root, t.ns.val, .slice a t.ns.l.length c, .int .i64 n2] 97 (0, 0))], m3]) rfl (RVals.cons (RVal.tmp rfl) RVals.nil) (.tail _ (.tail _ (.head _))) (fun _ _ => trivial) (.cons_cons _ (.cons_cons _ (.cons _ (.cons _ (.cons _ (.refl _)))))) ⟨_, _, congrArg Value.bool (by rw [sh_right hxp hmet hroute hgood hs1, isSome_map]; rfl), rfl, rfl, .node (sh_right hxp hmet hroute hgood hs1) he2⟩
                    · skip
                      have hs1 : shape t.p.ns f (i :: met) x.p.left (k.lefts x.p.key) = none := none_of hl
                      refine At.skim 7 rfl rfl ?_
                      refine At.nil ?_
                      refine At.then ?_
                      refine At.ret ?_
                      exact At.results (Γr := []) (M := [[(b, .cells #[.int .i64 t.root, t.ns.val, .slice a t.ns.l.length c, .int .i64 n1] 97 (0, 0))], m2]) rfl (RVals.cons (RVal.tmp rfl) RVals.nil) (.tail _ (.tail _ (.head _))) (fun _ _ => trivial) (.cons_cons _ (.cons_cons _ (.cons _ (.cons _ (.cons _ (.refl _)))))) ⟨_, _, congrArg Value.bool (by rw [sh_left hxp hroute hgood hs1]; rfl), rfl, rfl, .no (sh_left hxp hroute hgood hs1)⟩
                  · skip
                    refine AtO.loud rfl (l_alloc t100) rfl (by rintro _ _ _ ⟨_, rfl, rfl, rfl⟩; exact ⟨fun _ h => h, .cons _ (.refl _)⟩) ?_
                    rintro _ _ _ ⟨b9, rfl, rfl, rfl⟩
                    refine AtO.loud rfl (l_alloc t100) rfl (by rintro _ _ _ ⟨_, rfl, rfl, rfl⟩; exact ⟨fun _ h => h, .cons _ (.cons _ (.cons_cons _ (.cons_cons _ (.cons_cons _ (.refl _)))))⟩) ?_
                    rintro _ _ _ ⟨b10, rfl, rfl, rfl⟩
                    refine AtO.loudNA rfl (l_store t100 rfl rfl (i := 0) rfl rfl rfl rfl) (by rintro _ _ _ ⟨rfl, rfl⟩; exact ⟨fun _ h => h, (.cons _ (.cons _ (.cons_cons _ (.cons_cons _ (.cons_cons _ (.refl _))))))⟩) ?_
                    rintro _ _ _ ⟨rfl, rfl⟩
                    refine AtO.done ?_
                    refine At.loudN (l_store t100 rfl rfl (i := 1) rfl rfl rfl rfl) ?_
                    rintro _ _ _ ⟨rfl, rfl⟩
                    refine At.nil ?_
                    refine At.then ?_
                    refine At.seq ?_
                    refine At.region ?_
                    refine At.fld s33 t3 rfl rfl rfl (Rd.loc (i := 2) rfl rfl) rfl rfl ?_
                    refine At.quiet (q_fieldAddr s100 rfl rfl rfl) rfl ?_
                    refine At.loudN (l_store t3 rfl rfl (i := 0) rfl rfl rfl rfl) ?_
                    rintro _ _ _ ⟨rfl, rfl⟩
                    refine At.quiet (q_fieldAddr s100 rfl rfl rfl) rfl ?_
                    refine At.loudN (l_store t4 rfl rfl (i := 0) rfl rfl rfl rfl) ?_
                    rintro _ _ _ ⟨rfl, rfl⟩
                    refine At.nil ?_
                    refine At.then ?_
                    refine At.seq ?_
                    refine At.region ?_
                    refine At.fld s33 t3 rfl rfl rfl (Rd.loc (i := 2) rfl rfl) rfl rfl ?_
                    refine At.quiet (q_fieldAddr s100 rfl rfl rfl) rfl ?_
                    refine At.loudN (l_store t3 rfl rfl (i := 1) rfl rfl rfl rfl) ?_
                    rintro _ _ _ ⟨rfl, rfl⟩
                    refine At.quiet (q_fieldAddr s100 rfl rfl rfl) rfl ?_
                    refine At.loudN (l_store t4 rfl rfl (i := 1) rfl rfl rfl rfl) ?_
                    rintro _ _ _ ⟨rfl, rfl⟩
                    refine At.nil ?_
                    refine At.then ?_
                    refine At.seq ?_
                    refine At.region ?_
                    refine At.skim 1 rfl rfl ?_
                    refine At.fld s33 t3 rfl rfl rfl (Rd.loc (i := 2) rfl rfl) rfl rfl ?_
                    refine At.quiet (q_loadS t100 rfl (RdS.loc (i := 0) rfl (m := 4) rfl) rfl) rfl ?_
                    refine At.front 4 rfl ?_
                    refine At.front 4 rfl ?_
                    refine At.call en68 rfl (ih (i :: met) x.left (k.lefts x.key) b a c _ (by omega) hO2) (fun _ h => ⟨h.2.2.2.1, h.2.2.2.2.1, trivial⟩) (List.Perm.refl _) rfl ?_
                    rintro _ _ _ ⟨n1, m2, rfl, rfl, rfl, he1⟩
                    refine At.skim 1 rfl rfl ?_
                    refine At.split (d := 132) rfl (fun hl => ?_) (fun hl => ?_)
                    · skip
                      obtain ⟨s1, hs1⟩ := Option.isSome_iff_exists.1 hl
                      obtain ⟨rfl, hO3⟩ := he1 s1 hs1
                      have hcm := count_more t.ns.l.length s1.places (i :: met)
                      refine At.skim 1 rfl rfl ?_
                      refine At.open rfl rfl ?_
                      refine At.quiet (q_fieldAddr s33 rfl rfl rfl) rfl ?_
                      refine At.open rfl rfl ?_
                      refine At.quiet (q_load t3 rfl (Rd.loc (i := 4) rfl rfl)) rfl ?_
                      refine At.open rfl rfl ?_
                      refine At.quiet (q_loadS t100 rfl (RdS.loc (i := 3) rfl (m := 4) rfl) rfl) rfl ?_
                      refine At.open rfl rfl ?_
                      refine At.front 1 rfl ?_
                      refine At.front 1 rfl ?_
                      refine At.call en68 rfl (ih (s1.places ++ i :: met) x.right (k.rights x.key) b a c _ (by omega) hO3) (fun _ h => ⟨h.2.2.2.1, h.2.2.2.2.1, trivial⟩) (List.Perm.refl _) rfl ?_
                      rintro _ _ _ ⟨n2, m3, rfl, rfl, rfl, he2⟩
                      refine At.skim 2 rfl rfl ?_
                      refine At.nil ?_
                      refine At.then ?_
                      refine At.ret ?_
                      exact At.results (Γr := []) (M := [[(b, .cells #[.int .i64 t.root, t.ns.val, .slice a t.ns.l.length c, .int .i64 n2] 97 (0, 0))], m3]) rfl (RVals.cons (RVal.tmp rfl) RVals.nil) (.tail _ (.tail _ (.head _))) (fun _ _ => trivial) (.cons_cons _ (.cons_cons _ (.cons _ (.cons _ (.cons _ (.refl _)))))) ⟨_, _, congrArg Value.bool (by rw [sh_right hxp hmet hroute hgood hs1, isSome_map]; rfl), rfl, rfl, .node (sh_right hxp hmet hroute hgood hs1) he2⟩
                    · skip
                      have hs1 : shape t.p.ns f (i :: met) x.p.left (k.lefts x.p.key) = none := none_of hl
                      refine At.skim 7 rfl rfl ?_
                      refine At.nil ?_
                      refine At.then ?_
                      refine At.ret ?_
                      exact At.results (Γr := []) (M := [[(b, .cells #[.int .i64 t.root, t.ns.val, .slice a t.ns.l.length c, .int .i64 n1] 97 (0, 0))], m2]) rfl (RVals.cons (RVal.tmp rfl) RVals.nil) (.tail _ (.tail _ (.head _))) (fun _ _ => trivial) (.cons_cons _ (.cons_cons _ (.cons _ (.cons _ (.cons _ (.refl _)))))) ⟨_, _, congrArg Value.bool (by rw [sh_left hxp hroute hgood hs1]; rfl), rfl, rfl, .no (sh_left hxp hroute hgood hs1)⟩

theorem may68 (t : Tr) : ∀ f, May68 t f
  | 0 => fun _ _ _ _ _ _ _ h => absurd h (Nat.not_lt_zero _)
  | f + 1 => may68_step t f (may68 t f)

theorem may21 (t : Tr) : Con Try.prog 21 [t.val] [ndsP t.ns, psP t.ns.l] [] (fun v Γ M => v = .bool (mayT t.p).isSome ∧ Γ = [] ∧ M = []) := by
  refine Con.body 30 Try.func21 rfl Try.ntmps21 rfl fun X H₀ L₀ => ?_
  refine At.seq ?_
  refine At.region ?_
  refine At.loud (l_box rfl) rfl ?_
  rintro _ _ _ ⟨b1, rfl, rfl, rfl⟩
  refine At.freeze 0 (φ := blk b1 _) rfl (fun _ h => blk_def.2 ⟨_, _, h⟩) ?_
  refine At.skim 1 rfl rfl ?_
  refine At.nil ?_
  refine At.then ?_
  refine At.seq ?_
  refine At.seq ?_
  refine At.region ?_
  refine At.fld s24 t22 rfl rfl rfl (Rd.blk (.head _) rfl) rfl rfl ?_
  refine At.quiet (q_len Try.underlying22 rfl) rfl ?_
  refine At.skim 1 rfl rfl ?_
  refine At.nil ?_
  refine At.then ?_
  refine At.if rfl (fun hbig => ?_) (fun hbig => ?_)
  · skip
    refine At.seq ?_
    refine At.region ?_
    refine At.skim 1 rfl rfl ?_
    refine At.nil ?_
    refine At.then ?_
    refine At.ret ?_
    refine At.thenRet ?_
    exact At.results (Γr := []) (M := []) rfl (RVals.cons (RVal.tmp rfl) RVals.nil) (.tail _ (.head _)) (fun _ _ => trivial) (.refl _) ⟨congrArg Value.bool ((may_big (by simp [Tr.p]; omega)).symm), rfl, rfl⟩
  · skip
    refine At.skip ?_
    refine At.then ?_
    refine At.seq ?_
    refine At.draw 5 (.q 0 (.q 1 (.q 2 (.q 3 (.o 4 (.e)))))) _ (List.Sublist.refl _) mixed (by kernel_rfl) rfl ?_
    refine AtO.quiet rfl (q_loadS t24 rfl (RdS.blk (.head _) (m := 2) rfl) rfl) rfl (Calm.then Post.calm) ?_
    refine AtO.quiet rfl (q_fieldAddr s24 rfl rfl rfl) rfl (Calm.then Post.calm) ?_
    refine AtO.quiet rfl (q_load t22 rfl (Rd.blk (.head _) rfl)) rfl (Calm.then Post.calm) ?_
    refine AtO.quiet rfl (q_len Try.underlying22 rfl) rfl (Calm.then Post.calm) ?_
    refine AtO.loudA rfl (l_makeSlice (m := t.ns.l.length) Try.underlying38 t4 rfl rfl rfl rfl rfl (by omega) (by unfold maxLen; omega)) rfl (by rintro _ _ _ ⟨_, _, rfl, _, rfl, rfl⟩; exact ⟨fun _ h => h, .cons _ (.refl _)⟩) ?_
    rintro _ _ _ ⟨bm, m, rfl, hO, rfl, rfl⟩
    refine AtO.done ?_
    have hO2 : Own 4 1 ((bits t.ns.l.length []).map rowB) (some ⟨bm, 0, none⟩) t.ns.l.length m := by rw [bits_nil]; exact hO
    have hN : t.p.ns.length = t.ns.l.length := by simp [Tr.p]
    have hc0 : (bits t.ns.l.length []).count false < t.ns.l.length + 1 := by have := count_all (bits t.ns.l.length []); rw [bits_length] at this; omega
    have hc1 : (bits t.ns.l.length []).count true = 0 := List.count_eq_zero.2 (by simp [bits])
    refine At.quiet (q_build t97 s97 rfl rfl) rfl ?_
    refine At.loud (l_box rfl) rfl ?_
    rintro _ _ _ ⟨b2, rfl, rfl, rfl⟩
    refine At.skim 1 rfl rfl ?_
    refine At.nil ?_
    refine At.then ?_
    refine At.seq ?_
    refine At.pieces (L' := [(b2, .cells #[.int .i64 t.root, t.ns.val, .slice (some ⟨bm, 0, none⟩) t.ns.l.length t.ns.l.length, .int .i64 ((bits t.ns.l.length []).count true : Nat)] 97 (0, 0))] :: m :: L₀) (by rw [hc1]; rfl) ?_
    refine At.draw 13 (.q 0 (.q 1 (.q 2 (.q 3 (.o 4 (.q 5 (.q 6 (.q 7 (.q 8 (.q 9 (.q 10 (.q 11 (.q 12 (.e)))))))))))))) (L₀) (.cons _ (.cons _ (.refl _))) mixed (by kernel_rfl) rfl ?_
    refine AtO.quiet rfl (q_move rfl) rfl (Calm.then Post.calm) ?_
    refine AtO.quiet rfl (q_fieldAddr s24 rfl rfl rfl) rfl (Calm.then Post.calm) ?_
    refine AtO.quiet rfl (q_load t3 rfl (Rd.blk (.head _) rfl)) rfl (Calm.then Post.calm) ?_
    refine AtO.quiet rfl (q_build t100 s100 rfl rfl) rfl (Calm.then Post.calm) ?_
    refine AtO.front 1 rfl ?_
    refine AtO.front 1 rfl ?_
    refine AtO.callA rfl en68 rfl (may68 t _ [] t.root Kb.all _ _ _ _ hc0 hO2) (fun _ h => ⟨h.2.2.1, h.2.2.2.1, trivial⟩) (List.Perm.refl _) rfl (.refl _) ?_
    rintro _ _ _ ⟨n1, m2, rfl, rfl, rfl, he⟩
    refine AtO.quiet rfl (q_move rfl) rfl (Calm.then Post.calm) ?_
    refine AtO.split (d := 20) rfl (fun hm => ?_) (fun hm => ?_)
    · skip
      obtain ⟨s, hs⟩ := Option.isSome_iff_exists.1 hm
      obtain ⟨rfl, _⟩ := he s hs
      refine AtO.quietG rfl rfl rfl (q_move rfl) rfl (Calm.then Post.calm) ?_
      refine AtO.quietG rfl rfl rfl (q_nilCheck rfl) rfl (Calm.then Post.calm) ?_
      refine AtO.quietG rfl rfl rfl (q_fieldAddr s97 rfl rfl rfl) rfl (Calm.then Post.calm) ?_
      refine AtO.quietG rfl rfl rfl (q_load t3 rfl (Rd.loc (i := 0) rfl rfl)) rfl (Calm.then Post.calm) ?_
      refine AtO.quietG rfl rfl rfl (q_fieldAddr s24 rfl rfl rfl) rfl (Calm.then Post.calm) ?_
      refine AtO.quietG rfl rfl rfl (q_load t22 rfl (Rd.blk (.head _) rfl)) rfl (Calm.then Post.calm) ?_
      refine AtO.quietG rfl rfl rfl (q_len Try.underlying22 rfl) rfl (Calm.then Post.calm) ?_
      refine AtO.done ?_
      refine At.skim 3 rfl rfl ?_
      refine At.nil ?_
      refine At.then ?_
      refine At.ret ?_
      exact At.results (Γr := []) (M := []) rfl (RVals.cons (RVal.tmp rfl) RVals.nil) (.tail _ (.head _)) (fun _ _ => trivial) (.cons _ (.cons _ (.refl _))) ⟨congrArg Value.bool (by rw [may_some (by omega) (by rw [hN]; exact hs), hN]), rfl, rfl⟩
    · skip
      refine AtO.shut rfl rfl rfl rfl (Calm.then Post.calm) ?_
      refine AtO.shut rfl rfl rfl rfl (Calm.then Post.calm) ?_
      refine AtO.shut rfl rfl rfl rfl (Calm.then Post.calm) ?_
      refine AtO.shut rfl rfl rfl rfl (Calm.then Post.calm) ?_
      refine AtO.shut rfl rfl rfl rfl (Calm.then Post.calm) ?_
      refine AtO.shut rfl rfl rfl rfl (Calm.then Post.calm) ?_
      refine AtO.shut rfl rfl rfl rfl (Calm.then Post.calm) ?_
      refine AtO.done ?_
      refine At.skim 3 rfl rfl ?_
      refine At.nil ?_
      refine At.then ?_
      refine At.ret ?_
      exact At.results (Γr := []) (M := []) rfl (RVals.cons (RVal.tmp rfl) RVals.nil) (.tail _ (.head _)) (fun _ _ => trivial) (.cons _ (.cons _ (.refl _))) ⟨congrArg Value.bool ((may_none (by rw [hN]; exact hm)).symm), rfl, rfl⟩

theorem lay69_step (t : Tr) (hsm : smallP t.ns.l) (s : Sh) (ih : ∀ i l r, s = .node i l r → Lay69 t l ∧ Lay69 t r) : Lay69 t s := by
  intro at_ hH o a c Mo hO hb
  refine Con.body 50 Try.func69 rfl Try.ntmps69 rfl fun X H₀ L₀ => ?_
  obtain ⟨i, x, rfl, hx, hg, hc⟩ := hH.at
  refine At.know (prsP x.ps) (fun _ h => psP_get h.2.2.1 hx) ?_
  refine At.seq ?_
  refine At.region ?_
  refine At.loud (l_box rfl) rfl ?_
  rintro _ _ _ ⟨b1, rfl, rfl, rfl⟩
  refine At.freeze 0 (φ := blk b1 _) rfl (fun _ h => blk_def.2 ⟨_, _, h⟩) ?_
  refine At.skim 1 rfl rfl ?_
  refine At.nil ?_
  refine At.then ?_
  refine At.seq ?_
  refine At.region ?_
  refine At.skim 1 rfl rfl ?_
  refine At.quiet (q_len Try.underlying22 rfl) rfl ?_
  refine At.skim 1 rfl rfl ?_
  refine At.nil ?_
  refine At.then ?_
  refine At.seq ?_
  refine At.region ?_
  refine At.fld s24 t22 rfl rfl rfl (Rd.blk (.head _) rfl) rfl rfl ?_
  refine At.skim 1 rfl rfl ?_
  refine At.quiet (q_index Try.underlying22 t33 rfl (.tail _ (.tail _ (.tail _ (.head _)))) (by simp) rfl rfl (lt_of_get hx)) rfl ?_
  refine At.quiet (q_loadS t33 rfl (RdS.sl0 (.tail _ (.tail _ (.tail _ (.head _)))) (map_get hx)) rfl) rfl ?_
  refine At.call en73 rfl (copy73 x (hsm x (List.mem_of_getElem? hx))) (fun _ h => ⟨h.2.1, trivial⟩) (List.Perm.refl _) rfl ?_
  rintro _ _ _ ⟨s0, rfl, hs0, rfl, rfl⟩
  refine At.loud (l_alloc t33) rfl ?_
  rintro _ _ _ ⟨b2, rfl, rfl, rfl⟩
  refine At.loudN (l_store t33 rfl rfl (i := 0) rfl rfl rfl rfl) ?_
  rintro _ _ _ ⟨rfl, rfl⟩
  refine At.nil ?_
  refine At.then ?_
  refine At.seq ?_
  refine At.region ?_
  refine At.skim 1 rfl rfl ?_
  refine At.quiet (q_loadS t33 rfl (RdS.loc (i := 0) rfl (m := 6) rfl) rfl) rfl ?_
  refine At.loud (l_buildSlice Try.underlying22 t33 rfl rfl rfl rfl rfl) rfl ?_
  rintro _ _ _ ⟨b3, rfl, rfl, rfl⟩
  refine At.loud (l_append rfl Try.underlying22 t33 rfl rfl hO (by simp) (i := 2) rfl rfl (news := [rowN { x with ps := s0 }]) (by simp [rowN]) (RdS.loc (i := 0) rfl (m := 6) rfl) rfl rfl rfl (by omega) (by unfold maxLen; omega)) rfl ?_
  rintro _ _ _ ⟨a1, c1, M1, rfl, ow1, rfl, rfl⟩
  have hO1 : Own 33 6 ((o ++ { x with ps := s0 } :: []).map rowN) a1 c1 M1 := by simpa using ow1
  refine At.skim 1 rfl rfl ?_
  refine At.nil ?_
  refine At.then ?_
  refine At.seq ?_
  refine At.seq ?_
  refine At.region ?_
  refine At.fld s33 t4 rfl rfl rfl (Rd.loc (i := 1) rfl rfl) rfl rfl ?_
  refine At.nil ?_
  refine At.then ?_
  refine At.cond rfl (fun hroute => ?_) (fun hroute => ?_)
  · skip
    rcases hc with ⟨hc, _⟩ | ⟨hc, l, r, rfl, hl, hr⟩
    · exact absurd hroute (by simp [hc])
    obtain ⟨ih1, ih2⟩ := ih i l r rfl
    simp only [Sh.size] at hb
    refine At.seq ?_
    refine At.draw 5 (.q 0 (.q 1 (.q 2 (.q 3 (.q 4 (.e)))))) _ (List.Sublist.refl _) mixed (by kernel_rfl) rfl ?_
    refine AtO.quiet rfl (q_fieldAddr s33 rfl rfl rfl) rfl (Calm.then (Calm.then Post.calm)) ?_
    refine AtO.quiet rfl (q_load t3 rfl (Rd.loc (i := 1) rfl rfl)) rfl (Calm.then (Calm.then Post.calm)) ?_
    refine AtO.quiet rfl (q_fieldAddr s33 rfl rfl rfl) rfl (Calm.then (Calm.then Post.calm)) ?_
    refine AtO.quiet rfl (q_load t3 rfl (Rd.loc (i := 1) rfl rfl)) rfl (Calm.then (Calm.then Post.calm)) ?_
    refine AtO.quiet rfl (q_assign rfl) rfl (Calm.then (Calm.then Post.calm)) ?_
    refine AtO.done ?_
    refine At.skim 1 rfl rfl ?_
    refine At.nil ?_
    refine At.then ?_
    refine At.seq ?_
    refine At.region ?_
    refine At.skim 3 rfl rfl ?_
    refine At.quiet (q_len Try.underlying22 rfl) rfl ?_
    refine At.quiet (q_indexOwn Try.underlying22 t33 rfl hO1 (by simp) rfl rfl (by omega)) rfl ?_
    refine At.quiet (q_fieldAddr s33 rfl rfl rfl) rfl ?_
    refine At.loudN (l_storeOwn t3 rfl rfl hO1 (i := 2) rfl (get_mid o [] { x with ps := s0 }) rfl rfl rfl) ?_
    rintro _ _ _ ⟨Mow1, ow1, rfl, rfl⟩
    refine At.nil ?_
    refine At.then ?_
    refine At.seq ?_
    refine At.region ?_
    have hO2 : Own 33 6 ((o ++ [{ x with ps := s0, left := ((o.length + 1 : Nat) : Int) }]).map rowN) a1 c1 Mow1 := by rw [← set_mid o [] { x with ps := s0 }]; exact ow1
    refine At.say 2 (.slice a1 (o ++ [({ x with ps := s0, left := ((o.length + 1 : Nat) : Int) } : Nd)]).length c1) rfl (by simp) ?_
    refine At.quiet (q_loadS t24 rfl (RdS.blk (.tail _ (.head _)) (m := 2) rfl) rfl) rfl ?_
    refine At.skim 2 rfl rfl ?_
    refine At.front 2 rfl ?_
    refine At.call en69 rfl (ih1 x.left hl _ a1 c1 _ hO2 (by simp; omega)) (fun _ h => ⟨h.2.2.2.2.1, h.2.2.2.2.2.1, trivial⟩) (List.Perm.refl _) rfl ?_
    rintro _ _ _ ⟨o1, a2, c2, M2, rfl, rfl, rfl, hO3, he1⟩
    refine At.skim 1 rfl rfl ?_
    refine At.nil ?_
    refine At.then ?_
    refine At.seq ?_
    refine At.region ?_
    have hl1 : o1.length = l.size := by have := congrArg List.length he1; rwa [List.length_map, Sh.lay_length] at this
    rw [List.append_assoc, List.singleton_append] at hO3 ⊢
    refine At.skim 3 rfl rfl ?_
    refine At.quiet (q_len Try.underlying22 rfl) rfl ?_
    refine At.quiet (q_indexOwn Try.underlying22 t33 rfl hO3 (by simp) rfl rfl (by simp)) rfl ?_
    refine At.quiet (q_fieldAddr s33 rfl rfl rfl) rfl ?_
    refine At.loudN (l_storeOwn t3 rfl rfl hO3 (i := 0) rfl (get_mid o o1 _) rfl rfl rfl) ?_
    rintro _ _ _ ⟨Mow2, ow2, rfl, rfl⟩
    refine At.nil ?_
    refine At.then ?_
    refine At.region ?_
    have hO4 : Own 33 6 ((o ++ { x with ps := s0, left := ((o.length + 1 : Nat) : Int), right := (((o ++ { x with ps := s0, left := ((o.length + 1 : Nat) : Int) } :: o1).length : Nat) : Int) } :: o1).map rowN) a2 c2 Mow2 := by rw [← set_mid o o1]; exact ow2
    refine At.say 2 (.slice a2 (o ++ ({ x with ps := s0, left := ((o.length + 1 : Nat) : Int), right := (((o ++ { x with ps := s0, left := ((o.length + 1 : Nat) : Int) } :: o1).length : Nat) : Int) } : Nd) :: o1).length c2) rfl (by simp) ?_
    refine At.quiet (q_loadS t24 rfl (RdS.blk (.tail _ (.tail _ (.head _))) (m := 2) rfl) rfl) rfl ?_
    refine At.skim 2 rfl rfl ?_
    refine At.call en69 rfl (ih2 x.right hr _ a2 c2 _ hO4 (by simp; omega)) (fun _ h => ⟨h.2.2.2.2.2.1, h.2.2.2.2.2.2.1, trivial⟩) (List.Perm.refl _) rfl ?_
    rintro _ _ _ ⟨o2, a3, c3, M3, rfl, rfl, rfl, hO5, he2⟩
    refine At.skim 1 rfl rfl ?_
    refine At.nil ?_
    refine At.then ?_
    refine At.seq ?_
    refine At.region ?_
    have hl2 : o2.length = r.size := by have := congrArg List.length he2; rwa [List.length_map, Sh.lay_length] at this
    refine At.know (psP (({ x with ps := s0, left := ((o.length + 1 : Nat) : Int), right := (((o ++ { x with ps := s0, left := ((o.length + 1 : Nat) : Int) } :: o1).length : Nat) : Int) } : Nd) :: (o1 ++ o2))) (fun _ h => psP_cons (n := { x with ps := s0, left := ((o.length + 1 : Nat) : Int), right := (((o ++ { x with ps := s0, left := ((o.length + 1 : Nat) : Int) } :: o1).length : Nat) : Int) }) h.2.2.1 (psP_app h.2.1 h.1)) ?_
    refine At.skim 2 rfl rfl ?_
    refine At.nil ?_
    refine At.then ?_
    refine At.ret ?_
    exact At.results (Γr := [_]) (M := [M3]) rfl (RVals.cons (RVal.tmp rfl) RVals.nil) (.tail _ (.tail _ (.tail _ (.tail _ (.tail _ (.tail _ (.head _))))))) (fun _ h => ⟨h.1, trivial⟩) (.cons_cons _ (.cons _ (.cons _ (.refl _)))) (lay_node hO5 hg hl1 hs0 he1 he2 rfl (by simp [Nat.add_comm, Nat.add_left_comm]))
  · skip
    obtain rfl : s = .leaf i := by
      rcases hc with ⟨_, h⟩ | ⟨h, _⟩
      · exact h
      · rw [show x.route = false from hroute] at h; cases h
    refine At.know (psP [({ x with ps := s0 } : Nd)]) (fun _ h => psP_cons (n := { x with ps := s0 }) h.1 psP_nil) ?_
    refine At.skip ?_
    refine At.then ?_
    refine At.seq ?_
    refine At.region ?_
    refine At.skim 2 rfl rfl ?_
    refine At.nil ?_
    refine At.then ?_
    refine At.ret ?_
    exact At.results (Γr := [_]) (M := [M1]) rfl (RVals.cons (RVal.tmp rfl) RVals.nil) (.tail _ (.tail _ (.tail _ (.tail _ (.head _))))) (fun _ h => ⟨h.1, trivial⟩) (.cons _ (.cons _ (.cons_cons _ (.refl _)))) ⟨[{ x with ps := s0 }], a1, c1, M1, by simp [resVal], rfl, rfl, hO1, by rw [Sh.lay, hg]; simp [Nd.p, hs0]⟩

theorem lay69 (t : Tr) (hsm : smallP t.ns.l) (s : Sh) : Lay69 t s := by
  induction s with
  | leaf i => exact lay69_step t hsm _ fun _ _ _ h => by cases h
  | node i l r h1 h2 => exact lay69_step t hsm _ fun _ _ _ h => by cases h; exact ⟨h1, h2⟩

end Go.Proofs.Ytmkodknmknfdkaa
