/- The walks of the reference. -/
import Derived.Test.YtmkodknmknfdkaaB4
import Derived.Test.YtmkodknmknfdkaaP5
set_option linter.unusedVariables false
set_option linter.unusedSimpArgs false
namespace Go.Proofs.Ytmkodknmknfdkaa
open E
set_option maxRecDepth 4000

theorem en30 : Enters Try.prog 30 := Enters.mk' Try.func30 rfl rfl

theorem one43 (l : Sl Pr) (hl : l.l.length ≤ 1000000) : Con Try.prog 43 [l.val] [prsP l] [] (OneEnd l.l) := by
  refine Con.body 11 Try.func43 rfl Try.ntmps43 rfl fun X H₀ L₀ => ?_
  refine At.seq ?_
  refine At.region ?_
  refine At.loud (l_alloc t24) rfl ?_
  rintro _ _ _ ⟨b1, rfl, rfl, rfl⟩
  refine At.nil ?_
  refine At.then ?_
  refine At.seq ?_
  refine At.seq ?_
  refine At.region ?_
  refine At.skim 1 rfl rfl ?_
  refine At.call en30 rfl (may30 _) (fun _ h => ⟨h.2.1, trivial⟩) (List.Perm.refl _) rfl ?_
  rintro _ _ _ ⟨rfl, rfl, rfl⟩
  refine At.skim 1 rfl rfl ?_
  refine At.nil ?_
  refine At.then ?_
  refine At.cond rfl (fun hr => ?_) (fun hr => ?_)
  · skip
    refine At.know (prsP ⟨none, 0, []⟩) (fun _ h => sl_nil _ _ _ (Nat.zero_le _)) ?_
    refine At.region ?_
    refine At.skim 1 rfl rfl ?_
    refine At.nil ?_
    refine At.then ?_
    refine At.seq ?_
    refine At.region ?_
    refine At.skim 1 rfl rfl ?_
    refine At.loud (l_appendNew rfl Try.underlying31 t50 rfl rfl (.head _) rfl rfl (by omega) (by unfold maxLen; omega) rfl) rfl ?_
    rintro _ _ _ ⟨a2, c2, rfl, rfl, rfl⟩
    refine At.quiet (q_build t33 s33 rfl rfl) rfl ?_
    refine At.loud (l_buildSlice Try.underlying22 t33 rfl rfl rfl rfl rfl) rfl ?_
    rintro _ _ _ ⟨b2, rfl, rfl, rfl⟩
    refine At.freeze 0 (φ := ndsP ⟨some ⟨b2, 0, none⟩, 1, [⟨false, 0, 0, 0, ⟨a2, c2, []⟩, 0⟩]⟩) rfl (fun _ h => sl_of_block h rfl (by simp [rowN]) rfl (show (1 : Nat) ≤ maxLen from by decide)) ?_
    refine At.know (psP [⟨false, 0, 0, 0, ⟨a2, c2, []⟩, 0⟩]) (fun _ h => psP_cons (n := ⟨false, 0, 0, 0, ⟨a2, c2, []⟩, 0⟩) h.2.1 psP_nil) ?_
    refine At.quiet (q_build t24 s24 rfl rfl) rfl ?_
    refine At.loudN (l_store t24 rfl rfl (i := 0) rfl rfl rfl rfl) ?_
    rintro _ _ _ ⟨rfl, rfl⟩
    refine At.nil ?_
    refine At.then ?_
    refine At.ret ?_
    exact At.results (Γr := [_, _]) (M := []) rfl (RVals.cons (RVal.cellS rfl t24 (RdS.loc (i := 0) rfl (m := 2) rfl) rfl) RVals.nil) (.tail _ (.tail _ (.tail _ (.tail _ (.head _))))) (fun _ h => ⟨h.2.1, h.1, trivial⟩) (.cons _ (.refl _)) ⟨⟨0, ⟨some ⟨_, 0, none⟩, 1, [⟨false, 0, 0, 0, ⟨a2, c2, []⟩, 0⟩]⟩⟩, rfl, rfl, rfl, by simp [oneT, Tr.p, Nd.p, not_t hr]⟩
  · skip
    refine At.skip ?_
    refine At.then ?_
    refine At.seq ?_
    refine At.region ?_
    refine At.skim 1 rfl rfl ?_
    refine At.loud (l_appendNew rfl Try.underlying31 t50 rfl rfl (.tail _ (.head _)) (by simp) rfl (by omega) (by unfold maxLen; omega) rfl) rfl ?_
    rintro _ _ _ ⟨a2, c2, rfl, rfl, rfl⟩
    refine At.quiet (q_build t33 s33 rfl rfl) rfl ?_
    refine At.loud (l_buildSlice Try.underlying22 t33 rfl rfl rfl rfl rfl) rfl ?_
    rintro _ _ _ ⟨b3, rfl, rfl, rfl⟩
    refine At.freeze 0 (φ := ndsP ⟨some ⟨b3, 0, none⟩, 1, [⟨false, 0, 0, 0, ⟨a2, c2, l.l⟩, 0⟩]⟩) rfl (fun _ h => sl_of_block h rfl (by simp [rowN]) rfl (show (1 : Nat) ≤ maxLen from by decide)) ?_
    refine At.know (psP [⟨false, 0, 0, 0, ⟨a2, c2, l.l⟩, 0⟩]) (fun _ h => psP_cons (n := ⟨false, 0, 0, 0, ⟨a2, c2, l.l⟩, 0⟩) h.2.1 psP_nil) ?_
    refine At.quiet (q_build t24 s24 rfl rfl) rfl ?_
    refine At.loudN (l_store t24 rfl rfl (i := 0) rfl rfl rfl rfl) ?_
    rintro _ _ _ ⟨rfl, rfl⟩
    refine At.nil ?_
    refine At.then ?_
    refine At.ret ?_
    exact At.results (Γr := [_, _]) (M := []) rfl (RVals.cons (RVal.cellS rfl t24 (RdS.loc (i := 0) rfl (m := 2) rfl) rfl) RVals.nil) (.tail _ (.tail _ (.tail _ (.head _)))) (fun _ h => ⟨h.2.1, h.1, trivial⟩) (.cons _ (.refl _)) ⟨⟨0, ⟨some ⟨_, 0, none⟩, 1, [⟨false, 0, 0, 0, ⟨a2, c2, l.l⟩, 0⟩]⟩⟩, rfl, rfl, rfl, by simp [oneT, Tr.p, Nd.p, not_f hr]⟩

theorem copy24 (t : Tr) (hsm : smallP t.ns.l) (hfew : t.ns.l.length ≤ 100000) : Con Try.prog 24 [t.val] [ndsP t.ns, psP t.ns.l] [] (CopyEnd t) := by
  refine Con.body 28 Try.func24 rfl Try.ntmps24 rfl fun X H₀ L₀ => ?_
  refine At.nilSeg ?_
  refine At.know (psP []) (fun _ h => psP_nil) ?_
  refine At.seq ?_
  refine At.region ?_
  refine At.loud (l_box rfl) rfl ?_
  rintro _ _ _ ⟨b1, rfl, rfl, rfl⟩
  refine At.freeze 0 (φ := blk b1 _) rfl (fun _ h => blk_def.2 ⟨_, _, h⟩) ?_
  refine At.loud (l_alloc t24) rfl ?_
  rintro _ _ _ ⟨b2, rfl, rfl, rfl⟩
  refine At.nil ?_
  refine At.then ?_
  refine At.seq ?_
  refine At.region ?_
  refine At.fld s24 t3 rfl rfl rfl (Rd.blk (.head _) rfl) rfl rfl ?_
  refine At.quiet (q_build t24 s24 rfl rfl) rfl ?_
  refine At.loud (l_alloc t24) rfl ?_
  rintro _ _ _ ⟨b3, rfl, rfl, rfl⟩
  refine At.loudN (l_store t24 rfl rfl (i := 0) rfl rfl rfl rfl) ?_
  rintro _ _ _ ⟨rfl, rfl⟩
  refine At.nil ?_
  refine At.then ?_
  refine At.seq ?_
  refine At.seq ?_
  refine At.region ?_
  refine At.fld s24 t22 rfl rfl rfl (Rd.blk (.head _) rfl) rfl rfl ?_
  refine At.quiet (q_len Try.underlying22 rfl) rfl ?_
  refine At.skim 1 rfl rfl ?_
  refine At.nil ?_
  refine At.then ?_
  refine At.block ?_
  refine At.front 2 rfl ?_
  refine At.front 1 rfl ?_
  refine At.loopK (ι := Nat × List Nd × Option Addr × Nat × Seg) [5, 12, 13, 14, 15, 16, 17, 18, 19, 20, 21, 22, 23, 24, 25, 26] (fun ⟨k, o, a, c, M⟩ => [(12, .int .i64 (k : Int))]) (fun ⟨k, o, a, c, M⟩ => [psP o]) (fun ⟨k, o, a, c, M⟩ => [[(b3, .cells #[.int .i64 t.root, .slice a k c] 24 (0, 0))], M]) _ (fun ⟨k, o, a, c, M⟩ => k ≤ t.ns.l.length ∧ Own 33 6 (o.map rowN) a c M ∧ o.length = k ∧ o.map Nd.p = t.p.ns.take k) (fun ⟨k, o, a, c, M⟩ => t.ns.l.length - k) (0, [], none, 0, []) ⟨Nat.zero_le _, Own.nil _ _, rfl, by simp⟩ ⟨rfl, trivial⟩ (fun _ _ => ⟨psP_nil, trivial⟩) (.cons_cons _ (.cons_cons _ (.refl _))) ?_
  intro i0 hI0
  obtain ⟨k, o, a, c, M⟩ := i0
  obtain ⟨hkl, hO, hok, hoe⟩ := hI0
  refine At.seq ?_
  refine At.region ?_
  refine At.skim 1 rfl rfl ?_
  refine At.nil ?_
  refine At.then ?_
  refine At.seq ?_
  refine At.if rfl (fun hk => ?_) (fun hk => ?_)
  · skip
    obtain ⟨y, hy⟩ := get_of_lt (l := t.ns.l) (i := k) (by omega)
    have hk1 := lt_of_get hy
    have hys := hsm y (List.mem_of_getElem? hy)
    refine At.know (prsP y.ps) (fun _ h => psP_get h.2.2.2.2.2.1 hy) ?_
    refine At.skip ?_
    refine At.then ?_
    refine At.seq ?_
    refine At.block ?_
    refine At.seq ?_
    refine At.region ?_
    refine At.quiet (q_index Try.underlying22 t33 rfl (.tail _ (.tail _ (.tail _ (.tail _ (.tail _ (.head _)))))) (by simp) rfl rfl (lt_of_get hy)) rfl ?_
    refine At.quiet (q_loadS t33 rfl (RdS.sl0 (.tail _ (.tail _ (.tail _ (.tail _ (.tail _ (.head _)))))) (map_get hy)) rfl) rfl ?_
    refine At.loud (l_alloc t33) rfl ?_
    rintro _ _ _ ⟨b4, rfl, rfl, rfl⟩
    refine At.loudN (l_store t33 rfl rfl (i := 0) rfl rfl rfl rfl) ?_
    rintro _ _ _ ⟨rfl, rfl⟩
    refine At.nil ?_
    refine At.then ?_
    refine At.seq ?_
    refine At.region ?_
    refine At.fld s33 t31 rfl rfl rfl (Rd.loc (i := 0) rfl rfl) rfl rfl ?_
    refine At.loud (l_appendNew rfl Try.underlying31 t50 rfl rfl (.head _) (by simp) rfl (by omega) (by unfold maxLen; omega) rfl) rfl ?_
    rintro _ _ _ ⟨a3, c3, rfl, rfl, rfl⟩
    refine At.quiet (q_fieldAddr s33 rfl rfl rfl) rfl ?_
    refine At.loudN (l_store t31 rfl rfl (i := 0) rfl rfl rfl rfl) ?_
    rintro _ _ _ ⟨rfl, rfl⟩
    refine At.nil ?_
    refine At.then ?_
    refine At.region ?_
    refine At.fld s24 t22 rfl rfl rfl (Rd.loc (i := 1) rfl rfl) rfl rfl ?_
    refine At.quiet (q_loadS t33 rfl (RdS.loc (i := 0) rfl (m := 6) rfl) rfl) rfl ?_
    refine At.loud (l_buildSlice Try.underlying22 t33 rfl rfl rfl rfl rfl) rfl ?_
    rintro _ _ _ ⟨b5, rfl, rfl, rfl⟩
    refine At.loud (l_append rfl Try.underlying22 t33 rfl rfl hO (by simp; omega) (i := 3) rfl rfl (news := [rowN { y with ps := ⟨a3, c3, y.ps.l⟩ }]) (by simp [rowN]) (RdS.loc (i := 0) rfl (m := 6) rfl) rfl rfl rfl (by omega) (by unfold maxLen; omega)) rfl ?_
    rintro _ _ _ ⟨a2, c2, M2, rfl, ow, rfl, rfl⟩
    refine At.quiet (q_fieldAddr s24 rfl rfl rfl) rfl ?_
    refine At.loudN (l_store t22 rfl rfl (i := 2) rfl rfl rfl rfl) ?_
    rintro _ _ _ ⟨rfl, rfl⟩
    refine At.nil ?_
    refine At.inNormal ?_
    refine At.then ?_
    refine At.region ?_
    refine At.know (psP (o ++ [{ y with ps := ⟨a3, c3, y.ps.l⟩ }])) (fun _ h => psP_snoc (n := { y with ps := ⟨a3, c3, y.ps.l⟩ }) h.2.2.1 h.1) ?_
    refine At.quiet (q_add rfl rfl (by omega) (by omega)) rfl ?_
    refine At.skim 1 rfl rfl ?_
    refine At.nil ?_
    refine At.front 3 rfl ?_
    refine At.front 3 rfl ?_
    refine At.then ?_
    exact At.againK (k + 1, o ++ [{ y with ps := ⟨a3, c3, y.ps.l⟩ }], a2, c2, M2) ⟨hk1, by simpa using ow, by simp; omega, copy_step (s0 := ⟨a3, c3, y.ps.l⟩) hoe rfl (map_get hy)⟩ (by (try dsimp only); omega) (Tells.end 17 ⟨rfl, trivial⟩ rfl rfl) (fun _ h => ⟨h.1, h.2.2.2.2⟩) (.cons_cons _ (.cons_cons _ (.cons _ (.cons _ (.refl _)))))
  · skip
    have hoe2 : o.map Nd.p = t.p.ns := by rw [hoe, List.take_of_length_le (by simp [Tr.p]; omega)]
    subst hok
    refine At.exit ?_
    refine At.thenExit ?_
    refine At.thenExit ?_
    refine At.inHere rfl ?_
    refine At.then ?_
    refine At.seq ?_
    refine At.region ?_
    refine At.quiet (q_loadS t24 rfl (RdS.loc (i := 0) rfl (m := 2) rfl) rfl) rfl ?_
    refine At.loudN (l_store t24 rfl rfl (i := 2) rfl rfl rfl rfl) ?_
    rintro _ _ _ ⟨rfl, rfl⟩
    refine At.nil ?_
    refine At.then ?_
    refine At.ret ?_
    exact At.results (Γr := [psP o]) (M := [M]) rfl (RVals.cons (RVal.cellS rfl t24 (RdS.loc (i := 2) rfl (m := 2) rfl) rfl) RVals.nil) (.tail _ (.tail _ (.tail _ (.head _)))) (fun _ h => ⟨h.1, trivial⟩) (.cons _ (.cons_cons _ (.cons _ (.refl _)))) ⟨⟨t.root, ⟨a, c, o⟩⟩, M, rfl, rfl, rfl, hO, by simp only [Tr.p]; exact congrArg (PT.mk t.root) hoe2⟩

theorem with35 (l : Sl Pr) (p : Pr) (hl : l.l.length ≤ 1000000) : Con Try.prog 35 [l.val, p.val] [prsP l] [] (PairsEnd (withT l.l p)) := by
  refine Con.body 45 Try.func35 rfl Try.ntmps35 rfl fun X H₀ L₀ => ?_
  refine At.nilSeg ?_
  refine At.seq ?_
  refine At.region ?_
  refine At.loud (l_box rfl) rfl ?_
  rintro _ _ _ ⟨b1, rfl, rfl, rfl⟩
  refine At.freeze 0 (φ := blk b1 _) rfl (fun _ h => blk_def.2 ⟨_, _, h⟩) ?_
  refine At.skim 1 rfl rfl ?_
  refine At.nil ?_
  refine At.then ?_
  refine At.seq ?_
  refine At.region ?_
  refine At.skim 1 rfl rfl ?_
  refine At.nil ?_
  refine At.then ?_
  refine At.seq ?_
  refine At.region ?_
  refine At.skim 1 rfl rfl ?_
  refine At.nil ?_
  refine At.then ?_
  refine At.seq ?_
  refine At.seq ?_
  refine At.region ?_
  refine At.skim 1 rfl rfl ?_
  refine At.quiet (q_len Try.underlying31 rfl) rfl ?_
  refine At.skim 1 rfl rfl ?_
  refine At.nil ?_
  refine At.then ?_
  refine At.block ?_
  refine At.loopK (ι := Nat × Bool × Nat × List Pr × Option Addr × Nat × Seg) [5, 6, 8, 11, 12, 13, 14, 15, 16, 17, 18, 19, 20, 21, 22, 23, 24, 25, 26, 27, 28, 29, 30, 31, 32, 33, 34, 35, 36, 37] (fun ⟨k, d, n0, o, a, c, M⟩ => [(11, .int .i64 (k : Int)), (6, .bool d), (5, .slice a n0 c)]) (fun ⟨k, d, n0, o, a, c, M⟩ => []) (fun ⟨k, d, n0, o, a, c, M⟩ => [M]) _ (fun ⟨k, d, n0, o, a, c, M⟩ => k ≤ l.l.length ∧ withT l.l p = o ++ withGo p (l.l.drop k) d ∧ Own 50 2 (o.map rowP) a c M ∧ n0 = o.length ∧ n0 ≤ 2 * k) (fun ⟨k, d, n0, o, a, c, M⟩ => l.l.length - k) (0, false, 0, [], none, 0, []) ⟨Nat.zero_le _, rfl, Own.nil _ _, rfl, Nat.le_refl _⟩ ⟨rfl, rfl, rfl, trivial⟩ (fun _ _ => trivial) (.cons_cons _ (.refl _)) ?_
  intro i0 hI0
  obtain ⟨k, d, n0, o, a, c, M⟩ := i0
  obtain ⟨hkl, hW, hO, hn0, hnk⟩ := hI0
  refine At.seq ?_
  refine At.region ?_
  refine At.skim 1 rfl rfl ?_
  refine At.nil ?_
  refine At.then ?_
  refine At.seq ?_
  refine At.if rfl (fun hk => ?_) (fun hk => ?_)
  · skip
    obtain ⟨x, hx⟩ := get_of_lt (l := l.l) (i := k) (by omega)
    have hk1 := lt_of_get hx
    refine At.skip ?_
    refine At.then ?_
    refine At.seq ?_
    refine At.block ?_
    refine At.seq ?_
    refine At.region ?_
    refine At.quiet (q_index Try.underlying31 t50 rfl (.tail _ (.tail _ (.head _))) (by simp) rfl rfl (lt_of_get hx)) rfl ?_
    refine At.quiet (q_loadS t50 rfl (RdS.sl0 (.tail _ (.tail _ (.head _))) (map_get hx)) rfl) rfl ?_
    refine At.loud (l_alloc t50) rfl ?_
    rintro _ _ _ ⟨b2, rfl, rfl, rfl⟩
    refine At.loudN (l_store t50 rfl rfl (i := 0) rfl rfl rfl rfl) ?_
    rintro _ _ _ ⟨rfl, rfl⟩
    refine At.nil ?_
    refine At.then ?_
    refine At.seq ?_
    refine At.seq ?_
    refine At.region ?_
    refine At.skim 3 rfl rfl ?_
    refine At.split (d := 17) rfl (fun hd => ?_) (fun hd => ?_)
    · skip
      have hd0 := not_t hd
      refine At.open rfl rfl ?_
      refine At.quiet (q_fieldAddr s50 rfl rfl rfl) rfl ?_
      refine At.open rfl rfl ?_
      refine At.quiet (q_load t3 rfl (Rd.loc (i := 0) rfl rfl)) rfl ?_
      refine At.open rfl rfl ?_
      refine At.quiet (q_fieldAddr s50 rfl rfl rfl) rfl ?_
      refine At.open rfl rfl ?_
      refine At.quiet (q_load t3 rfl (Rd.blk (.head _) rfl)) rfl ?_
      refine At.skim 2 rfl rfl ?_
      refine At.nil ?_
      refine At.then ?_
      refine At.if rfl (fun hc => ?_) (fun hc => ?_)
      · skip
        refine At.seq ?_
        refine At.region ?_
        refine At.skim 1 rfl rfl ?_
        refine At.quiet (q_loadS t50 rfl (RdS.blk (.head _) (m := 2) rfl) rfl) rfl ?_
        refine At.loud (l_buildSlice Try.underlying31 t50 rfl rfl rfl rfl rfl) rfl ?_
        rintro _ _ _ ⟨b3, rfl, rfl, rfl⟩
        refine At.loud (l_append rfl Try.underlying31 t50 rfl rfl hO (by simp; omega) (i := 2) rfl rfl (news := [rowP p]) (by simp [rowP]) (RdS.loc (i := 0) rfl (m := 2) rfl) rfl rfl rfl (by omega) (by unfold maxLen; omega)) rfl ?_
        rintro _ _ _ ⟨a4, c4, M4, rfl, ow4, rfl, rfl⟩
        refine At.skim 1 rfl rfl ?_
        refine At.nil ?_
        refine At.then ?_
        refine At.region ?_
        refine At.skim 1 rfl rfl ?_
        refine At.nil ?_
        refine At.then ?_
        refine At.seq ?_
        refine At.region ?_
        refine At.fld s50 t3 rfl rfl rfl (Rd.loc (i := 1) rfl rfl) rfl rfl ?_
        refine At.fld s50 t3 rfl rfl rfl (Rd.blk (.head _) rfl) rfl rfl ?_
        refine At.skim 1 rfl rfl ?_
        refine At.nil ?_
        refine At.then ?_
        refine At.if rfl (fun hn => ?_) (fun hn => ?_)
        · skip
          refine At.region ?_
          refine At.skim 1 rfl rfl ?_
          refine At.quiet (q_loadS t50 rfl (RdS.loc (i := 1) rfl (m := 2) rfl) rfl) rfl ?_
          refine At.loud (l_buildSlice Try.underlying31 t50 rfl rfl rfl rfl rfl) rfl ?_
          rintro _ _ _ ⟨b4, rfl, rfl, rfl⟩
          refine At.loud (l_append rfl Try.underlying31 t50 rfl rfl ow4 (by simp; omega) (i := 3) rfl rfl (news := [rowP x]) (by simp [rowP]) (RdS.loc (i := 0) rfl (m := 2) rfl) rfl rfl rfl (by omega) (by unfold maxLen; omega)) rfl ?_
          rintro _ _ _ ⟨a5, c5, M5, rfl, ow5, rfl, rfl⟩
          refine At.skim 1 rfl rfl ?_
          refine At.nil ?_
          refine At.inNormal ?_
          refine At.then ?_
          refine At.region ?_
          refine At.quiet (q_add rfl rfl (by omega) (by omega)) rfl ?_
          refine At.skim 1 rfl rfl ?_
          refine At.nil ?_
          refine At.front 3 rfl ?_
          refine At.then ?_
          exact At.againK (k + 1, true, n0 + 1 + 1, o ++ ([p] ++ [x]), a5, c5, M5) ⟨hk1, with_step hx hW (by rw [hd0]; simp [hc]) (by rw [hd0]; simp [hc, hn]), by simpa using ow5, by (try simp); omega, by omega⟩ (by (try dsimp only); omega) (Tells.end 35 ⟨rfl, rfl, rfl, trivial⟩ rfl rfl) (fun _ h => h) (.cons_cons _ (.cons _ (.cons _ (.cons _ (.refl _)))))
        · skip
          refine At.skip ?_
          refine At.inNormal ?_
          refine At.then ?_
          refine At.region ?_
          refine At.quiet (q_add rfl rfl (by omega) (by omega)) rfl ?_
          refine At.skim 1 rfl rfl ?_
          refine At.nil ?_
          refine At.front 2 rfl ?_
          refine At.then ?_
          exact At.againK (k + 1, true, n0 + 1, o ++ ([p] ++ []), a4, c4, M4) ⟨hk1, with_step hx hW (by rw [hd0]; simp [hc]) (by rw [hd0]; simp [hc, show x.k = p.k by omega]), by simpa using ow4, by (try simp); omega, by omega⟩ (by (try dsimp only); omega) (Tells.end 30 ⟨rfl, rfl, rfl, trivial⟩ rfl rfl) (fun _ h => h) (.cons_cons _ (.cons _ (.cons _ (.refl _))))
      · skip
        refine At.skip ?_
        refine At.then ?_
        refine At.seq ?_
        refine At.region ?_
        refine At.fld s50 t3 rfl rfl rfl (Rd.loc (i := 0) rfl rfl) rfl rfl ?_
        refine At.fld s50 t3 rfl rfl rfl (Rd.blk (.head _) rfl) rfl rfl ?_
        refine At.skim 1 rfl rfl ?_
        refine At.nil ?_
        refine At.then ?_
        refine At.if rfl (fun hn => ?_) (fun hn => ?_)
        · skip
          refine At.region ?_
          refine At.skim 1 rfl rfl ?_
          refine At.quiet (q_loadS t50 rfl (RdS.loc (i := 0) rfl (m := 2) rfl) rfl) rfl ?_
          refine At.loud (l_buildSlice Try.underlying31 t50 rfl rfl rfl rfl rfl) rfl ?_
          rintro _ _ _ ⟨b5, rfl, rfl, rfl⟩
          refine At.loud (l_append rfl Try.underlying31 t50 rfl rfl hO (by simp; omega) (i := 2) rfl rfl (news := [rowP x]) (by simp [rowP]) (RdS.loc (i := 0) rfl (m := 2) rfl) rfl rfl rfl (by omega) (by unfold maxLen; omega)) rfl ?_
          rintro _ _ _ ⟨a5, c5, M5, rfl, ow5, rfl, rfl⟩
          refine At.skim 1 rfl rfl ?_
          refine At.nil ?_
          refine At.inNormal ?_
          refine At.then ?_
          refine At.region ?_
          refine At.quiet (q_add rfl rfl (by omega) (by omega)) rfl ?_
          refine At.skim 1 rfl rfl ?_
          refine At.nil ?_
          refine At.front 2 rfl ?_
          refine At.then ?_
          exact At.againK (k + 1, d, n0 + 1, o ++ ([] ++ [x]), a5, c5, M5) ⟨hk1, with_step hx hW (by simp [hc]) (by simp [hc, hn]), by simpa using ow5, by (try simp); omega, by omega⟩ (by (try dsimp only); omega) (Tells.end 29 ⟨rfl, rfl, rfl, trivial⟩ rfl rfl) (fun _ h => h) (.cons_cons _ (.cons _ (.cons _ (.refl _))))
        · skip
          exfalso; omega
    · skip
      have hd0 := not_f hd
      refine At.skim 6 rfl rfl ?_
      refine At.nil ?_
      refine At.then ?_
      refine At.condF rfl ?_
      refine At.skip ?_
      refine At.then ?_
      refine At.seq ?_
      refine At.region ?_
      refine At.fld s50 t3 rfl rfl rfl (Rd.loc (i := 0) rfl rfl) rfl rfl ?_
      refine At.fld s50 t3 rfl rfl rfl (Rd.blk (.head _) rfl) rfl rfl ?_
      refine At.skim 1 rfl rfl ?_
      refine At.nil ?_
      refine At.then ?_
      refine At.if rfl (fun hn => ?_) (fun hn => ?_)
      · skip
        refine At.region ?_
        refine At.skim 1 rfl rfl ?_
        refine At.quiet (q_loadS t50 rfl (RdS.loc (i := 0) rfl (m := 2) rfl) rfl) rfl ?_
        refine At.loud (l_buildSlice Try.underlying31 t50 rfl rfl rfl rfl rfl) rfl ?_
        rintro _ _ _ ⟨b6, rfl, rfl, rfl⟩
        refine At.loud (l_append rfl Try.underlying31 t50 rfl rfl hO (by simp; omega) (i := 2) rfl rfl (news := [rowP x]) (by simp [rowP]) (RdS.loc (i := 0) rfl (m := 2) rfl) rfl rfl rfl (by omega) (by unfold maxLen; omega)) rfl ?_
        rintro _ _ _ ⟨a5, c5, M5, rfl, ow5, rfl, rfl⟩
        refine At.skim 1 rfl rfl ?_
        refine At.nil ?_
        refine At.inNormal ?_
        refine At.then ?_
        refine At.region ?_
        refine At.quiet (q_add rfl rfl (by omega) (by omega)) rfl ?_
        refine At.skim 1 rfl rfl ?_
        refine At.nil ?_
        refine At.front 2 rfl ?_
        refine At.then ?_
        exact At.againK (k + 1, d, n0 + 1, o ++ ([] ++ [x]), a5, c5, M5) ⟨hk1, with_step hx hW (by rw [hd0]; simp) (by rw [hd0]; simp [hn]), by simpa using ow5, by (try simp); omega, by omega⟩ (by (try dsimp only); omega) (Tells.end 29 ⟨rfl, rfl, rfl, trivial⟩ rfl rfl) (fun _ h => h) (.cons_cons _ (.cons _ (.cons _ (.refl _))))
      · skip
        refine At.skip ?_
        refine At.inNormal ?_
        refine At.then ?_
        refine At.region ?_
        refine At.quiet (q_add rfl rfl (by omega) (by omega)) rfl ?_
        refine At.skim 1 rfl rfl ?_
        refine At.nil ?_
        refine At.front 1 rfl ?_
        refine At.then ?_
        exact At.againK (k + 1, d, n0, o ++ ([] ++ []), a, c, M) ⟨hk1, with_step hx hW (by rw [hd0]; simp) (by rw [hd0]; simp [show x.k = p.k by omega]), by simpa using hO, by (try simp); omega, by omega⟩ (by (try dsimp only); omega) (Tells.end 24 ⟨rfl, rfl, rfl, trivial⟩ rfl rfl) (fun _ h => h) (.cons_cons _ (.cons _ (.refl _)))
  · skip
    have hW2 := with_end (by omega) hW
    refine At.exit ?_
    refine At.thenExit ?_
    refine At.thenExit ?_
    refine At.inHere rfl ?_
    refine At.then ?_
    refine At.seq ?_
    refine At.seq ?_
    refine At.region ?_
    refine At.skim 2 rfl rfl ?_
    refine At.nil ?_
    refine At.then ?_
    refine At.cond rfl (fun hd => ?_) (fun hd => ?_)
    · skip
      refine At.region ?_
      refine At.skim 1 rfl rfl ?_
      refine At.quiet (q_loadS t50 rfl (RdS.blk (.head _) (m := 2) rfl) rfl) rfl ?_
      refine At.loud (l_buildSlice Try.underlying31 t50 rfl rfl rfl rfl rfl) rfl ?_
      rintro _ _ _ ⟨b7, rfl, rfl, rfl⟩
      refine At.loud (l_append rfl Try.underlying31 t50 rfl rfl hO (by simp; omega) (i := 1) rfl rfl (news := [rowP p]) (by simp [rowP]) (RdS.loc (i := 0) rfl (m := 2) rfl) rfl rfl rfl (by omega) (by unfold maxLen; omega)) rfl ?_
      rintro _ _ _ ⟨a4, c4, M4, rfl, ow4, rfl, rfl⟩
      refine At.skim 1 rfl rfl ?_
      refine At.nil ?_
      refine At.then ?_
      refine At.seq ?_
      refine At.region ?_
      refine At.skim 2 rfl rfl ?_
      refine At.nil ?_
      refine At.then ?_
      refine At.ret ?_
      exact At.results (Γr := []) (M := [M4]) rfl (RVals.cons (RVal.tmp rfl) RVals.nil) (.tail _ (.head _)) (fun _ _ => trivial) (.cons _ (.cons_cons _ (.refl _))) ⟨⟨a4, c4, o ++ [p]⟩, M4, by simp [Sl.val, resVal, hn0], rfl, rfl, by simpa using ow4, by rw [hW2, not_t hd]; rfl⟩
    · skip
      refine At.skip ?_
      refine At.then ?_
      refine At.seq ?_
      refine At.region ?_
      refine At.skim 2 rfl rfl ?_
      refine At.nil ?_
      refine At.then ?_
      refine At.ret ?_
      exact At.results (Γr := []) (M := [M]) rfl (RVals.cons (RVal.tmp rfl) RVals.nil) (.tail _ (.head _)) (fun _ _ => trivial) (.cons_cons _ (.refl _)) ⟨⟨a, c, o⟩, M, by simp [Sl.val, resVal, hn0], rfl, rfl, hO, by rw [hW2, not_f hd]; simp⟩

end Go.Proofs.Ytmkodknmknfdkaa
