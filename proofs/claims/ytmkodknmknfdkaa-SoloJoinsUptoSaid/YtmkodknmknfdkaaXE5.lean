/- Texts of this seat, joined: part 5. -/
import Derived.WalkKit
import Derived.OrdersHeld
import Derived.Lib.MinMax
import Derived.Laws.AppendOwn
import Derived.ProofKit
import Derived.OpenShut
import Derived.ChangeOld
import Derived.Carry
import Derived.Deep.Slices
import Derived.Laws.MakeOwn
import Derived.Lib.SliceRun
import Derived.Test.YtmkodknmknfdkaaRows
import Derived.MapKept
import Derived.Lib.AppendZeros
import Derived.SizedLaws
import Derived.Deep.CondSized
import Derived.JoinedCond
import Derived.Test.YtmkodknmknfdkaaXE4
set_option linter.unusedVariables false
set_option linter.unusedSimpArgs false
namespace Go.Proofs.Ytmkodknmknfdkaa
open E
set_option maxRecDepth 4000
theorem en61 : Enters Try.prog 61 := Enters.mk' Try.func61 rfl rfl
theorem en114 : Enters Try.prog 114 := Enters.mk' Try.func114 rfl rfl
theorem set34f (t : Tr) (hsm : smallP t.ns.l) (at_ : Int) (l : Sl Pr) (hl : l.l.length ≤ 1000000) (stat : Int) : Con Try.prog 34 [t.val, .int .i64 at_, l.val, .int .i64 stat] [ndsP t.ns, psP t.ns.l, prsP l] [] (SetEndF t at_ l stat) := by
  refine Con.body 67 Try.func34 rfl Try.ntmps34 rfl fun X H₀ L₀ => ?_
  refine At.lenOf (hs := (.tail _ (.head _))) fun hlen => ?_
  rw [List.length_map] at hlen
  refine At.seq ?_
  refine At.region ?_
  refine At.loud (l_box rfl) rfl ?_
  rintro _ _ _ ⟨b1, rfl, rfl, rfl⟩
  refine At.freeze 0 (φ := blk b1 _) rfl (fun _ h => blk_def.2 ⟨_, _, h⟩) ?_
  refine At.loud (l_alloc t24) rfl ?_
  rintro _ _ _ ⟨b2, rfl, rfl, rfl⟩
  refine At.skim 1 rfl rfl ?_
  refine At.nil ?_
  refine At.then ?_
  refine At.seq ?_
  refine At.seq ?_
  refine At.region ?_
  refine At.quiet (q_loadS t24 rfl (RdS.blk (.head _) (m := 2) rfl) rfl) rfl ?_
  refine At.call en21 rfl (may21 _) (fun _ h => ⟨h.2.2.1, h.2.2.2.1, trivial⟩) (List.Perm.refl _) rfl ?_
  rintro _ _ _ ⟨rfl, rfl, rfl⟩
  refine At.skim 2 rfl rfl ?_
  refine At.split (d := 16) rfl (fun hm => ?_) (fun hm => ?_)
  · skip
    refine At.know (ndsP ⟨none, 0, []⟩) (fun _ h => sl_nil _ _ _ (Nat.zero_le _)) ?_
    refine At.know (psP []) (fun _ h => psP_nil) ?_
    refine At.skim 18 rfl rfl ?_
    refine At.nil ?_
    refine At.then ?_
    refine At.condT rfl ?_
    refine At.seq ?_
    refine At.region ?_
    refine At.quiet (q_build t24 s24 rfl rfl) rfl ?_
    refine At.loudN (l_store t24 rfl rfl (i := 0) rfl rfl rfl rfl) ?_
    rintro _ _ _ ⟨rfl, rfl⟩
    refine At.skim 1 rfl rfl ?_
    refine At.nil ?_
    refine At.then ?_
    refine At.ret ?_
    refine At.thenRet ?_
    exact At.results (Γr := [_, _]) (M := []) rfl (RVals.cons (RVal.cellS rfl t24 (RdS.loc (i := 0) rfl (m := 2) rfl) rfl) (RVals.cons (RVal.tmp rfl) RVals.nil)) (.tail _ (.tail _ (.tail _ (.head _)))) (fun _ h => ⟨h.2.1, h.1, trivial⟩) (.cons _ (.refl _)) ⟨⟨0, ⟨none, 0, []⟩⟩, by rw [set_no1 (not_t hm)]; rfl, rfl, rfl, by rw [setD, set_no1 (not_t hm)]; rfl⟩
  · skip
    refine At.skim 4 rfl rfl ?_
    refine At.splitP (d := 20) rfl (fun hneg => ?_) (fun hneg => ?_)
    · skip
      refine At.know (ndsP ⟨none, 0, []⟩) (fun _ h => sl_nil _ _ _ (Nat.zero_le _)) ?_
      refine At.know (psP []) (fun _ h => psP_nil) ?_
      refine At.skim 14 rfl rfl ?_
      refine At.nil ?_
      refine At.then ?_
      refine At.condT rfl ?_
      refine At.seq ?_
      refine At.region ?_
      refine At.quiet (q_build t24 s24 rfl rfl) rfl ?_
      refine At.loudN (l_store t24 rfl rfl (i := 0) rfl rfl rfl rfl) ?_
      rintro _ _ _ ⟨rfl, rfl⟩
      refine At.skim 1 rfl rfl ?_
      refine At.nil ?_
      refine At.then ?_
      refine At.ret ?_
      refine At.thenRet ?_
      exact At.results (Γr := [_, _]) (M := []) rfl (RVals.cons (RVal.cellS rfl t24 (RdS.loc (i := 0) rfl (m := 2) rfl) rfl) (RVals.cons (RVal.tmp rfl) RVals.nil)) (.tail _ (.tail _ (.tail _ (.head _)))) (fun _ h => ⟨h.2.1, h.1, trivial⟩) (.cons _ (.refl _)) ⟨⟨0, ⟨none, 0, []⟩⟩, by rw [set_no2 hneg]; rfl, rfl, rfl, by rw [setD, set_no2 hneg]; rfl⟩
    · skip
      obtain ⟨i, rfl⟩ := Int.eq_ofNat_of_zero_le (show 0 ≤ at_ by omega)
      refine At.skim 1 rfl rfl ?_
      refine At.open rfl rfl ?_
      refine At.quiet (q_fieldAddr s24 rfl rfl rfl) rfl ?_
      refine At.open rfl rfl ?_
      refine At.quiet (q_load t22 rfl (Rd.blk (.head _) rfl)) rfl ?_
      refine At.open rfl rfl ?_
      refine At.quiet (q_len Try.underlying22 rfl) rfl ?_
      refine At.skim 3 rfl rfl ?_
      refine At.splitP (d := 27) rfl (fun hout => ?_) (fun hout => ?_)
      · skip
        refine At.know (ndsP ⟨none, 0, []⟩) (fun _ h => sl_nil _ _ _ (Nat.zero_le _)) ?_
        refine At.know (psP []) (fun _ h => psP_nil) ?_
        refine At.skim 7 rfl rfl ?_
        refine At.nil ?_
        refine At.then ?_
        refine At.condT rfl ?_
        refine At.seq ?_
        refine At.region ?_
        refine At.quiet (q_build t24 s24 rfl rfl) rfl ?_
        refine At.loudN (l_store t24 rfl rfl (i := 0) rfl rfl rfl rfl) ?_
        rintro _ _ _ ⟨rfl, rfl⟩
        refine At.skim 1 rfl rfl ?_
        refine At.nil ?_
        refine At.then ?_
        refine At.ret ?_
        refine At.thenRet ?_
        exact At.results (Γr := [_, _]) (M := []) rfl (RVals.cons (RVal.cellS rfl t24 (RdS.loc (i := 0) rfl (m := 2) rfl) rfl) (RVals.cons (RVal.tmp rfl) RVals.nil)) (.tail _ (.tail _ (.tail _ (.head _)))) (fun _ h => ⟨h.2.1, h.1, trivial⟩) (.cons _ (.refl _)) ⟨⟨0, ⟨none, 0, []⟩⟩, by rw [set_no3 (by simp [Tr.p]; omega)]; rfl, rfl, rfl, by rw [setD, set_no3 (by simp [Tr.p]; omega)]; rfl⟩
      · skip
        have hi : i < t.ns.l.length := by omega
        obtain ⟨x, hx⟩ := get_of_lt hi
        have hxp : t.p.ns[i]? = some x.p := map_get hx
        refine At.know (prsP x.ps) (fun _ h => psP_get h.2.2.2.1 hx) ?_
        refine At.open rfl rfl ?_
        refine At.quiet (q_fieldAddr s24 rfl rfl rfl) rfl ?_
        refine At.open rfl rfl ?_
        refine At.quiet (q_load t22 rfl (Rd.blk (.tail _ (.head _)) rfl)) rfl ?_
        refine At.skim 1 rfl rfl ?_
        refine At.open rfl rfl ?_
        refine At.quiet (q_index Try.underlying22 t33 rfl (.tail _ (.tail _ (.tail _ (.head _)))) (by simp) rfl rfl (lt_of_get hx)) rfl ?_
        refine At.open rfl rfl ?_
        refine At.quiet (q_fieldAddr s33 rfl rfl rfl) rfl ?_
        refine At.open rfl rfl ?_
        refine At.quiet (q_load t4 rfl (Rd.sl (.tail _ (.tail _ (.tail _ (.head _)))) (map_get hx) rfl)) rfl ?_
        refine At.skim 1 rfl rfl ?_
        refine At.nil ?_
        refine At.then ?_
        refine At.cond rfl (fun hr => ?_) (fun hr => ?_)
        · skip
          refine At.know (ndsP ⟨none, 0, []⟩) (fun _ h => sl_nil _ _ _ (Nat.zero_le _)) ?_
          refine At.know (psP []) (fun _ h => psP_nil) ?_
          refine At.seq ?_
          refine At.region ?_
          refine At.quiet (q_build t24 s24 rfl rfl) rfl ?_
          refine At.loudN (l_store t24 rfl rfl (i := 0) rfl rfl rfl rfl) ?_
          rintro _ _ _ ⟨rfl, rfl⟩
          refine At.skim 1 rfl rfl ?_
          refine At.nil ?_
          refine At.then ?_
          refine At.ret ?_
          refine At.thenRet ?_
          exact At.results (Γr := [_, _]) (M := []) rfl (RVals.cons (RVal.cellS rfl t24 (RdS.loc (i := 0) rfl (m := 2) rfl) rfl) (RVals.cons (RVal.tmp rfl) RVals.nil)) (.tail _ (.tail _ (.tail _ (.tail _ (.head _))))) (fun _ h => ⟨h.2.1, h.1, trivial⟩) (.cons _ (.refl _)) ⟨⟨0, ⟨none, 0, []⟩⟩, by rw [set_no4 hxp hr]; rfl, rfl, rfl, by rw [setD, set_no4 hxp hr]; rfl⟩
        · skip
          obtain ⟨s, hs⟩ := Option.isSome_iff_exists.1 (not_f hm)
          have hfew : t.ns.l.length ≤ 2000 := by have := (good_of hs).few; simpa [Tr.p] using this
          refine At.nilSeg ?_
          refine At.know (psP []) (fun _ h => psP_nil) ?_
          refine At.skip ?_
          refine At.then ?_
          refine At.seq ?_
          refine At.region ?_
          refine At.fld s24 t3 rfl rfl rfl (Rd.blk (.tail _ (.tail _ (.head _))) rfl) rfl rfl ?_
          refine At.quiet (q_build t24 s24 rfl rfl) rfl ?_
          refine At.loud (l_alloc t24) rfl ?_
          rintro _ _ _ ⟨b3, rfl, rfl, rfl⟩
          refine At.loudN (l_store t24 rfl rfl (i := 0) rfl rfl rfl rfl) ?_
          rintro _ _ _ ⟨rfl, rfl⟩
          refine At.nil ?_
          refine At.then ?_
          refine At.seq ?_
          refine At.seq ?_
          refine At.region ?_
          refine At.fld s24 t22 rfl rfl rfl (Rd.blk (.tail _ (.tail _ (.head _))) rfl) rfl rfl ?_
          refine At.quiet (q_len Try.underlying22 rfl) rfl ?_
          refine At.skim 1 rfl rfl ?_
          refine At.nil ?_
          refine At.then ?_
          refine At.block ?_
          refine At.front 1 rfl ?_
          refine At.front 1 rfl ?_
          refine At.loopK (ι := Nat × List Nd × Option Addr × Nat × Seg) [11, 12, 42, 43, 44, 45, 46, 47, 48, 49, 50, 51, 52, 53, 54, 55, 56, 57, 58, 59, 60, 61] (fun ⟨k, o, a, c, M⟩ => [(42, .int .i64 (k : Int))]) (fun ⟨k, o, a, c, M⟩ => [psP o]) (fun ⟨k, o, a, c, M⟩ => [[(b3, .cells #[.int .i64 t.root, .slice a k c] 24 (0, 0))], M]) _ (fun ⟨k, o, a, c, M⟩ => k ≤ t.ns.l.length ∧ Own 33 6 (o.map rowN) a c M ∧ o.length = k ∧ o.map Nd.p = (t.p.ns.set i { x.p with l := l.l, stat := stat }).take k) (fun ⟨k, o, a, c, M⟩ => t.ns.l.length - k) (0, [], none, 0, []) ⟨Nat.zero_le _, Own.nil _ _, rfl, by simp⟩ ⟨rfl, trivial⟩ (fun _ _ => ⟨psP_nil, trivial⟩) (.cons_cons _ (.cons_cons _ (.refl _))) ?_
          intro i0 hI0
          obtain ⟨k, o, a, c, M⟩ := i0
          obtain ⟨hkl, hO, hok, hoe⟩ := hI0
          refine At.seq ?_
          refine At.region ?_
          refine At.skim 1 rfl rfl ?_
          refine At.nil ?_
          refine At.then ?_
          refine At.seq ?_
          refine At.if rfl (fun hk => ?_) (fun hk => ?_)
          · skip
            obtain ⟨y, hy⟩ := get_of_lt (l := t.ns.l) (i := k) (by omega)
            have hk1 := lt_of_get hy
            refine At.know (prsP y.ps) (fun _ h => psP_get h.2.2.2.2.2.2.1 hy) ?_
            refine At.skip ?_
            refine At.then ?_
            refine At.seq ?_
            refine At.block ?_
            refine At.seq ?_
            refine At.region ?_
            refine At.skim 1 rfl rfl ?_
            refine At.quiet (q_index Try.underlying22 t33 rfl (.tail _ (.tail _ (.tail _ (.tail _ (.tail _ (.tail _ (.head _))))))) (by simp) rfl rfl (lt_of_get hy)) rfl ?_
            refine At.quiet (q_loadS t33 rfl (RdS.sl0 (.tail _ (.tail _ (.tail _ (.tail _ (.tail _ (.tail _ (.head _))))))) (map_get hy)) rfl) rfl ?_
            refine At.loud (l_alloc t33) rfl ?_
            rintro _ _ _ ⟨b4, rfl, rfl, rfl⟩
            refine At.skim 1 rfl rfl ?_
            refine At.loudN (l_store t33 rfl rfl (i := 0) rfl rfl rfl rfl) ?_
            rintro _ _ _ ⟨rfl, rfl⟩
            refine At.nil ?_
            refine At.then ?_
            refine At.seq ?_
            refine At.seq ?_
            refine At.region ?_
            refine At.skim 3 rfl rfl ?_
            refine At.nil ?_
            refine At.then ?_
            refine At.if rfl (fun hki => ?_) (fun hki => ?_)
            · skip
              obtain rfl : k = i := by omega
              obtain rfl : x = y := by rw [hx] at hy; exact Option.some.inj hy
              refine At.region ?_
              refine At.skim 2 rfl rfl ?_
              refine At.quiet (q_fieldAddr s33 rfl rfl rfl) rfl ?_
              refine At.loudN (l_store t31 rfl rfl (i := 0) rfl rfl rfl rfl) ?_
              rintro _ _ _ ⟨rfl, rfl⟩
              refine At.quiet (q_fieldAddr s33 rfl rfl rfl) rfl ?_
              refine At.loudN (l_store t3 rfl rfl (i := 0) rfl rfl rfl rfl) ?_
              rintro _ _ _ ⟨rfl, rfl⟩
              refine At.nil ?_
              refine At.then ?_
              refine At.draw 5 (.q 0 (.q 1 (.q 2 (.o 3 (.o 4 (.e)))))) _ (List.Sublist.refl _) mixed (by kernel_rfl) rfl ?_
              refine AtO.quiet rfl (q_fieldAddr s24 rfl rfl rfl) rfl (Calm.inBlock (Calm.then (Calm.then (Calm.inBlock (Calm.then Post.calm))))) ?_
              refine AtO.quiet rfl (q_load t22 rfl (Rd.loc (i := 1) rfl rfl)) rfl (Calm.inBlock (Calm.then (Calm.then (Calm.inBlock (Calm.then Post.calm))))) ?_
              refine AtO.quiet rfl (q_loadS t33 rfl (RdS.loc (i := 0) rfl (m := 6) rfl) rfl) rfl (Calm.inBlock (Calm.then (Calm.then (Calm.inBlock (Calm.then Post.calm))))) ?_
              refine AtO.callA rfl en73 rfl (copy73 { x with ps := l, stat := stat } (by simpa using hl)) (fun _ h => ⟨h.2.2.2.2.2.2.2.2.1, trivial⟩) (List.Perm.refl _) rfl (.refl _) ?_
              rintro _ _ _ ⟨s0, rfl, hs0, rfl, rfl⟩
              refine AtO.loudA rfl (l_buildSlice Try.underlying22 t33 rfl rfl rfl rfl rfl) rfl (by rintro _ _ _ ⟨_, rfl, rfl, rfl⟩; exact ⟨fun _ h => h, .cons _ (.refl _)⟩) ?_
              rintro _ _ _ ⟨b5, rfl, rfl, rfl⟩
              refine AtO.done ?_
              refine At.loud (l_append rfl Try.underlying22 t33 rfl rfl hO (by simp; omega) (i := 3) rfl rfl (news := [rowN { { x with ps := l, stat := stat } with ps := s0 }]) (by simp [rowN]) (RdS.loc (i := 0) rfl (m := 6) rfl) rfl rfl rfl (by omega) (by unfold maxLen; omega)) rfl ?_
              rintro _ _ _ ⟨a2, c2, M2, rfl, ow, rfl, rfl⟩
              refine At.quiet (q_fieldAddr s24 rfl rfl rfl) rfl ?_
              refine At.loudN (l_store t22 rfl rfl (i := 2) rfl rfl rfl rfl) ?_
              rintro _ _ _ ⟨rfl, rfl⟩
              refine At.nil ?_
              refine At.inNormal ?_
              refine At.then ?_
              refine At.region ?_
              refine At.know (psP (o ++ [{ { x with ps := l, stat := stat } with ps := s0 }])) (fun _ h => psP_snoc (n := { { x with ps := l, stat := stat } with ps := s0 }) h.2.2.1 h.1) ?_
              refine At.quiet (q_add rfl rfl (by omega) (by omega)) rfl ?_
              refine At.skim 1 rfl rfl ?_
              refine At.nil ?_
              refine At.front 3 rfl ?_
              refine At.front 3 rfl ?_
              refine At.then ?_
              exact At.againK (k + 1, o ++ [{ { x with ps := l, stat := stat } with ps := s0 }], a2, c2, M2) ⟨hk1, by simpa using ow, by simp; omega, set_step_at hoe hs0 hxp⟩ (by (try dsimp only); omega) (Tells.end 23 ⟨rfl, trivial⟩ rfl rfl) (fun _ h => ⟨h.1, h.2.2.2.2⟩) (.cons_cons _ (.cons_cons _ (.cons _ (.cons _ (.refl _)))))
            · skip
              refine At.skip ?_
              refine At.then ?_
              refine At.draw 5 (.q 0 (.q 1 (.q 2 (.o 3 (.o 4 (.e)))))) _ (List.Sublist.refl _) mixed (by kernel_rfl) rfl ?_
              refine AtO.quiet rfl (q_fieldAddr s24 rfl rfl rfl) rfl (Calm.inBlock (Calm.then (Calm.then (Calm.inBlock (Calm.then Post.calm))))) ?_
              refine AtO.quiet rfl (q_load t22 rfl (Rd.loc (i := 1) rfl rfl)) rfl (Calm.inBlock (Calm.then (Calm.then (Calm.inBlock (Calm.then Post.calm))))) ?_
              refine AtO.quiet rfl (q_loadS t33 rfl (RdS.loc (i := 0) rfl (m := 6) rfl) rfl) rfl (Calm.inBlock (Calm.then (Calm.then (Calm.inBlock (Calm.then Post.calm))))) ?_
              refine AtO.callA rfl en73 rfl (copy73 y (hsm y (List.mem_of_getElem? hy))) (fun _ h => ⟨h.1, trivial⟩) (List.Perm.refl _) rfl (.refl _) ?_
              rintro _ _ _ ⟨s0, rfl, hs0, rfl, rfl⟩
              refine AtO.loudA rfl (l_buildSlice Try.underlying22 t33 rfl rfl rfl rfl rfl) rfl (by rintro _ _ _ ⟨_, rfl, rfl, rfl⟩; exact ⟨fun _ h => h, .cons _ (.refl _)⟩) ?_
              rintro _ _ _ ⟨b6, rfl, rfl, rfl⟩
              refine AtO.done ?_
              refine At.loud (l_append rfl Try.underlying22 t33 rfl rfl hO (by simp; omega) (i := 3) rfl rfl (news := [rowN { y with ps := s0 }]) (by simp [rowN]) (RdS.loc (i := 0) rfl (m := 6) rfl) rfl rfl rfl (by omega) (by unfold maxLen; omega)) rfl ?_
              rintro _ _ _ ⟨a2, c2, M2, rfl, ow, rfl, rfl⟩
              refine At.quiet (q_fieldAddr s24 rfl rfl rfl) rfl ?_
              refine At.loudN (l_store t22 rfl rfl (i := 2) rfl rfl rfl rfl) ?_
              rintro _ _ _ ⟨rfl, rfl⟩
              refine At.nil ?_
              refine At.inNormal ?_
              refine At.then ?_
              refine At.region ?_
              refine At.know (psP (o ++ [{ y with ps := s0 }])) (fun _ h => psP_snoc (n := { y with ps := s0 }) h.2.2.1 h.1) ?_
              refine At.quiet (q_add rfl rfl (by omega) (by omega)) rfl ?_
              refine At.skim 1 rfl rfl ?_
              refine At.nil ?_
              refine At.front 3 rfl ?_
              refine At.front 3 rfl ?_
              refine At.then ?_
              exact At.againK (k + 1, o ++ [{ y with ps := s0 }], a2, c2, M2) ⟨hk1, by simpa using ow, by simp; omega, set_step_ne hoe hs0 (map_get hy) (by omega)⟩ (by (try dsimp only); omega) (Tells.end 19 ⟨rfl, trivial⟩ rfl rfl) (fun _ h => ⟨h.1, h.2.2.2.2⟩) (.cons_cons _ (.cons_cons _ (.cons _ (.cons _ (.refl _)))))
          · skip
            have hoe2 : o.map Nd.p = (t.p.ns.set i { x.p with l := l.l, stat := stat }) := by rw [hoe, List.take_of_length_le (by simp [Tr.p]; omega)]
            have hu : (⟨t.root, ⟨a, c, o⟩⟩ : Tr).p = ⟨t.p.root, (t.p.ns.set i { x.p with l := l.l, stat := stat })⟩ := by simp only [Tr.p]; exact congrArg (PT.mk t.root) hoe2
            subst hok
            refine At.exit ?_
            refine At.thenExit ?_
            refine At.thenExit ?_
            refine At.inHere rfl ?_
            refine At.then ?_
            refine At.seq ?_
            refine At.seq ?_
            refine At.region ?_
            refine At.quiet (q_loadS t24 rfl (RdS.loc (i := 0) rfl (m := 2) rfl) rfl) rfl ?_
            refine At.callB en21 rfl (may21 ⟨t.root, ⟨a, c, o⟩⟩) hO (i := 1) rfl (fun _ h => ⟨h.1, h.2.1, trivial⟩) (List.Perm.refl _) rfl ?_
            rintro _ _ _ ⟨rfl, rfl, rfl⟩
            refine At.skim 1 rfl rfl ?_
            refine At.nil ?_
            refine At.then ?_
            refine At.cond rfl (fun hm2 => ?_) (fun hm2 => ?_)
            · skip
              refine At.know (ndsP ⟨none, 0, []⟩) (fun _ h => sl_nil _ _ _ (Nat.zero_le _)) ?_
              refine At.know (psP []) (fun _ h => psP_nil) ?_
              refine At.seq ?_
              refine At.region ?_
              refine At.quiet (q_build t24 s24 rfl rfl) rfl ?_
              refine At.loudN (l_store t24 rfl rfl (i := 2) rfl rfl rfl rfl) ?_
              rintro _ _ _ ⟨rfl, rfl⟩
              refine At.skim 1 rfl rfl ?_
              refine At.nil ?_
              refine At.then ?_
              refine At.ret ?_
              refine At.thenRet ?_
              exact At.results (Γr := [_, _]) (M := []) rfl (RVals.cons (RVal.cellS rfl t24 (RdS.loc (i := 2) rfl (m := 2) rfl) rfl) (RVals.cons (RVal.tmp rfl) RVals.nil)) (.tail _ (.tail _ (.tail _ (.tail _ (.tail _ (.tail _ (.head _))))))) (fun _ h => ⟨h.2.1, h.1, trivial⟩) (.cons _ (.cons _ (.cons _ (.refl _)))) ⟨⟨0, ⟨none, 0, []⟩⟩, by rw [set_no5 hxp hr (by rw [← hu]; exact not_t hm2)]; rfl, rfl, rfl, by rw [setD, set_no5 hxp hr (by rw [← hu]; exact not_t hm2)]; rfl⟩
            · skip
              refine At.freezeOwn 0 hO rfl ?_
              refine At.skip ?_
              refine At.then ?_
              refine At.seq ?_
              refine At.region ?_
              refine At.quiet (q_loadS t24 rfl (RdS.loc (i := 0) rfl (m := 2) rfl) rfl) rfl ?_
              refine At.loudN (l_store t24 rfl rfl (i := 1) rfl rfl rfl rfl) ?_
              rintro _ _ _ ⟨rfl, rfl⟩
              refine At.skim 1 rfl rfl ?_
              refine At.nil ?_
              refine At.then ?_
              refine At.ret ?_
              exact At.results (Γr := [_, psP o]) (M := []) rfl (RVals.cons (RVal.cellS rfl t24 (RdS.loc (i := 1) rfl (m := 2) rfl) rfl) (RVals.cons (RVal.tmp rfl) RVals.nil)) (.tail _ (.tail _ (.tail _ (.tail _ (.tail _ (.head _)))))) (fun _ h => ⟨h.1, h.2.1, trivial⟩) (.cons _ (.cons _ (.refl _))) ⟨⟨t.root, ⟨a, c, o⟩⟩, by rw [set_ok hs hxp hr (by rw [← hu]; exact not_f hm2)]; rfl, rfl, rfl, by rw [setD, set_ok hs hxp hr (by rw [← hu]; exact not_f hm2), hu]; rfl⟩
set_option maxHeartbeats 2000000 in
theorem update96 (t : Tr) (p : Pol) (o : OpS) (s : Sh) (hs : mayT t.p = some s) (hmo : mayO o = true) (hu : updO o = true) (hal : (allT t.p).length ≤ 600000) : Con Try.prog 96 [t.val, p.val, o.val] [ndsP t.ns, psP t.ns.l] [] (TreeEnd (updT t.p p o)) := by
  refine Con.body 51 Try.func96 rfl Try.ntmps96 rfl fun X H₀ L₀ => ?_
  obtain ⟨n, hn⟩ := get_of_lt (find_lt hs o.key)
  obtain ⟨x, hx, hxp⟩ := p_get (u := t) rfl hn
  have hmt : (mayT t.p).isSome = true := by rw [hs]; rfl
  have hsm : smallP t.ns.l := small_all hmt hal (by omega)
  have hxs := hsm x (List.mem_of_getElem? hx)
  have hgd : t.p.ns.getD (findD t.p o.key).leaf default = x.p := (getD_of hn).trans hxp.symm
  have hk3 : o.kind ≤ 3 ∧ 1 ≤ o.kind := by simp only [updO, Bool.or_eq_true, decide_eq_true_eq] at hu; omega
  refine At.know (prsP x.ps) (fun _ h => psP_get h.2.2.1 hx) ?_
  refine At.seq ?_
  refine At.region ?_
  refine At.loud (l_box rfl) rfl ?_
  rintro _ _ _ ⟨b1, rfl, rfl, rfl⟩
  refine At.freeze 0 (φ := blk b1 _) rfl (fun _ h => blk_def.2 ⟨_, _, h⟩) ?_
  refine At.loud (l_box rfl) rfl ?_
  rintro _ _ _ ⟨b2, rfl, rfl, rfl⟩
  refine At.freeze 0 (φ := blk b2 _) rfl (fun _ h => blk_def.2 ⟨_, _, h⟩) ?_
  refine At.loud (l_box rfl) rfl ?_
  rintro _ _ _ ⟨b3, rfl, rfl, rfl⟩
  refine At.freeze 0 (φ := blk b3 _) rfl (fun _ h => blk_def.2 ⟨_, _, h⟩) ?_
  refine At.loud (l_alloc t24) rfl ?_
  rintro _ _ _ ⟨b4, rfl, rfl, rfl⟩
  refine At.nil ?_
  refine At.then ?_
  refine At.seq ?_
  refine At.region ?_
  refine At.quiet (q_loadS t24 rfl (RdS.blk (.tail _ (.tail _ (.head _))) (m := 2) rfl) rfl) rfl ?_
  refine At.quiet (q_loadS t77 rfl (RdS.blk (.head _) (m := 4) rfl) rfl) rfl ?_
  refine At.call en61 rfl (touched61 _ _) (fun _ h => ⟨h.2.2.2.2.2.1, h.2.2.2.2.2.2.1, trivial⟩) (List.Perm.refl _) rfl ?_
  rintro _ _ _ ⟨tl, rfl, rfl, rfl, htl⟩
  have ht0 : tl.l[0]? = some ((findD t.p o.key).leaf : Int) := by rw [htl, touch_one hmt hmo (by omega)]; rfl
  refine At.quiet (q_index Try.underlying37 t3 rfl (.head _) (by simp) rfl rfl (lt_of_get ht0)) rfl ?_
  refine At.quiet (q_load t3 rfl (Rd.sl0 (.head _) (map_get ht0) rfl)) rfl ?_
  refine At.skim 1 rfl rfl ?_
  refine At.nil ?_
  refine At.then ?_
  refine At.cutD (ι := Sl Pr) .z [8, 9, 17, 18, 19, 20, 21, 22, 23, 24, 25, 26, 27] (fun s9 => [(8, s9.val)]) (fun s9 => [prsP s9]) (fun s9 => []) (fun s9 => s9.l = (doT x.ps.l o).1) ?_ ?_
  · skip
    refine At.draw 13 (.q 0 (.q 1 (.q 2 (.q 3 (.q 4 (.q 5 (.q 6 (.t 7 (.q 8 (.q 9 (.q 10 (.o 11 (.q 12 (.e)))))) 11 (.o 7 (.q 8 (.q 9 (.q 10 (.q 12 (.e)))))))))))))) _ (List.Sublist.refl _) mixed (by kernel_rfl) rfl ?_
    refine AtO.quiet rfl (q_fieldAddr s24 rfl rfl rfl) rfl (Calm.then Post.calm) ?_
    refine AtO.quiet rfl (q_load t22 rfl (Rd.blk (.tail _ (.tail _ (.tail _ (.head _)))) rfl)) rfl (Calm.then Post.calm) ?_
    refine AtO.quiet rfl (q_move rfl) rfl (Calm.then Post.calm) ?_
    refine AtO.quiet rfl (q_index Try.underlying22 t33 rfl (.tail _ (.tail _ (.tail _ (.tail _ (.tail _ (.tail _ (.head _))))))) (by simp) rfl rfl (lt_of_get hx)) rfl (Calm.then Post.calm) ?_
    refine AtO.quiet rfl (q_fieldAddr s33 rfl rfl rfl) rfl (Calm.then Post.calm) ?_
    refine AtO.quiet rfl (q_load t31 rfl (Rd.sl (.tail _ (.tail _ (.tail _ (.tail _ (.tail _ (.tail _ (.head _))))))) (map_get hx) rfl)) rfl (Calm.then Post.calm) ?_
    refine AtO.quiet rfl (q_loadS t77 rfl (RdS.blk (.tail _ (.head _)) (m := 4) rfl) rfl) rfl (Calm.then Post.calm) ?_
    refine AtO.two ?_ ?_
    · skip
      refine AtO.callA rfl en113 rfl (do113 x.ps o (by omega)) (fun _ h => ⟨h.2.2.2.2.1, trivial⟩) (List.Perm.refl _) rfl (.refl _) ?_
      rintro _ _ _ ⟨s1, s2, rfl, rfl, rfl, hs1, hs2⟩
      refine AtO.quiet rfl (q_move rfl) rfl (Calm.then Post.calm) ?_
      refine AtO.quiet rfl (q_extract rfl rfl) rfl (Calm.then Post.calm) ?_
      refine AtO.quiet rfl (q_extract rfl rfl) rfl (Calm.then Post.calm) ?_
      refine AtO.loudA rfl (l_alloc t80) rfl (by rintro _ _ _ ⟨_, rfl, rfl, rfl⟩; exact ⟨fun _ h => h, .cons _ (.refl _)⟩) ?_
      rintro _ _ _ ⟨b5, rfl, rfl, rfl⟩
      refine AtO.quiet rfl (q_assign rfl) rfl (Calm.then Post.calm) ?_
      refine AtO.done ?_
      refine At.loudN (l_store t80 rfl rfl (i := 0) rfl rfl rfl rfl) ?_
      rintro _ _ _ ⟨rfl, rfl⟩
      refine At.nil ?_
      refine At.then ?_
      exact At.meetK s1 hs1 (Tells.meet 13 ⟨rfl, trivial⟩ rfl rfl) (fun _ h => ⟨h.1, h.2.2⟩) (.cons _ (.refl _))
    · skip
      refine AtO.loudA rfl (l_alloc t80) rfl (by rintro _ _ _ ⟨_, rfl, rfl, rfl⟩; exact ⟨fun _ h => h, .cons _ (.refl _)⟩) ?_
      rintro _ _ _ ⟨b6, rfl, rfl, rfl⟩
      refine AtO.callA rfl en113 rfl (do113 x.ps o (by omega)) (fun _ h => ⟨h.2.2.2.2.1, trivial⟩) (List.Perm.refl _) rfl (.refl _) ?_
      rintro _ _ _ ⟨s1, s2, rfl, rfl, rfl, hs1, hs2⟩
      refine AtO.quiet rfl (q_move rfl) rfl (Calm.then Post.calm) ?_
      refine AtO.quiet rfl (q_extract rfl rfl) rfl (Calm.then Post.calm) ?_
      refine AtO.quiet rfl (q_extract rfl rfl) rfl (Calm.then Post.calm) ?_
      refine AtO.quiet rfl (q_assign rfl) rfl (Calm.then Post.calm) ?_
      refine AtO.done ?_
      refine At.loudN (l_store t80 rfl rfl (i := 0) rfl rfl rfl rfl) ?_
      rintro _ _ _ ⟨rfl, rfl⟩
      refine At.nil ?_
      refine At.then ?_
      exact At.meetK s1 hs1 (Tells.meet 13 ⟨rfl, trivial⟩ rfl rfl) (fun _ h => ⟨h.1, h.2.2⟩) (.cons _ (.refl _))
  intro s9 hs9
  have hsl9 : s9.l.length ≤ 1000000 := by have h1 := do_len x.ps.l o; rw [hs9]; have h2 := leaf_le hs hmt hx; omega
  refine At.cutD (ι := Nat × Tr) .z [10, 11, 28, 29, 30, 31, 32, 33, 34, 35, 36, 37, 38, 39, 40, 41, 42] (fun ⟨b9, u⟩ => [(10, .pointer (some ⟨b9, 0, none⟩))]) (fun ⟨b9, u⟩ => [ndsP u.ns, psP u.ns.l]) (fun ⟨b9, u⟩ => [[(b9, .cells #[.int .i64 u.root, u.ns.val] 24 (0, 0))]]) (fun ⟨b9, u⟩ => u.p = setD t.p ((findD t.p o.key).leaf : Int) (doT x.ps.l o).1 (nextS p x.stat 2)) ?_ ?_
  · skip
    refine At.draw 17 (.q 0 (.q 1 (.q 2 (.q 3 (.q 4 (.q 5 (.q 6 (.q 7 (.q 8 (.q 9 (.t 10 (.t 11 (.q 12 (.q 13 (.q 14 (.o 15 (.o 16 (.e)))))) 15 (.o 11 (.q 12 (.q 13 (.q 14 (.o 16 (.e))))))) 15 (.o 10 (.o 11 (.q 12 (.q 13 (.q 14 (.o 16 (.e)))))))))))))))))) _ (List.Sublist.refl _) mixed (by kernel_rfl) rfl ?_
    refine AtO.quiet rfl (q_loadS t24 rfl (RdS.blk (.tail _ (.tail _ (.tail _ (.tail _ (.head _))))) (m := 2) rfl) rfl) rfl (Calm.then Post.calm) ?_
    refine AtO.quiet rfl (q_move rfl) rfl (Calm.then Post.calm) ?_
    refine AtO.quiet rfl (q_move rfl) rfl (Calm.then Post.calm) ?_
    refine AtO.quiet rfl (q_loadS t64 rfl (RdS.blk (.tail _ (.tail _ (.tail _ (.head _)))) (m := 5) rfl) rfl) rfl (Calm.then Post.calm) ?_
    refine AtO.quiet rfl (q_fieldAddr s24 rfl rfl rfl) rfl (Calm.then Post.calm) ?_
    refine AtO.quiet rfl (q_load t22 rfl (Rd.blk (.tail _ (.tail _ (.tail _ (.tail _ (.head _))))) rfl)) rfl (Calm.then Post.calm) ?_
    refine AtO.quiet rfl (q_move rfl) rfl (Calm.then Post.calm) ?_
    refine AtO.quiet rfl (q_index Try.underlying22 t33 rfl (.tail _ (.tail _ (.tail _ (.tail _ (.tail _ (.tail _ (.tail _ (.head _)))))))) (by simp) rfl rfl (lt_of_get hx)) rfl (Calm.then Post.calm) ?_
    refine AtO.quiet rfl (q_fieldAddr s33 rfl rfl rfl) rfl (Calm.then Post.calm) ?_
    refine AtO.quiet rfl (q_load t3 rfl (Rd.sl (.tail _ (.tail _ (.tail _ (.tail _ (.tail _ (.tail _ (.tail _ (.head _)))))))) (map_get hx) rfl)) rfl (Calm.then Post.calm) ?_
    refine AtO.two ?_ ?_
    · skip
      refine AtO.call rfl en114 rfl (next114 p x.stat 2) (fun _ _ => trivial) (List.Perm.refl _) rfl (.refl _) ?_
      rintro _ _ _ ⟨rfl, rfl, rfl⟩
      refine AtO.two ?_ ?_
      · skip
        refine AtO.call rfl en34 rfl (set34f t hsm ((findD t.p o.key).leaf : Int) s9 hsl9 (nextS p x.stat 2)) (fun _ h => ⟨h.2.2.2.2.2.2.2.1, h.2.2.2.2.2.2.2.2.1, h.1, trivial⟩) (List.Perm.refl _) rfl (.refl _) ?_
        rintro _ _ _ ⟨u, rfl, rfl, rfl, hpu⟩
        refine AtO.quiet rfl (q_move rfl) rfl (Calm.then Post.calm) ?_
        refine AtO.quiet rfl (q_extract rfl rfl) rfl (Calm.then Post.calm) ?_
        refine AtO.quiet rfl (q_extract rfl rfl) rfl (Calm.then Post.calm) ?_
        refine AtO.loud rfl (l_alloc t24) rfl (by rintro _ _ _ ⟨_, rfl, rfl, rfl⟩; exact ⟨fun _ h => h, .cons _ (.refl _)⟩) ?_
        rintro _ _ _ ⟨b7, rfl, rfl, rfl⟩
        refine AtO.loudNA rfl (l_store t24 rfl rfl (i := 0) rfl rfl rfl rfl) (by rintro _ _ _ ⟨rfl, rfl⟩; exact ⟨fun _ h => h, (.cons _ (.cons_cons _ (.refl _)))⟩) ?_
        rintro _ _ _ ⟨rfl, rfl⟩
        refine AtO.done ?_
        refine At.skim 1 rfl rfl ?_
        refine At.nil ?_
        refine At.then ?_
        exact At.meetK (b7, u) (by rw [← hs9]; exact hpu) (Tells.meet 17 ⟨rfl, trivial⟩ rfl rfl) (fun _ h => ⟨h.1, ⟨h.2.1, h.2.2⟩⟩) (.cons_cons _ (.refl _))
      · skip
        refine AtO.loud rfl (l_alloc t24) rfl (by rintro _ _ _ ⟨_, rfl, rfl, rfl⟩; exact ⟨fun _ h => h, .cons _ (.refl _)⟩) ?_
        rintro _ _ _ ⟨b8, rfl, rfl, rfl⟩
        refine AtO.call rfl en34 rfl (set34f t hsm ((findD t.p o.key).leaf : Int) s9 hsl9 (nextS p x.stat 2)) (fun _ h => ⟨h.2.2.2.2.2.2.2.1, h.2.2.2.2.2.2.2.2.1, h.1, trivial⟩) (List.Perm.refl _) rfl (.cons _ (.cons_cons _ (.refl _))) ?_
        rintro _ _ _ ⟨u, rfl, rfl, rfl, hpu⟩
        refine AtO.quiet rfl (q_move rfl) rfl (Calm.then Post.calm) ?_
        refine AtO.quiet rfl (q_extract rfl rfl) rfl (Calm.then Post.calm) ?_
        refine AtO.quiet rfl (q_extract rfl rfl) rfl (Calm.then Post.calm) ?_
        refine AtO.loudNA rfl (l_store t24 rfl rfl (i := 0) rfl rfl rfl rfl) (by rintro _ _ _ ⟨rfl, rfl⟩; exact ⟨fun _ h => h, (.cons _ (.cons_cons _ (.refl _)))⟩) ?_
        rintro _ _ _ ⟨rfl, rfl⟩
        refine AtO.done ?_
        refine At.skim 1 rfl rfl ?_
        refine At.nil ?_
        refine At.then ?_
        exact At.meetK (b8, u) (by rw [← hs9]; exact hpu) (Tells.meet 17 ⟨rfl, trivial⟩ rfl rfl) (fun _ h => ⟨h.1, ⟨h.2.1, h.2.2⟩⟩) (.cons_cons _ (.refl _))
    · skip
      refine AtO.loud rfl (l_alloc t24) rfl (by rintro _ _ _ ⟨_, rfl, rfl, rfl⟩; exact ⟨fun _ h => h, .cons _ (.refl _)⟩) ?_
      rintro _ _ _ ⟨b9, rfl, rfl, rfl⟩
      refine AtO.call rfl en114 rfl (next114 p x.stat 2) (fun _ _ => trivial) (List.Perm.refl _) rfl (.cons _ (.cons_cons _ (.refl _))) ?_
      rintro _ _ _ ⟨rfl, rfl, rfl⟩
      refine AtO.call rfl en34 rfl (set34f t hsm ((findD t.p o.key).leaf : Int) s9 hsl9 (nextS p x.stat 2)) (fun _ h => ⟨h.2.2.2.2.2.2.2.1, h.2.2.2.2.2.2.2.2.1, h.1, trivial⟩) (List.Perm.refl _) rfl (.cons _ (.cons_cons _ (.refl _))) ?_
      rintro _ _ _ ⟨u, rfl, rfl, rfl, hpu⟩
      refine AtO.quiet rfl (q_move rfl) rfl (Calm.then Post.calm) ?_
      refine AtO.quiet rfl (q_extract rfl rfl) rfl (Calm.then Post.calm) ?_
      refine AtO.quiet rfl (q_extract rfl rfl) rfl (Calm.then Post.calm) ?_
      refine AtO.loudNA rfl (l_store t24 rfl rfl (i := 0) rfl rfl rfl rfl) (by rintro _ _ _ ⟨rfl, rfl⟩; exact ⟨fun _ h => h, (.cons _ (.cons_cons _ (.refl _)))⟩) ?_
      rintro _ _ _ ⟨rfl, rfl⟩
      refine AtO.done ?_
      refine At.skim 1 rfl rfl ?_
      refine At.nil ?_
      refine At.then ?_
      exact At.meetK (b9, u) (by rw [← hs9]; exact hpu) (Tells.meet 17 ⟨rfl, trivial⟩ rfl rfl) (fun _ h => ⟨h.1, ⟨h.2.1, h.2.2⟩⟩) (.cons_cons _ (.refl _))
  intro j0 hpu
  obtain ⟨b9, u⟩ := j0
  obtain ⟨hq1, hq2, hq3, hq4, hq5, hq6, hq7⟩ := upd_set (st := nextS p x.stat 2) hs hmo hu rfl (hn.trans (congrArg some hxp.symm)) (next_bd p x.stat 2).1 (next_bd p x.stat 2).2
  have hdl := do_len (allT t.p) o
  have hpu2 : u.p = (⟨t.p.root, t.p.ns.set (findD t.p o.key).leaf { x.p with l := (doT x.p.l o).1, stat := nextS p x.stat 2 }⟩ : PT) := by rw [hpu, setD]; exact congrArg (fun q => Option.getD q _) hq1
  have hus : smallP u.ns.l := small_all (b := 600001) (by rw [hpu2]; exact congrArg Option.isSome hq2) (by rw [hpu2]; show (allT ⟨_, _⟩).length ≤ _; rw [hq4]; omega) (by omega)
  refine At.seq ?_
  refine At.region ?_
  refine At.quiet (q_loadS t24 rfl (RdS.loc (i := 0) rfl (m := 2) rfl) rfl) rfl ?_
  refine At.quiet (q_loadS t64 rfl (RdS.blk (.tail _ (.tail _ (.tail _ (.tail _ (.tail _ (.head _)))))) (m := 5) rfl) rfl) rfl ?_
  refine At.skim 1 rfl rfl ?_
  refine At.call en51 rfl (bend51 u hus p ((findD t.p o.key).leaf : Int)) (fun _ h => ⟨h.1, h.2.1, trivial⟩) (List.Perm.refl _) rfl ?_
  rintro _ _ _ ⟨v, rfl, rfl, rfl, hpv⟩
  refine At.skim 1 rfl rfl ?_
  refine At.quiet (q_extract rfl rfl) rfl ?_
  refine At.quiet (q_extract rfl rfl) rfl ?_
  refine At.loudN (l_store t24 rfl rfl (i := 0) rfl rfl rfl rfl) ?_
  rintro _ _ _ ⟨rfl, rfl⟩
  refine At.nil ?_
  refine At.then ?_
  refine At.seq ?_
  refine At.region ?_
  refine At.quiet (q_loadS t24 rfl (RdS.loc (i := 0) rfl (m := 2) rfl) rfl) rfl ?_
  refine At.loudN (l_store t24 rfl rfl (i := 1) rfl rfl rfl rfl) ?_
  rintro _ _ _ ⟨rfl, rfl⟩
  refine At.nil ?_
  refine At.then ?_
  refine At.ret ?_
  exact At.results (Γr := [_, _]) (M := []) rfl (RVals.cons (RVal.cellS rfl t24 (RdS.loc (i := 1) rfl (m := 2) rfl) rfl) RVals.nil) (.tail _ (.tail _ (.tail _ (.tail _ (.tail _ (.tail _ (.tail _ (.tail _ (.tail _ (.tail _ (.head _))))))))))) (fun _ h => ⟨h.1, h.2.1, trivial⟩) (.cons _ (.cons _ (.refl _))) ⟨v, rfl, rfl, rfl, by rw [hpv, hpu]; unfold updT; rw [hgd]; rfl⟩
set_option maxHeartbeats 1000000 in
theorem several97 (t : Tr) (p : Pol) (s : Sh) (hs : mayT t.p = some s) (l : Sl Int) (L : List Nat) (hL : l.l = toI L) (hin : ∀ a ∈ L, a ∈ leavesT t.p) (h0 : L ≠ []) (hal : (allT t.p).length ≤ 600000) : Con Try.prog 97 [t.val, p.val, l.val] [ndsP t.ns, psP t.ns.l, intsP l] [] (TreeEnd (sevT t.p p L)) := by
  refine Con.body 46 Try.func97 rfl Try.ntmps97 rfl fun X H₀ L₀ => ?_
  refine At.lenOf (hs := (.tail _ (.tail _ (.tail _ (.head _))))) fun hlen => ?_
  rw [List.length_map] at hlen
  have hll : l.l.length = L.length := by rw [hL, toI_length]
  have h00 : l.l[0]? = some ((L.headD 0 : Nat) : Int) := by
    rw [hL]
    cases L with
    | nil => exact absurd rfl h0
    | cons a L => rfl
  refine At.seq ?_
  refine At.region ?_
  refine At.loud (l_box rfl) rfl ?_
  rintro _ _ _ ⟨b1, rfl, rfl, rfl⟩
  refine At.loud (l_box rfl) rfl ?_
  rintro _ _ _ ⟨b2, rfl, rfl, rfl⟩
  refine At.freeze 0 (φ := blk b2 _) rfl (fun _ h => blk_def.2 ⟨_, _, h⟩) ?_
  refine At.loud (l_alloc t24) rfl ?_
  rintro _ _ _ ⟨b3, rfl, rfl, rfl⟩
  refine At.nil ?_
  refine At.then ?_
  refine At.seq ?_
  refine At.seq ?_
  refine At.region ?_
  refine At.skim 1 rfl rfl ?_
  refine At.quiet (q_len Try.underlying37 rfl) rfl ?_
  refine At.skim 1 rfl rfl ?_
  refine At.nil ?_
  refine At.then ?_
  refine At.block ?_
  refine At.front 1 rfl ?_
  refine At.loopK (ι := Nat × Tr) [8, 11, 12, 13, 14, 15, 16, 17, 18, 19, 20, 21, 22, 23, 24, 25, 26, 27, 28, 29, 30, 31, 32, 33, 34, 35] (fun ⟨k, v⟩ => [(11, .int .i64 (k : Int))]) (fun ⟨k, v⟩ => [ndsP v.ns, psP v.ns.l]) (fun ⟨k, v⟩ => [[(b1, .cells #[.int .i64 v.root, v.ns.val] 24 (0, 0))]]) _ (fun ⟨k, v⟩ => k ≤ L.length ∧ v.p = (L.take k).foldl (setSt p) t.p) (fun ⟨k, v⟩ => L.length - k) (0, t) ⟨Nat.zero_le _, rfl⟩ ⟨rfl, trivial⟩ (fun _ h => ⟨h.2.2.1, h.2.2.2.1, trivial⟩) (.cons_cons _ (.refl _)) ?_
  intro i0 hI0
  obtain ⟨k, v⟩ := i0
  obtain ⟨hkl, hv⟩ := hI0
  obtain ⟨f1, f2, f3⟩ := sev_fold (p := p) (l := L.take k) hs (fun a ha => hin a (List.mem_of_mem_take ha))
  rw [← hv] at f1 f2 f3
  have hvs : smallP v.ns.l := small_all (b := 600000) (by rw [f1]; rfl) (by rw [f3]; exact hal) (by omega)
  refine At.seq ?_
  refine At.region ?_
  refine At.skim 1 rfl rfl ?_
  refine At.nil ?_
  refine At.then ?_
  refine At.seq ?_
  refine At.if rfl (fun hk => ?_) (fun hk => ?_)
  · skip
    obtain ⟨a, ha⟩ := get_of_lt (l := L) (i := k) (by omega)
    have hk1 := lt_of_get ha
    have hui : l.l[k]? = some (a : Int) := by rw [hL]; exact toI_get ha
    obtain ⟨n, hn, hnr, e1, e2, e3, e4, e5⟩ := sev_step (p := p) f1 (by rw [f2]; exact hin a (List.mem_of_getElem? ha))
    obtain ⟨x, hx, hxp⟩ := p_get (u := v) rfl hn
    have hxs := hvs x (List.mem_of_getElem? hx)
    have hst : setSt p v.p a = setD v.p (a : Int) x.ps.l (nextS p x.stat 3) := by
      unfold setSt
      rw [getD_of hn, ← hxp]; rfl
    refine At.skip ?_
    refine At.then ?_
    refine At.seq ?_
    refine At.block ?_
    refine At.seq ?_
    refine At.region ?_
    refine At.quiet (q_index Try.underlying37 t3 rfl (.tail _ (.tail _ (.tail _ (.tail _ (.tail _ (.tail _ (.head _))))))) (by simp) rfl rfl (lt_of_get hui)) rfl ?_
    refine At.know (prsP x.ps) (fun _ h => psP_get h.2.1 hx) ?_
    refine At.quiet (q_load t3 rfl (Rd.sl0 (.tail _ (.tail _ (.tail _ (.tail _ (.tail _ (.tail _ (.tail _ (.head _)))))))) (map_get hui) rfl)) rfl ?_
    refine At.skim 1 rfl rfl ?_
    refine At.nil ?_
    refine At.then ?_
    refine At.draw 21 (.q 1 (.q 2 (.q 4 (.q 8 (.q 9 (.q 11 (.u 0 (.t 3 (.q 5 (.q 6 (.q 7 (.o 10 (.q 12 (.q 13 (.q 14 (.o 15 (.o 16 (.q 17 (.q 18 (.q 19 (.o 20 (.e)))))))))))))) 10 (.q 12 (.q 13 (.q 14 (.t 3 (.q 5 (.q 6 (.q 7 (.o 15 (.o 16 (.q 17 (.q 18 (.q 19 (.o 20 (.e)))))))))) 15 (.o 3 (.q 5 (.q 6 (.q 7 (.o 16 (.q 17 (.q 18 (.q 19 (.o 20 (.e))))))))))))))) 3 (.q 5 (.q 6 (.q 7 (.t 0 (.o 10 (.q 12 (.q 13 (.q 14 (.o 15 (.o 16 (.q 17 (.q 18 (.q 19 (.o 20 (.e))))))))))) 10 (.q 12 (.q 13 (.q 14 (.t 0 (.o 15 (.o 16 (.q 17 (.q 18 (.q 19 (.o 20 (.e))))))) 15 (.o 0 (.o 16 (.q 17 (.q 18 (.q 19 (.o 20 (.e))))))))))))))) 10 (.q 12 (.q 13 (.q 14 (.u 0 (.t 3 (.q 5 (.q 6 (.q 7 (.o 15 (.o 16 (.q 17 (.q 18 (.q 19 (.o 20 (.e)))))))))) 15 (.o 3 (.q 5 (.q 6 (.q 7 (.o 16 (.q 17 (.q 18 (.q 19 (.o 20 (.e))))))))))) 3 (.q 5 (.q 6 (.q 7 (.t 0 (.o 15 (.o 16 (.q 17 (.q 18 (.q 19 (.o 20 (.e))))))) 15 (.o 0 (.o 16 (.q 17 (.q 18 (.q 19 (.o 20 (.e))))))))))) 15 (.t 0 (.o 3 (.q 5 (.q 6 (.q 7 (.o 16 (.q 17 (.q 18 (.q 19 (.o 20 (.e)))))))))) 3 (.q 5 (.q 6 (.q 7 (.o 0 (.o 16 (.q 17 (.q 18 (.q 19 (.o 20 (.e)))))))))))))))))))))) (_ :: L₀) (.cons _ (.cons_cons _ (.refl _))) mixed (by kernel_rfl) rfl ?_
    refine AtO.quiet rfl (q_move rfl) rfl (Calm.inBlock (Calm.then (Calm.then (Calm.inBlock (Calm.then Post.calm))))) ?_
    refine AtO.quiet rfl (q_fieldAddr s24 rfl rfl rfl) rfl (Calm.inBlock (Calm.then (Calm.then (Calm.inBlock (Calm.then Post.calm))))) ?_
    refine AtO.quiet rfl (q_move rfl) rfl (Calm.inBlock (Calm.then (Calm.then (Calm.inBlock (Calm.then Post.calm))))) ?_
    refine AtO.quiet rfl (q_loadS t64 rfl (RdS.blk (.tail _ (.tail _ (.tail _ (.head _)))) (m := 5) rfl) rfl) rfl (Calm.inBlock (Calm.then (Calm.then (Calm.inBlock (Calm.then Post.calm))))) ?_
    refine AtO.quiet rfl (q_fieldAddr s24 rfl rfl rfl) rfl (Calm.inBlock (Calm.then (Calm.then (Calm.inBlock (Calm.then Post.calm))))) ?_
    refine AtO.quiet rfl (q_move rfl) rfl (Calm.inBlock (Calm.then (Calm.then (Calm.inBlock (Calm.then Post.calm))))) ?_
    refine AtO.three ?_ ?_ ?_
    · skip
      refine AtO.loud rfl (Quiet.loud (q_loadS t24 rfl (RdS.loc (i := 0) rfl (m := 2) rfl) rfl)) rfl (by rintro _ _ _ ⟨rfl, rfl, rfl⟩; exact ⟨fun _ h => h, (.cons _ (.cons_cons _ (.refl _)))⟩) ?_
      rintro _ _ _ ⟨rfl, rfl, rfl⟩
      refine AtO.two ?_ ?_
      · skip
        refine AtO.loud rfl (Quiet.loud (q_load t22 rfl (Rd.loc (i := 0) rfl rfl))) rfl (by rintro _ _ _ ⟨rfl, rfl, rfl⟩; exact ⟨fun _ h => h, (.cons _ (.cons_cons _ (.refl _)))⟩) ?_
        rintro _ _ _ ⟨rfl, rfl, rfl⟩
        refine AtO.quiet rfl (q_index Try.underlying22 t33 rfl (.tail _ (.head _)) (by simp) rfl rfl (lt_of_get hx)) rfl (Calm.inBlock (Calm.then (Calm.then (Calm.inBlock (Calm.then Post.calm))))) ?_
        refine AtO.quiet rfl (q_fieldAddr s33 rfl rfl rfl) rfl (Calm.inBlock (Calm.then (Calm.then (Calm.inBlock (Calm.then Post.calm))))) ?_
        refine AtO.quiet rfl (q_load t31 rfl (Rd.sl (.tail _ (.head _)) (map_get hx) rfl)) rfl (Calm.inBlock (Calm.then (Calm.then (Calm.inBlock (Calm.then Post.calm))))) ?_
        refine AtO.loud rfl (Quiet.loud (q_load t22 rfl (Rd.loc (i := 0) rfl rfl))) rfl (by rintro _ _ _ ⟨rfl, rfl, rfl⟩; exact ⟨fun _ h => h, (.cons _ (.cons_cons _ (.refl _)))⟩) ?_
        rintro _ _ _ ⟨rfl, rfl, rfl⟩
        refine AtO.quiet rfl (q_index Try.underlying22 t33 rfl (.tail _ (.head _)) (by simp) rfl rfl (lt_of_get hx)) rfl (Calm.inBlock (Calm.then (Calm.then (Calm.inBlock (Calm.then Post.calm))))) ?_
        refine AtO.quiet rfl (q_fieldAddr s33 rfl rfl rfl) rfl (Calm.inBlock (Calm.then (Calm.then (Calm.inBlock (Calm.then Post.calm))))) ?_
        refine AtO.quiet rfl (q_load t3 rfl (Rd.sl (.tail _ (.head _)) (map_get hx) rfl)) rfl (Calm.inBlock (Calm.then (Calm.then (Calm.inBlock (Calm.then Post.calm))))) ?_
        refine AtO.call rfl en114 rfl (next114 _ _ _) (fun _ _ => trivial) (List.Perm.refl _) rfl (.cons _ (.cons_cons _ (.refl _))) ?_
        rintro _ _ _ ⟨rfl, rfl, rfl⟩
        refine AtO.call rfl en34 rfl (set34f v hvs (a : Int) x.ps hxs (nextS p x.stat 3)) (fun _ h => ⟨h.2.1, h.2.2.1, h.1, trivial⟩) (List.Perm.refl _) rfl (.cons _ (.cons_cons _ (.refl _))) ?_
        rintro _ _ _ ⟨u, rfl, rfl, rfl, hpu⟩
        refine AtO.quiet rfl (q_move rfl) rfl (Calm.inBlock (Calm.then (Calm.then (Calm.inBlock (Calm.then Post.calm))))) ?_
        refine AtO.quiet rfl (q_extract rfl rfl) rfl (Calm.inBlock (Calm.then (Calm.then (Calm.inBlock (Calm.then Post.calm))))) ?_
        refine AtO.quiet rfl (q_extract rfl rfl) rfl (Calm.inBlock (Calm.then (Calm.then (Calm.inBlock (Calm.then Post.calm))))) ?_
        refine AtO.loudNA rfl (l_store t24 rfl rfl (i := 0) rfl rfl rfl rfl) (by rintro _ _ _ ⟨rfl, rfl⟩; exact ⟨fun _ h => h, (.cons _ (.cons_cons _ (.refl _)))⟩) ?_
        rintro _ _ _ ⟨rfl, rfl⟩
        refine AtO.done ?_
        refine At.nil ?_
        refine At.inNormal ?_
        refine At.then ?_
        refine At.region ?_
        refine At.quiet (q_add rfl rfl (by omega) (by omega)) rfl ?_
        refine At.skim 1 rfl rfl ?_
        refine At.nil ?_
        refine At.then ?_
        exact At.againK (k + 1, u) ⟨hk1, by rw [hpu, ← hst, hv, List.take_succ_eq_append_getElem hk1, List.foldl_append, (List.getElem?_eq_some_iff.1 ha).2]; rfl⟩ (by (try dsimp only); omega) (Tells.end 27 ⟨rfl, trivial⟩ rfl rfl) (fun _ h => ⟨h.1, ⟨h.2.1, h.2.2.2.2.2⟩⟩) (.cons_cons _ (.refl _))
      · skip
        refine AtO.loud rfl (Quiet.loud (q_load t22 rfl (Rd.loc (i := 0) rfl rfl))) rfl (by rintro _ _ _ ⟨rfl, rfl, rfl⟩; exact ⟨fun _ h => h, (.cons _ (.cons_cons _ (.refl _)))⟩) ?_
        rintro _ _ _ ⟨rfl, rfl, rfl⟩
        refine AtO.quiet rfl (q_index Try.underlying22 t33 rfl (.tail _ (.head _)) (by simp) rfl rfl (lt_of_get hx)) rfl (Calm.inBlock (Calm.then (Calm.then (Calm.inBlock (Calm.then Post.calm))))) ?_
        refine AtO.quiet rfl (q_fieldAddr s33 rfl rfl rfl) rfl (Calm.inBlock (Calm.then (Calm.then (Calm.inBlock (Calm.then Post.calm))))) ?_
        refine AtO.quiet rfl (q_load t3 rfl (Rd.sl (.tail _ (.head _)) (map_get hx) rfl)) rfl (Calm.inBlock (Calm.then (Calm.then (Calm.inBlock (Calm.then Post.calm))))) ?_
        refine AtO.two ?_ ?_
        · skip
          refine AtO.loud rfl (Quiet.loud (q_load t22 rfl (Rd.loc (i := 0) rfl rfl))) rfl (by rintro _ _ _ ⟨rfl, rfl, rfl⟩; exact ⟨fun _ h => h, (.cons _ (.cons_cons _ (.refl _)))⟩) ?_
          rintro _ _ _ ⟨rfl, rfl, rfl⟩
          refine AtO.quiet rfl (q_index Try.underlying22 t33 rfl (.tail _ (.head _)) (by simp) rfl rfl (lt_of_get hx)) rfl (Calm.inBlock (Calm.then (Calm.then (Calm.inBlock (Calm.then Post.calm))))) ?_
          refine AtO.quiet rfl (q_fieldAddr s33 rfl rfl rfl) rfl (Calm.inBlock (Calm.then (Calm.then (Calm.inBlock (Calm.then Post.calm))))) ?_
          refine AtO.quiet rfl (q_load t31 rfl (Rd.sl (.tail _ (.head _)) (map_get hx) rfl)) rfl (Calm.inBlock (Calm.then (Calm.then (Calm.inBlock (Calm.then Post.calm))))) ?_
          refine AtO.call rfl en114 rfl (next114 _ _ _) (fun _ _ => trivial) (List.Perm.refl _) rfl (.cons _ (.cons_cons _ (.refl _))) ?_
          rintro _ _ _ ⟨rfl, rfl, rfl⟩
          refine AtO.call rfl en34 rfl (set34f v hvs (a : Int) x.ps hxs (nextS p x.stat 3)) (fun _ h => ⟨h.2.1, h.2.2.1, h.1, trivial⟩) (List.Perm.refl _) rfl (.cons _ (.cons_cons _ (.refl _))) ?_
          rintro _ _ _ ⟨u, rfl, rfl, rfl, hpu⟩
          refine AtO.quiet rfl (q_move rfl) rfl (Calm.inBlock (Calm.then (Calm.then (Calm.inBlock (Calm.then Post.calm))))) ?_
          refine AtO.quiet rfl (q_extract rfl rfl) rfl (Calm.inBlock (Calm.then (Calm.then (Calm.inBlock (Calm.then Post.calm))))) ?_
          refine AtO.quiet rfl (q_extract rfl rfl) rfl (Calm.inBlock (Calm.then (Calm.then (Calm.inBlock (Calm.then Post.calm))))) ?_
          refine AtO.loudNA rfl (l_store t24 rfl rfl (i := 0) rfl rfl rfl rfl) (by rintro _ _ _ ⟨rfl, rfl⟩; exact ⟨fun _ h => h, (.cons _ (.cons_cons _ (.refl _)))⟩) ?_
          rintro _ _ _ ⟨rfl, rfl⟩
          refine AtO.done ?_
          refine At.nil ?_
          refine At.inNormal ?_
          refine At.then ?_
          refine At.region ?_
          refine At.quiet (q_add rfl rfl (by omega) (by omega)) rfl ?_
          refine At.skim 1 rfl rfl ?_
          refine At.nil ?_
          refine At.then ?_
          exact At.againK (k + 1, u) ⟨hk1, by rw [hpu, ← hst, hv, List.take_succ_eq_append_getElem hk1, List.foldl_append, (List.getElem?_eq_some_iff.1 ha).2]; rfl⟩ (by (try dsimp only); omega) (Tells.end 27 ⟨rfl, trivial⟩ rfl rfl) (fun _ h => ⟨h.1, ⟨h.2.1, h.2.2.2.2.2⟩⟩) (.cons_cons _ (.refl _))
        · skip
          refine AtO.call rfl en114 rfl (next114 _ _ _) (fun _ _ => trivial) (List.Perm.refl _) rfl (.cons _ (.cons_cons _ (.refl _))) ?_
          rintro _ _ _ ⟨rfl, rfl, rfl⟩
          refine AtO.loud rfl (Quiet.loud (q_load t22 rfl (Rd.loc (i := 0) rfl rfl))) rfl (by rintro _ _ _ ⟨rfl, rfl, rfl⟩; exact ⟨fun _ h => h, (.cons _ (.cons_cons _ (.refl _)))⟩) ?_
          rintro _ _ _ ⟨rfl, rfl, rfl⟩
          refine AtO.quiet rfl (q_index Try.underlying22 t33 rfl (.tail _ (.head _)) (by simp) rfl rfl (lt_of_get hx)) rfl (Calm.inBlock (Calm.then (Calm.then (Calm.inBlock (Calm.then Post.calm))))) ?_
          refine AtO.quiet rfl (q_fieldAddr s33 rfl rfl rfl) rfl (Calm.inBlock (Calm.then (Calm.then (Calm.inBlock (Calm.then Post.calm))))) ?_
          refine AtO.quiet rfl (q_load t31 rfl (Rd.sl (.tail _ (.head _)) (map_get hx) rfl)) rfl (Calm.inBlock (Calm.then (Calm.then (Calm.inBlock (Calm.then Post.calm))))) ?_
          refine AtO.call rfl en34 rfl (set34f v hvs (a : Int) x.ps hxs (nextS p x.stat 3)) (fun _ h => ⟨h.2.1, h.2.2.1, h.1, trivial⟩) (List.Perm.refl _) rfl (.cons _ (.cons_cons _ (.refl _))) ?_
          rintro _ _ _ ⟨u, rfl, rfl, rfl, hpu⟩
          refine AtO.quiet rfl (q_move rfl) rfl (Calm.inBlock (Calm.then (Calm.then (Calm.inBlock (Calm.then Post.calm))))) ?_
          refine AtO.quiet rfl (q_extract rfl rfl) rfl (Calm.inBlock (Calm.then (Calm.then (Calm.inBlock (Calm.then Post.calm))))) ?_
          refine AtO.quiet rfl (q_extract rfl rfl) rfl (Calm.inBlock (Calm.then (Calm.then (Calm.inBlock (Calm.then Post.calm))))) ?_
          refine AtO.loudNA rfl (l_store t24 rfl rfl (i := 0) rfl rfl rfl rfl) (by rintro _ _ _ ⟨rfl, rfl⟩; exact ⟨fun _ h => h, (.cons _ (.cons_cons _ (.refl _)))⟩) ?_
          rintro _ _ _ ⟨rfl, rfl⟩
          refine AtO.done ?_
          refine At.nil ?_
          refine At.inNormal ?_
          refine At.then ?_
          refine At.region ?_
          refine At.quiet (q_add rfl rfl (by omega) (by omega)) rfl ?_
          refine At.skim 1 rfl rfl ?_
          refine At.nil ?_
          refine At.then ?_
          exact At.againK (k + 1, u) ⟨hk1, by rw [hpu, ← hst, hv, List.take_succ_eq_append_getElem hk1, List.foldl_append, (List.getElem?_eq_some_iff.1 ha).2]; rfl⟩ (by (try dsimp only); omega) (Tells.end 27 ⟨rfl, trivial⟩ rfl rfl) (fun _ h => ⟨h.1, ⟨h.2.1, h.2.2.2.2.2⟩⟩) (.cons_cons _ (.refl _))
    · skip
      refine AtO.loud rfl (Quiet.loud (q_load t22 rfl (Rd.loc (i := 0) rfl rfl))) rfl (by rintro _ _ _ ⟨rfl, rfl, rfl⟩; exact ⟨fun _ h => h, (.cons _ (.cons_cons _ (.refl _)))⟩) ?_
      rintro _ _ _ ⟨rfl, rfl, rfl⟩
      refine AtO.quiet rfl (q_index Try.underlying22 t33 rfl (.tail _ (.head _)) (by simp) rfl rfl (lt_of_get hx)) rfl (Calm.inBlock (Calm.then (Calm.then (Calm.inBlock (Calm.then Post.calm))))) ?_
      refine AtO.quiet rfl (q_fieldAddr s33 rfl rfl rfl) rfl (Calm.inBlock (Calm.then (Calm.then (Calm.inBlock (Calm.then Post.calm))))) ?_
      refine AtO.quiet rfl (q_load t31 rfl (Rd.sl (.tail _ (.head _)) (map_get hx) rfl)) rfl (Calm.inBlock (Calm.then (Calm.then (Calm.inBlock (Calm.then Post.calm))))) ?_
      refine AtO.two ?_ ?_
      · skip
        refine AtO.loud rfl (Quiet.loud (q_loadS t24 rfl (RdS.loc (i := 0) rfl (m := 2) rfl) rfl)) rfl (by rintro _ _ _ ⟨rfl, rfl, rfl⟩; exact ⟨fun _ h => h, (.cons _ (.cons_cons _ (.refl _)))⟩) ?_
        rintro _ _ _ ⟨rfl, rfl, rfl⟩
        refine AtO.loud rfl (Quiet.loud (q_load t22 rfl (Rd.loc (i := 0) rfl rfl))) rfl (by rintro _ _ _ ⟨rfl, rfl, rfl⟩; exact ⟨fun _ h => h, (.cons _ (.cons_cons _ (.refl _)))⟩) ?_
        rintro _ _ _ ⟨rfl, rfl, rfl⟩
        refine AtO.quiet rfl (q_index Try.underlying22 t33 rfl (.tail _ (.head _)) (by simp) rfl rfl (lt_of_get hx)) rfl (Calm.inBlock (Calm.then (Calm.then (Calm.inBlock (Calm.then Post.calm))))) ?_
        refine AtO.quiet rfl (q_fieldAddr s33 rfl rfl rfl) rfl (Calm.inBlock (Calm.then (Calm.then (Calm.inBlock (Calm.then Post.calm))))) ?_
        refine AtO.quiet rfl (q_load t3 rfl (Rd.sl (.tail _ (.head _)) (map_get hx) rfl)) rfl (Calm.inBlock (Calm.then (Calm.then (Calm.inBlock (Calm.then Post.calm))))) ?_
        refine AtO.call rfl en114 rfl (next114 _ _ _) (fun _ _ => trivial) (List.Perm.refl _) rfl (.cons _ (.cons_cons _ (.refl _))) ?_
        rintro _ _ _ ⟨rfl, rfl, rfl⟩
        refine AtO.call rfl en34 rfl (set34f v hvs (a : Int) x.ps hxs (nextS p x.stat 3)) (fun _ h => ⟨h.2.1, h.2.2.1, h.1, trivial⟩) (List.Perm.refl _) rfl (.cons _ (.cons_cons _ (.refl _))) ?_
        rintro _ _ _ ⟨u, rfl, rfl, rfl, hpu⟩
        refine AtO.quiet rfl (q_move rfl) rfl (Calm.inBlock (Calm.then (Calm.then (Calm.inBlock (Calm.then Post.calm))))) ?_
        refine AtO.quiet rfl (q_extract rfl rfl) rfl (Calm.inBlock (Calm.then (Calm.then (Calm.inBlock (Calm.then Post.calm))))) ?_
        refine AtO.quiet rfl (q_extract rfl rfl) rfl (Calm.inBlock (Calm.then (Calm.then (Calm.inBlock (Calm.then Post.calm))))) ?_
        refine AtO.loudNA rfl (l_store t24 rfl rfl (i := 0) rfl rfl rfl rfl) (by rintro _ _ _ ⟨rfl, rfl⟩; exact ⟨fun _ h => h, (.cons _ (.cons_cons _ (.refl _)))⟩) ?_
        rintro _ _ _ ⟨rfl, rfl⟩
        refine AtO.done ?_
        refine At.nil ?_
        refine At.inNormal ?_
        refine At.then ?_
        refine At.region ?_
        refine At.quiet (q_add rfl rfl (by omega) (by omega)) rfl ?_
        refine At.skim 1 rfl rfl ?_
        refine At.nil ?_
        refine At.then ?_
        exact At.againK (k + 1, u) ⟨hk1, by rw [hpu, ← hst, hv, List.take_succ_eq_append_getElem hk1, List.foldl_append, (List.getElem?_eq_some_iff.1 ha).2]; rfl⟩ (by (try dsimp only); omega) (Tells.end 27 ⟨rfl, trivial⟩ rfl rfl) (fun _ h => ⟨h.1, ⟨h.2.1, h.2.2.2.2.2⟩⟩) (.cons_cons _ (.refl _))
      · skip
        refine AtO.loud rfl (Quiet.loud (q_load t22 rfl (Rd.loc (i := 0) rfl rfl))) rfl (by rintro _ _ _ ⟨rfl, rfl, rfl⟩; exact ⟨fun _ h => h, (.cons _ (.cons_cons _ (.refl _)))⟩) ?_
        rintro _ _ _ ⟨rfl, rfl, rfl⟩
        refine AtO.quiet rfl (q_index Try.underlying22 t33 rfl (.tail _ (.head _)) (by simp) rfl rfl (lt_of_get hx)) rfl (Calm.inBlock (Calm.then (Calm.then (Calm.inBlock (Calm.then Post.calm))))) ?_
        refine AtO.quiet rfl (q_fieldAddr s33 rfl rfl rfl) rfl (Calm.inBlock (Calm.then (Calm.then (Calm.inBlock (Calm.then Post.calm))))) ?_
        refine AtO.quiet rfl (q_load t3 rfl (Rd.sl (.tail _ (.head _)) (map_get hx) rfl)) rfl (Calm.inBlock (Calm.then (Calm.then (Calm.inBlock (Calm.then Post.calm))))) ?_
        refine AtO.two ?_ ?_
        · skip
          refine AtO.loud rfl (Quiet.loud (q_loadS t24 rfl (RdS.loc (i := 0) rfl (m := 2) rfl) rfl)) rfl (by rintro _ _ _ ⟨rfl, rfl, rfl⟩; exact ⟨fun _ h => h, (.cons _ (.cons_cons _ (.refl _)))⟩) ?_
          rintro _ _ _ ⟨rfl, rfl, rfl⟩
          refine AtO.call rfl en114 rfl (next114 _ _ _) (fun _ _ => trivial) (List.Perm.refl _) rfl (.cons _ (.cons_cons _ (.refl _))) ?_
          rintro _ _ _ ⟨rfl, rfl, rfl⟩
          refine AtO.call rfl en34 rfl (set34f v hvs (a : Int) x.ps hxs (nextS p x.stat 3)) (fun _ h => ⟨h.2.1, h.2.2.1, h.1, trivial⟩) (List.Perm.refl _) rfl (.cons _ (.cons_cons _ (.refl _))) ?_
          rintro _ _ _ ⟨u, rfl, rfl, rfl, hpu⟩
          refine AtO.quiet rfl (q_move rfl) rfl (Calm.inBlock (Calm.then (Calm.then (Calm.inBlock (Calm.then Post.calm))))) ?_
          refine AtO.quiet rfl (q_extract rfl rfl) rfl (Calm.inBlock (Calm.then (Calm.then (Calm.inBlock (Calm.then Post.calm))))) ?_
          refine AtO.quiet rfl (q_extract rfl rfl) rfl (Calm.inBlock (Calm.then (Calm.then (Calm.inBlock (Calm.then Post.calm))))) ?_
          refine AtO.loudNA rfl (l_store t24 rfl rfl (i := 0) rfl rfl rfl rfl) (by rintro _ _ _ ⟨rfl, rfl⟩; exact ⟨fun _ h => h, (.cons _ (.cons_cons _ (.refl _)))⟩) ?_
          rintro _ _ _ ⟨rfl, rfl⟩
          refine AtO.done ?_
          refine At.nil ?_
          refine At.inNormal ?_
          refine At.then ?_
          refine At.region ?_
          refine At.quiet (q_add rfl rfl (by omega) (by omega)) rfl ?_
          refine At.skim 1 rfl rfl ?_
          refine At.nil ?_
          refine At.then ?_
          exact At.againK (k + 1, u) ⟨hk1, by rw [hpu, ← hst, hv, List.take_succ_eq_append_getElem hk1, List.foldl_append, (List.getElem?_eq_some_iff.1 ha).2]; rfl⟩ (by (try dsimp only); omega) (Tells.end 27 ⟨rfl, trivial⟩ rfl rfl) (fun _ h => ⟨h.1, ⟨h.2.1, h.2.2.2.2.2⟩⟩) (.cons_cons _ (.refl _))
        · skip
          refine AtO.call rfl en114 rfl (next114 _ _ _) (fun _ _ => trivial) (List.Perm.refl _) rfl (.cons _ (.cons_cons _ (.refl _))) ?_
          rintro _ _ _ ⟨rfl, rfl, rfl⟩
          refine AtO.loud rfl (Quiet.loud (q_loadS t24 rfl (RdS.loc (i := 0) rfl (m := 2) rfl) rfl)) rfl (by rintro _ _ _ ⟨rfl, rfl, rfl⟩; exact ⟨fun _ h => h, (.cons _ (.cons_cons _ (.refl _)))⟩) ?_
          rintro _ _ _ ⟨rfl, rfl, rfl⟩
          refine AtO.call rfl en34 rfl (set34f v hvs (a : Int) x.ps hxs (nextS p x.stat 3)) (fun _ h => ⟨h.2.1, h.2.2.1, h.1, trivial⟩) (List.Perm.refl _) rfl (.cons _ (.cons_cons _ (.refl _))) ?_
          rintro _ _ _ ⟨u, rfl, rfl, rfl, hpu⟩
          refine AtO.quiet rfl (q_move rfl) rfl (Calm.inBlock (Calm.then (Calm.then (Calm.inBlock (Calm.then Post.calm))))) ?_
          refine AtO.quiet rfl (q_extract rfl rfl) rfl (Calm.inBlock (Calm.then (Calm.then (Calm.inBlock (Calm.then Post.calm))))) ?_
          refine AtO.quiet rfl (q_extract rfl rfl) rfl (Calm.inBlock (Calm.then (Calm.then (Calm.inBlock (Calm.then Post.calm))))) ?_
          refine AtO.loudNA rfl (l_store t24 rfl rfl (i := 0) rfl rfl rfl rfl) (by rintro _ _ _ ⟨rfl, rfl⟩; exact ⟨fun _ h => h, (.cons _ (.cons_cons _ (.refl _)))⟩) ?_
          rintro _ _ _ ⟨rfl, rfl⟩
          refine AtO.done ?_
          refine At.nil ?_
          refine At.inNormal ?_
          refine At.then ?_
          refine At.region ?_
          refine At.quiet (q_add rfl rfl (by omega) (by omega)) rfl ?_
          refine At.skim 1 rfl rfl ?_
          refine At.nil ?_
          refine At.then ?_
          exact At.againK (k + 1, u) ⟨hk1, by rw [hpu, ← hst, hv, List.take_succ_eq_append_getElem hk1, List.foldl_append, (List.getElem?_eq_some_iff.1 ha).2]; rfl⟩ (by (try dsimp only); omega) (Tells.end 27 ⟨rfl, trivial⟩ rfl rfl) (fun _ h => ⟨h.1, ⟨h.2.1, h.2.2.2.2.2⟩⟩) (.cons_cons _ (.refl _))
    · skip
      refine AtO.loud rfl (Quiet.loud (q_load t22 rfl (Rd.loc (i := 0) rfl rfl))) rfl (by rintro _ _ _ ⟨rfl, rfl, rfl⟩; exact ⟨fun _ h => h, (.cons _ (.cons_cons _ (.refl _)))⟩) ?_
      rintro _ _ _ ⟨rfl, rfl, rfl⟩
      refine AtO.quiet rfl (q_index Try.underlying22 t33 rfl (.tail _ (.head _)) (by simp) rfl rfl (lt_of_get hx)) rfl (Calm.inBlock (Calm.then (Calm.then (Calm.inBlock (Calm.then Post.calm))))) ?_
      refine AtO.quiet rfl (q_fieldAddr s33 rfl rfl rfl) rfl (Calm.inBlock (Calm.then (Calm.then (Calm.inBlock (Calm.then Post.calm))))) ?_
      refine AtO.quiet rfl (q_load t3 rfl (Rd.sl (.tail _ (.head _)) (map_get hx) rfl)) rfl (Calm.inBlock (Calm.then (Calm.then (Calm.inBlock (Calm.then Post.calm))))) ?_
      refine AtO.three ?_ ?_ ?_
      · skip
        refine AtO.loud rfl (Quiet.loud (q_loadS t24 rfl (RdS.loc (i := 0) rfl (m := 2) rfl) rfl)) rfl (by rintro _ _ _ ⟨rfl, rfl, rfl⟩; exact ⟨fun _ h => h, (.cons _ (.cons_cons _ (.refl _)))⟩) ?_
        rintro _ _ _ ⟨rfl, rfl, rfl⟩
        refine AtO.two ?_ ?_
        · skip
          refine AtO.loud rfl (Quiet.loud (q_load t22 rfl (Rd.loc (i := 0) rfl rfl))) rfl (by rintro _ _ _ ⟨rfl, rfl, rfl⟩; exact ⟨fun _ h => h, (.cons _ (.cons_cons _ (.refl _)))⟩) ?_
          rintro _ _ _ ⟨rfl, rfl, rfl⟩
          refine AtO.quiet rfl (q_index Try.underlying22 t33 rfl (.tail _ (.head _)) (by simp) rfl rfl (lt_of_get hx)) rfl (Calm.inBlock (Calm.then (Calm.then (Calm.inBlock (Calm.then Post.calm))))) ?_
          refine AtO.quiet rfl (q_fieldAddr s33 rfl rfl rfl) rfl (Calm.inBlock (Calm.then (Calm.then (Calm.inBlock (Calm.then Post.calm))))) ?_
          refine AtO.quiet rfl (q_load t31 rfl (Rd.sl (.tail _ (.head _)) (map_get hx) rfl)) rfl (Calm.inBlock (Calm.then (Calm.then (Calm.inBlock (Calm.then Post.calm))))) ?_
          refine AtO.call rfl en114 rfl (next114 _ _ _) (fun _ _ => trivial) (List.Perm.refl _) rfl (.cons _ (.cons_cons _ (.refl _))) ?_
          rintro _ _ _ ⟨rfl, rfl, rfl⟩
          refine AtO.call rfl en34 rfl (set34f v hvs (a : Int) x.ps hxs (nextS p x.stat 3)) (fun _ h => ⟨h.2.1, h.2.2.1, h.1, trivial⟩) (List.Perm.refl _) rfl (.cons _ (.cons_cons _ (.refl _))) ?_
          rintro _ _ _ ⟨u, rfl, rfl, rfl, hpu⟩
          refine AtO.quiet rfl (q_move rfl) rfl (Calm.inBlock (Calm.then (Calm.then (Calm.inBlock (Calm.then Post.calm))))) ?_
          refine AtO.quiet rfl (q_extract rfl rfl) rfl (Calm.inBlock (Calm.then (Calm.then (Calm.inBlock (Calm.then Post.calm))))) ?_
          refine AtO.quiet rfl (q_extract rfl rfl) rfl (Calm.inBlock (Calm.then (Calm.then (Calm.inBlock (Calm.then Post.calm))))) ?_
          refine AtO.loudNA rfl (l_store t24 rfl rfl (i := 0) rfl rfl rfl rfl) (by rintro _ _ _ ⟨rfl, rfl⟩; exact ⟨fun _ h => h, (.cons _ (.cons_cons _ (.refl _)))⟩) ?_
          rintro _ _ _ ⟨rfl, rfl⟩
          refine AtO.done ?_
          refine At.nil ?_
          refine At.inNormal ?_
          refine At.then ?_
          refine At.region ?_
          refine At.quiet (q_add rfl rfl (by omega) (by omega)) rfl ?_
          refine At.skim 1 rfl rfl ?_
          refine At.nil ?_
          refine At.then ?_
          exact At.againK (k + 1, u) ⟨hk1, by rw [hpu, ← hst, hv, List.take_succ_eq_append_getElem hk1, List.foldl_append, (List.getElem?_eq_some_iff.1 ha).2]; rfl⟩ (by (try dsimp only); omega) (Tells.end 27 ⟨rfl, trivial⟩ rfl rfl) (fun _ h => ⟨h.1, ⟨h.2.1, h.2.2.2.2.2⟩⟩) (.cons_cons _ (.refl _))
        · skip
          refine AtO.call rfl en114 rfl (next114 _ _ _) (fun _ _ => trivial) (List.Perm.refl _) rfl (.cons _ (.cons_cons _ (.refl _))) ?_
          rintro _ _ _ ⟨rfl, rfl, rfl⟩
          refine AtO.loud rfl (Quiet.loud (q_load t22 rfl (Rd.loc (i := 0) rfl rfl))) rfl (by rintro _ _ _ ⟨rfl, rfl, rfl⟩; exact ⟨fun _ h => h, (.cons _ (.cons_cons _ (.refl _)))⟩) ?_
          rintro _ _ _ ⟨rfl, rfl, rfl⟩
          refine AtO.quiet rfl (q_index Try.underlying22 t33 rfl (.tail _ (.head _)) (by simp) rfl rfl (lt_of_get hx)) rfl (Calm.inBlock (Calm.then (Calm.then (Calm.inBlock (Calm.then Post.calm))))) ?_
          refine AtO.quiet rfl (q_fieldAddr s33 rfl rfl rfl) rfl (Calm.inBlock (Calm.then (Calm.then (Calm.inBlock (Calm.then Post.calm))))) ?_
          refine AtO.quiet rfl (q_load t31 rfl (Rd.sl (.tail _ (.head _)) (map_get hx) rfl)) rfl (Calm.inBlock (Calm.then (Calm.then (Calm.inBlock (Calm.then Post.calm))))) ?_
          refine AtO.call rfl en34 rfl (set34f v hvs (a : Int) x.ps hxs (nextS p x.stat 3)) (fun _ h => ⟨h.2.1, h.2.2.1, h.1, trivial⟩) (List.Perm.refl _) rfl (.cons _ (.cons_cons _ (.refl _))) ?_
          rintro _ _ _ ⟨u, rfl, rfl, rfl, hpu⟩
          refine AtO.quiet rfl (q_move rfl) rfl (Calm.inBlock (Calm.then (Calm.then (Calm.inBlock (Calm.then Post.calm))))) ?_
          refine AtO.quiet rfl (q_extract rfl rfl) rfl (Calm.inBlock (Calm.then (Calm.then (Calm.inBlock (Calm.then Post.calm))))) ?_
          refine AtO.quiet rfl (q_extract rfl rfl) rfl (Calm.inBlock (Calm.then (Calm.then (Calm.inBlock (Calm.then Post.calm))))) ?_
          refine AtO.loudNA rfl (l_store t24 rfl rfl (i := 0) rfl rfl rfl rfl) (by rintro _ _ _ ⟨rfl, rfl⟩; exact ⟨fun _ h => h, (.cons _ (.cons_cons _ (.refl _)))⟩) ?_
          rintro _ _ _ ⟨rfl, rfl⟩
          refine AtO.done ?_
          refine At.nil ?_
          refine At.inNormal ?_
          refine At.then ?_
          refine At.region ?_
          refine At.quiet (q_add rfl rfl (by omega) (by omega)) rfl ?_
          refine At.skim 1 rfl rfl ?_
          refine At.nil ?_
          refine At.then ?_
          exact At.againK (k + 1, u) ⟨hk1, by rw [hpu, ← hst, hv, List.take_succ_eq_append_getElem hk1, List.foldl_append, (List.getElem?_eq_some_iff.1 ha).2]; rfl⟩ (by (try dsimp only); omega) (Tells.end 27 ⟨rfl, trivial⟩ rfl rfl) (fun _ h => ⟨h.1, ⟨h.2.1, h.2.2.2.2.2⟩⟩) (.cons_cons _ (.refl _))
      · skip
        refine AtO.loud rfl (Quiet.loud (q_load t22 rfl (Rd.loc (i := 0) rfl rfl))) rfl (by rintro _ _ _ ⟨rfl, rfl, rfl⟩; exact ⟨fun _ h => h, (.cons _ (.cons_cons _ (.refl _)))⟩) ?_
        rintro _ _ _ ⟨rfl, rfl, rfl⟩
        refine AtO.quiet rfl (q_index Try.underlying22 t33 rfl (.tail _ (.head _)) (by simp) rfl rfl (lt_of_get hx)) rfl (Calm.inBlock (Calm.then (Calm.then (Calm.inBlock (Calm.then Post.calm))))) ?_
        refine AtO.quiet rfl (q_fieldAddr s33 rfl rfl rfl) rfl (Calm.inBlock (Calm.then (Calm.then (Calm.inBlock (Calm.then Post.calm))))) ?_
        refine AtO.quiet rfl (q_load t31 rfl (Rd.sl (.tail _ (.head _)) (map_get hx) rfl)) rfl (Calm.inBlock (Calm.then (Calm.then (Calm.inBlock (Calm.then Post.calm))))) ?_
        refine AtO.two ?_ ?_
        · skip
          refine AtO.loud rfl (Quiet.loud (q_loadS t24 rfl (RdS.loc (i := 0) rfl (m := 2) rfl) rfl)) rfl (by rintro _ _ _ ⟨rfl, rfl, rfl⟩; exact ⟨fun _ h => h, (.cons _ (.cons_cons _ (.refl _)))⟩) ?_
          rintro _ _ _ ⟨rfl, rfl, rfl⟩
          refine AtO.call rfl en114 rfl (next114 _ _ _) (fun _ _ => trivial) (List.Perm.refl _) rfl (.cons _ (.cons_cons _ (.refl _))) ?_
          rintro _ _ _ ⟨rfl, rfl, rfl⟩
          refine AtO.call rfl en34 rfl (set34f v hvs (a : Int) x.ps hxs (nextS p x.stat 3)) (fun _ h => ⟨h.2.1, h.2.2.1, h.1, trivial⟩) (List.Perm.refl _) rfl (.cons _ (.cons_cons _ (.refl _))) ?_
          rintro _ _ _ ⟨u, rfl, rfl, rfl, hpu⟩
          refine AtO.quiet rfl (q_move rfl) rfl (Calm.inBlock (Calm.then (Calm.then (Calm.inBlock (Calm.then Post.calm))))) ?_
          refine AtO.quiet rfl (q_extract rfl rfl) rfl (Calm.inBlock (Calm.then (Calm.then (Calm.inBlock (Calm.then Post.calm))))) ?_
          refine AtO.quiet rfl (q_extract rfl rfl) rfl (Calm.inBlock (Calm.then (Calm.then (Calm.inBlock (Calm.then Post.calm))))) ?_
          refine AtO.loudNA rfl (l_store t24 rfl rfl (i := 0) rfl rfl rfl rfl) (by rintro _ _ _ ⟨rfl, rfl⟩; exact ⟨fun _ h => h, (.cons _ (.cons_cons _ (.refl _)))⟩) ?_
          rintro _ _ _ ⟨rfl, rfl⟩
          refine AtO.done ?_
          refine At.nil ?_
          refine At.inNormal ?_
          refine At.then ?_
          refine At.region ?_
          refine At.quiet (q_add rfl rfl (by omega) (by omega)) rfl ?_
          refine At.skim 1 rfl rfl ?_
          refine At.nil ?_
          refine At.then ?_
          exact At.againK (k + 1, u) ⟨hk1, by rw [hpu, ← hst, hv, List.take_succ_eq_append_getElem hk1, List.foldl_append, (List.getElem?_eq_some_iff.1 ha).2]; rfl⟩ (by (try dsimp only); omega) (Tells.end 27 ⟨rfl, trivial⟩ rfl rfl) (fun _ h => ⟨h.1, ⟨h.2.1, h.2.2.2.2.2⟩⟩) (.cons_cons _ (.refl _))
        · skip
          refine AtO.call rfl en114 rfl (next114 _ _ _) (fun _ _ => trivial) (List.Perm.refl _) rfl (.cons _ (.cons_cons _ (.refl _))) ?_
          rintro _ _ _ ⟨rfl, rfl, rfl⟩
          refine AtO.loud rfl (Quiet.loud (q_loadS t24 rfl (RdS.loc (i := 0) rfl (m := 2) rfl) rfl)) rfl (by rintro _ _ _ ⟨rfl, rfl, rfl⟩; exact ⟨fun _ h => h, (.cons _ (.cons_cons _ (.refl _)))⟩) ?_
          rintro _ _ _ ⟨rfl, rfl, rfl⟩
          refine AtO.call rfl en34 rfl (set34f v hvs (a : Int) x.ps hxs (nextS p x.stat 3)) (fun _ h => ⟨h.2.1, h.2.2.1, h.1, trivial⟩) (List.Perm.refl _) rfl (.cons _ (.cons_cons _ (.refl _))) ?_
          rintro _ _ _ ⟨u, rfl, rfl, rfl, hpu⟩
          refine AtO.quiet rfl (q_move rfl) rfl (Calm.inBlock (Calm.then (Calm.then (Calm.inBlock (Calm.then Post.calm))))) ?_
          refine AtO.quiet rfl (q_extract rfl rfl) rfl (Calm.inBlock (Calm.then (Calm.then (Calm.inBlock (Calm.then Post.calm))))) ?_
          refine AtO.quiet rfl (q_extract rfl rfl) rfl (Calm.inBlock (Calm.then (Calm.then (Calm.inBlock (Calm.then Post.calm))))) ?_
          refine AtO.loudNA rfl (l_store t24 rfl rfl (i := 0) rfl rfl rfl rfl) (by rintro _ _ _ ⟨rfl, rfl⟩; exact ⟨fun _ h => h, (.cons _ (.cons_cons _ (.refl _)))⟩) ?_
          rintro _ _ _ ⟨rfl, rfl⟩
          refine AtO.done ?_
          refine At.nil ?_
          refine At.inNormal ?_
          refine At.then ?_
          refine At.region ?_
          refine At.quiet (q_add rfl rfl (by omega) (by omega)) rfl ?_
          refine At.skim 1 rfl rfl ?_
          refine At.nil ?_
          refine At.then ?_
          exact At.againK (k + 1, u) ⟨hk1, by rw [hpu, ← hst, hv, List.take_succ_eq_append_getElem hk1, List.foldl_append, (List.getElem?_eq_some_iff.1 ha).2]; rfl⟩ (by (try dsimp only); omega) (Tells.end 27 ⟨rfl, trivial⟩ rfl rfl) (fun _ h => ⟨h.1, ⟨h.2.1, h.2.2.2.2.2⟩⟩) (.cons_cons _ (.refl _))
      · skip
        refine AtO.call rfl en114 rfl (next114 _ _ _) (fun _ _ => trivial) (List.Perm.refl _) rfl (.cons _ (.cons_cons _ (.refl _))) ?_
        rintro _ _ _ ⟨rfl, rfl, rfl⟩
        refine AtO.two ?_ ?_
        · skip
          refine AtO.loud rfl (Quiet.loud (q_loadS t24 rfl (RdS.loc (i := 0) rfl (m := 2) rfl) rfl)) rfl (by rintro _ _ _ ⟨rfl, rfl, rfl⟩; exact ⟨fun _ h => h, (.cons _ (.cons_cons _ (.refl _)))⟩) ?_
          rintro _ _ _ ⟨rfl, rfl, rfl⟩
          refine AtO.loud rfl (Quiet.loud (q_load t22 rfl (Rd.loc (i := 0) rfl rfl))) rfl (by rintro _ _ _ ⟨rfl, rfl, rfl⟩; exact ⟨fun _ h => h, (.cons _ (.cons_cons _ (.refl _)))⟩) ?_
          rintro _ _ _ ⟨rfl, rfl, rfl⟩
          refine AtO.quiet rfl (q_index Try.underlying22 t33 rfl (.tail _ (.head _)) (by simp) rfl rfl (lt_of_get hx)) rfl (Calm.inBlock (Calm.then (Calm.then (Calm.inBlock (Calm.then Post.calm))))) ?_
          refine AtO.quiet rfl (q_fieldAddr s33 rfl rfl rfl) rfl (Calm.inBlock (Calm.then (Calm.then (Calm.inBlock (Calm.then Post.calm))))) ?_
          refine AtO.quiet rfl (q_load t31 rfl (Rd.sl (.tail _ (.head _)) (map_get hx) rfl)) rfl (Calm.inBlock (Calm.then (Calm.then (Calm.inBlock (Calm.then Post.calm))))) ?_
          refine AtO.call rfl en34 rfl (set34f v hvs (a : Int) x.ps hxs (nextS p x.stat 3)) (fun _ h => ⟨h.2.1, h.2.2.1, h.1, trivial⟩) (List.Perm.refl _) rfl (.cons _ (.cons_cons _ (.refl _))) ?_
          rintro _ _ _ ⟨u, rfl, rfl, rfl, hpu⟩
          refine AtO.quiet rfl (q_move rfl) rfl (Calm.inBlock (Calm.then (Calm.then (Calm.inBlock (Calm.then Post.calm))))) ?_
          refine AtO.quiet rfl (q_extract rfl rfl) rfl (Calm.inBlock (Calm.then (Calm.then (Calm.inBlock (Calm.then Post.calm))))) ?_
          refine AtO.quiet rfl (q_extract rfl rfl) rfl (Calm.inBlock (Calm.then (Calm.then (Calm.inBlock (Calm.then Post.calm))))) ?_
          refine AtO.loudNA rfl (l_store t24 rfl rfl (i := 0) rfl rfl rfl rfl) (by rintro _ _ _ ⟨rfl, rfl⟩; exact ⟨fun _ h => h, (.cons _ (.cons_cons _ (.refl _)))⟩) ?_
          rintro _ _ _ ⟨rfl, rfl⟩
          refine AtO.done ?_
          refine At.nil ?_
          refine At.inNormal ?_
          refine At.then ?_
          refine At.region ?_
          refine At.quiet (q_add rfl rfl (by omega) (by omega)) rfl ?_
          refine At.skim 1 rfl rfl ?_
          refine At.nil ?_
          refine At.then ?_
          exact At.againK (k + 1, u) ⟨hk1, by rw [hpu, ← hst, hv, List.take_succ_eq_append_getElem hk1, List.foldl_append, (List.getElem?_eq_some_iff.1 ha).2]; rfl⟩ (by (try dsimp only); omega) (Tells.end 27 ⟨rfl, trivial⟩ rfl rfl) (fun _ h => ⟨h.1, ⟨h.2.1, h.2.2.2.2.2⟩⟩) (.cons_cons _ (.refl _))
        · skip
          refine AtO.loud rfl (Quiet.loud (q_load t22 rfl (Rd.loc (i := 0) rfl rfl))) rfl (by rintro _ _ _ ⟨rfl, rfl, rfl⟩; exact ⟨fun _ h => h, (.cons _ (.cons_cons _ (.refl _)))⟩) ?_
          rintro _ _ _ ⟨rfl, rfl, rfl⟩
          refine AtO.quiet rfl (q_index Try.underlying22 t33 rfl (.tail _ (.head _)) (by simp) rfl rfl (lt_of_get hx)) rfl (Calm.inBlock (Calm.then (Calm.then (Calm.inBlock (Calm.then Post.calm))))) ?_
          refine AtO.quiet rfl (q_fieldAddr s33 rfl rfl rfl) rfl (Calm.inBlock (Calm.then (Calm.then (Calm.inBlock (Calm.then Post.calm))))) ?_
          refine AtO.quiet rfl (q_load t31 rfl (Rd.sl (.tail _ (.head _)) (map_get hx) rfl)) rfl (Calm.inBlock (Calm.then (Calm.then (Calm.inBlock (Calm.then Post.calm))))) ?_
          refine AtO.loud rfl (Quiet.loud (q_loadS t24 rfl (RdS.loc (i := 0) rfl (m := 2) rfl) rfl)) rfl (by rintro _ _ _ ⟨rfl, rfl, rfl⟩; exact ⟨fun _ h => h, (.cons _ (.cons_cons _ (.refl _)))⟩) ?_
          rintro _ _ _ ⟨rfl, rfl, rfl⟩
          refine AtO.call rfl en34 rfl (set34f v hvs (a : Int) x.ps hxs (nextS p x.stat 3)) (fun _ h => ⟨h.2.1, h.2.2.1, h.1, trivial⟩) (List.Perm.refl _) rfl (.cons _ (.cons_cons _ (.refl _))) ?_
          rintro _ _ _ ⟨u, rfl, rfl, rfl, hpu⟩
          refine AtO.quiet rfl (q_move rfl) rfl (Calm.inBlock (Calm.then (Calm.then (Calm.inBlock (Calm.then Post.calm))))) ?_
          refine AtO.quiet rfl (q_extract rfl rfl) rfl (Calm.inBlock (Calm.then (Calm.then (Calm.inBlock (Calm.then Post.calm))))) ?_
          refine AtO.quiet rfl (q_extract rfl rfl) rfl (Calm.inBlock (Calm.then (Calm.then (Calm.inBlock (Calm.then Post.calm))))) ?_
          refine AtO.loudNA rfl (l_store t24 rfl rfl (i := 0) rfl rfl rfl rfl) (by rintro _ _ _ ⟨rfl, rfl⟩; exact ⟨fun _ h => h, (.cons _ (.cons_cons _ (.refl _)))⟩) ?_
          rintro _ _ _ ⟨rfl, rfl⟩
          refine AtO.done ?_
          refine At.nil ?_
          refine At.inNormal ?_
          refine At.then ?_
          refine At.region ?_
          refine At.quiet (q_add rfl rfl (by omega) (by omega)) rfl ?_
          refine At.skim 1 rfl rfl ?_
          refine At.nil ?_
          refine At.then ?_
          exact At.againK (k + 1, u) ⟨hk1, by rw [hpu, ← hst, hv, List.take_succ_eq_append_getElem hk1, List.foldl_append, (List.getElem?_eq_some_iff.1 ha).2]; rfl⟩ (by (try dsimp only); omega) (Tells.end 27 ⟨rfl, trivial⟩ rfl rfl) (fun _ h => ⟨h.1, ⟨h.2.1, h.2.2.2.2.2⟩⟩) (.cons_cons _ (.refl _))
  · skip
    have hvp : v.p = L.foldl (setSt p) t.p := by rw [hv, List.take_of_length_le (by omega)]
    refine At.exit ?_
    refine At.thenExit ?_
    refine At.thenExit ?_
    refine At.inHere rfl ?_
    refine At.then ?_
    refine At.seq ?_
    refine At.draw 10 (.q 1 (.q 2 (.q 3 (.q 4 (.o 0 (.o 5 (.q 6 (.q 7 (.q 8 (.o 9 (.e))))))))))) (_ :: L₀) (.cons _ (.cons_cons _ (.refl _))) mixed (by kernel_rfl) rfl ?_
    refine AtO.quiet rfl (q_loadS t64 rfl (RdS.blk (.tail _ (.tail _ (.head _))) (m := 5) rfl) rfl) rfl (Calm.then Post.calm) ?_
    refine AtO.quiet rfl (q_move rfl) rfl (Calm.then Post.calm) ?_
    refine AtO.quiet rfl (q_index Try.underlying37 t3 rfl (.tail _ (.tail _ (.tail _ (.tail _ (.tail _ (.tail _ (.head _))))))) (by simp) rfl rfl (lt_of_get h00)) rfl (Calm.then Post.calm) ?_
    refine AtO.quiet rfl (q_load t3 rfl (Rd.sl0 (.tail _ (.tail _ (.tail _ (.tail _ (.tail _ (.tail _ (.head _))))))) (map_get h00) rfl)) rfl (Calm.then Post.calm) ?_
    refine AtO.loud rfl (Quiet.loud (q_loadS t24 rfl (RdS.loc (i := 0) rfl (m := 2) rfl) rfl)) rfl (by rintro _ _ _ ⟨rfl, rfl, rfl⟩; exact ⟨fun _ h => h, (.cons _ (.cons_cons _ (.refl _)))⟩) ?_
    rintro _ _ _ ⟨rfl, rfl, rfl⟩
    refine AtO.call rfl en51 rfl (bend51 v hvs p _) (fun _ h => ⟨h.1, h.2.1, trivial⟩) (List.Perm.refl _) rfl (.cons _ (.cons_cons _ (.refl _))) ?_
    rintro _ _ _ ⟨w, rfl, rfl, rfl, hpw⟩
    refine AtO.quiet rfl (q_move rfl) rfl (Calm.then Post.calm) ?_
    refine AtO.quiet rfl (q_extract rfl rfl) rfl (Calm.then Post.calm) ?_
    refine AtO.quiet rfl (q_extract rfl rfl) rfl (Calm.then Post.calm) ?_
    refine AtO.loudNA rfl (l_store t24 rfl rfl (i := 0) rfl rfl rfl rfl) (by rintro _ _ _ ⟨rfl, rfl⟩; exact ⟨fun _ h => h, (.cons _ (.cons_cons _ (.refl _)))⟩) ?_
    rintro _ _ _ ⟨rfl, rfl⟩
    refine AtO.done ?_
    refine At.nil ?_
    refine At.then ?_
    refine At.seq ?_
    refine At.region ?_
    refine At.quiet (q_loadS t24 rfl (RdS.loc (i := 0) rfl (m := 2) rfl) rfl) rfl ?_
    refine At.loudN (l_store t24 rfl rfl (i := 1) rfl rfl rfl rfl) ?_
    rintro _ _ _ ⟨rfl, rfl⟩
    refine At.nil ?_
    refine At.then ?_
    refine At.ret ?_
    exact At.results (Γr := [_, _]) (M := []) rfl (RVals.cons (RVal.cellS rfl t24 (RdS.loc (i := 1) rfl (m := 2) rfl) rfl) RVals.nil) (.tail _ (.tail _ (.tail _ (.tail _ (.tail _ (.head _)))))) (fun _ h => ⟨h.1, h.2.1, trivial⟩) (.cons _ (.cons _ (.refl _))) ⟨w, rfl, rfl, rfl, by rw [hpw, hvp]; rfl⟩
end Go.Proofs.Ytmkodknmknfdkaa
set_option linter.unusedVariables false
set_option linter.unusedSimpArgs false
namespace Go.Proofs.Ytmkodknmknfdkaa
open E
set_option maxRecDepth 4000
theorem en57 : Enters Try.prog 57 := Enters.mk' Try.func57 rfl rfl
theorem en93 : Enters Try.prog 93 := Enters.mk' Try.func93 rfl rfl
theorem en95 : Enters Try.prog 95 := Enters.mk' Try.func95 rfl rfl
theorem en96 : Enters Try.prog 96 := Enters.mk' Try.func96 rfl rfl
theorem en97 : Enters Try.prog 97 := Enters.mk' Try.func97 rfl rfl
set_option maxHeartbeats 2000000 in
theorem solo57 (t : Tr) (hsm : smallP t.ns.l) (p : Pol) (o : OpS) (hal : (allT t.p).length ≤ 600000) : Con Try.prog 57 [t.val, p.val, o.val] [ndsP t.ns, psP t.ns.l] [] (SoloEnd t.p p o) := by
  refine Con.body 58 Try.func57 rfl Try.ntmps57 rfl fun X H₀ L₀ => ?_
  refine At.know (ndsP ⟨none, 0, []⟩) (fun _ h => sl_nil _ _ _ (Nat.zero_le _)) ?_
  refine At.know (psP []) (fun _ h => psP_nil) ?_
  refine At.know (prsP ⟨none, 0, []⟩) (fun _ h => sl_nil _ _ _ (Nat.zero_le _)) ?_
  refine At.seq ?_
  refine At.region ?_
  refine At.loud (l_box rfl) rfl ?_
  rintro _ _ _ ⟨b1, rfl, rfl, rfl⟩
  refine At.freeze 0 (φ := blk b1 _) rfl (fun _ h => blk_def.2 ⟨_, _, h⟩) ?_
  refine At.loud (l_box rfl) rfl ?_
  rintro _ _ _ ⟨b2, rfl, rfl, rfl⟩
  refine At.freeze 0 (φ := blk b2 _) rfl (fun _ h => blk_def.2 ⟨_, _, h⟩) ?_
  refine At.loud (l_box rfl) rfl ?_
  rintro _ _ _ ⟨b3, rfl, rfl, rfl⟩
  refine At.freeze 0 (φ := blk b3 _) rfl (fun _ h => blk_def.2 ⟨_, _, h⟩) ?_
  refine At.loud (l_alloc t24) rfl ?_
  rintro _ _ _ ⟨b4, rfl, rfl, rfl⟩
  refine At.loud (l_alloc t80) rfl ?_
  rintro _ _ _ ⟨b5, rfl, rfl, rfl⟩
  refine At.nil ?_
  refine At.then ?_
  refine At.seq ?_
  refine At.region ?_
  refine At.quiet (q_loadS t24 rfl (RdS.blk (.tail _ (.tail _ (.head _))) (m := 2) rfl) rfl) rfl ?_
  refine At.call en25 rfl (plain25 _ (by assumption)) (fun _ h => ⟨h.2.2.2.2.2.2.2.1, h.2.2.2.2.2.2.2.2.1, trivial⟩) (List.Perm.refl _) rfl ?_
  rintro _ _ _ ⟨w, Mw, rfl, rfl, rfl, hw, hpw⟩
  refine At.skim 1 rfl rfl ?_
  refine At.quiet (q_extract rfl rfl) rfl ?_
  refine At.quiet (q_extract rfl rfl) rfl ?_
  refine At.loud (l_alloc t24) rfl ?_
  rintro _ _ _ ⟨b6, rfl, rfl, rfl⟩
  refine At.loudN (l_store t24 rfl rfl (i := 0) rfl rfl rfl rfl) ?_
  rintro _ _ _ ⟨rfl, rfl⟩
  refine At.skim 1 rfl rfl ?_
  refine At.nil ?_
  refine At.then ?_
  refine At.seq ?_
  refine At.seq ?_
  refine At.region ?_
  refine At.skim 2 rfl rfl ?_
  refine At.nil ?_
  refine At.then ?_
  refine At.cond rfl (fun hm => ?_) (fun hm => ?_)
  · skip
    refine At.seq ?_
    refine At.region ?_
    refine At.quiet (q_build t24 s24 rfl rfl) rfl ?_
    refine At.quiet (q_build t80 s80 rfl rfl) rfl ?_
    refine At.loudN (l_store t24 rfl rfl (i := 3) rfl rfl rfl rfl) ?_
    rintro _ _ _ ⟨rfl, rfl⟩
    refine At.loudN (l_store t80 rfl rfl (i := 2) rfl rfl rfl rfl) ?_
    rintro _ _ _ ⟨rfl, rfl⟩
    refine At.nil ?_
    refine At.then ?_
    refine At.ret ?_
    refine At.thenRet ?_
    exact At.results (Γr := [_, psP [], _]) (M := []) rfl (RVals.cons (RVal.cellS rfl t24 (RdS.loc (i := 3) rfl (m := 2) rfl) rfl) (RVals.cons (RVal.cellS rfl t80 (RdS.loc (i := 2) rfl (m := 6) rfl) rfl) RVals.nil)) (.tail _ (.tail _ (.tail _ (.tail _ (.tail _ (.tail _ (.tail _ (.head _)))))))) (fun _ h => ⟨h.2.2.2.2.2.2.1, h.2.2.2.2.2.1, h.2.2.2.2.1, trivial⟩) (.cons _ (.cons _ (.cons _ (.cons _ (.refl _))))) ⟨⟨0, ⟨none, 0, []⟩⟩, ⟨none, 0, []⟩, by rw [solo_no (not_t hm)]; rfl, rfl, rfl, by rw [solo_no (not_t hm)]; rfl, by rw [solo_no (not_t hm)]; rfl⟩
  · skip
    have hmt : (mayT t.p).isSome = true := not_f hm
    refine At.skip ?_
    refine At.then ?_
    refine At.seq ?_
    refine At.seq ?_
    refine At.region ?_
    refine At.freezeOwn 1 hw rfl ?_
    obtain ⟨hk1, _, hk3, _⟩ := plain_keeps hmt
    rw [← hpw] at hk1 hk3
    obtain ⟨s, hs⟩ := Option.isSome_iff_exists.1 hk1
    have halw : (allT w.p).length ≤ 600000 := by rw [hk3]; exact hal
    refine At.quiet (q_loadS t77 rfl (RdS.blk (.tail _ (.tail _ (.head _))) (m := 4) rfl) rfl) rfl ?_
    refine At.call en92 rfl (mayop92 _) (fun _ _ => trivial) (List.Perm.refl _) rfl ?_
    rintro _ _ _ ⟨rfl, rfl, rfl⟩
    refine At.skim 1 rfl rfl ?_
    refine At.nil ?_
    refine At.then ?_
    refine At.cond rfl (fun ho => ?_) (fun ho => ?_)
    · skip
      refine At.seq ?_
      refine At.region ?_
      refine At.quiet (q_loadS t24 rfl (RdS.loc (i := 0) rfl (m := 2) rfl) rfl) rfl ?_
      refine At.quiet (q_build t80 s80 rfl rfl) rfl ?_
      refine At.loudN (l_store t24 rfl rfl (i := 2) rfl rfl rfl rfl) ?_
      rintro _ _ _ ⟨rfl, rfl⟩
      refine At.loudN (l_store t80 rfl rfl (i := 1) rfl rfl rfl rfl) ?_
      rintro _ _ _ ⟨rfl, rfl⟩
      refine At.nil ?_
      refine At.then ?_
      refine At.ret ?_
      refine At.thenRet ?_
      exact At.results (Γr := [_, _, _]) (M := []) rfl (RVals.cons (RVal.cellS rfl t24 (RdS.loc (i := 2) rfl (m := 2) rfl) rfl) (RVals.cons (RVal.cellS rfl t80 (RdS.loc (i := 1) rfl (m := 6) rfl) rfl) RVals.nil)) (.tail _ (.tail _ (.tail _ (.tail _ (.tail _ (.tail _ (.tail _ (.tail _ (.head _))))))))) (fun _ h => ⟨h.1, h.2.1, h.2.2.2.2.2.1, trivial⟩) (.cons _ (.cons _ (.cons _ (.refl _)))) ⟨w, ⟨none, 0, []⟩, by rw [solo_badop hmt (not_t ho)]; rfl, rfl, rfl, by rw [solo_badop hmt (not_t ho)]; exact hpw, by rw [solo_badop hmt (not_t ho)]; rfl⟩
    · skip
      have hmo : mayO o = true := not_f ho
      refine At.skip ?_
      refine At.then ?_
      refine At.cutD (ι := Nat × Sl Pr × An) .z [10, 26, 27, 28, 29, 30] (fun ⟨b9, s2, A⟩ => [(10, .pointer (some ⟨b9, 0, none⟩))]) (fun ⟨b9, s2, A⟩ => [prsP s2]) (fun ⟨b9, s2, A⟩ => [[(b9, .cells #[.int .i64 A.err, .bool A.ok, .int .i64 A.p.k, .int .i64 A.p.v, .int .i64 A.n, s2.val] 80 (0, 0))]]) (fun ⟨b9, s2, A⟩ => A = (doT (allT t.p) o).2 ∧ s2.l = A.l) ?_ ?_
      · skip
        refine At.draw 6 (.q 0 (.q 3 (.t 1 (.t 2 (.t 4 (.o 5 (.e)) 5 (.o 4 (.e))) 5 (.o 2 (.o 4 (.e)))) 5 (.o 1 (.o 2 (.o 4 (.e))))))) _ (List.Sublist.refl _) mixed (by kernel_rfl) rfl ?_
        refine AtO.quiet rfl (q_loadS t24 rfl (RdS.blk (.tail _ (.tail _ (.tail _ (.tail _ (.head _))))) (m := 2) rfl) rfl) rfl (Calm.then Post.calm) ?_
        refine AtO.quiet rfl (q_loadS t77 rfl (RdS.blk (.tail _ (.tail _ (.head _))) (m := 4) rfl) rfl) rfl (Calm.then Post.calm) ?_
        refine AtO.two ?_ ?_
        · skip
          refine AtO.call rfl en29 rfl (all29f t hsm) (fun _ h => ⟨h.2.2.2.2.2.2.2.2.2.1, h.2.2.2.2.2.2.2.2.2.2.1, trivial⟩) (List.Perm.refl _) rfl (.refl _) ?_
          rintro _ _ _ ⟨al, rfl, rfl, rfl, hpal⟩
          refine AtO.two ?_ ?_
          · skip
            refine AtO.call rfl en93 rfl (new93 al (by rw [hpal]; omega)) (fun _ h => ⟨h.1, trivial⟩) (List.Perm.refl _) rfl (.refl _) ?_
            rintro _ _ _ ⟨bm, sm, rfl, rfl, rfl, hsm9⟩
            have hsm8 : sm.l = allT t.p := by rw [hsm9, hpal, put_all (all_rise _)]
            refine AtO.two ?_ ?_
            · skip
              refine AtO.front 0 rfl ?_
              refine AtO.call rfl en94 rfl (map94 sm o bm (by rw [hsm8]; omega)) (fun _ h => ⟨h.1, trivial⟩) (List.Perm.refl _) rfl (.refl _) ?_
              rintro _ _ _ ⟨s3, s2, rfl, rfl, rfl, hs3, hs2⟩
              refine AtO.loudA rfl (l_alloc t80) rfl (by rintro _ _ _ ⟨_, rfl, rfl, rfl⟩; exact ⟨fun _ h => h, .cons _ (.cons _ (.cons_cons _ (.cons_cons _ (.cons_cons _ (.refl _)))))⟩) ?_
              rintro _ _ _ ⟨b7, rfl, rfl, rfl⟩
              refine AtO.done ?_
              refine At.loudN (l_store t80 rfl rfl (i := 0) rfl rfl rfl rfl) ?_
              rintro _ _ _ ⟨rfl, rfl⟩
              refine At.nil ?_
              refine At.then ?_
              exact At.meetK (b7, s2, (doT sm.l o).2) ⟨by rw [hsm8], hs2⟩ (Tells.meet 6 ⟨rfl, trivial⟩ rfl rfl) (fun _ h => ⟨h.2.1, h.2.2.2.2⟩) (.cons_cons _ (.cons _ (.refl _)))
            · skip
              refine AtO.loud rfl (l_alloc t80) rfl (by rintro _ _ _ ⟨_, rfl, rfl, rfl⟩; exact ⟨fun _ h => h, .cons _ (.cons _ (.cons_cons _ (.cons_cons _ (.cons_cons _ (.refl _)))))⟩) ?_
              rintro _ _ _ ⟨b8, rfl, rfl, rfl⟩
              refine AtO.front 1 rfl ?_
              refine AtO.callA rfl en94 rfl (map94 sm o bm (by rw [hsm8]; omega)) (fun _ h => ⟨h.1, trivial⟩) (List.Perm.refl _) rfl (.cons _ (.cons_cons _ (.cons_cons _ (.cons_cons _ (.refl _))))) ?_
              rintro _ _ _ ⟨s3, s2, rfl, rfl, rfl, hs3, hs2⟩
              refine AtO.done ?_
              refine At.loudN (l_store t80 rfl rfl (i := 1) rfl rfl rfl rfl) ?_
              rintro _ _ _ ⟨rfl, rfl⟩
              refine At.nil ?_
              refine At.front 1 rfl ?_
              refine At.then ?_
              exact At.meetK (b8, s2, (doT sm.l o).2) ⟨by rw [hsm8], hs2⟩ (Tells.meet 6 ⟨rfl, trivial⟩ rfl rfl) (fun _ h => ⟨h.2.1, h.2.2.2.2⟩) (.cons_cons _ (.cons _ (.refl _)))
          · skip
            refine AtO.loud rfl (l_alloc t80) rfl (by rintro _ _ _ ⟨_, rfl, rfl, rfl⟩; exact ⟨fun _ h => h, .cons _ (.refl _)⟩) ?_
            rintro _ _ _ ⟨b9, rfl, rfl, rfl⟩
            refine AtO.call rfl en93 rfl (new93 al (by rw [hpal]; omega)) (fun _ h => ⟨h.1, trivial⟩) (List.Perm.refl _) rfl (.cons _ (.cons_cons _ (.cons_cons _ (.cons_cons _ (.refl _))))) ?_
            rintro _ _ _ ⟨bm, sm, rfl, rfl, rfl, hsm9⟩
            have hsm8 : sm.l = allT t.p := by rw [hsm9, hpal, put_all (all_rise _)]
            refine AtO.front 0 rfl ?_
            refine AtO.callA rfl en94 rfl (map94 sm o bm (by rw [hsm8]; omega)) (fun _ h => ⟨h.1, trivial⟩) (List.Perm.refl _) rfl (.cons _ (.cons_cons _ (.cons_cons _ (.cons_cons _ (.refl _))))) ?_
            rintro _ _ _ ⟨s3, s2, rfl, rfl, rfl, hs3, hs2⟩
            refine AtO.done ?_
            refine At.loudN (l_store t80 rfl rfl (i := 1) rfl rfl rfl rfl) ?_
            rintro _ _ _ ⟨rfl, rfl⟩
            refine At.nil ?_
            refine At.front 1 rfl ?_
            refine At.then ?_
            exact At.meetK (b9, s2, (doT sm.l o).2) ⟨by rw [hsm8], hs2⟩ (Tells.meet 6 ⟨rfl, trivial⟩ rfl rfl) (fun _ h => ⟨h.2.1, h.2.2.2.2⟩) (.cons_cons _ (.cons _ (.refl _)))
        · skip
          refine AtO.loud rfl (l_alloc t80) rfl (by rintro _ _ _ ⟨_, rfl, rfl, rfl⟩; exact ⟨fun _ h => h, .cons _ (.refl _)⟩) ?_
          rintro _ _ _ ⟨b10, rfl, rfl, rfl⟩
          refine AtO.call rfl en29 rfl (all29f t hsm) (fun _ h => ⟨h.2.2.2.2.2.2.2.2.2.1, h.2.2.2.2.2.2.2.2.2.2.1, trivial⟩) (List.Perm.refl _) rfl (.cons _ (.cons_cons _ (.cons_cons _ (.cons_cons _ (.refl _))))) ?_
          rintro _ _ _ ⟨al, rfl, rfl, rfl, hpal⟩
          refine AtO.call rfl en93 rfl (new93 al (by rw [hpal]; omega)) (fun _ h => ⟨h.1, trivial⟩) (List.Perm.refl _) rfl (.cons _ (.cons_cons _ (.cons_cons _ (.cons_cons _ (.refl _))))) ?_
          rintro _ _ _ ⟨bm, sm, rfl, rfl, rfl, hsm9⟩
          have hsm8 : sm.l = allT t.p := by rw [hsm9, hpal, put_all (all_rise _)]
          refine AtO.front 0 rfl ?_
          refine AtO.callA rfl en94 rfl (map94 sm o bm (by rw [hsm8]; omega)) (fun _ h => ⟨h.1, trivial⟩) (List.Perm.refl _) rfl (.cons _ (.cons_cons _ (.cons_cons _ (.cons_cons _ (.refl _))))) ?_
          rintro _ _ _ ⟨s3, s2, rfl, rfl, rfl, hs3, hs2⟩
          refine AtO.done ?_
          refine At.loudN (l_store t80 rfl rfl (i := 1) rfl rfl rfl rfl) ?_
          rintro _ _ _ ⟨rfl, rfl⟩
          refine At.nil ?_
          refine At.front 1 rfl ?_
          refine At.then ?_
          exact At.meetK (b10, s2, (doT sm.l o).2) ⟨by rw [hsm8], hs2⟩ (Tells.meet 6 ⟨rfl, trivial⟩ rfl rfl) (fun _ h => ⟨h.2.1, h.2.2.2.2⟩) (.cons_cons _ (.cons _ (.refl _)))
      intro j0 hMt
      obtain ⟨b9, s2, A⟩ := j0
      obtain ⟨rfl, hs2⟩ := hMt
      refine At.seq ?_
      refine At.region ?_
      refine At.quiet (q_loadS t24 rfl (RdS.loc (i := 1) rfl (m := 2) rfl) rfl) rfl ?_
      refine At.quiet (q_loadS t77 rfl (RdS.blk (.tail _ (.tail _ (.tail _ (.head _)))) (m := 4) rfl) rfl) rfl ?_
      refine At.call en61 rfl (touched61 w o) (fun _ h => ⟨h.2.1, h.2.2.1, trivial⟩) (List.Perm.refl _) rfl ?_
      rintro _ _ _ ⟨tl, rfl, rfl, rfl, htl⟩
      have htll : tl.l.length = (touchT w.p o).length := by rw [htl, toI_length]
      refine At.skim 1 rfl rfl ?_
      refine At.nil ?_
      refine At.then ?_
      refine At.seq ?_
      refine At.block ?_
      refine At.seq ?_
      refine At.region ?_
      refine At.quiet (q_loadS t77 rfl (RdS.blk (.tail _ (.tail _ (.tail _ (.tail _ (.head _))))) (m := 4) rfl) rfl) rfl ?_
      refine At.call en95 rfl (upd95 _) (fun _ _ => trivial) (List.Perm.refl _) rfl ?_
      rintro _ _ _ ⟨rfl, rfl, rfl⟩
      refine At.skim 1 rfl rfl ?_
      refine At.nil ?_
      refine At.then ?_
      refine At.cond rfl (fun hu => ?_) (fun hu => ?_)
      · skip
        refine At.seq ?_
        refine At.draw 6 (.q 0 (.q 1 (.q 2 (.q 4 (.o 3 (.o 5 (.e))))))) (_ :: _ :: _ :: L₀) (.cons_cons _ (.cons_cons _ (.cons_cons _ (.cons _ (.refl _))))) mixed (by kernel_rfl) rfl ?_
        refine AtO.quiet rfl (q_loadS t24 rfl (RdS.loc (i := 1) rfl (m := 2) rfl) rfl) rfl (Calm.then (Calm.inBlock (Calm.then Post.calm))) ?_
        refine AtO.quiet rfl (q_loadS t64 rfl (RdS.blk (.tail _ (.tail _ (.tail _ (.tail _ (.tail _ (.head _)))))) (m := 5) rfl) rfl) rfl (Calm.then (Calm.inBlock (Calm.then Post.calm))) ?_
        refine AtO.quiet rfl (q_loadS t77 rfl (RdS.blk (.tail _ (.tail _ (.tail _ (.tail _ (.head _))))) (m := 4) rfl) rfl) rfl (Calm.then (Calm.inBlock (Calm.then Post.calm))) ?_
        refine AtO.quiet rfl (q_loadS t80 rfl (RdS.loc (i := 0) rfl (m := 6) rfl) rfl) rfl (Calm.then (Calm.inBlock (Calm.then Post.calm))) ?_
        refine AtO.call rfl en96 rfl (update96 w p o s hs hmo hu halw) (fun _ h => ⟨h.2.2.1, h.2.2.2.1, trivial⟩) (List.Perm.refl _) rfl (.cons_cons _ (.cons_cons _ (.cons_cons _ (.cons _ (.refl _))))) ?_
        rintro _ _ _ ⟨v, rfl, rfl, rfl, hpv⟩
        have hso : soloT t.p p o = (updT w.p p o, (doT (allT t.p) o).2) := by rw [solo_plain hmt hmo, ← hpw, tree_upd hu]
        refine AtO.loudNA rfl (l_store t24 rfl rfl (i := 3) rfl rfl rfl rfl) (by rintro _ _ _ ⟨rfl, rfl⟩; exact ⟨fun _ h => h, (.cons_cons _ (.cons_cons _ (.cons_cons _ (.cons _ (.refl _)))))⟩) ?_
        rintro _ _ _ ⟨rfl, rfl⟩
        refine AtO.done ?_
        refine At.loudN (l_store t80 rfl rfl (i := 2) rfl rfl rfl rfl) ?_
        rintro _ _ _ ⟨rfl, rfl⟩
        refine At.nil ?_
        refine At.then ?_
        refine At.ret ?_
        refine At.inRet ?_
        refine At.thenRet ?_
        exact At.results (Γr := [_, _, _]) (M := []) rfl (RVals.cons (RVal.cellS rfl t24 (RdS.loc (i := 3) rfl (m := 2) rfl) rfl) (RVals.cons (RVal.cellS rfl t80 (RdS.loc (i := 2) rfl (m := 6) rfl) rfl) RVals.nil)) (.tail _ (.tail _ (.tail _ (.tail _ (.tail _ (.tail _ (.tail _ (.tail _ (.tail _ (.tail _ (.tail _ (.tail _ (.head _))))))))))))) (fun _ h => ⟨h.1, h.2.1, h.2.2.2.1, trivial⟩) (.cons _ (.cons _ (.cons _ (.cons _ (.refl _))))) ⟨v, s2, by rw [hso]; rfl, rfl, rfl, by rw [hso] <;> exact hpv, by rw [hso] <;> exact hs2⟩
      · skip
        refine At.seq ?_
        refine At.region ?_
        refine At.fld s77 t3 rfl rfl rfl (Rd.blk (.tail _ (.tail _ (.tail _ (.tail _ (.head _))))) rfl) rfl rfl ?_
        refine At.skim 2 rfl rfl ?_
        refine At.splitP (d := 46) rfl (fun h4 => ?_) (fun h4 => ?_)
        · skip
          refine At.skim 1 rfl rfl ?_
          refine At.open rfl rfl ?_
          refine At.quiet (q_len Try.underlying37 rfl) rfl ?_
          refine At.skim 3 rfl rfl ?_
          refine At.nil ?_
          refine At.then ?_
          refine At.if rfl (fun hl1 => ?_) (fun hl1 => ?_)
          · skip
            refine At.seq ?_
            refine At.draw 6 (.q 0 (.q 1 (.q 2 (.q 4 (.o 3 (.o 5 (.e))))))) (_ :: _ :: _ :: L₀) (.cons_cons _ (.cons_cons _ (.cons_cons _ (.cons _ (.refl _))))) mixed (by kernel_rfl) rfl ?_
            refine AtO.quiet rfl (q_loadS t24 rfl (RdS.loc (i := 1) rfl (m := 2) rfl) rfl) rfl (Calm.then (Calm.inBlock (Calm.then Post.calm))) ?_
            refine AtO.quiet rfl (q_loadS t64 rfl (RdS.blk (.tail _ (.tail _ (.tail _ (.tail _ (.tail _ (.head _)))))) (m := 5) rfl) rfl) rfl (Calm.then (Calm.inBlock (Calm.then Post.calm))) ?_
            refine AtO.quiet rfl (q_move rfl) rfl (Calm.then (Calm.inBlock (Calm.then Post.calm))) ?_
            refine AtO.quiet rfl (q_loadS t80 rfl (RdS.loc (i := 0) rfl (m := 6) rfl) rfl) rfl (Calm.then (Calm.inBlock (Calm.then Post.calm))) ?_
            refine AtO.call rfl en97 rfl (several97 w p s hs tl (touchT w.p o) htl (touch_sub hs) (fun e => by rw [e, List.length_nil] at htll; omega) halw) (fun _ h => ⟨h.2.2.1, h.2.2.2.1, h.1, trivial⟩) (List.Perm.refl _) rfl (.cons_cons _ (.cons_cons _ (.cons_cons _ (.cons _ (.refl _))))) ?_
            rintro _ _ _ ⟨v, rfl, rfl, rfl, hpv⟩
            have hso : soloT t.p p o = (sevT w.p p (touchT w.p o), (doT (allT t.p) o).2) := by rw [solo_plain hmt hmo, ← hpw, tree_sev hu (by omega)]
            refine AtO.loudNA rfl (l_store t24 rfl rfl (i := 3) rfl rfl rfl rfl) (by rintro _ _ _ ⟨rfl, rfl⟩; exact ⟨fun _ h => h, (.cons_cons _ (.cons_cons _ (.cons_cons _ (.cons _ (.refl _)))))⟩) ?_
            rintro _ _ _ ⟨rfl, rfl⟩
            refine AtO.done ?_
            refine At.loudN (l_store t80 rfl rfl (i := 2) rfl rfl rfl rfl) ?_
            rintro _ _ _ ⟨rfl, rfl⟩
            refine At.nil ?_
            refine At.then ?_
            refine At.ret ?_
            refine At.inRet ?_
            refine At.thenRet ?_
            exact At.results (Γr := [_, _, _]) (M := []) rfl (RVals.cons (RVal.cellS rfl t24 (RdS.loc (i := 3) rfl (m := 2) rfl) rfl) (RVals.cons (RVal.cellS rfl t80 (RdS.loc (i := 2) rfl (m := 6) rfl) rfl) RVals.nil)) (.tail _ (.tail _ (.tail _ (.tail _ (.tail _ (.tail _ (.tail _ (.tail _ (.tail _ (.tail _ (.tail _ (.tail _ (.head _))))))))))))) (fun _ h => ⟨h.1, h.2.1, h.2.2.2.1, trivial⟩) (.cons _ (.cons _ (.cons _ (.cons _ (.refl _))))) ⟨v, s2, by rw [hso]; rfl, rfl, rfl, by rw [hso] <;> exact hpv, by rw [hso] <;> exact hs2⟩
          · skip
            have hso : soloT t.p p o = (w.p, (doT (allT t.p) o).2) := by rw [solo_plain hmt hmo, ← hpw, tree_same hu (by omega)]
            refine At.skip ?_
            refine At.inNormal ?_
            refine At.then ?_
            refine At.seq ?_
            refine At.draw 3 (.q 0 (.q 1 (.o 2 (.e)))) (_ :: _ :: _ :: L₀) (.cons_cons _ (.cons_cons _ (.cons_cons _ (.cons _ (.refl _))))) mixed (by kernel_rfl) rfl ?_
            refine AtO.quiet rfl (q_loadS t24 rfl (RdS.loc (i := 1) rfl (m := 2) rfl) rfl) rfl (Calm.then Post.calm) ?_
            refine AtO.quiet rfl (q_loadS t80 rfl (RdS.loc (i := 0) rfl (m := 6) rfl) rfl) rfl (Calm.then Post.calm) ?_
            refine AtO.loudNA rfl (l_store t24 rfl rfl (i := 3) rfl rfl rfl rfl) (by rintro _ _ _ ⟨rfl, rfl⟩; exact ⟨fun _ h => h, (.cons_cons _ (.cons_cons _ (.cons_cons _ (.cons _ (.refl _)))))⟩) ?_
            rintro _ _ _ ⟨rfl, rfl⟩
            refine AtO.done ?_
            refine At.loudN (l_store t80 rfl rfl (i := 2) rfl rfl rfl rfl) ?_
            rintro _ _ _ ⟨rfl, rfl⟩
            refine At.nil ?_
            refine At.then ?_
            refine At.ret ?_
            exact At.results (Γr := [_, _, _]) (M := []) rfl (RVals.cons (RVal.cellS rfl t24 (RdS.loc (i := 3) rfl (m := 2) rfl) rfl) (RVals.cons (RVal.cellS rfl t80 (RdS.loc (i := 2) rfl (m := 6) rfl) rfl) RVals.nil)) (.tail _ (.tail _ (.tail _ (.tail _ (.tail _ (.tail _ (.tail _ (.tail _ (.tail _ (.tail _ (.head _))))))))))) (fun _ h => ⟨h.2.2.1, h.2.2.2.1, h.2.1, trivial⟩) (.cons _ (.cons _ (.cons _ (.cons _ (.refl _))))) ⟨w, s2, by rw [hso]; rfl, rfl, rfl, by rw [hso] <;> exact rfl, by rw [hso] <;> exact hs2⟩
        · skip
          have hso : soloT t.p p o = (w.p, (doT (allT t.p) o).2) := by rw [solo_plain hmt hmo, ← hpw, tree_same hu (touch_get (by omega))]
          refine At.skim 5 rfl rfl ?_
          refine At.nil ?_
          refine At.then ?_
          refine At.condF rfl ?_
          refine At.skip ?_
          refine At.inNormal ?_
          refine At.then ?_
          refine At.seq ?_
          refine At.draw 3 (.q 0 (.q 1 (.o 2 (.e)))) (_ :: _ :: _ :: L₀) (.cons_cons _ (.cons_cons _ (.cons_cons _ (.cons _ (.refl _))))) mixed (by kernel_rfl) rfl ?_
          refine AtO.quiet rfl (q_loadS t24 rfl (RdS.loc (i := 1) rfl (m := 2) rfl) rfl) rfl (Calm.then Post.calm) ?_
          refine AtO.quiet rfl (q_loadS t80 rfl (RdS.loc (i := 0) rfl (m := 6) rfl) rfl) rfl (Calm.then Post.calm) ?_
          refine AtO.loudNA rfl (l_store t24 rfl rfl (i := 3) rfl rfl rfl rfl) (by rintro _ _ _ ⟨rfl, rfl⟩; exact ⟨fun _ h => h, (.cons_cons _ (.cons_cons _ (.cons_cons _ (.cons _ (.refl _)))))⟩) ?_
          rintro _ _ _ ⟨rfl, rfl⟩
          refine AtO.done ?_
          refine At.loudN (l_store t80 rfl rfl (i := 2) rfl rfl rfl rfl) ?_
          rintro _ _ _ ⟨rfl, rfl⟩
          refine At.nil ?_
          refine At.then ?_
          refine At.ret ?_
          exact At.results (Γr := [_, _, _]) (M := []) rfl (RVals.cons (RVal.cellS rfl t24 (RdS.loc (i := 3) rfl (m := 2) rfl) rfl) (RVals.cons (RVal.cellS rfl t80 (RdS.loc (i := 2) rfl (m := 6) rfl) rfl) RVals.nil)) (.tail _ (.tail _ (.tail _ (.tail _ (.tail _ (.tail _ (.tail _ (.tail _ (.tail _ (.tail _ (.head _))))))))))) (fun _ h => ⟨h.2.2.1, h.2.2.2.1, h.2.1, trivial⟩) (.cons _ (.cons _ (.cons _ (.cons _ (.refl _))))) ⟨w, s2, by rw [hso]; rfl, rfl, rfl, by rw [hso] <;> exact rfl, by rw [hso] <;> exact hs2⟩
set_option maxHeartbeats 2000000 in
theorem run56 (t : Tr) (hsm : smallP t.ns.l) (p : Pol) (l : Sl OpS) (hal : (allT t.p).length ≤ 10000) (hll : l.l.length ≤ 1000) : Con Try.prog 56 [t.val, p.val, l.val] [ndsP t.ns, psP t.ns.l, opsP l] [] (RunEnd t.p p l.l) := by
  refine Con.body 41 Try.func56 rfl Try.ntmps56 rfl fun X H₀ L₀ => ?_
  refine At.know (ndsP ⟨none, 0, []⟩) (fun _ h => sl_nil _ _ _ (Nat.zero_le _)) ?_
  refine At.know (psP []) (fun _ h => psP_nil) ?_
  refine At.know (ansP ⟨none, 0, []⟩) (fun _ h => sl_nil _ _ _ (Nat.zero_le _)) ?_
  refine At.know (apsP []) (fun _ h => apsP_nil) ?_
  refine At.seq ?_
  refine At.region ?_
  refine At.loud (l_box rfl) rfl ?_
  rintro _ _ _ ⟨b1, rfl, rfl, rfl⟩
  refine At.loud (l_box rfl) rfl ?_
  rintro _ _ _ ⟨b2, rfl, rfl, rfl⟩
  refine At.freeze 0 (φ := blk b2 _) rfl (fun _ h => blk_def.2 ⟨_, _, h⟩) ?_
  refine At.loud (l_alloc t24) rfl ?_
  rintro _ _ _ ⟨b3, rfl, rfl, rfl⟩
  refine At.skim 1 rfl rfl ?_
  refine At.nil ?_
  refine At.then ?_
  refine At.seq ?_
  refine At.region ?_
  refine At.quiet (q_loadS t24 rfl (RdS.loc (i := 1) rfl (m := 2) rfl) rfl) rfl ?_
  refine At.call en25 rfl (plain25 _ (by assumption)) (fun _ h => ⟨h.2.2.2.2.2.2.1, h.2.2.2.2.2.2.2.1, trivial⟩) (List.Perm.refl _) rfl ?_
  rintro _ _ _ ⟨w, Mw, rfl, rfl, rfl, hw, hpw⟩
  refine At.skim 1 rfl rfl ?_
  refine At.quiet (q_extract rfl rfl) rfl ?_
  refine At.quiet (q_extract rfl rfl) rfl ?_
  refine At.loudN (l_store t24 rfl rfl (i := 2) rfl rfl rfl rfl) ?_
  rintro _ _ _ ⟨rfl, rfl⟩
  refine At.skim 1 rfl rfl ?_
  refine At.nil ?_
  refine At.then ?_
  refine At.seq ?_
  refine At.seq ?_
  refine At.region ?_
  refine At.skim 2 rfl rfl ?_
  refine At.nil ?_
  refine At.then ?_
  refine At.cond rfl (fun hm => ?_) (fun hm => ?_)
  · skip
    refine At.seq ?_
    refine At.region ?_
    refine At.quiet (q_build t24 s24 rfl rfl) rfl ?_
    refine At.loudN (l_store t24 rfl rfl (i := 1) rfl rfl rfl rfl) ?_
    rintro _ _ _ ⟨rfl, rfl⟩
    refine At.skim 1 rfl rfl ?_
    refine At.nil ?_
    refine At.then ?_
    refine At.ret ?_
    refine At.thenRet ?_
    exact At.results (Γr := [_, psP [], _, apsP []]) (M := []) rfl (RVals.cons (RVal.cellS rfl t24 (RdS.loc (i := 1) rfl (m := 2) rfl) rfl) (RVals.cons (RVal.tmp rfl) RVals.nil)) (.tail _ (.tail _ (.tail _ (.tail _ (.tail _ (.tail _ (.head _))))))) (fun _ h => ⟨h.2.2.2.2.2.1, h.2.2.2.2.1, h.2.2.2.1, h.2.2.1, trivial⟩) (.cons _ (.cons _ (.cons _ (.refl _)))) ⟨⟨0, ⟨none, 0, []⟩⟩, ⟨none, 0, []⟩, rfl, rfl, rfl, by unfold runT; rw [if_neg (by rw [not_t hm]; simp)]; rfl, by unfold runT; rw [if_neg (by rw [not_t hm]; simp)]; rfl⟩
  · skip
    have hmt : (mayT t.p).isSome = true := not_f hm
    obtain ⟨hk1, _, hk3, _⟩ := plain_keeps hmt
    refine At.skip ?_
    refine At.then ?_
    refine At.seq ?_
    refine At.region ?_
    refine At.freezeOwn 0 hw rfl ?_
    refine At.nilSeg ?_
    refine At.lenOf (hs := (.tail _ (.tail _ (.tail _ (.tail _ (.tail _ (.tail _ (.tail _ (.tail _ (.tail _ (.tail _ (.head _)))))))))))) fun hlen => ?_
    rw [List.length_map] at hlen
    refine At.skim 1 rfl rfl ?_
    refine At.nil ?_
    refine At.then ?_
    refine At.seq ?_
    refine At.seq ?_
    refine At.region ?_
    refine At.skim 1 rfl rfl ?_
    refine At.quiet (q_len Try.underlying72 rfl) rfl ?_
    refine At.skim 1 rfl rfl ?_
    refine At.nil ?_
    refine At.then ?_
    refine At.block ?_
    refine At.front 0 rfl ?_
    refine At.front 2 rfl ?_
    refine At.loopK (ι := Nat × Tr × List AnS × Option Addr × Nat × Seg) [9, 11, 12, 23, 24, 25, 26, 27, 28, 29, 30, 31, 32, 33, 34, 35, 36, 37, 38] (fun ⟨k, v, r, a, c, M⟩ => [(23, .int .i64 (k : Int)), (9, .slice a r.length c)]) (fun ⟨k, v, r, a, c, M⟩ => [ndsP v.ns, psP v.ns.l, apsP r]) (fun ⟨k, v, r, a, c, M⟩ => [[(b1, .cells #[.int .i64 v.root, v.ns.val] 24 (0, 0))], M]) _ (fun ⟨k, v, r, a, c, M⟩ => k ≤ l.l.length ∧ v.p = (run2 p (plainD t.p) (l.l.take k)).1 ∧ r.map AnS.a = (run2 p (plainD t.p) (l.l.take k)).2 ∧ Own 80 6 (r.map rowA) a c M ∧ r.length ≤ k) (fun ⟨k, v, r, a, c, M⟩ => l.l.length - k) (0, w, [], none, 0, []) ⟨Nat.zero_le _, by rw [hpw]; rfl, rfl, Own.nil _ _, Nat.le_refl _⟩ ⟨rfl, rfl, trivial⟩ (fun _ h => ⟨h.1, h.2.1, h.2.2.2.1, trivial⟩) (.cons_cons _ (.cons_cons _ (.refl _))) ?_
    intro i0 hI0
    obtain ⟨k, v, r, a, c, M⟩ := i0
    obtain ⟨hkl, hv, hr, hO, hrk⟩ := hI0
    obtain ⟨f1, f2, f3⟩ := run_keeps (p := p) (l := l.l) hk1 k
    rw [hk3] at f2
    rw [← hv] at f1 f2
    have hvs : smallP v.ns.l := small_all f1 f2 (by omega)
    refine At.seq ?_
    refine At.region ?_
    refine At.skim 1 rfl rfl ?_
    refine At.nil ?_
    refine At.then ?_
    refine At.seq ?_
    refine At.if rfl (fun hk => ?_) (fun hk => ?_)
    · skip
      obtain ⟨o, ho⟩ := get_of_lt (l := l.l) (i := k) (by omega)
      have hko := lt_of_get ho
      refine At.skip ?_
      refine At.then ?_
      refine At.seq ?_
      refine At.block ?_
      refine At.seq ?_
      refine At.region ?_
      refine At.quiet (q_index Try.underlying72 t77 rfl (.tail _ (.tail _ (.tail _ (.tail _ (.tail _ (.tail _ (.tail _ (.tail _ (.tail _ (.tail _ (.tail _ (.tail _ (.tail _ (.head _)))))))))))))) (by simp) rfl rfl (lt_of_get ho)) rfl ?_
      refine At.quiet (q_loadS t77 rfl (RdS.sl0 (.tail _ (.tail _ (.tail _ (.tail _ (.tail _ (.tail _ (.tail _ (.tail _ (.tail _ (.tail _ (.tail _ (.tail _ (.tail _ (.head _)))))))))))))) (map_get ho)) rfl) rfl ?_
      refine At.loud (l_alloc t77) rfl ?_
      rintro _ _ _ ⟨b4, rfl, rfl, rfl⟩
      refine At.loudN (l_store t77 rfl rfl (i := 0) rfl rfl rfl rfl) ?_
      rintro _ _ _ ⟨rfl, rfl⟩
      refine At.nil ?_
      refine At.then ?_
      refine At.seq ?_
      refine At.region ?_
      refine At.loud (l_alloc t80) rfl ?_
      rintro _ _ _ ⟨b5, rfl, rfl, rfl⟩
      refine At.nil ?_
      refine At.then ?_
      refine At.seq ?_
      refine At.region ?_
      refine At.quiet (q_loadS t24 rfl (RdS.loc (i := 2) rfl (m := 2) rfl) rfl) rfl ?_
      refine At.quiet (q_loadS t64 rfl (RdS.blk (.tail _ (.tail _ (.tail _ (.tail _ (.tail _ (.head _)))))) (m := 5) rfl) rfl) rfl ?_
      refine At.quiet (q_loadS t77 rfl (RdS.loc (i := 1) rfl (m := 4) rfl) rfl) rfl ?_
      refine At.call en57 rfl (solo57 v hvs p o (by omega)) (fun _ h => ⟨h.1, h.2.1, trivial⟩) (List.Perm.refl _) rfl ?_
      rintro _ _ _ ⟨u, s2, rfl, rfl, rfl, hpu, hs2⟩
      refine At.skim 1 rfl rfl ?_
      refine At.quiet (q_extract rfl rfl) rfl ?_
      refine At.quiet (q_extract rfl rfl) rfl ?_
      refine At.loudN (l_store t24 rfl rfl (i := 2) rfl rfl rfl rfl) ?_
      rintro _ _ _ ⟨rfl, rfl⟩
      refine At.loudN (l_store t80 rfl rfl (i := 0) rfl rfl rfl rfl) ?_
      rintro _ _ _ ⟨rfl, rfl⟩
      refine At.nil ?_
      refine At.then ?_
      refine At.region ?_
      refine At.skim 1 rfl rfl ?_
      refine At.quiet (q_loadS t80 rfl (RdS.loc (i := 0) rfl (m := 6) rfl) rfl) rfl ?_
      refine At.loud (l_buildSlice Try.underlying73 t80 rfl rfl rfl rfl rfl) rfl ?_
      rintro _ _ _ ⟨b6, rfl, rfl, rfl⟩
      refine At.loud (l_append rfl Try.underlying73 t80 rfl rfl hO (by simp) (i := 4) rfl rfl (news := [rowA (AnS.of (soloT v.p p o).2 s2)]) (by simp [rowA, AnS.of]) (RdS.loc (i := 0) rfl (m := 6) rfl) rfl rfl rfl (by omega) (by unfold maxLen; omega)) rfl ?_
      rintro _ _ _ ⟨a2, c2, M2, rfl, ow, rfl, rfl⟩
      refine At.skim 1 rfl rfl ?_
      refine At.nil ?_
      refine At.inNormal ?_
      refine At.then ?_
      refine At.region ?_
      refine At.know (apsP (r ++ [AnS.of (soloT v.p p o).2 s2])) (fun _ h => apsP_snoc (n := AnS.of (soloT v.p p o).2 s2) h.2.2.2.2.2.1 h.2.2.1) ?_
      refine At.quiet (q_add rfl rfl (by omega) (by omega)) rfl ?_
      refine At.skim 1 rfl rfl ?_
      refine At.nil ?_
      refine At.say 9 (.slice a2 (r ++ [AnS.of (soloT v.p p o).2 s2]).length c2) rfl (by simp) ?_
      refine At.front 4 rfl ?_
      refine At.front 4 rfl ?_
      refine At.then ?_
      exact At.againK (k + 1, u, r ++ [AnS.of (soloT v.p p o).2 s2], a2, c2, M2) ⟨hko, by rw [hpu, run_step ho, ← hv], by rw [run_step ho, ← hr, ← hv, List.map_append]; simp [AnS.of_a hs2], by simpa using ow, by simp; omega⟩ (by (try dsimp only); omega) (Tells.end 22 ⟨rfl, rfl, trivial⟩ rfl rfl) (fun _ h => ⟨h.2.1, ⟨h.2.2.1, ⟨h.1, h.2.2.2.2.2.2.2⟩⟩⟩) (.cons_cons _ (.cons_cons _ (.cons _ (.cons _ (.cons _ (.refl _))))))
    · skip
      refine At.freezeOwn 1 hO rfl ?_
      have hrt : runT t.p p l.l = run2 p (plainD t.p) (l.l.take k) := by unfold runT; rw [if_pos hmt, List.take_of_length_le (by omega)]
      refine At.exit ?_
      refine At.thenExit ?_
      refine At.thenExit ?_
      refine At.inHere rfl ?_
      refine At.then ?_
      refine At.seq ?_
      refine At.region ?_
      refine At.quiet (q_loadS t24 rfl (RdS.loc (i := 0) rfl (m := 2) rfl) rfl) rfl ?_
      refine At.skim 1 rfl rfl ?_
      refine At.loudN (l_store t24 rfl rfl (i := 1) rfl rfl rfl rfl) ?_
      rintro _ _ _ ⟨rfl, rfl⟩
      refine At.skim 1 rfl rfl ?_
      refine At.nil ?_
      refine At.then ?_
      refine At.ret ?_
      exact At.results (Γr := [_, _, ansP ⟨a, c, r⟩, apsP r]) (M := []) rfl (RVals.cons (RVal.cellS rfl t24 (RdS.loc (i := 1) rfl (m := 2) rfl) rfl) (RVals.cons (RVal.tmp rfl) RVals.nil)) (.tail _ (.tail _ (.tail _ (.tail _ (.tail _ (.tail _ (.tail _ (.tail _ (.tail _ (.tail _ (.tail _ (.head _)))))))))))) (fun _ h => ⟨h.2.1, h.2.2.1, h.1, h.2.2.2.1, trivial⟩) (.cons _ (.cons _ (.refl _))) ⟨v, ⟨a, c, r⟩, rfl, rfl, rfl, by rw [hrt]; exact hv, by rw [hrt]; exact hr⟩
end Go.Proofs.Ytmkodknmknfdkaa
set_option linter.unusedVariables false
set_option linter.unusedSimpArgs false
namespace Go.Proofs.Ytmkodknmknfdkaa
open E
def aw17o : List OpS := [⟨1, 1, 0, 0⟩, ⟨1, 2, 0, 3⟩, ⟨4, 2, 0, 0⟩]
theorem aw17_1 : (runT (oneT []) Pol.eager aw17o).1.ns.length = 3 ∧ (runT (oneT []) Pol.eager aw17o).2.length = 3 ∧ ((runT (oneT []) Pol.eager aw17o).2[2]?).map (fun a => a.p.v) = some 3 := by decide +kernel
theorem aw17_2 : (touchT (runT (oneT []) Pol.eager aw17o).1 ⟨5, 0, 9, 0⟩).length = 2 := by decide +kernel
theorem all_len2 {t : PT} {b : Nat} (h : pairsUpto t.ns t.ns.length ≤ b) : (allT t).length ≤ b := by
  cases hs : mayT t with
  | none => simp [allT, leavesT, hs]
  | some s => rw [all_pairs hs]; exact h
theorem same_self {t : PT} : sameT t t = (mayT t).isSome := by
  cases h : (mayT t).isSome
  · unfold sameT; rw [h]; simp
  · exact same_true h h rfl
end Go.Proofs.Ytmkodknmknfdkaa
set_option linter.unusedVariables false
set_option linter.unusedSimpArgs false
namespace Go.Proofs.Ytmkodknmknfdkaa
open E
set_option maxRecDepth 4000
theorem t78 : tRow Try.prog 78 = some (true, 1, 8, .int .i64 0) := by kernel_rfl
theorem en56 : Enters Try.prog 56 := Enters.mk' Try.func56 rfl rfl
theorem en65 : Enters Try.prog 65 := Enters.mk' Try.func65 rfl rfl
theorem eager65  : Con Try.prog 65 [] [] [] (fun v Γ M => v = Pol.eager.val ∧ Γ = [] ∧ M = []) := by
  refine Con.body 2 Try.func65 rfl Try.ntmps65 rfl fun X H₀ L₀ => ?_
  refine At.seq ?_
  refine At.region ?_
  refine At.loud (l_alloc t64) rfl ?_
  rintro _ _ _ ⟨b1, rfl, rfl, rfl⟩
  refine At.nil ?_
  refine At.then ?_
  refine At.seq ?_
  refine At.region ?_
  refine At.quiet (q_build t64 s64 rfl rfl) rfl ?_
  refine At.loudN (l_store t64 rfl rfl (i := 0) rfl rfl rfl rfl) ?_
  rintro _ _ _ ⟨rfl, rfl⟩
  refine At.nil ?_
  refine At.then ?_
  refine At.ret ?_
  exact At.results (Γr := []) (M := []) rfl (RVals.cons (RVal.cellS rfl t64 (RdS.loc (i := 0) rfl (m := 5) rfl) rfl) RVals.nil) (.head _) (fun _ _ => trivial) (.cons _ (.refl _)) ⟨rfl, rfl, rfl⟩
theorem awake55  : Con Try.prog 55 [] [] [] (fun v Γ M => v = .bool true ∧ Γ = [] ∧ M = []) := by
  refine Con.body 37 Try.func55 rfl Try.ntmps55 rfl fun X H₀ L₀ => ?_
  refine At.know (prsP ⟨none, 0, []⟩) (fun _ h => sl_nil _ _ _ (Nat.zero_le _)) ?_
  refine At.seq ?_
  refine At.region ?_
  refine At.skim 1 rfl rfl ?_
  refine At.nil ?_
  refine At.then ?_
  refine At.seq ?_
  refine At.region ?_
  refine At.call en31 rfl (one31 ⟨none, 0, []⟩ (by simp)) (fun _ h => ⟨h.1, trivial⟩) (List.Perm.refl _) rfl ?_
  rintro _ _ _ ⟨t, rfl, rfl, rfl, hpt⟩
  refine At.call en65 rfl (eager65) (fun _ _ => trivial) (List.Perm.refl _) rfl ?_
  rintro _ _ _ ⟨rfl, rfl, rfl⟩
  refine At.quiet (q_build t77 s77 rfl rfl) rfl ?_
  refine At.quiet (q_build t77 s77 rfl rfl) rfl ?_
  refine At.quiet (q_build t77 s77 rfl rfl) rfl ?_
  refine At.loud (l_buildSlice Try.underlying72 t77 rfl rfl rfl rfl rfl) rfl ?_
  rintro _ _ _ ⟨b1, rfl, rfl, rfl⟩
  refine At.freeze 0 (φ := opsP ⟨some ⟨b1, 0, none⟩, 3, aw17o⟩) rfl (fun _ h => sl_of_block h rfl (by simp [rowO, aw17o]) (by kernel_rfl) (show (3 : Nat) ≤ maxLen from by decide)) ?_
  have hta : t.p = oneT [] := hpt
  have htm : (mayT t.p).isSome = true := by rw [hta, one_may]; rfl
  have htl : (allT t.p).length = 0 := by rw [hta, one_all]; rfl
  have hts : smallP t.ns.l := small_all htm (Nat.le_of_eq htl) (by omega)
  refine At.call en56 rfl (run56 t hts Pol.eager ⟨_, 3, aw17o⟩ (by omega) (by simp [aw17o])) (fun _ h => ⟨h.2.1, h.2.2.1, h.1, trivial⟩) (List.Perm.refl _) rfl ?_
  rintro _ _ _ ⟨u, r, rfl, rfl, rfl, hpu, hr⟩
  refine At.skim 1 rfl rfl ?_
  refine At.quiet (q_extract rfl rfl) rfl ?_
  refine At.quiet (q_extract rfl rfl) rfl ?_
  refine At.loud (l_alloc t24) rfl ?_
  rintro _ _ _ ⟨b2, rfl, rfl, rfl⟩
  refine At.loudN (l_store t24 rfl rfl (i := 0) rfl rfl rfl rfl) ?_
  rintro _ _ _ ⟨rfl, rfl⟩
  refine At.skim 1 rfl rfl ?_
  refine At.nil ?_
  refine At.then ?_
  refine At.seq ?_
  refine At.region ?_
  rw [hta] at hpu hr
  obtain ⟨w1, w2, w3⟩ := aw17_1
  have hul : u.ns.l.length = 3 := by have h := p_len hpu; rw [h]; exact w1
  have hrl : r.l.length = 3 := by have h := congrArg List.length hr; rw [List.length_map] at h; rw [h]; exact w2
  obtain ⟨x, hx⟩ := get_of_lt (l := r.l) (i := 2) (by omega)
  have hxv : x.p.v = 3 := by rw [← hr, List.getElem?_map, hx] at w3; exact Option.some.inj w3
  refine At.fld s24 t22 rfl rfl rfl (Rd.loc (i := 0) rfl rfl) rfl rfl ?_
  refine At.quiet (q_len Try.underlying22 rfl) rfl ?_
  refine At.skim 2 rfl rfl ?_
  refine At.say 17 (.bool true) rfl (congrArg Value.bool (decide_eq_true (by rw [hul]; rfl))) ?_
  refine At.skim 1 rfl rfl ?_
  refine At.open rfl rfl ?_
  refine At.quiet (q_len Try.underlying73 rfl) rfl ?_
  refine At.skim 3 rfl rfl ?_
  refine At.say 22 (.bool true) rfl (congrArg Value.bool (decide_eq_true (by rw [hrl]; rfl))) ?_
  refine At.skim 1 rfl rfl ?_
  refine At.open rfl rfl ?_
  refine At.quiet (q_index Try.underlying73 t80 rfl (.tail _ (.tail _ (.head _))) (by simp) rfl rfl (lt_of_get hx)) rfl ?_
  refine At.open rfl rfl ?_
  refine At.quiet (q_fieldAddr s80 rfl rfl rfl) rfl ?_
  refine At.open rfl rfl ?_
  refine At.quiet (q_fieldAddr s50 rfl rfl rfl) rfl ?_
  refine At.have _ (fun _ hH => sl_spot (hH.mem (.tail _ (.tail _ (.head _)))) (map_get hx)) fun hsp => ?_
  refine At.say 26 (.pointer (some (((adr r.a).add (2 * 6)).add 3))) rfl (by rw [add_two hsp]) ?_
  refine At.open rfl rfl ?_
  refine At.quiet (q_load t3 rfl (Rd.sl (.tail _ (.tail _ (.head _))) (map_get hx) rfl)) rfl ?_
  refine At.skim 3 rfl rfl ?_
  refine At.say 30 (.bool true) rfl (congrArg Value.bool (decide_eq_true hxv)) ?_
  refine At.open rfl rfl ?_
  refine At.quiet (q_loadS t24 rfl (RdS.loc (i := 0) rfl (m := 2) rfl) rfl) rfl ?_
  refine At.open rfl rfl ?_
  refine At.quiet (q_build t77 s77 rfl rfl) rfl ?_
  refine At.open rfl rfl ?_
  refine At.call en61 rfl (touched61 u ⟨5, 0, 9, 0⟩) (fun _ h => ⟨h.1, h.2.1, trivial⟩) (List.Perm.refl _) rfl ?_
  rintro _ _ _ ⟨tl, rfl, rfl, rfl, htl2⟩
  refine At.open rfl rfl ?_
  refine At.quiet (q_len Try.underlying37 rfl) rfl ?_
  refine At.skim 3 rfl rfl ?_
  refine At.nil ?_
  refine At.then ?_
  refine At.ret ?_
  exact At.results (Γr := []) (M := []) rfl (RVals.cons (RVal.tmp rfl) RVals.nil) (.tail _ (.tail _ (.tail _ (.tail _ (.tail _ (.tail _ (.tail _ (.tail _ (.tail _ (.head _)))))))))) (fun _ _ => trivial) (.cons _ (.refl _)) ⟨congrArg Value.bool (decide_eq_true (by rw [htl2, toI_length, hpu, aw17_2]; rfl)), rfl, rfl⟩
end Go.Proofs.Ytmkodknmknfdkaa
set_option linter.unusedVariables false
set_option linter.unusedSimpArgs false
namespace Go.Proofs.Ytmkodknmknfdkaa
open E
def ct (n : Nod) : List Pr × Int := (n.l, n.stat)
def contS (ns : List Nod) (s : Sh) : List (List Pr × Int) := s.leaves.map fun i => ct (ns.getD i default)
def contT (t : PT) : List (List Pr × Int) := (leavesT t).map fun i => ct (t.ns.getD i default)
def conts (l : List Nod) : List (List Pr × Int) := (l.filter fun n => !n.route).map ct
end Go.Proofs.Ytmkodknmknfdkaa
set_option linter.unusedVariables false
set_option linter.unusedSimpArgs false
namespace Go.Proofs.Ytmkodknmknfdkaa
open E
def opsK (l : List Int) (k : Nat) : List OpS := (List.range k).map fun i => ⟨1, l.getD i 0, 0, (i : Int)⟩
def wantK (l : List Int) : Nat → List Pr
  | 0 => []
  | k + 1 => withT (wantK l k) ⟨l.getD k 0, (k : Int)⟩
def good0 (t : PT) : Prop := ∀ c ∈ contT t, 0 ≤ c.2
end Go.Proofs.Ytmkodknmknfdkaa
set_option linter.unusedVariables false
set_option linter.unusedSimpArgs false
namespace Go.Proofs.Ytmkodknmknfdkaa
open E
def Pol.taking : Pol := ⟨1000, 0, 0, 1, 0⟩
def neg0 (t : PT) : Prop := ∀ n ∈ t.ns, n.stat ≤ 0
theorem lay_stat {ns : List Nod} {s : Sh} {P : Int → Prop} (h : ∀ p ∈ s.places, P (ns.getD p default).stat) : ∀ (b : Nat), ∀ n ∈ s.lay ns b, P n.stat := by
  induction s with
  | leaf i => intro b n hn; simp only [Sh.lay, List.mem_singleton] at hn; rw [hn]; exact h i (by simp [Sh.places])
  | node i l r h1 h2 =>
    intro b n hn
    simp only [Sh.lay, List.mem_cons, List.mem_append] at hn
    rcases hn with rfl | hn | hn
    · exact h i (by simp [Sh.places])
    · exact h1 (fun p hp => h p (by simp [Sh.places, hp])) _ n hn
    · exact h2 (fun p hp => h p (by simp [Sh.places, hp])) _ n hn
theorem getD_stat {ns : List Nod} (h : ∀ n ∈ ns, n.stat ≤ 0) (p : Nat) : (ns.getD p default).stat ≤ 0 := by
  rw [List.getD_eq_getElem?_getD]
  cases e : ns[p]? with
  | none => exact Int.le_refl 0
  | some n => exact h n (List.mem_of_getElem? e)
theorem plain_neg {t : PT} (h : neg0 t) (hm : (mayT t).isSome = true) : neg0 (plainD t) := by
  obtain ⟨s, hs⟩ := Option.isSome_iff_exists.1 hm
  rw [(plain_may hs).1]
  exact lay_stat (P := fun z => z ≤ 0) (fun p _ => getD_stat h p) 0
theorem set_neg {ns : List Nod} {i : Nat} {n : Nod} (h : ∀ n ∈ ns, n.stat ≤ 0) (hn : n.stat ≤ 0) : ∀ m ∈ ns.set i n, m.stat ≤ 0 := fun m hm => by
  rcases List.mem_or_eq_of_mem_set hm with h1 | rfl
  · exact h m h1
  · exact hn
theorem join_neg {t u : PT} {a : Int} (h : joinT t a = some u) (hg : neg0 t) : neg0 u := by
  unfold joinT at h
  split at h
  · cases hs : mayT t with
    | none => rw [hs] at h; cases h
    | some s =>
      rw [hs] at h
      simp only [] at h
      cases hnb : s.nb a.toNat with
      | none => rw [hnb] at h; cases h
      | some x =>
        obtain ⟨q, side, m⟩ := x
        rw [hnb] at h
        cases h
        exact lay_stat (P := fun z => z ≤ 0) (fun p _ => getD_stat (set_neg hg (by simp [joinN])) p) 0
  · cases h
theorem taking_next {s : Int} (h : s ≤ 0) : nextS Pol.taking s 2 ≤ 0 ∧ decideS Pol.taking (nextS Pol.taking s 2) = 2 := by
  have e1 : Pol.taking.clamp = ⟨1000, 0, 0, 1, 0⟩ := by decide
  have e2 : nextS Pol.taking s 2 = max (s - 1) (-1000000) := by
    unfold nextS pushed
    rw [e1, if_neg (by decide), if_pos rfl]
    simp only [heldS, hold]
    omega
  rw [e2]
  refine ⟨by omega, ?_⟩
  unfold decideS
  rw [e1]
  have e3 : heldS (max (s - 1) (-1000000)) = max (s - 1) (-1000000) := by simp only [heldS, hold]; omega
  rw [e3, if_neg (by show ¬ (1000 : Int) < _; omega), if_pos (by show _ < (0 : Int); omega)]
def cutO (k : Int) : OpS := ⟨3, k, 0, 0⟩
theorem cut_may (k : Int) : mayO (cutO k) = true ∧ updO (cutO k) = true := ⟨rfl, rfl⟩
theorem do_cut {l : List Pr} {k : Int} (h : rises l = true) : (doT l (cutO k)).1 = without l k ∧ (doT l (cutO k)).2.err = 0 := by
  rw [do_upd h (cut_may k).1 (cut_may k).2]
  refine ⟨by simp [cutO], ?_⟩
  show (hit l k).err = 0
  unfold hit
  cases l.find? (isK k) <;> rfl
theorem taking_step {t : PT} {k : Int} (h : (mayT t).isSome = true) (hg : neg0 t) : (mayT (soloT t Pol.taking (cutO k)).1).isSome = true ∧ neg0 (soloT t Pol.taking (cutO k)).1 ∧
    (leavesT (soloT t Pol.taking (cutO k)).1).length = max 1 ((leavesT t).length - 1) ∧ allT (soloT t Pol.taking (cutO k)).1 = without (allT t) k ∧ (soloT t Pol.taking (cutO k)).2.err = 0 := by
  obtain ⟨k1, k2, k3⟩ := solo_keeps (p := Pol.taking) (o := cutO k) h
  obtain ⟨d1, d2⟩ := do_cut (k := k) (all_rise t)
  refine ⟨k1, ?_, ?_, by rw [k2, d1], by rw [k3, d2]⟩
  all_goals rw [solo_plain h (cut_may k).1]
  all_goals show _
  all_goals
    obtain ⟨p1, p2, p3, _⟩ := plain_keeps h
    obtain ⟨s, hs⟩ := Option.isSome_iff_exists.1 p1
    have hgp := plain_neg hg h
    have htr : treeT (plainD t) Pol.taking (cutO k) = updT (plainD t) Pol.taking (cutO k) := tree_upd (cut_may k).2
    obtain ⟨n, hn⟩ := get_of_lt (find_lt hs (cutO k).key)
    obtain ⟨h1, h2, h3, h4, h5, h6, h7⟩ := upd_set (st := nextS Pol.taking n.stat 2) hs (cut_may k).1 (cut_may k).2 rfl hn (next_bd _ n.stat 2).1 (next_bd _ n.stat 2).2
    have hst := hgp n (List.mem_of_getElem? hn)
    obtain ⟨t1, t2⟩ := taking_next hst
    have e : (⟨(plainD t).root, (plainD t).ns.set (findD (plainD t) (cutO k).key).leaf { n with l := (doT n.l (cutO k)).1, stat := nextS Pol.taking n.stat 2 }⟩ : PT).ns[(findD (plainD t) (cutO k).key).leaf]? = some { n with l := (doT n.l (cutO k)).1, stat := nextS Pol.taking n.stat 2 } := List.getElem?_set_self (lt_of_get hn)
    have hgs : neg0 ⟨(plainD t).root, (plainD t).ns.set (findD (plainD t) (cutO k).key).leaf { n with l := (doT n.l (cutO k)).1, stat := nextS Pol.taking n.stat 2 }⟩ := set_neg hgp t1
    have hu : updT (plainD t) Pol.taking (cutO k) = (bendT ⟨(plainD t).root, (plainD t).ns.set (findD (plainD t) (cutO k).key).leaf { n with l := (doT n.l (cutO k)).1, stat := nextS Pol.taking n.stat 2 }⟩ Pol.taking ((findD (plainD t) (cutO k).key).leaf : Int)).1 := by
      unfold updT setD
      rw [getD_of hn, h1]
      rfl
    have hi' : (findD (plainD t) (cutO k).key).leaf ∈ leavesT ⟨(plainD t).root, (plainD t).ns.set (findD (plainD t) (cutO k).key).leaf { n with l := (doT n.l (cutO k)).1, stat := nextS Pol.taking n.stat 2 }⟩ := by rw [h3]; exact h7
    have hpos := leavesT_pos hs
    have hb := bend_eq (p := Pol.taking) (leaf_of_leaves hi') e
    rw [if_neg (fun hh => by rw [t2] at hh; exact absurd hh.1 (by decide))] at hb
    have hji := join_iff h2 hi'
    rw [h3] at hji
  · show neg0 (treeT _ _ _)
    rw [htr, hu, hb]
    split
    · rename_i hh
      obtain ⟨u, hju⟩ := Option.isSome_iff_exists.1 hh.2
      show neg0 (optD _)
      rw [hju]
      exact join_neg hju hgs
    · exact plain_neg hgs (by rw [h2]; rfl)
  · show (leavesT (treeT _ _ _)).length = _
    rw [htr, hu, hb]
    split
    · rename_i hh
      obtain ⟨u, hju⟩ := Option.isSome_iff_exists.1 hh.2
      obtain ⟨_, j2, _⟩ := join_keeps hju
      rw [hh.2] at hji
      have hl1 := of_decide_eq_true hji.symm
      show (leavesT (optD _)).length = _
      rw [hju]
      show (leavesT u).length = _
      rw [h3] at j2
      omega
    · rename_i hh
      have hl1 : ¬ 1 < (leavesT (plainD t)).length := fun h9 => hh ⟨t2, by rw [hji]; exact decide_eq_true h9⟩
      have := (plain_keeps (t := ⟨(plainD t).root, (plainD t).ns.set (findD (plainD t) (cutO k).key).leaf { n with l := (doT n.l (cutO k)).1, stat := nextS Pol.taking n.stat 2 }⟩) (by rw [h2]; rfl)).2.1
      rw [h3] at this
      show (leavesT (plainD _)).length = _
      omega
theorem without_two (l : List Pr) (k : Int) : without (without l k) k = without l k := by
  unfold without
  rw [List.filter_filter]
  simp
/-- The leaves set to nought, one by one. -/
def zeroSt (t : PT) (a : Nat) : PT := setD t (a : Int) (t.ns.getD a default).l 0
theorem zero_step {t : PT} {s : Sh} {a : Nat} (hs : mayT t = some s) (ha : a ∈ leavesT t) : ∃ n, t.ns[a]? = some n ∧ n.route = false ∧ setT t (a : Int) n.l 0 = some (zeroSt t a) ∧ zeroSt t a = ⟨t.root, t.ns.set a { n with stat := 0 }⟩ ∧ mayT (zeroSt t a) = some s ∧ leavesT (zeroSt t a) = leavesT t ∧ allT (zeroSt t a) = allT t := by
  have ha1 := ha
  rw [leavesT_eq hs] at ha1
  obtain ⟨n, hn, hr, _⟩ := fits_leaf (may_fits hs) (good_of hs).nodup ha1
  obtain ⟨h1, h2, h3, h4⟩ := set_stat hs ha hn (show -1000000 ≤ 0 by decide) (show 0 ≤ 1000000 by decide)
  have e : zeroSt t a = ⟨t.root, t.ns.set a { n with l := n.l, stat := 0 }⟩ := by
    unfold zeroSt setD
    rw [getD_of hn, h1]; rfl
  exact ⟨n, hn, hr, by rw [e, h1], e, by rw [e]; exact h2, by rw [e]; exact h3, by rw [e]; exact h4⟩
theorem zero_fold {t : PT} {s : Sh} {l : List Nat} (hs : mayT t = some s) (hl : ∀ a ∈ l, a ∈ leavesT t) : mayT (l.foldl zeroSt t) = some s ∧ leavesT (l.foldl zeroSt t) = leavesT t ∧ allT (l.foldl zeroSt t) = allT t ∧ ∀ j, (j ∈ l ∨ (t.ns.getD j default).stat = 0) → ((l.foldl zeroSt t).ns.getD j default).stat = 0 := by
  induction l generalizing t with
  | nil => exact ⟨hs, rfl, rfl, fun j hj => by rcases hj with hj | hj; cases hj; exact hj⟩
  | cons a l ih =>
    obtain ⟨n, hn, _, _, he, h1, h2, h3⟩ := zero_step hs (hl a (by simp))
    obtain ⟨k1, k2, k3, k4⟩ := ih h1 fun b hb => by rw [h2]; exact hl b (by simp [hb])
    refine ⟨k1, k2.trans h2, k3.trans h3, fun j hj => k4 j ?_⟩
    by_cases hja : j = a
    · right
      rw [he, hja]
      show (List.getD (t.ns.set a _) a default).stat = 0
      rw [getD_of (List.getElem?_set_self (lt_of_get hn))]
    · rcases hj with hj | hj
      · rcases List.mem_cons.1 hj with e | hj
        · exact absurd e hja
        · exact .inl hj
      · right
        rw [he]
        show (List.getD (t.ns.set a _) j default).stat = 0
        rw [List.getD_eq_getElem?_getD, List.getElem?_set_ne (fun e => hja e.symm), ← List.getD_eq_getElem?_getD]
        exact hj
theorem fits_stat {ns : List Nod} {s : Sh} {a : Int} {k : Kb} (h : Fits ns s a k) (hl : ∀ i ∈ s.leaves, (ns.getD i default).stat = 0) : ∀ p ∈ s.places, (ns.getD p default).stat = 0 := by
  induction s generalizing a k with
  | leaf i => intro p hp; rw [Sh.places, List.mem_singleton] at hp; rw [hp]; exact hl i (by simp [Sh.leaves])
  | node i l r h1 h2 =>
    obtain ⟨_, n, hn, hr, hk, hl1, hr1⟩ := h
    intro p hp
    simp only [Sh.places, List.mem_cons, List.mem_append] at hp
    rcases hp with rfl | hp | hp
    · rw [getD_of hn]; exact (routeOk_parts hk).2.1
    · exact h1 hl1 (fun i hi => hl i (by simp [Sh.leaves, hi])) p hp
    · exact h2 hr1 (fun i hi => hl i (by simp [Sh.leaves, hi])) p hp
theorem zero_all {t : PT} {s : Sh} (hs : mayT t = some s) : neg0 ((leavesT t).foldl zeroSt t) := by
  obtain ⟨k1, k2, k3, k4⟩ := zero_fold hs (l := leavesT t) fun a ha => ha
  intro n hn
  obtain ⟨j, hj⟩ := List.getElem?_of_mem hn
  have hf := fits_stat (may_fits k1) (fun i hi => k4 i (.inl (by rw [leavesT_eq hs]; exact hi)))
  have hp : j ∈ s.places := (good_of k1).perm.symm.subset (List.mem_range.2 (lt_of_get hj))
  have := hf j hp
  rw [getD_of hj] at this
  omega
def takeK (t : PT) (key : Int) : Nat → PT
  | 0 => t
  | k + 1 => (soloT (takeK t key k) Pol.taking (cutO key)).1
theorem take_all {t : PT} {key : Int} (h : (mayT t).isSome = true) (hg : neg0 t) : ∀ k, (mayT (takeK t key k)).isSome = true ∧ neg0 (takeK t key k) ∧ (leavesT (takeK t key k)).length = max 1 ((leavesT t).length - k) ∧ allT (takeK t key k) = (if k = 0 then allT t else without (allT t) key) := by
  intro k
  have hp : 0 < (leavesT t).length := by
    obtain ⟨s, hs⟩ := Option.isSome_iff_exists.1 h
    exact leavesT_pos hs
  induction k with
  | zero => exact ⟨h, hg, by show (leavesT t).length = _; omega, rfl⟩
  | succ k ih =>
    obtain ⟨i1, i2, i3, i4⟩ := ih
    obtain ⟨k1, k2, k3, k4, _⟩ := taking_step (k := key) i1 i2
    refine ⟨k1, k2, by show (leavesT (soloT _ _ _).1).length = _; rw [k3, i3]; omega, ?_⟩
    rw [if_neg (Nat.succ_ne_zero k)]
    show allT (soloT _ _ _).1 = _
    rw [k4, i4]
    split
    · rfl
    · exact without_two _ _
end Go.Proofs.Ytmkodknmknfdkaa
set_option linter.unusedVariables false
set_option linter.unusedSimpArgs false
namespace Go.Proofs.Ytmkodknmknfdkaa
open E
set_option maxRecDepth 4000
theorem en55 : Enters Try.prog 55 := Enters.mk' Try.func55 rfl rfl
set_option maxHeartbeats 2000000 in
theorem joins18 (t : Tr) (hsm : smallP t.ns.l) (hal : (allT t.p).length ≤ 600000) (key : Int) : Con Try.prog 18 [t.val, .int .i64 key] [ndsP t.ns, psP t.ns.l] [] (fun v Γ M => v = .bool true ∧ Γ = [] ∧ M = []) := by
  refine Con.body 101 Try.func18 rfl Try.ntmps18 rfl fun X H₀ L₀ => ?_
  refine At.lenOf (hs := (.tail _ (.head _))) fun hlen => ?_
  rw [List.length_map] at hlen
  refine At.seq ?_
  refine At.region ?_
  refine At.loud (l_box rfl) rfl ?_
  rintro _ _ _ ⟨b1, rfl, rfl, rfl⟩
  refine At.skim 1 rfl rfl ?_
  refine At.nil ?_
  refine At.then ?_
  refine At.seq ?_
  refine At.seq ?_
  refine At.region ?_
  refine At.fld s24 t22 rfl rfl rfl (Rd.loc (i := 0) rfl rfl) rfl rfl ?_
  refine At.quiet (q_len Try.underlying22 rfl) rfl ?_
  refine At.skim 2 rfl rfl ?_
  refine At.splitP (d := 18) rfl (fun h60 => ?_) (fun h60 => ?_)
  · skip
    refine At.skim 10 rfl rfl ?_
    refine At.nil ?_
    refine At.then ?_
    refine At.condT rfl ?_
    refine At.seq ?_
    refine At.region ?_
    refine At.call en55 rfl (awake55) (fun _ _ => trivial) (List.Perm.refl _) rfl ?_
    rintro _ _ _ ⟨rfl, rfl, rfl⟩
    refine At.skim 1 rfl rfl ?_
    refine At.nil ?_
    refine At.then ?_
    refine At.ret ?_
    refine At.thenRet ?_
    exact At.results (Γr := []) (M := []) rfl (RVals.cons (RVal.tmp rfl) RVals.nil) (.head _) (fun _ _ => trivial) (.cons _ (.refl _)) ⟨rfl, rfl, rfl⟩
  · skip
    refine At.open rfl rfl ?_
    refine At.quiet (q_loadS t24 rfl (RdS.loc (i := 0) rfl (m := 2) rfl) rfl) rfl ?_
    refine At.open rfl rfl ?_
    refine At.call en21 rfl (may21 _) (fun _ h => ⟨h.2.1, h.2.2.1, trivial⟩) (List.Perm.refl _) rfl ?_
    rintro _ _ _ ⟨rfl, rfl, rfl⟩
    refine At.skim 3 rfl rfl ?_
    refine At.split (d := 23) rfl (fun hmy => ?_) (fun hmy => ?_)
    · skip
      refine At.skim 5 rfl rfl ?_
      refine At.nil ?_
      refine At.then ?_
      refine At.condT rfl ?_
      refine At.seq ?_
      refine At.region ?_
      refine At.call en55 rfl (awake55) (fun _ _ => trivial) (List.Perm.refl _) rfl ?_
      rintro _ _ _ ⟨rfl, rfl, rfl⟩
      refine At.skim 1 rfl rfl ?_
      refine At.nil ?_
      refine At.then ?_
      refine At.ret ?_
      refine At.thenRet ?_
      exact At.results (Γr := []) (M := []) rfl (RVals.cons (RVal.tmp rfl) RVals.nil) (.head _) (fun _ _ => trivial) (.cons _ (.refl _)) ⟨rfl, rfl, rfl⟩
    · skip
      have hmt := not_f hmy
      refine At.open rfl rfl ?_
      refine At.quiet (q_loadS t24 rfl (RdS.loc (i := 0) rfl (m := 2) rfl) rfl) rfl ?_
      refine At.open rfl rfl ?_
      refine At.quiet (q_loadS t24 rfl (RdS.loc (i := 0) rfl (m := 2) rfl) rfl) rfl ?_
      refine At.open rfl rfl ?_
      refine At.call en22 rfl (same22 t t hsm hsm) (fun _ h => ⟨h.2.1, h.2.2.1, h.2.1, h.2.2.1, trivial⟩) (List.Perm.refl _) rfl ?_
      rintro _ _ _ ⟨rfl, rfl, rfl⟩
      refine At.skim 2 rfl rfl ?_
      refine At.nil ?_
      refine At.then ?_
      refine At.say 28 (.bool false) rfl (congrArg Value.bool (by rw [same_self, hmt]; rfl)) ?_
      refine At.condF rfl ?_
      obtain ⟨s, hs⟩ := Option.isSome_iff_exists.1 hmt
      have hlt60 : (leavesT t.p).length ≤ 60 := by
        have h8 := leaves_len s
        have h9 := (good_of hs).size
        have h10 : t.p.ns.length = t.ns.l.length := by simp [Tr.p]
        rw [leavesT_eq hs]; omega
      refine At.skip ?_
      refine At.then ?_
      refine At.seq ?_
      refine At.seq ?_
      refine At.region ?_
      refine At.quiet (q_loadS t24 rfl (RdS.loc (i := 0) rfl (m := 2) rfl) rfl) rfl ?_
      refine At.call en28 rfl (leaves28f t) (fun _ h => ⟨h.2.1, h.2.2.1, trivial⟩) (List.Perm.refl _) rfl ?_
      rintro _ _ _ ⟨lv, rfl, rfl, rfl, hplv⟩
      refine At.quiet (q_len Try.underlying37 rfl) rfl ?_
      have hlvl : lv.l.length = (leavesT t.p).length := by rw [hplv, toI_length]
      refine At.skim 1 rfl rfl ?_
      refine At.nil ?_
      refine At.then ?_
      refine At.block ?_
      refine At.loopK (ι := Nat × Tr) [4, 6, 7, 8, 33, 34, 35, 36, 37, 38, 39, 40, 41, 42, 43, 44, 45, 46, 47, 48, 49, 50, 51, 52] (fun ⟨k, v⟩ => [(33, .int .i64 (k : Int))]) (fun ⟨k, v⟩ => [ndsP v.ns, psP v.ns.l]) (fun ⟨k, v⟩ => [[(b1, .cells #[.int .i64 v.root, v.ns.val] 24 (0, 0))]]) _ (fun ⟨k, v⟩ => k ≤ (leavesT t.p).length ∧ v.p = ((leavesT t.p).take k).foldl zeroSt t.p) (fun ⟨k, v⟩ => (leavesT t.p).length - k) (0, t) ⟨Nat.zero_le _, rfl⟩ ⟨rfl, trivial⟩ (fun _ h => ⟨h.2.2.1, h.2.2.2.1, trivial⟩) (.cons_cons _ (.refl _)) ?_
      intro i0 hI0
      obtain ⟨k, v⟩ := i0
      obtain ⟨hkl, hv⟩ := hI0
      obtain ⟨f1, f2, f3, f4⟩ := zero_fold hs (l := (leavesT t.p).take k) (fun a ha => List.mem_of_mem_take ha)
      rw [← hv] at f1 f2 f3
      have hvs : smallP v.ns.l := small_all (b := 600000) (by rw [f1]; rfl) (by rw [f3]; exact hal) (by omega)
      refine At.seq ?_
      refine At.region ?_
      refine At.skim 1 rfl rfl ?_
      refine At.nil ?_
      refine At.then ?_
      refine At.seq ?_
      refine At.if rfl (fun hk => ?_) (fun hk => ?_)
      · skip
        obtain ⟨a, ha⟩ := get_of_lt (l := (leavesT t.p)) (i := k) (by omega)
        have hk1 := lt_of_get ha
        have hui : lv.l[k]? = some (a : Int) := by rw [hplv]; exact toI_get ha
        obtain ⟨n, hn, hnr, e1, e2, e3, e4, e5⟩ := zero_step f1 (by rw [f2]; exact List.mem_of_getElem? ha)
        obtain ⟨x, hx, hxp⟩ := p_get (u := v) rfl hn
        have hxs := hvs x (List.mem_of_getElem? hx)
        have hst : zeroSt v.p a = setD v.p (a : Int) x.ps.l 0 := by
          unfold zeroSt
          rw [getD_of hn, ← hxp]; rfl
        refine At.skip ?_
        refine At.then ?_
        refine At.seq ?_
        refine At.block ?_
        refine At.seq ?_
        refine At.region ?_
        refine At.quiet (q_index Try.underlying37 t3 rfl (.tail _ (.tail _ (.head _))) (by simp) rfl rfl (lt_of_get hui)) rfl ?_
        refine At.know (prsP x.ps) (fun _ h => psP_get h.2.1 hx) ?_
        refine At.quiet (q_load t3 rfl (Rd.sl0 (.tail _ (.tail _ (.tail _ (.head _)))) (map_get hui) rfl)) rfl ?_
        refine At.skim 1 rfl rfl ?_
        refine At.nil ?_
        refine At.then ?_
        refine At.cutD (ι := Nat × Tr) .z [7, 8, 37, 38, 39, 40, 41, 42, 43, 44, 45, 46, 47, 48] (fun ⟨b9, u⟩ => [(7, .pointer (some ⟨b9, 0, none⟩)), (8, .bool true)]) (fun ⟨b9, u⟩ => [ndsP u.ns, psP u.ns.l]) (fun ⟨b9, u⟩ => [[(b9, .cells #[.int .i64 u.root, u.ns.val] 24 (0, 0))]]) (fun ⟨b9, u⟩ => u.p = setD v.p (a : Int) x.ps.l 0) ?_ ?_
        · skip
          refine At.draw 14 (.q 0 (.q 1 (.q 2 (.q 3 (.q 4 (.q 5 (.q 6 (.q 7 (.t 8 (.q 9 (.q 10 (.q 11 (.o 12 (.o 13 (.e)))))) 12 (.o 8 (.q 9 (.q 10 (.q 11 (.o 13 (.e))))))))))))))) _ (List.Sublist.refl _) mixed (by kernel_rfl) rfl ?_
          refine AtO.quiet rfl (q_loadS t24 rfl (RdS.loc (i := 0) rfl (m := 2) rfl) rfl) rfl (Calm.then (Calm.inBlock (Calm.then (Calm.then (Calm.inBlock (Calm.then Post.calm)))))) ?_
          refine AtO.quiet rfl (q_move rfl) rfl (Calm.then (Calm.inBlock (Calm.then (Calm.then (Calm.inBlock (Calm.then Post.calm)))))) ?_
          refine AtO.quiet rfl (q_fieldAddr s24 rfl rfl rfl) rfl (Calm.then (Calm.inBlock (Calm.then (Calm.then (Calm.inBlock (Calm.then Post.calm)))))) ?_
          refine AtO.quiet rfl (q_load t22 rfl (Rd.loc (i := 0) rfl rfl)) rfl (Calm.then (Calm.inBlock (Calm.then (Calm.then (Calm.inBlock (Calm.then Post.calm)))))) ?_
          refine AtO.quiet rfl (q_move rfl) rfl (Calm.then (Calm.inBlock (Calm.then (Calm.then (Calm.inBlock (Calm.then Post.calm)))))) ?_
          refine AtO.quiet rfl (q_index Try.underlying22 t33 rfl (.tail _ (.head _)) (by simp) rfl rfl (lt_of_get hx)) rfl (Calm.then (Calm.inBlock (Calm.then (Calm.then (Calm.inBlock (Calm.then Post.calm)))))) ?_
          refine AtO.quiet rfl (q_fieldAddr s33 rfl rfl rfl) rfl (Calm.then (Calm.inBlock (Calm.then (Calm.then (Calm.inBlock (Calm.then Post.calm)))))) ?_
          refine AtO.quiet rfl (q_load t31 rfl (Rd.sl (.tail _ (.head _)) (map_get hx) rfl)) rfl (Calm.then (Calm.inBlock (Calm.then (Calm.then (Calm.inBlock (Calm.then Post.calm)))))) ?_
          refine AtO.two ?_ ?_
          · skip
            refine AtO.call rfl en34 rfl (set34f v hvs (a : Int) x.ps hxs 0) (fun _ h => ⟨h.2.1, h.2.2.1, h.1, trivial⟩) (List.Perm.refl _) rfl (.refl _) ?_
            rintro _ _ _ ⟨u, rfl, rfl, rfl, hpu⟩
            refine AtO.quiet rfl (q_move rfl) rfl (Calm.then (Calm.inBlock (Calm.then (Calm.then (Calm.inBlock (Calm.then Post.calm)))))) ?_
            refine AtO.quiet rfl (q_extract rfl rfl) rfl (Calm.then (Calm.inBlock (Calm.then (Calm.then (Calm.inBlock (Calm.then Post.calm)))))) ?_
            refine AtO.quiet rfl (q_extract rfl rfl) rfl (Calm.then (Calm.inBlock (Calm.then (Calm.then (Calm.inBlock (Calm.then Post.calm)))))) ?_
            refine AtO.loud rfl (l_alloc t24) rfl (by rintro _ _ _ ⟨_, rfl, rfl, rfl⟩; exact ⟨fun _ h => h, .cons _ (.refl _)⟩) ?_
            rintro _ _ _ ⟨b2, rfl, rfl, rfl⟩
            refine AtO.loudNA rfl (l_store t24 rfl rfl (i := 0) rfl rfl rfl rfl) (by rintro _ _ _ ⟨rfl, rfl⟩; exact ⟨fun _ h => h, (.cons _ (.cons_cons _ (.refl _)))⟩) ?_
            rintro _ _ _ ⟨rfl, rfl⟩
            refine AtO.done ?_
            refine At.skim 1 rfl rfl ?_
            refine At.nil ?_
            refine At.say 8 (.bool true) rfl (congrArg Value.bool (by have e9 : setT v.p (a : Int) x.ps.l 0 = _ := (congrArg (fun q => setT v.p (a : Int) q 0) (show x.ps.l = n.l by rw [← hxp]; rfl)).trans e1; rw [e9]; rfl)) ?_
            refine At.then ?_
            exact At.meetK (b2, u) hpu (Tells.meet 15 ⟨rfl, rfl, trivial⟩ rfl rfl) (fun _ h => ⟨h.1, ⟨h.2.1, h.2.2⟩⟩) (.cons_cons _ (.refl _))
          · skip
            refine AtO.loud rfl (l_alloc t24) rfl (by rintro _ _ _ ⟨_, rfl, rfl, rfl⟩; exact ⟨fun _ h => h, .cons _ (.refl _)⟩) ?_
            rintro _ _ _ ⟨b3, rfl, rfl, rfl⟩
            refine AtO.call rfl en34 rfl (set34f v hvs (a : Int) x.ps hxs 0) (fun _ h => ⟨h.2.1, h.2.2.1, h.1, trivial⟩) (List.Perm.refl _) rfl (.cons _ (.cons_cons _ (.refl _))) ?_
            rintro _ _ _ ⟨u, rfl, rfl, rfl, hpu⟩
            refine AtO.quiet rfl (q_move rfl) rfl (Calm.then (Calm.inBlock (Calm.then (Calm.then (Calm.inBlock (Calm.then Post.calm)))))) ?_
            refine AtO.quiet rfl (q_extract rfl rfl) rfl (Calm.then (Calm.inBlock (Calm.then (Calm.then (Calm.inBlock (Calm.then Post.calm)))))) ?_
            refine AtO.quiet rfl (q_extract rfl rfl) rfl (Calm.then (Calm.inBlock (Calm.then (Calm.then (Calm.inBlock (Calm.then Post.calm)))))) ?_
            refine AtO.loudNA rfl (l_store t24 rfl rfl (i := 0) rfl rfl rfl rfl) (by rintro _ _ _ ⟨rfl, rfl⟩; exact ⟨fun _ h => h, (.cons _ (.cons_cons _ (.refl _)))⟩) ?_
            rintro _ _ _ ⟨rfl, rfl⟩
            refine AtO.done ?_
            refine At.skim 1 rfl rfl ?_
            refine At.nil ?_
            refine At.say 8 (.bool true) rfl (congrArg Value.bool (by have e9 : setT v.p (a : Int) x.ps.l 0 = _ := (congrArg (fun q => setT v.p (a : Int) q 0) (show x.ps.l = n.l by rw [← hxp]; rfl)).trans e1; rw [e9]; rfl)) ?_
            refine At.then ?_
            exact At.meetK (b3, u) hpu (Tells.meet 15 ⟨rfl, rfl, trivial⟩ rfl rfl) (fun _ h => ⟨h.1, ⟨h.2.1, h.2.2⟩⟩) (.cons_cons _ (.refl _))
        intro j0 hpu
        obtain ⟨b9, u⟩ := j0
        refine At.seq ?_
        refine At.seq ?_
        refine At.region ?_
        refine At.skim 2 rfl rfl ?_
        refine At.nil ?_
        refine At.then ?_
        refine At.condF rfl ?_
        refine At.skip ?_
        refine At.then ?_
        refine At.region ?_
        refine At.quiet (q_loadS t24 rfl (RdS.loc (i := 0) rfl (m := 2) rfl) rfl) rfl ?_
        refine At.loudN (l_store t24 rfl rfl (i := 1) rfl rfl rfl rfl) ?_
        rintro _ _ _ ⟨rfl, rfl⟩
        refine At.nil ?_
        refine At.inNormal ?_
        refine At.then ?_
        refine At.region ?_
        refine At.quiet (q_add rfl rfl (by omega) (by omega)) rfl ?_
        refine At.skim 1 rfl rfl ?_
        refine At.nil ?_
        refine At.front 1 rfl ?_
        refine At.then ?_
        exact At.againK (k + 1, u) ⟨hk1, by rw [hpu, ← hst, hv, List.take_succ_eq_append_getElem hk1, List.foldl_append, (List.getElem?_eq_some_iff.1 ha).2]; rfl⟩ (by (try dsimp only); omega) (Tells.end 12 ⟨rfl, trivial⟩ rfl rfl) (fun _ h => ⟨h.1, ⟨h.2.1, h.2.2.2.2.2⟩⟩) (.cons_cons _ (.cons _ (.refl _)))
      · skip
        have hvp : v.p = (leavesT t.p).foldl zeroSt t.p := by rw [hv, List.take_of_length_le (by omega)]
        have hg0 : neg0 v.p := by rw [hvp]; exact zero_all hs
        have hvm : (mayT v.p).isSome = true := by rw [f1]; rfl
        have hll2 : (leavesT v.p).length ≤ 60 := by rw [f2]; exact hlt60
        refine At.exit ?_
        refine At.thenExit ?_
        refine At.thenExit ?_
        refine At.inHere rfl ?_
        refine At.then ?_
        refine At.seq ?_
        refine At.region ?_
        refine At.quiet (q_build t64 s64 rfl rfl) rfl ?_
        refine At.loud (l_alloc t64) rfl ?_
        rintro _ _ _ ⟨b4, rfl, rfl, rfl⟩
        refine At.loudN (l_store t64 rfl rfl (i := 0) rfl rfl rfl rfl) ?_
        rintro _ _ _ ⟨rfl, rfl⟩
        refine At.nil ?_
        refine At.then ?_
        refine At.seq ?_
        refine At.region ?_
        refine At.quiet (q_loadS t24 rfl (RdS.loc (i := 1) rfl (m := 2) rfl) rfl) rfl ?_
        refine At.call en29 rfl (all29f v hvs) (fun _ h => ⟨h.1, h.2.1, trivial⟩) (List.Perm.refl _) rfl ?_
        rintro _ _ _ ⟨wt, rfl, rfl, rfl, hpwt⟩
        refine At.skim 1 rfl rfl ?_
        refine At.nil ?_
        refine At.then ?_
        refine At.seq ?_
        refine At.region ?_
        refine At.quiet (q_loadS t24 rfl (RdS.loc (i := 1) rfl (m := 2) rfl) rfl) rfl ?_
        refine At.call en28 rfl (leaves28f v) (fun _ h => ⟨h.2.1, h.2.2.1, trivial⟩) (List.Perm.refl _) rfl ?_
        rintro _ _ _ ⟨l2, rfl, rfl, rfl, hpl2⟩
        have hl2l : l2.l.length = (leavesT v.p).length := by rw [hpl2, toI_length]
        refine At.quiet (q_len Try.underlying37 rfl) rfl ?_
        refine At.skim 1 rfl rfl ?_
        refine At.nil ?_
        refine At.then ?_
        refine At.seq ?_
        refine At.seq ?_
        refine At.region ?_
        refine At.skim 1 rfl rfl ?_
        refine At.skim 1 rfl rfl ?_
        refine At.nil ?_
        refine At.then ?_
        refine At.block ?_
        refine At.front 1 rfl ?_
        refine At.loopK (ι := Nat × Tr) [4, 12, 13, 60, 61, 62, 63, 64, 65, 66, 67, 68, 69, 70, 71, 72, 73, 74, 75, 76, 77, 78, 79, 80, 81, 82, 83, 84, 85] (fun ⟨k2, w⟩ => [(60, .int .i64 (k2 : Int))]) (fun ⟨k2, w⟩ => [ndsP w.ns, psP w.ns.l]) (fun ⟨k2, w⟩ => [[(b1, .cells #[.int .i64 w.root, w.ns.val] 24 (0, 0))]]) _ (fun ⟨k2, w⟩ => k2 ≤ (leavesT v.p).length ∧ w.p = takeK v.p key k2) (fun ⟨k2, w⟩ => (leavesT v.p).length - k2) (0, v) ⟨Nat.zero_le _, rfl⟩ ⟨rfl, trivial⟩ (fun _ h => ⟨h.2.2.1, h.2.2.2.1, trivial⟩) (.cons_cons _ (.refl _)) ?_
        intro i1 hI1
        obtain ⟨k2, w⟩ := i1
        obtain ⟨hkl2, hw⟩ := hI1
        obtain ⟨g1, g2, g3, g4⟩ := take_all (key := key) hvm hg0 k2
        rw [← hw] at g1 g2 g3 g4
        have hal3 : (allT w.p).length ≤ 600000 := by rw [g4]; split; rw [f3]; exact hal; have h8 := without_len (allT v.p) key; rw [f3] at h8; rw [f3]; omega
        have hws : smallP w.ns.l := small_all (b := 600000) g1 hal3 (by omega)
        refine At.seq ?_
        refine At.region ?_
        refine At.skim 1 rfl rfl ?_
        refine At.nil ?_
        refine At.then ?_
        refine At.seq ?_
        refine At.if rfl (fun hk2 => ?_) (fun hk2 => ?_)
        · skip
          refine At.skip ?_
          refine At.then ?_
          refine At.seq ?_
          refine At.block ?_
          refine At.seq ?_
          refine At.region ?_
          refine At.quiet (q_loadS t24 rfl (RdS.loc (i := 0) rfl (m := 2) rfl) rfl) rfl ?_
          refine At.quiet (q_loadS t64 rfl (RdS.loc (i := 1) rfl (m := 5) rfl) rfl) rfl ?_
          refine At.skim 1 rfl rfl ?_
          refine At.quiet (q_build t77 s77 rfl rfl) rfl ?_
          refine At.call en57 rfl (solo57 w hws Pol.taking (cutO key) hal3) (fun _ h => ⟨h.1, h.2.1, trivial⟩) (List.Perm.refl _) rfl ?_
          rintro _ _ _ ⟨u, s2, rfl, rfl, rfl, hpu, hs2⟩
          refine At.skim 1 rfl rfl ?_
          refine At.quiet (q_extract rfl rfl) rfl ?_
          refine At.quiet (q_extract rfl rfl) rfl ?_
          refine At.loud (l_alloc t24) rfl ?_
          rintro _ _ _ ⟨b5, rfl, rfl, rfl⟩
          refine At.loud (l_alloc t80) rfl ?_
          rintro _ _ _ ⟨b6, rfl, rfl, rfl⟩
          refine At.loudN (l_store t24 rfl rfl (i := 1) rfl rfl rfl rfl) ?_
          rintro _ _ _ ⟨rfl, rfl⟩
          refine At.loudN (l_store t80 rfl rfl (i := 0) rfl rfl rfl rfl) ?_
          rintro _ _ _ ⟨rfl, rfl⟩
          refine At.nil ?_
          refine At.then ?_
          refine At.seq ?_
          refine At.seq ?_
          obtain ⟨x1, x2, x3, x4, x5⟩ := taking_step (k := key) g1 g2
          rw [← hpu] at x1 x2 x3
          refine At.draw 12 (.q 0 (.q 1 (.q 2 (.q 3 (.q 4 (.q 7 (.o 5 (.q 6 (.o 8 (.q 9 (.q 10 (.q 11 (.e))))))))))))) _ (List.Sublist.refl _) mixed (by kernel_rfl) rfl ?_
          refine AtO.quiet rfl (q_fieldAddr s80 rfl rfl rfl) rfl (Calm.then (Calm.then (Calm.inBlock (Calm.then (Calm.then (Calm.inBlock (Calm.then Post.calm))))))) ?_
          refine AtO.quiet rfl (q_load t78 rfl (Rd.loc (i := 0) rfl rfl)) rfl (Calm.then (Calm.then (Calm.inBlock (Calm.then (Calm.then (Calm.inBlock (Calm.then Post.calm))))))) ?_
          refine AtO.quiet rfl (q_neq rfl rfl) rfl (Calm.then (Calm.then (Calm.inBlock (Calm.then (Calm.then (Calm.inBlock (Calm.then Post.calm))))))) ?_
          refine AtO.quiet rfl (q_move rfl) rfl (Calm.then (Calm.then (Calm.inBlock (Calm.then (Calm.then (Calm.inBlock (Calm.then Post.calm))))))) ?_
          refine AtO.say 73 (.bool false) rfl (congrArg Value.bool (decide_eq_false (by rw [x5]; simp))) ?_
          refine AtO.quietG rfl rfl rfl (q_loadS t24 rfl (RdS.loc (i := 1) rfl (m := 2) rfl) rfl) rfl (Calm.then (Calm.then (Calm.inBlock (Calm.then (Calm.then (Calm.inBlock (Calm.then Post.calm))))))) ?_
          refine AtO.quietG rfl rfl rfl (q_loadS t24 rfl (RdS.loc (i := 2) rfl (m := 2) rfl) rfl) rfl (Calm.then (Calm.then (Calm.inBlock (Calm.then (Calm.then (Calm.inBlock (Calm.then Post.calm))))))) ?_
          refine AtO.callGA rfl rfl rfl en28 rfl (leaves28f u) (fun _ h => ⟨h.1, h.2.1, trivial⟩) (List.Perm.refl _) rfl (.refl _) ?_
          rintro _ _ _ ⟨l3, rfl, rfl, rfl, hpl3⟩
          refine AtO.quietG rfl rfl rfl (q_len Try.underlying37 rfl) rfl (Calm.then (Calm.then (Calm.inBlock (Calm.then (Calm.then (Calm.inBlock (Calm.then Post.calm))))))) ?_
          refine AtO.callGA rfl rfl rfl en28 rfl (leaves28f w) (fun _ h => ⟨h.2.2.2.2.1, h.2.2.2.2.2.1, trivial⟩) (List.Perm.refl _) rfl (.refl _) ?_
          rintro _ _ _ ⟨l4, rfl, rfl, rfl, hpl4⟩
          have hl3l : l3.l.length = (leavesT u.p).length := by rw [hpl3, toI_length]
          have hl4l : l4.l.length = (leavesT w.p).length := by rw [hpl4, toI_length]
          refine AtO.quietG rfl rfl rfl (q_len Try.underlying37 rfl) rfl (Calm.then (Calm.then (Calm.inBlock (Calm.then (Calm.then (Calm.inBlock (Calm.then Post.calm))))))) ?_
          refine AtO.quietG rfl rfl rfl (q_sub rfl rfl (by omega) (by omega)) rfl (Calm.then (Calm.then (Calm.inBlock (Calm.then (Calm.then (Calm.inBlock (Calm.then Post.calm))))))) ?_
          refine AtO.quietG rfl rfl rfl (q_max rfl rfl) rfl (Calm.then (Calm.then (Calm.inBlock (Calm.then (Calm.then (Calm.inBlock (Calm.then Post.calm))))))) ?_
          refine AtO.done ?_
          refine At.skim 2 rfl rfl ?_
          refine At.nil ?_
          refine At.then ?_
          refine At.say 83 (.bool false) rfl (congrArg Value.bool (decide_eq_false (by omega))) ?_
          refine At.condF rfl ?_
          refine At.skip ?_
          refine At.then ?_
          refine At.region ?_
          refine At.quiet (q_loadS t24 rfl (RdS.loc (i := 1) rfl (m := 2) rfl) rfl) rfl ?_
          refine At.loudN (l_store t24 rfl rfl (i := 2) rfl rfl rfl rfl) ?_
          rintro _ _ _ ⟨rfl, rfl⟩
          refine At.nil ?_
          refine At.inNormal ?_
          refine At.then ?_
          refine At.region ?_
          refine At.quiet (q_add rfl rfl (by omega) (by omega)) rfl ?_
          refine At.skim 1 rfl rfl ?_
          refine At.nil ?_
          refine At.front 2 rfl ?_
          refine At.then ?_
          exact At.againK (k2 + 1, u) ⟨by omega, by rw [hpu, hw]; rfl⟩ (by (try dsimp only); omega) (Tells.end 31 ⟨rfl, trivial⟩ rfl rfl) (fun _ h => ⟨h.2.2.1, ⟨h.2.2.2.1, h.2.2.2.2.2.2.2⟩⟩) (.cons_cons _ (.cons _ (.cons _ (.refl _))))
        · skip
          obtain rfl : k2 = (leavesT v.p).length := by omega
          have hvpos : 0 < (leavesT v.p).length := by rw [f2]; exact leavesT_pos hs
          refine At.exit ?_
          refine At.thenExit ?_
          refine At.thenExit ?_
          refine At.inHere rfl ?_
          refine At.then ?_
          refine At.seq ?_
          refine At.region ?_
          refine At.quiet (q_loadS t24 rfl (RdS.loc (i := 0) rfl (m := 2) rfl) rfl) rfl ?_
          refine At.call en28 rfl (leaves28f w) (fun _ h => ⟨h.1, h.2.1, trivial⟩) (List.Perm.refl _) rfl ?_
          rintro _ _ _ ⟨l5, rfl, rfl, rfl, hpl5⟩
          refine At.quiet (q_len Try.underlying37 rfl) rfl ?_
          refine At.skim 2 rfl rfl ?_
          refine At.say 90 (.bool true) rfl (congrArg Value.bool (decide_eq_true (by rw [hpl5, toI_length]; omega))) ?_
          refine At.open rfl rfl ?_
          refine At.quiet (q_loadS t24 rfl (RdS.loc (i := 0) rfl (m := 2) rfl) rfl) rfl ?_
          refine At.open rfl rfl ?_
          refine At.call en29 rfl (all29f w hws) (fun _ h => ⟨h.2.1, h.2.2.1, trivial⟩) (List.Perm.refl _) rfl ?_
          rintro _ _ _ ⟨aw, rfl, rfl, rfl, hpaw⟩
          refine At.skim 2 rfl rfl ?_
          refine At.open rfl rfl ?_
          refine At.call en66 rfl (without66 _ _ (by rw [hpwt, f3]; omega)) (fun _ h => ⟨h.2.2.2.2.2.1, trivial⟩) (List.Perm.refl _) rfl ?_
          rintro _ _ _ ⟨uw, rfl, rfl, rfl, huw⟩
          refine At.open rfl rfl ?_
          refine At.call en33 rfl (same33 _ _) (fun _ h => ⟨h.2.1, h.1, trivial⟩) (List.Perm.refl _) rfl ?_
          rintro _ _ _ ⟨rfl, rfl, rfl⟩
          refine At.skim 2 rfl rfl ?_
          refine At.say 98 (.bool true) rfl (congrArg Value.bool (decide_eq_true (by rw [hpaw, g4, if_neg (by omega), huw, hpwt]; rfl))) ?_
          refine At.open rfl rfl ?_
          refine At.call en55 rfl (awake55) (fun _ _ => trivial) (List.Perm.refl _) rfl ?_
          rintro _ _ _ ⟨rfl, rfl, rfl⟩
          refine At.skim 2 rfl rfl ?_
          refine At.nil ?_
          refine At.then ?_
          refine At.ret ?_
          exact At.results (Γr := []) (M := []) rfl (RVals.cons (RVal.tmp rfl) RVals.nil) (.tail _ (.tail _ (.tail _ (.tail _ (.tail _ (.tail _ (.tail _ (.tail _ (.tail _ (.tail _ (.head _))))))))))) (fun _ _ => trivial) (.cons _ (.cons _ (.refl _))) ⟨rfl, rfl, rfl⟩
end Go.Proofs.Ytmkodknmknfdkaa
set_option linter.unusedVariables false
set_option linter.unusedSimpArgs false
namespace Go.Proofs.Ytmkodknmknfdkaa
open E Go Go.RowKit Go.WideShapes
set_option maxRecDepth 4000
section
variable {H : Type} {enc : TypeId × Value → H} {w : World} {base : Nat} {spare : Nat → Bool} {held : Bool}
theorem rowOfPair {n : Nat} {cs : List Value} {y : DataW H × List MemPlace} (h : DataW.trod enc Try.prog w base spare held n 50 cs = some y) : ∃ p : Pr, cs = rowP p ∧ True := by
  obtain ⟨zs, e, hl, _⟩ := openIntStruct (k := 2) (by kernel_rfl) (by kernel_rfl) h
  match zs, hl with
  | [a, b], _ => exact ⟨⟨a, b⟩, e, trivial⟩
end
end Go.Proofs.Ytmkodknmknfdkaa
set_option linter.unusedVariables false
set_option linter.unusedSimpArgs false
namespace Go.Proofs.Ytmkodknmknfdkaa
open E Go Go.RowKit Go.WideShapes
set_option maxRecDepth 4000
section
variable {H : Type} {enc : TypeId × Value → H} {w : World} {base : Nat} {spare : Nat → Bool} {held : Bool}
theorem bulk_one {H : Type} (d : DataW H) : 1 ≤ Rows.uptoBulk d := by
  cases d with
  | lit l => cases l <;> simp [Rows.uptoBulk]
  | nil => simp [Rows.uptoBulk]
  | ptr d => simp [Rows.uptoBulk]
  | slice elems spare => simp [Rows.uptoBulk]
  | agg parts => simp [Rows.uptoBulk]
  | iface t d => simp [Rows.uptoBulk]
  | map entries => simp [Rows.uptoBulk]
  | held h => simp [Rows.uptoBulk]
theorem bulk_part {H : Type} {d : DataW H} {l : List (DataW H)} (h : d ∈ l) : Rows.uptoBulk d ≤ Rows.uptoBulkAll l := by
  induction l with
  | nil => cases h
  | cons x r ih =>
    simp only [Rows.uptoBulkAll]
    rcases List.mem_cons.1 h with e | e
    · subst e; omega
    · have := ih e; omega
theorem choose_sum {α : Type} {row : α → List Value} {Q : α → DataW H → Prop} {f : α → Nat} (hf : ∀ x d, Q x d → f x ≤ Rows.uptoBulk d) : ∀ (rows : List (List Value)) (elems : List (DataW H)), (∀ (i : Nat) (r : List Value), rows[i]? = some r → ∃ d, elems[i]? = some d ∧ ∃ x, r = row x ∧ Q x d) → ∃ l : List α, rows = l.map row ∧ (∀ x ∈ l, ∃ d ∈ elems, Q x d) ∧ (l.map f).sum ≤ Rows.uptoBulkAll elems
  | [], _, _ => ⟨[], rfl, fun x h => by simp at h, by simp⟩
  | r :: rows, elems, h => by
    obtain ⟨d, hd, x, rfl, hq⟩ := h 0 r rfl
    cases elems with
    | nil => simp at hd
    | cons e es =>
      simp at hd
      subst hd
      obtain ⟨l, rfl, hl, hs⟩ := choose_sum hf rows es fun i r hr => h (i + 1) r (by simpa using hr)
      refine ⟨x :: l, rfl, fun y hy => ?_, ?_⟩
      · rcases List.mem_cons.1 hy with rfl | hy
        · exact ⟨e, by simp, hq⟩
        · obtain ⟨d, hd, hq⟩ := hl y hy
          exact ⟨d, by simp [hd], hq⟩
      · have := hf x e hq
        simp only [List.map_cons, List.sum_cons, Rows.uptoBulkAll]
        omega
theorem openSlS {t e k fuel : Nat} {cs : List Value} {x : DataW H × List MemPlace} {α : Type} (row : α → List Value) (Q : α → DataW H → Prop) {f : α → Nat} (hf : ∀ x d, Q x d → f x ≤ Rows.uptoBulk d) (ht : Try.prog.underlying t = some (.slice e)) (hk : Try.prog.cellsOf e = k) (hpos : Nat.blt 0 k = true)
    (hrow : ∀ (n : Nat) (cs : List Value) (y : DataW H × List MemPlace), DataW.trod enc Try.prog w base spare held n e cs = some y → ∃ x, cs = row x ∧ Q x y.1)
    (h : DataW.trod enc Try.prog w base spare held fuel t cs = some x) :
    ∃ s : Sl α, cs = [s.val] ∧ (sl s.a s.c k (s.l.map row)).holds (hp w) ∧ (s.l.map f).sum ≤ Rows.uptoBulk x.1 ∧ (∀ y ∈ s.l, ∃ d, Q y d) := by
  obtain ⟨a, c, rows, rfl, h2, h3, h4, n, elems, sp, hx, hlen, h5⟩ := openSl ht hk hpos h
  obtain ⟨l, rfl, hl, hs⟩ := choose_sum (row := row) (Q := Q) hf rows elems fun i r hr => by
    obtain ⟨y, hy, he⟩ := h5 i r hr
    obtain ⟨x, hx, hq⟩ := hrow n r y hy
    exact ⟨y.1, he, x, hx, hq⟩
  refine ⟨⟨a, c, l⟩, by simp [Sl.val], h2, ?_, fun y hy => by obtain ⟨d, _, hq⟩ := hl y hy; exact ⟨d, hq⟩⟩
  rcases hx with ⟨hx, he⟩ | hx
  · rw [he, List.length_map] at hlen
    have : l = [] := List.eq_nil_of_length_eq_zero hlen.symm
    rw [this]; simp
  · rw [hx]
    simp only [Rows.uptoBulk]
    show (l.map f).sum ≤ _
    omega
theorem pairB {n : Nat} {cs : List Value} {y : DataW H × List MemPlace} (h : DataW.trod enc Try.prog w base spare held n 50 cs = some y) : ∃ p : Pr, cs = rowP p ∧ 2 ≤ Rows.uptoBulk y.1 := by
  obtain ⟨p, hp, _⟩ := rowOfPair h
  refine ⟨p, hp, ?_⟩
  obtain ⟨xs, m, _, rfl, hl, hlen, hf⟩ := DataW.trod_struct Try.underlying50 h
  match xs, hlen with
  | [y0, y1], _ =>
    have h0 := bulk_one y0.1
    simp only [List.map_cons, List.map_nil, Rows.uptoBulk, Rows.uptoBulkAll]
    omega
theorem sum_const {α : Type} (l : List α) : (l.map fun _ => 2).sum = 2 * l.length := by
  induction l with
  | nil => rfl
  | cons x l ih => simp only [List.map_cons, List.sum_cons, List.length_cons, ih]; omega
theorem openPairsB {fuel : Nat} {cs : List Value} {x : DataW H × List MemPlace} (h : DataW.trod enc Try.prog w base spare held fuel 31 cs = some x) :
    ∃ s : Sl Pr, cs = [s.val] ∧ (prsP s).holds (hp w) ∧ 2 * s.l.length ≤ Rows.uptoBulk x.1 := by
  obtain ⟨s, h1, h2, h3, _⟩ := openSlS (k := 2) (f := fun _ => 2) rowP (fun _ d => 2 ≤ Rows.uptoBulk d) (fun _ _ h => h) Try.underlying31 (by kernel_rfl) rfl (fun n cs y h => pairB h) h
  exact ⟨s, h1, h2, by rw [← sum_const]; exact h3⟩
theorem openNodeB {n : Nat} {cs : List Value} {y : DataW H × List MemPlace} (h : DataW.trod enc Try.prog w base spare held n 33 cs = some y) :
    ∃ x : Nd, cs = rowN x ∧ ((prsP x.ps).holds (hp w) ∧ 2 * x.ps.l.length ≤ Rows.uptoBulk y.1) := by
  obtain ⟨xs, m, _, rfl, hl, hlen, hf⟩ := DataW.trod_struct Try.underlying33 h
  have hc : Try.prog.cellsOf 33 = 6 := by kernel_rfl
  have c3 : Try.prog.cellsOf 3 = 1 := by kernel_rfl
  have c4 : Try.prog.cellsOf 4 = 1 := by kernel_rfl
  have c31 : Try.prog.cellsOf 31 = 1 := by kernel_rfl
  rw [hc] at hl
  match cs, hl, xs, hlen, hf with
  | [k0, k1, k2, k3, k4, k5], _, [y0, y1, y2, y3, y4, y5], _, hf =>
    have f0 := hf 0 _ rfl
    have f1 := hf 1 _ rfl
    have f2 := hf 2 _ rfl
    have f3 := hf 3 _ rfl
    have f4 := hf 4 _ rfl
    have f5 := hf 5 _ rfl
    simp only [c3, c4, c31, List.drop_succ_cons, List.drop_zero, List.take_succ_cons, List.take_zero, List.getElem?_cons_succ, List.getElem?_cons_zero] at f0 f1 f2 f3 f4 f5
    obtain ⟨b0, e0, _⟩ := DataW.trod_bool Try.underlying4 f0
    obtain ⟨n1, e1, _, _⟩ := DataW.trod_int Try.underlying3 f1
    obtain ⟨n2, e2, _, _⟩ := DataW.trod_int Try.underlying3 f2
    obtain ⟨n3, e3, _, _⟩ := DataW.trod_int Try.underlying3 f3
    obtain ⟨s4, e4, g4, w4⟩ := openPairsB f4
    obtain ⟨n5, e5, _, _⟩ := DataW.trod_int Try.underlying3 f5
    cases e0; cases e1; cases e2; cases e3; cases e4; cases e5
    refine ⟨⟨b0, n1, n2, n3, s4, n5⟩, rfl, g4, ?_⟩
    simp only [List.map_cons, List.map_nil, Rows.uptoBulk, Rows.uptoBulkAll]
    show 2 * s4.l.length ≤ _
    omega
theorem openTreeB {fuel : Nat} {cs : List Value} {x : DataW H × List MemPlace} (h : DataW.trod enc Try.prog w base spare held fuel 24 cs = some x) :
    ∃ t : Tr, cs = [.int .i64 t.root, t.ns.val] ∧ (ndsP t.ns).holds (hp w) ∧ (psP t.ns.l).holds (hp w) ∧ (t.ns.l.map fun n => 2 * n.ps.l.length).sum ≤ Rows.uptoBulk x.1 := by
  obtain ⟨xs, m, _, rfl, hl, hlen, hf⟩ := DataW.trod_struct Try.underlying24 h
  have hc : Try.prog.cellsOf 24 = 2 := by kernel_rfl
  have c3 : Try.prog.cellsOf 3 = 1 := by kernel_rfl
  have c22 : Try.prog.cellsOf 22 = 1 := by kernel_rfl
  rw [hc] at hl
  match cs, hl, xs, hlen, hf with
  | [k0, k1], _, [y0, y1], _, hf =>
    have f0 := hf 0 _ rfl
    have f1 := hf 1 _ rfl
    simp only [c3, c22, List.drop_succ_cons, List.drop_zero, List.take_succ_cons, List.take_zero, List.getElem?_cons_succ, List.getElem?_cons_zero] at f0 f1
    obtain ⟨n0, e0, _, _⟩ := DataW.trod_int Try.underlying3 f0
    obtain ⟨s, e1, g1, g2, g3⟩ := openSlS (k := 6) (f := fun n : Nd => 2 * n.ps.l.length) rowN (fun x d => (prsP x.ps).holds (hp w) ∧ 2 * x.ps.l.length ≤ Rows.uptoBulk d) (fun _ _ h => h.2) Try.underlying22 (by kernel_rfl) rfl (fun n cs y h => openNodeB h) f1
    cases e0; cases e1
    refine ⟨⟨n0, s⟩, rfl, g1, fun n hn => ?_, ?_⟩
    · obtain ⟨d, g4, _⟩ := g3 n hn; exact g4
    · simp only [List.map_cons, List.map_nil, Rows.uptoBulk, Rows.uptoBulkAll]
      show (s.l.map fun n : Nd => 2 * n.ps.l.length).sum ≤ _
      omega
theorem argTreeB {r : Reach} {b0 : Nat} {v : Value} {d : DataW H} {ps : List MemPlace} (hval : Value.okWide Try.prog w r b0 24 v) (h : DataW.Trod enc Try.prog w base spare held 24 v d ps) :
    ∃ t : Tr, v = t.val ∧ (ndsP t.ns).holds (hp w) ∧ (psP t.ns.l).holds (hp w) ∧ (t.ns.l.map fun n => 2 * n.ps.l.length).sum ≤ Rows.uptoBulk d := by
  obtain ⟨cs, rfl, _⟩ := okWide_struct Try.underlying24 hval
  obtain ⟨fuel, hf⟩ := h
  obtain ⟨t, e, h1, h2, h3⟩ := openTreeB hf
  refine ⟨t, ?_, h1, h2, h3⟩
  have e' : cs.toList = [.int .i64 t.root, t.ns.val] := by simpa [Value.cells] using e
  show Value.agg cs = .agg #[.int .i64 t.root, t.ns.val]
  congr 1
  apply Array.ext'
  rw [e']
theorem sum_mem {α : Type} {f : α → Nat} {l : List α} {x : α} (h : x ∈ l) : f x ≤ (l.map f).sum := by
  induction l with
  | nil => cases h
  | cons y l ih =>
    rw [List.map_cons, List.sum_cons]
    rcases List.mem_cons.1 h with rfl | h
    · omega
    · have := ih h; omega
end
end Go.Proofs.Ytmkodknmknfdkaa
