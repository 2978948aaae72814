/- Texts of this seat, joined: part 5. -/
import Derived.WalkKit
import Derived.OrdersHeld
import Derived.Lib.MinMax
import Derived.Laws.AppendOwn
import Derived.ProofKit
import Derived.OpenShut
import Derived.ChangeOld
import Derived.Carry
import Derived.Deep.Slices
import Derived.Laws.MakeOwn
import Derived.Lib.SliceRun
import Derived.Test.YtmkodknmknfdkaaRows
import Derived.MapKept
import Derived.Lib.AppendZeros
import Derived.SizedLaws
import Derived.Test.YtmkodknmknfdkaaXC4
set_option linter.unusedVariables false
set_option linter.unusedSimpArgs false
namespace Go.Proofs.Ytmkodknmknfdkaa
open E
set_option maxRecDepth 4000
theorem en61 : Enters Try.prog 61 := Enters.mk' Try.func61 rfl rfl
theorem en114 : Enters Try.prog 114 := Enters.mk' Try.func114 rfl rfl
theorem set34f (t : Tr) (hsm : smallP t.ns.l) (at_ : Int) (l : Sl Pr) (hl : l.l.length ≤ 1000000) (stat : Int) : Con Try.prog 34 [t.val, .int .i64 at_, l.val, .int .i64 stat] [ndsP t.ns, psP t.ns.l, prsP l] [] (SetEndF t at_ l stat) := by
  refine Con.body 67 Try.func34 rfl Try.ntmps34 rfl fun X H₀ L₀ => ?_
  refine At.lenOf (hs := (.tail _ (.head _))) fun hlen => ?_
  rw [List.length_map] at hlen
  refine At.seq ?_
  refine At.region ?_
  refine At.loud (l_box rfl) rfl ?_
  rintro _ _ _ ⟨b1, rfl, rfl, rfl⟩
  refine At.freeze 0 (φ := blk b1 _) rfl (fun _ h => blk_def.2 ⟨_, _, h⟩) ?_
  refine At.loud (l_alloc t24) rfl ?_
  rintro _ _ _ ⟨b2, rfl, rfl, rfl⟩
  refine At.skim 1 rfl rfl ?_
  refine At.nil ?_
  refine At.then ?_
  refine At.seq ?_
  refine At.seq ?_
  refine At.region ?_
  refine At.quiet (q_loadS t24 rfl (RdS.blk (.head _) (m := 2) rfl) rfl) rfl ?_
  refine At.call en21 rfl (may21 _) (fun _ h => ⟨h.2.2.1, h.2.2.2.1, trivial⟩) (List.Perm.refl _) rfl ?_
  rintro _ _ _ ⟨rfl, rfl, rfl⟩
  refine At.skim 2 rfl rfl ?_
  refine At.split (d := 16) rfl (fun hm => ?_) (fun hm => ?_)
  · skip
    refine At.know (ndsP ⟨none, 0, []⟩) (fun _ h => sl_nil _ _ _ (Nat.zero_le _)) ?_
    refine At.know (psP []) (fun _ h => psP_nil) ?_
    refine At.skim 18 rfl rfl ?_
    refine At.nil ?_
    refine At.then ?_
    refine At.condT rfl ?_
    refine At.seq ?_
    refine At.region ?_
    refine At.quiet (q_build t24 s24 rfl rfl) rfl ?_
    refine At.loudN (l_store t24 rfl rfl (i := 0) rfl rfl rfl rfl) ?_
    rintro _ _ _ ⟨rfl, rfl⟩
    refine At.skim 1 rfl rfl ?_
    refine At.nil ?_
    refine At.then ?_
    refine At.ret ?_
    refine At.thenRet ?_
    exact At.results (Γr := [_, _]) (M := []) rfl (RVals.cons (RVal.cellS rfl t24 (RdS.loc (i := 0) rfl (m := 2) rfl) rfl) (RVals.cons (RVal.tmp rfl) RVals.nil)) (.tail _ (.tail _ (.tail _ (.head _)))) (fun _ h => ⟨h.2.1, h.1, trivial⟩) (.cons _ (.refl _)) ⟨⟨0, ⟨none, 0, []⟩⟩, by rw [set_no1 (not_t hm)]; rfl, rfl, rfl, by rw [setD, set_no1 (not_t hm)]; rfl⟩
  · skip
    refine At.skim 4 rfl rfl ?_
    refine At.splitP (d := 20) rfl (fun hneg => ?_) (fun hneg => ?_)
    · skip
      refine At.know (ndsP ⟨none, 0, []⟩) (fun _ h => sl_nil _ _ _ (Nat.zero_le _)) ?_
      refine At.know (psP []) (fun _ h => psP_nil) ?_
      refine At.skim 14 rfl rfl ?_
      refine At.nil ?_
      refine At.then ?_
      refine At.condT rfl ?_
      refine At.seq ?_
      refine At.region ?_
      refine At.quiet (q_build t24 s24 rfl rfl) rfl ?_
      refine At.loudN (l_store t24 rfl rfl (i := 0) rfl rfl rfl rfl) ?_
      rintro _ _ _ ⟨rfl, rfl⟩
      refine At.skim 1 rfl rfl ?_
      refine At.nil ?_
      refine At.then ?_
      refine At.ret ?_
      refine At.thenRet ?_
      exact At.results (Γr := [_, _]) (M := []) rfl (RVals.cons (RVal.cellS rfl t24 (RdS.loc (i := 0) rfl (m := 2) rfl) rfl) (RVals.cons (RVal.tmp rfl) RVals.nil)) (.tail _ (.tail _ (.tail _ (.head _)))) (fun _ h => ⟨h.2.1, h.1, trivial⟩) (.cons _ (.refl _)) ⟨⟨0, ⟨none, 0, []⟩⟩, by rw [set_no2 hneg]; rfl, rfl, rfl, by rw [setD, set_no2 hneg]; rfl⟩
    · skip
      obtain ⟨i, rfl⟩ := Int.eq_ofNat_of_zero_le (show 0 ≤ at_ by omega)
      refine At.skim 1 rfl rfl ?_
      refine At.open rfl rfl ?_
      refine At.quiet (q_fieldAddr s24 rfl rfl rfl) rfl ?_
      refine At.open rfl rfl ?_
      refine At.quiet (q_load t22 rfl (Rd.blk (.head _) rfl)) rfl ?_
      refine At.open rfl rfl ?_
      refine At.quiet (q_len Try.underlying22 rfl) rfl ?_
      refine At.skim 3 rfl rfl ?_
      refine At.splitP (d := 27) rfl (fun hout => ?_) (fun hout => ?_)
      · skip
        refine At.know (ndsP ⟨none, 0, []⟩) (fun _ h => sl_nil _ _ _ (Nat.zero_le _)) ?_
        refine At.know (psP []) (fun _ h => psP_nil) ?_
        refine At.skim 7 rfl rfl ?_
        refine At.nil ?_
        refine At.then ?_
        refine At.condT rfl ?_
        refine At.seq ?_
        refine At.region ?_
        refine At.quiet (q_build t24 s24 rfl rfl) rfl ?_
        refine At.loudN (l_store t24 rfl rfl (i := 0) rfl rfl rfl rfl) ?_
        rintro _ _ _ ⟨rfl, rfl⟩
        refine At.skim 1 rfl rfl ?_
        refine At.nil ?_
        refine At.then ?_
        refine At.ret ?_
        refine At.thenRet ?_
        exact At.results (Γr := [_, _]) (M := []) rfl (RVals.cons (RVal.cellS rfl t24 (RdS.loc (i := 0) rfl (m := 2) rfl) rfl) (RVals.cons (RVal.tmp rfl) RVals.nil)) (.tail _ (.tail _ (.tail _ (.head _)))) (fun _ h => ⟨h.2.1, h.1, trivial⟩) (.cons _ (.refl _)) ⟨⟨0, ⟨none, 0, []⟩⟩, by rw [set_no3 (by simp [Tr.p]; omega)]; rfl, rfl, rfl, by rw [setD, set_no3 (by simp [Tr.p]; omega)]; rfl⟩
      · skip
        have hi : i < t.ns.l.length := by omega
        obtain ⟨x, hx⟩ := get_of_lt hi
        have hxp : t.p.ns[i]? = some x.p := map_get hx
        refine At.know (prsP x.ps) (fun _ h => psP_get h.2.2.2.1 hx) ?_
        refine At.open rfl rfl ?_
        refine At.quiet (q_fieldAddr s24 rfl rfl rfl) rfl ?_
        refine At.open rfl rfl ?_
        refine At.quiet (q_load t22 rfl (Rd.blk (.tail _ (.head _)) rfl)) rfl ?_
        refine At.skim 1 rfl rfl ?_
        refine At.open rfl rfl ?_
        refine At.quiet (q_index Try.underlying22 t33 rfl (.tail _ (.tail _ (.tail _ (.head _)))) (by simp) rfl rfl (lt_of_get hx)) rfl ?_
        refine At.open rfl rfl ?_
        refine At.quiet (q_fieldAddr s33 rfl rfl rfl) rfl ?_
        refine At.open rfl rfl ?_
        refine At.quiet (q_load t4 rfl (Rd.sl (.tail _ (.tail _ (.tail _ (.head _)))) (map_get hx) rfl)) rfl ?_
        refine At.skim 1 rfl rfl ?_
        refine At.nil ?_
        refine At.then ?_
        refine At.cond rfl (fun hr => ?_) (fun hr => ?_)
        · skip
          refine At.know (ndsP ⟨none, 0, []⟩) (fun _ h => sl_nil _ _ _ (Nat.zero_le _)) ?_
          refine At.know (psP []) (fun _ h => psP_nil) ?_
          refine At.seq ?_
          refine At.region ?_
          refine At.quiet (q_build t24 s24 rfl rfl) rfl ?_
          refine At.loudN (l_store t24 rfl rfl (i := 0) rfl rfl rfl rfl) ?_
          rintro _ _ _ ⟨rfl, rfl⟩
          refine At.skim 1 rfl rfl ?_
          refine At.nil ?_
          refine At.then ?_
          refine At.ret ?_
          refine At.thenRet ?_
          exact At.results (Γr := [_, _]) (M := []) rfl (RVals.cons (RVal.cellS rfl t24 (RdS.loc (i := 0) rfl (m := 2) rfl) rfl) (RVals.cons (RVal.tmp rfl) RVals.nil)) (.tail _ (.tail _ (.tail _ (.tail _ (.head _))))) (fun _ h => ⟨h.2.1, h.1, trivial⟩) (.cons _ (.refl _)) ⟨⟨0, ⟨none, 0, []⟩⟩, by rw [set_no4 hxp hr]; rfl, rfl, rfl, by rw [setD, set_no4 hxp hr]; rfl⟩
        · skip
          obtain ⟨s, hs⟩ := Option.isSome_iff_exists.1 (not_f hm)
          have hfew : t.ns.l.length ≤ 2000 := by have := (good_of hs).few; simpa [Tr.p] using this
          refine At.nilSeg ?_
          refine At.know (psP []) (fun _ h => psP_nil) ?_
          refine At.skip ?_
          refine At.then ?_
          refine At.seq ?_
          refine At.region ?_
          refine At.fld s24 t3 rfl rfl rfl (Rd.blk (.tail _ (.tail _ (.head _))) rfl) rfl rfl ?_
          refine At.quiet (q_build t24 s24 rfl rfl) rfl ?_
          refine At.loud (l_alloc t24) rfl ?_
          rintro _ _ _ ⟨b3, rfl, rfl, rfl⟩
          refine At.loudN (l_store t24 rfl rfl (i := 0) rfl rfl rfl rfl) ?_
          rintro _ _ _ ⟨rfl, rfl⟩
          refine At.nil ?_
          refine At.then ?_
          refine At.seq ?_
          refine At.seq ?_
          refine At.region ?_
          refine At.fld s24 t22 rfl rfl rfl (Rd.blk (.tail _ (.tail _ (.head _))) rfl) rfl rfl ?_
          refine At.quiet (q_len Try.underlying22 rfl) rfl ?_
          refine At.skim 1 rfl rfl ?_
          refine At.nil ?_
          refine At.then ?_
          refine At.block ?_
          refine At.front 1 rfl ?_
          refine At.front 1 rfl ?_
          refine At.loopK (ι := Nat × List Nd × Option Addr × Nat × Seg) [11, 12, 42, 43, 44, 45, 46, 47, 48, 49, 50, 51, 52, 53, 54, 55, 56, 57, 58, 59, 60, 61] (fun ⟨k, o, a, c, M⟩ => [(42, .int .i64 (k : Int))]) (fun ⟨k, o, a, c, M⟩ => [psP o]) (fun ⟨k, o, a, c, M⟩ => [[(b3, .cells #[.int .i64 t.root, .slice a k c] 24 (0, 0))], M]) _ (fun ⟨k, o, a, c, M⟩ => k ≤ t.ns.l.length ∧ Own 33 6 (o.map rowN) a c M ∧ o.length = k ∧ o.map Nd.p = (t.p.ns.set i { x.p with l := l.l, stat := stat }).take k) (fun ⟨k, o, a, c, M⟩ => t.ns.l.length - k) (0, [], none, 0, []) ⟨Nat.zero_le _, Own.nil _ _, rfl, by simp⟩ ⟨rfl, trivial⟩ (fun _ _ => ⟨psP_nil, trivial⟩) (.cons_cons _ (.cons_cons _ (.refl _))) ?_
          intro i0 hI0
          obtain ⟨k, o, a, c, M⟩ := i0
          obtain ⟨hkl, hO, hok, hoe⟩ := hI0
          refine At.seq ?_
          refine At.region ?_
          refine At.skim 1 rfl rfl ?_
          refine At.nil ?_
          refine At.then ?_
          refine At.seq ?_
          refine At.if rfl (fun hk => ?_) (fun hk => ?_)
          · skip
            obtain ⟨y, hy⟩ := get_of_lt (l := t.ns.l) (i := k) (by omega)
            have hk1 := lt_of_get hy
            refine At.know (prsP y.ps) (fun _ h => psP_get h.2.2.2.2.2.2.1 hy) ?_
            refine At.skip ?_
            refine At.then ?_
            refine At.seq ?_
            refine At.block ?_
            refine At.seq ?_
            refine At.region ?_
            refine At.skim 1 rfl rfl ?_
            refine At.quiet (q_index Try.underlying22 t33 rfl (.tail _ (.tail _ (.tail _ (.tail _ (.tail _ (.tail _ (.head _))))))) (by simp) rfl rfl (lt_of_get hy)) rfl ?_
            refine At.quiet (q_loadS t33 rfl (RdS.sl0 (.tail _ (.tail _ (.tail _ (.tail _ (.tail _ (.tail _ (.head _))))))) (map_get hy)) rfl) rfl ?_
            refine At.loud (l_alloc t33) rfl ?_
            rintro _ _ _ ⟨b4, rfl, rfl, rfl⟩
            refine At.skim 1 rfl rfl ?_
            refine At.loudN (l_store t33 rfl rfl (i := 0) rfl rfl rfl rfl) ?_
            rintro _ _ _ ⟨rfl, rfl⟩
            refine At.nil ?_
            refine At.then ?_
            refine At.seq ?_
            refine At.seq ?_
            refine At.region ?_
            refine At.skim 3 rfl rfl ?_
            refine At.nil ?_
            refine At.then ?_
            refine At.if rfl (fun hki => ?_) (fun hki => ?_)
            · skip
              obtain rfl : k = i := by omega
              obtain rfl : x = y := by rw [hx] at hy; exact Option.some.inj hy
              refine At.region ?_
              refine At.skim 2 rfl rfl ?_
              refine At.quiet (q_fieldAddr s33 rfl rfl rfl) rfl ?_
              refine At.loudN (l_store t31 rfl rfl (i := 0) rfl rfl rfl rfl) ?_
              rintro _ _ _ ⟨rfl, rfl⟩
              refine At.quiet (q_fieldAddr s33 rfl rfl rfl) rfl ?_
              refine At.loudN (l_store t3 rfl rfl (i := 0) rfl rfl rfl rfl) ?_
              rintro _ _ _ ⟨rfl, rfl⟩
              refine At.nil ?_
              refine At.then ?_
              refine At.draw 5 (.q 0 (.q 1 (.q 2 (.o 3 (.o 4 (.e)))))) _ (List.Sublist.refl _) mixed (by kernel_rfl) rfl ?_
              refine AtO.quiet rfl (q_fieldAddr s24 rfl rfl rfl) rfl (Calm.inBlock (Calm.then (Calm.then (Calm.inBlock (Calm.then Post.calm))))) ?_
              refine AtO.quiet rfl (q_load t22 rfl (Rd.loc (i := 1) rfl rfl)) rfl (Calm.inBlock (Calm.then (Calm.then (Calm.inBlock (Calm.then Post.calm))))) ?_
              refine AtO.quiet rfl (q_loadS t33 rfl (RdS.loc (i := 0) rfl (m := 6) rfl) rfl) rfl (Calm.inBlock (Calm.then (Calm.then (Calm.inBlock (Calm.then Post.calm))))) ?_
              refine AtO.callA rfl en73 rfl (copy73 { x with ps := l, stat := stat } (by simpa using hl)) (fun _ h => ⟨h.2.2.2.2.2.2.2.2.1, trivial⟩) (List.Perm.refl _) rfl (.refl _) ?_
              rintro _ _ _ ⟨s0, rfl, hs0, rfl, rfl⟩
              refine AtO.loudA rfl (l_buildSlice Try.underlying22 t33 rfl rfl rfl rfl rfl) rfl (by rintro _ _ _ ⟨_, rfl, rfl, rfl⟩; exact ⟨fun _ h => h, .cons _ (.refl _)⟩) ?_
              rintro _ _ _ ⟨b5, rfl, rfl, rfl⟩
              refine AtO.done ?_
              refine At.loud (l_append rfl Try.underlying22 t33 rfl rfl hO (by simp; omega) (i := 3) rfl rfl (news := [rowN { { x with ps := l, stat := stat } with ps := s0 }]) (by simp [rowN]) (RdS.loc (i := 0) rfl (m := 6) rfl) rfl rfl rfl (by omega) (by unfold maxLen; omega)) rfl ?_
              rintro _ _ _ ⟨a2, c2, M2, rfl, ow, rfl, rfl⟩
              refine At.quiet (q_fieldAddr s24 rfl rfl rfl) rfl ?_
              refine At.loudN (l_store t22 rfl rfl (i := 2) rfl rfl rfl rfl) ?_
              rintro _ _ _ ⟨rfl, rfl⟩
              refine At.nil ?_
              refine At.inNormal ?_
              refine At.then ?_
              refine At.region ?_
              refine At.know (psP (o ++ [{ { x with ps := l, stat := stat } with ps := s0 }])) (fun _ h => psP_snoc (n := { { x with ps := l, stat := stat } with ps := s0 }) h.2.2.1 h.1) ?_
              refine At.quiet (q_add rfl rfl (by omega) (by omega)) rfl ?_
              refine At.skim 1 rfl rfl ?_
              refine At.nil ?_
              refine At.front 3 rfl ?_
              refine At.front 3 rfl ?_
              refine At.then ?_
              exact At.againK (k + 1, o ++ [{ { x with ps := l, stat := stat } with ps := s0 }], a2, c2, M2) ⟨hk1, by simpa using ow, by simp; omega, set_step_at hoe hs0 hxp⟩ (by (try dsimp only); omega) (Tells.end 23 ⟨rfl, trivial⟩ rfl rfl) (fun _ h => ⟨h.1, h.2.2.2.2⟩) (.cons_cons _ (.cons_cons _ (.cons _ (.cons _ (.refl _)))))
            · skip
              refine At.skip ?_
              refine At.then ?_
              refine At.draw 5 (.q 0 (.q 1 (.q 2 (.o 3 (.o 4 (.e)))))) _ (List.Sublist.refl _) mixed (by kernel_rfl) rfl ?_
              refine AtO.quiet rfl (q_fieldAddr s24 rfl rfl rfl) rfl (Calm.inBlock (Calm.then (Calm.then (Calm.inBlock (Calm.then Post.calm))))) ?_
              refine AtO.quiet rfl (q_load t22 rfl (Rd.loc (i := 1) rfl rfl)) rfl (Calm.inBlock (Calm.then (Calm.then (Calm.inBlock (Calm.then Post.calm))))) ?_
              refine AtO.quiet rfl (q_loadS t33 rfl (RdS.loc (i := 0) rfl (m := 6) rfl) rfl) rfl (Calm.inBlock (Calm.then (Calm.then (Calm.inBlock (Calm.then Post.calm))))) ?_
              refine AtO.callA rfl en73 rfl (copy73 y (hsm y (List.mem_of_getElem? hy))) (fun _ h => ⟨h.1, trivial⟩) (List.Perm.refl _) rfl (.refl _) ?_
              rintro _ _ _ ⟨s0, rfl, hs0, rfl, rfl⟩
              refine AtO.loudA rfl (l_buildSlice Try.underlying22 t33 rfl rfl rfl rfl rfl) rfl (by rintro _ _ _ ⟨_, rfl, rfl, rfl⟩; exact ⟨fun _ h => h, .cons _ (.refl _)⟩) ?_
              rintro _ _ _ ⟨b6, rfl, rfl, rfl⟩
              refine AtO.done ?_
              refine At.loud (l_append rfl Try.underlying22 t33 rfl rfl hO (by simp; omega) (i := 3) rfl rfl (news := [rowN { y with ps := s0 }]) (by simp [rowN]) (RdS.loc (i := 0) rfl (m := 6) rfl) rfl rfl rfl (by omega) (by unfold maxLen; omega)) rfl ?_
              rintro _ _ _ ⟨a2, c2, M2, rfl, ow, rfl, rfl⟩
              refine At.quiet (q_fieldAddr s24 rfl rfl rfl) rfl ?_
              refine At.loudN (l_store t22 rfl rfl (i := 2) rfl rfl rfl rfl) ?_
              rintro _ _ _ ⟨rfl, rfl⟩
              refine At.nil ?_
              refine At.inNormal ?_
              refine At.then ?_
              refine At.region ?_
              refine At.know (psP (o ++ [{ y with ps := s0 }])) (fun _ h => psP_snoc (n := { y with ps := s0 }) h.2.2.1 h.1) ?_
              refine At.quiet (q_add rfl rfl (by omega) (by omega)) rfl ?_
              refine At.skim 1 rfl rfl ?_
              refine At.nil ?_
              refine At.front 3 rfl ?_
              refine At.front 3 rfl ?_
              refine At.then ?_
              exact At.againK (k + 1, o ++ [{ y with ps := s0 }], a2, c2, M2) ⟨hk1, by simpa using ow, by simp; omega, set_step_ne hoe hs0 (map_get hy) (by omega)⟩ (by (try dsimp only); omega) (Tells.end 19 ⟨rfl, trivial⟩ rfl rfl) (fun _ h => ⟨h.1, h.2.2.2.2⟩) (.cons_cons _ (.cons_cons _ (.cons _ (.cons _ (.refl _)))))
          · skip
            have hoe2 : o.map Nd.p = (t.p.ns.set i { x.p with l := l.l, stat := stat }) := by rw [hoe, List.take_of_length_le (by simp [Tr.p]; omega)]
            have hu : (⟨t.root, ⟨a, c, o⟩⟩ : Tr).p = ⟨t.p.root, (t.p.ns.set i { x.p with l := l.l, stat := stat })⟩ := by simp only [Tr.p]; exact congrArg (PT.mk t.root) hoe2
            subst hok
            refine At.exit ?_
            refine At.thenExit ?_
            refine At.thenExit ?_
            refine At.inHere rfl ?_
            refine At.then ?_
            refine At.seq ?_
            refine At.seq ?_
            refine At.region ?_
            refine At.quiet (q_loadS t24 rfl (RdS.loc (i := 0) rfl (m := 2) rfl) rfl) rfl ?_
            refine At.callB en21 rfl (may21 ⟨t.root, ⟨a, c, o⟩⟩) hO (i := 1) rfl (fun _ h => ⟨h.1, h.2.1, trivial⟩) (List.Perm.refl _) rfl ?_
            rintro _ _ _ ⟨rfl, rfl, rfl⟩
            refine At.skim 1 rfl rfl ?_
            refine At.nil ?_
            refine At.then ?_
            refine At.cond rfl (fun hm2 => ?_) (fun hm2 => ?_)
            · skip
              refine At.know (ndsP ⟨none, 0, []⟩) (fun _ h => sl_nil _ _ _ (Nat.zero_le _)) ?_
              refine At.know (psP []) (fun _ h => psP_nil) ?_
              refine At.seq ?_
              refine At.region ?_
              refine At.quiet (q_build t24 s24 rfl rfl) rfl ?_
              refine At.loudN (l_store t24 rfl rfl (i := 2) rfl rfl rfl rfl) ?_
              rintro _ _ _ ⟨rfl, rfl⟩
              refine At.skim 1 rfl rfl ?_
              refine At.nil ?_
              refine At.then ?_
              refine At.ret ?_
              refine At.thenRet ?_
              exact At.results (Γr := [_, _]) (M := []) rfl (RVals.cons (RVal.cellS rfl t24 (RdS.loc (i := 2) rfl (m := 2) rfl) rfl) (RVals.cons (RVal.tmp rfl) RVals.nil)) (.tail _ (.tail _ (.tail _ (.tail _ (.tail _ (.tail _ (.head _))))))) (fun _ h => ⟨h.2.1, h.1, trivial⟩) (.cons _ (.cons _ (.cons _ (.refl _)))) ⟨⟨0, ⟨none, 0, []⟩⟩, by rw [set_no5 hxp hr (by rw [← hu]; exact not_t hm2)]; rfl, rfl, rfl, by rw [setD, set_no5 hxp hr (by rw [← hu]; exact not_t hm2)]; rfl⟩
            · skip
              refine At.freezeOwn 0 hO rfl ?_
              refine At.skip ?_
              refine At.then ?_
              refine At.seq ?_
              refine At.region ?_
              refine At.quiet (q_loadS t24 rfl (RdS.loc (i := 0) rfl (m := 2) rfl) rfl) rfl ?_
              refine At.loudN (l_store t24 rfl rfl (i := 1) rfl rfl rfl rfl) ?_
              rintro _ _ _ ⟨rfl, rfl⟩
              refine At.skim 1 rfl rfl ?_
              refine At.nil ?_
              refine At.then ?_
              refine At.ret ?_
              exact At.results (Γr := [_, psP o]) (M := []) rfl (RVals.cons (RVal.cellS rfl t24 (RdS.loc (i := 1) rfl (m := 2) rfl) rfl) (RVals.cons (RVal.tmp rfl) RVals.nil)) (.tail _ (.tail _ (.tail _ (.tail _ (.tail _ (.head _)))))) (fun _ h => ⟨h.1, h.2.1, trivial⟩) (.cons _ (.cons _ (.refl _))) ⟨⟨t.root, ⟨a, c, o⟩⟩, by rw [set_ok hs hxp hr (by rw [← hu]; exact not_f hm2)]; rfl, rfl, rfl, by rw [setD, set_ok hs hxp hr (by rw [← hu]; exact not_f hm2), hu]; rfl⟩
set_option maxHeartbeats 2000000 in
theorem update96 (t : Tr) (p : Pol) (o : OpS) (s : Sh) (hs : mayT t.p = some s) (hmo : mayO o = true) (hu : updO o = true) (hal : (allT t.p).length ≤ 100000) : Con Try.prog 96 [t.val, p.val, o.val] [ndsP t.ns, psP t.ns.l] [] (TreeEnd (updT t.p p o)) := by
  refine Con.body 51 Try.func96 rfl Try.ntmps96 rfl fun X H₀ L₀ => ?_
  obtain ⟨n, hn⟩ := get_of_lt (find_lt hs o.key)
  obtain ⟨x, hx, hxp⟩ := p_get (u := t) rfl hn
  have hmt : (mayT t.p).isSome = true := by rw [hs]; rfl
  have hsm : smallP t.ns.l := small_all hmt hal (by omega)
  have hxs := hsm x (List.mem_of_getElem? hx)
  have hgd : t.p.ns.getD (findD t.p o.key).leaf default = x.p := (getD_of hn).trans hxp.symm
  have hk3 : o.kind ≤ 3 ∧ 1 ≤ o.kind := by simp only [updO, Bool.or_eq_true, decide_eq_true_eq] at hu; omega
  refine At.know (prsP x.ps) (fun _ h => psP_get h.2.2.1 hx) ?_
  refine At.seq ?_
  refine At.region ?_
  refine At.loud (l_box rfl) rfl ?_
  rintro _ _ _ ⟨b1, rfl, rfl, rfl⟩
  refine At.freeze 0 (φ := blk b1 _) rfl (fun _ h => blk_def.2 ⟨_, _, h⟩) ?_
  refine At.loud (l_box rfl) rfl ?_
  rintro _ _ _ ⟨b2, rfl, rfl, rfl⟩
  refine At.freeze 0 (φ := blk b2 _) rfl (fun _ h => blk_def.2 ⟨_, _, h⟩) ?_
  refine At.loud (l_box rfl) rfl ?_
  rintro _ _ _ ⟨b3, rfl, rfl, rfl⟩
  refine At.freeze 0 (φ := blk b3 _) rfl (fun _ h => blk_def.2 ⟨_, _, h⟩) ?_
  refine At.loud (l_alloc t24) rfl ?_
  rintro _ _ _ ⟨b4, rfl, rfl, rfl⟩
  refine At.nil ?_
  refine At.then ?_
  refine At.seq ?_
  refine At.region ?_
  refine At.quiet (q_loadS t24 rfl (RdS.blk (.tail _ (.tail _ (.head _))) (m := 2) rfl) rfl) rfl ?_
  refine At.quiet (q_loadS t77 rfl (RdS.blk (.head _) (m := 4) rfl) rfl) rfl ?_
  refine At.call en61 rfl (touched61 _ _) (fun _ h => ⟨h.2.2.2.2.2.1, h.2.2.2.2.2.2.1, trivial⟩) (List.Perm.refl _) rfl ?_
  rintro _ _ _ ⟨tl, rfl, rfl, rfl, htl⟩
  have ht0 : tl.l[0]? = some ((findD t.p o.key).leaf : Int) := by rw [htl, touch_one hmt hmo (by omega)]; rfl
  refine At.quiet (q_index Try.underlying37 t3 rfl (.head _) (by simp) rfl rfl (lt_of_get ht0)) rfl ?_
  refine At.quiet (q_load t3 rfl (Rd.sl0 (.head _) (map_get ht0) rfl)) rfl ?_
  refine At.skim 1 rfl rfl ?_
  refine At.nil ?_
  refine At.then ?_
  refine At.cutD (ι := Sl Pr) .z [8, 9, 17, 18, 19, 20, 21, 22, 23, 24, 25, 26, 27] (fun s9 => [(8, s9.val)]) (fun s9 => [prsP s9]) (fun s9 => []) (fun s9 => s9.l = (doT x.ps.l o).1) ?_ ?_
  · skip
    refine At.draw 13 (.q 0 (.q 1 (.q 2 (.q 3 (.q 4 (.q 5 (.q 6 (.t 7 (.q 8 (.q 9 (.q 10 (.o 11 (.q 12 (.e)))))) 11 (.o 7 (.q 8 (.q 9 (.q 10 (.q 12 (.e)))))))))))))) _ (List.Sublist.refl _) mixed (by kernel_rfl) rfl ?_
    refine AtO.quiet rfl (q_fieldAddr s24 rfl rfl rfl) rfl (Calm.then Post.calm) ?_
    refine AtO.quiet rfl (q_load t22 rfl (Rd.blk (.tail _ (.tail _ (.tail _ (.head _)))) rfl)) rfl (Calm.then Post.calm) ?_
    refine AtO.quiet rfl (q_move rfl) rfl (Calm.then Post.calm) ?_
    refine AtO.quiet rfl (q_index Try.underlying22 t33 rfl (.tail _ (.tail _ (.tail _ (.tail _ (.tail _ (.tail _ (.head _))))))) (by simp) rfl rfl (lt_of_get hx)) rfl (Calm.then Post.calm) ?_
    refine AtO.quiet rfl (q_fieldAddr s33 rfl rfl rfl) rfl (Calm.then Post.calm) ?_
    refine AtO.quiet rfl (q_load t31 rfl (Rd.sl (.tail _ (.tail _ (.tail _ (.tail _ (.tail _ (.tail _ (.head _))))))) (map_get hx) rfl)) rfl (Calm.then Post.calm) ?_
    refine AtO.quiet rfl (q_loadS t77 rfl (RdS.blk (.tail _ (.head _)) (m := 4) rfl) rfl) rfl (Calm.then Post.calm) ?_
    refine AtO.two ?_ ?_
    · skip
      refine AtO.callA rfl en113 rfl (do113 x.ps o (by omega)) (fun _ h => ⟨h.2.2.2.2.1, trivial⟩) (List.Perm.refl _) rfl (.refl _) ?_
      rintro _ _ _ ⟨s1, s2, rfl, rfl, rfl, hs1, hs2⟩
      refine AtO.quiet rfl (q_move rfl) rfl (Calm.then Post.calm) ?_
      refine AtO.quiet rfl (q_extract rfl rfl) rfl (Calm.then Post.calm) ?_
      refine AtO.quiet rfl (q_extract rfl rfl) rfl (Calm.then Post.calm) ?_
      refine AtO.loudA rfl (l_alloc t80) rfl (by rintro _ _ _ ⟨_, rfl, rfl, rfl⟩; exact ⟨fun _ h => h, .cons _ (.refl _)⟩) ?_
      rintro _ _ _ ⟨b5, rfl, rfl, rfl⟩
      refine AtO.quiet rfl (q_assign rfl) rfl (Calm.then Post.calm) ?_
      refine AtO.done ?_
      refine At.loudN (l_store t80 rfl rfl (i := 0) rfl rfl rfl rfl) ?_
      rintro _ _ _ ⟨rfl, rfl⟩
      refine At.nil ?_
      refine At.then ?_
      exact At.meetK s1 hs1 (Tells.meet 13 ⟨rfl, trivial⟩ rfl rfl) (fun _ h => ⟨h.1, h.2.2⟩) (.cons _ (.refl _))
    · skip
      refine AtO.loudA rfl (l_alloc t80) rfl (by rintro _ _ _ ⟨_, rfl, rfl, rfl⟩; exact ⟨fun _ h => h, .cons _ (.refl _)⟩) ?_
      rintro _ _ _ ⟨b6, rfl, rfl, rfl⟩
      refine AtO.callA rfl en113 rfl (do113 x.ps o (by omega)) (fun _ h => ⟨h.2.2.2.2.1, trivial⟩) (List.Perm.refl _) rfl (.refl _) ?_
      rintro _ _ _ ⟨s1, s2, rfl, rfl, rfl, hs1, hs2⟩
      refine AtO.quiet rfl (q_move rfl) rfl (Calm.then Post.calm) ?_
      refine AtO.quiet rfl (q_extract rfl rfl) rfl (Calm.then Post.calm) ?_
      refine AtO.quiet rfl (q_extract rfl rfl) rfl (Calm.then Post.calm) ?_
      refine AtO.quiet rfl (q_assign rfl) rfl (Calm.then Post.calm) ?_
      refine AtO.done ?_
      refine At.loudN (l_store t80 rfl rfl (i := 0) rfl rfl rfl rfl) ?_
      rintro _ _ _ ⟨rfl, rfl⟩
      refine At.nil ?_
      refine At.then ?_
      exact At.meetK s1 hs1 (Tells.meet 13 ⟨rfl, trivial⟩ rfl rfl) (fun _ h => ⟨h.1, h.2.2⟩) (.cons _ (.refl _))
  intro s9 hs9
  have hsl9 : s9.l.length ≤ 1000000 := by have h1 := do_len x.ps.l o; rw [hs9]; have h2 := leaf_le hs hmt hx; omega
  refine At.cutD (ι := Nat × Tr) .z [10, 11, 28, 29, 30, 31, 32, 33, 34, 35, 36, 37, 38, 39, 40, 41, 42] (fun ⟨b9, u⟩ => [(10, .pointer (some ⟨b9, 0, none⟩))]) (fun ⟨b9, u⟩ => [ndsP u.ns, psP u.ns.l]) (fun ⟨b9, u⟩ => [[(b9, .cells #[.int .i64 u.root, u.ns.val] 24 (0, 0))]]) (fun ⟨b9, u⟩ => u.p = setD t.p ((findD t.p o.key).leaf : Int) (doT x.ps.l o).1 (nextS p x.stat 2)) ?_ ?_
  · skip
    refine At.draw 17 (.q 0 (.q 1 (.q 2 (.q 3 (.q 4 (.q 5 (.q 6 (.q 7 (.q 8 (.q 9 (.t 10 (.t 11 (.q 12 (.q 13 (.q 14 (.o 15 (.o 16 (.e)))))) 15 (.o 11 (.q 12 (.q 13 (.q 14 (.o 16 (.e))))))) 15 (.o 10 (.o 11 (.q 12 (.q 13 (.q 14 (.o 16 (.e)))))))))))))))))) _ (List.Sublist.refl _) mixed (by kernel_rfl) rfl ?_
    refine AtO.quiet rfl (q_loadS t24 rfl (RdS.blk (.tail _ (.tail _ (.tail _ (.tail _ (.head _))))) (m := 2) rfl) rfl) rfl (Calm.then Post.calm) ?_
    refine AtO.quiet rfl (q_move rfl) rfl (Calm.then Post.calm) ?_
    refine AtO.quiet rfl (q_move rfl) rfl (Calm.then Post.calm) ?_
    refine AtO.quiet rfl (q_loadS t64 rfl (RdS.blk (.tail _ (.tail _ (.tail _ (.head _)))) (m := 5) rfl) rfl) rfl (Calm.then Post.calm) ?_
    refine AtO.quiet rfl (q_fieldAddr s24 rfl rfl rfl) rfl (Calm.then Post.calm) ?_
    refine AtO.quiet rfl (q_load t22 rfl (Rd.blk (.tail _ (.tail _ (.tail _ (.tail _ (.head _))))) rfl)) rfl (Calm.then Post.calm) ?_
    refine AtO.quiet rfl (q_move rfl) rfl (Calm.then Post.calm) ?_
    refine AtO.quiet rfl (q_index Try.underlying22 t33 rfl (.tail _ (.tail _ (.tail _ (.tail _ (.tail _ (.tail _ (.tail _ (.head _)))))))) (by simp) rfl rfl (lt_of_get hx)) rfl (Calm.then Post.calm) ?_
    refine AtO.quiet rfl (q_fieldAddr s33 rfl rfl rfl) rfl (Calm.then Post.calm) ?_
    refine AtO.quiet rfl (q_load t3 rfl (Rd.sl (.tail _ (.tail _ (.tail _ (.tail _ (.tail _ (.tail _ (.tail _ (.head _)))))))) (map_get hx) rfl)) rfl (Calm.then Post.calm) ?_
    refine AtO.two ?_ ?_
    · skip
      refine AtO.call rfl en114 rfl (next114 p x.stat 2) (fun _ _ => trivial) (List.Perm.refl _) rfl (.refl _) ?_
      rintro _ _ _ ⟨rfl, rfl, rfl⟩
      refine AtO.two ?_ ?_
      · skip
        refine AtO.call rfl en34 rfl (set34f t hsm ((findD t.p o.key).leaf : Int) s9 hsl9 (nextS p x.stat 2)) (fun _ h => ⟨h.2.2.2.2.2.2.2.1, h.2.2.2.2.2.2.2.2.1, h.1, trivial⟩) (List.Perm.refl _) rfl (.refl _) ?_
        rintro _ _ _ ⟨u, rfl, rfl, rfl, hpu⟩
        refine AtO.quiet rfl (q_move rfl) rfl (Calm.then Post.calm) ?_
        refine AtO.quiet rfl (q_extract rfl rfl) rfl (Calm.then Post.calm) ?_
        refine AtO.quiet rfl (q_extract rfl rfl) rfl (Calm.then Post.calm) ?_
        refine AtO.loud rfl (l_alloc t24) rfl (by rintro _ _ _ ⟨_, rfl, rfl, rfl⟩; exact ⟨fun _ h => h, .cons _ (.refl _)⟩) ?_
        rintro _ _ _ ⟨b7, rfl, rfl, rfl⟩
        refine AtO.loudNA rfl (l_store t24 rfl rfl (i := 0) rfl rfl rfl rfl) (by rintro _ _ _ ⟨rfl, rfl⟩; exact ⟨fun _ h => h, (.cons _ (.cons_cons _ (.refl _)))⟩) ?_
        rintro _ _ _ ⟨rfl, rfl⟩
        refine AtO.done ?_
        refine At.skim 1 rfl rfl ?_
        refine At.nil ?_
        refine At.then ?_
        exact At.meetK (b7, u) (by rw [← hs9]; exact hpu) (Tells.meet 17 ⟨rfl, trivial⟩ rfl rfl) (fun _ h => ⟨h.1, ⟨h.2.1, h.2.2⟩⟩) (.cons_cons _ (.refl _))
      · skip
        refine AtO.loud rfl (l_alloc t24) rfl (by rintro _ _ _ ⟨_, rfl, rfl, rfl⟩; exact ⟨fun _ h => h, .cons _ (.refl _)⟩) ?_
        rintro _ _ _ ⟨b8, rfl, rfl, rfl⟩
        refine AtO.call rfl en34 rfl (set34f t hsm ((findD t.p o.key).leaf : Int) s9 hsl9 (nextS p x.stat 2)) (fun _ h => ⟨h.2.2.2.2.2.2.2.1, h.2.2.2.2.2.2.2.2.1, h.1, trivial⟩) (List.Perm.refl _) rfl (.cons _ (.cons_cons _ (.refl _))) ?_
        rintro _ _ _ ⟨u, rfl, rfl, rfl, hpu⟩
        refine AtO.quiet rfl (q_move rfl) rfl (Calm.then Post.calm) ?_
        refine AtO.quiet rfl (q_extract rfl rfl) rfl (Calm.then Post.calm) ?_
        refine AtO.quiet rfl (q_extract rfl rfl) rfl (Calm.then Post.calm) ?_
        refine AtO.loudNA rfl (l_store t24 rfl rfl (i := 0) rfl rfl rfl rfl) (by rintro _ _ _ ⟨rfl, rfl⟩; exact ⟨fun _ h => h, (.cons _ (.cons_cons _ (.refl _)))⟩) ?_
        rintro _ _ _ ⟨rfl, rfl⟩
        refine AtO.done ?_
        refine At.skim 1 rfl rfl ?_
        refine At.nil ?_
        refine At.then ?_
        exact At.meetK (b8, u) (by rw [← hs9]; exact hpu) (Tells.meet 17 ⟨rfl, trivial⟩ rfl rfl) (fun _ h => ⟨h.1, ⟨h.2.1, h.2.2⟩⟩) (.cons_cons _ (.refl _))
    · skip
      refine AtO.loud rfl (l_alloc t24) rfl (by rintro _ _ _ ⟨_, rfl, rfl, rfl⟩; exact ⟨fun _ h => h, .cons _ (.refl _)⟩) ?_
      rintro _ _ _ ⟨b9, rfl, rfl, rfl⟩
      refine AtO.call rfl en114 rfl (next114 p x.stat 2) (fun _ _ => trivial) (List.Perm.refl _) rfl (.cons _ (.cons_cons _ (.refl _))) ?_
      rintro _ _ _ ⟨rfl, rfl, rfl⟩
      refine AtO.call rfl en34 rfl (set34f t hsm ((findD t.p o.key).leaf : Int) s9 hsl9 (nextS p x.stat 2)) (fun _ h => ⟨h.2.2.2.2.2.2.2.1, h.2.2.2.2.2.2.2.2.1, h.1, trivial⟩) (List.Perm.refl _) rfl (.cons _ (.cons_cons _ (.refl _))) ?_
      rintro _ _ _ ⟨u, rfl, rfl, rfl, hpu⟩
      refine AtO.quiet rfl (q_move rfl) rfl (Calm.then Post.calm) ?_
      refine AtO.quiet rfl (q_extract rfl rfl) rfl (Calm.then Post.calm) ?_
      refine AtO.quiet rfl (q_extract rfl rfl) rfl (Calm.then Post.calm) ?_
      refine AtO.loudNA rfl (l_store t24 rfl rfl (i := 0) rfl rfl rfl rfl) (by rintro _ _ _ ⟨rfl, rfl⟩; exact ⟨fun _ h => h, (.cons _ (.cons_cons _ (.refl _)))⟩) ?_
      rintro _ _ _ ⟨rfl, rfl⟩
      refine AtO.done ?_
      refine At.skim 1 rfl rfl ?_
      refine At.nil ?_
      refine At.then ?_
      exact At.meetK (b9, u) (by rw [← hs9]; exact hpu) (Tells.meet 17 ⟨rfl, trivial⟩ rfl rfl) (fun _ h => ⟨h.1, ⟨h.2.1, h.2.2⟩⟩) (.cons_cons _ (.refl _))
  intro j0 hpu
  obtain ⟨b9, u⟩ := j0
  obtain ⟨hq1, hq2, hq3, hq4, hq5, hq6, hq7⟩ := upd_set (st := nextS p x.stat 2) hs hmo hu rfl (hn.trans (congrArg some hxp.symm)) (next_bd p x.stat 2).1 (next_bd p x.stat 2).2
  have hdl := do_len (allT t.p) o
  have hpu2 : u.p = (⟨t.p.root, t.p.ns.set (findD t.p o.key).leaf { x.p with l := (doT x.p.l o).1, stat := nextS p x.stat 2 }⟩ : PT) := by rw [hpu, setD]; exact congrArg (fun q => Option.getD q _) hq1
  have hus : smallP u.ns.l := small_all (b := 100001) (by rw [hpu2]; exact congrArg Option.isSome hq2) (by rw [hpu2]; show (allT ⟨_, _⟩).length ≤ _; rw [hq4]; omega) (by omega)
  refine At.seq ?_
  refine At.region ?_
  refine At.quiet (q_loadS t24 rfl (RdS.loc (i := 0) rfl (m := 2) rfl) rfl) rfl ?_
  refine At.quiet (q_loadS t64 rfl (RdS.blk (.tail _ (.tail _ (.tail _ (.tail _ (.tail _ (.head _)))))) (m := 5) rfl) rfl) rfl ?_
  refine At.skim 1 rfl rfl ?_
  refine At.call en51 rfl (bend51 u hus p ((findD t.p o.key).leaf : Int)) (fun _ h => ⟨h.1, h.2.1, trivial⟩) (List.Perm.refl _) rfl ?_
  rintro _ _ _ ⟨v, rfl, rfl, rfl, hpv⟩
  refine At.skim 1 rfl rfl ?_
  refine At.quiet (q_extract rfl rfl) rfl ?_
  refine At.quiet (q_extract rfl rfl) rfl ?_
  refine At.loudN (l_store t24 rfl rfl (i := 0) rfl rfl rfl rfl) ?_
  rintro _ _ _ ⟨rfl, rfl⟩
  refine At.nil ?_
  refine At.then ?_
  refine At.seq ?_
  refine At.region ?_
  refine At.quiet (q_loadS t24 rfl (RdS.loc (i := 0) rfl (m := 2) rfl) rfl) rfl ?_
  refine At.loudN (l_store t24 rfl rfl (i := 1) rfl rfl rfl rfl) ?_
  rintro _ _ _ ⟨rfl, rfl⟩
  refine At.nil ?_
  refine At.then ?_
  refine At.ret ?_
  exact At.results (Γr := [_, _]) (M := []) rfl (RVals.cons (RVal.cellS rfl t24 (RdS.loc (i := 1) rfl (m := 2) rfl) rfl) RVals.nil) (.tail _ (.tail _ (.tail _ (.tail _ (.tail _ (.tail _ (.tail _ (.tail _ (.tail _ (.tail _ (.head _))))))))))) (fun _ h => ⟨h.1, h.2.1, trivial⟩) (.cons _ (.cons _ (.refl _))) ⟨v, rfl, rfl, rfl, by rw [hpv, hpu]; unfold updT; rw [hgd]; rfl⟩
set_option maxHeartbeats 1000000 in
theorem several97 (t : Tr) (p : Pol) (s : Sh) (hs : mayT t.p = some s) (l : Sl Int) (L : List Nat) (hL : l.l = toI L) (hin : ∀ a ∈ L, a ∈ leavesT t.p) (h0 : L ≠ []) (hal : (allT t.p).length ≤ 100000) : Con Try.prog 97 [t.val, p.val, l.val] [ndsP t.ns, psP t.ns.l, intsP l] [] (TreeEnd (sevT t.p p L)) := by
  refine Con.body 46 Try.func97 rfl Try.ntmps97 rfl fun X H₀ L₀ => ?_
  refine At.lenOf (hs := (.tail _ (.tail _ (.tail _ (.head _))))) fun hlen => ?_
  rw [List.length_map] at hlen
  have hll : l.l.length = L.length := by rw [hL, toI_length]
  have h00 : l.l[0]? = some ((L.headD 0 : Nat) : Int) := by
    rw [hL]
    cases L with
    | nil => exact absurd rfl h0
    | cons a L => rfl
  refine At.seq ?_
  refine At.region ?_
  refine At.loud (l_box rfl) rfl ?_
  rintro _ _ _ ⟨b1, rfl, rfl, rfl⟩
  refine At.loud (l_box rfl) rfl ?_
  rintro _ _ _ ⟨b2, rfl, rfl, rfl⟩
  refine At.freeze 0 (φ := blk b2 _) rfl (fun _ h => blk_def.2 ⟨_, _, h⟩) ?_
  refine At.loud (l_alloc t24) rfl ?_
  rintro _ _ _ ⟨b3, rfl, rfl, rfl⟩
  refine At.nil ?_
  refine At.then ?_
  refine At.seq ?_
  refine At.seq ?_
  refine At.region ?_
  refine At.skim 1 rfl rfl ?_
  refine At.quiet (q_len Try.underlying37 rfl) rfl ?_
  refine At.skim 1 rfl rfl ?_
  refine At.nil ?_
  refine At.then ?_
  refine At.block ?_
  refine At.front 1 rfl ?_
  refine At.loopK (ι := Nat × Tr) [8, 11, 12, 13, 14, 15, 16, 17, 18, 19, 20, 21, 22, 23, 24, 25, 26, 27, 28, 29, 30, 31, 32, 33, 34, 35] (fun ⟨k, v⟩ => [(11, .int .i64 (k : Int))]) (fun ⟨k, v⟩ => [ndsP v.ns, psP v.ns.l]) (fun ⟨k, v⟩ => [[(b1, .cells #[.int .i64 v.root, v.ns.val] 24 (0, 0))]]) _ (fun ⟨k, v⟩ => k ≤ L.length ∧ v.p = (L.take k).foldl (setSt p) t.p) (fun ⟨k, v⟩ => L.length - k) (0, t) ⟨Nat.zero_le _, rfl⟩ ⟨rfl, trivial⟩ (fun _ h => ⟨h.2.2.1, h.2.2.2.1, trivial⟩) (.cons_cons _ (.refl _)) ?_
  intro i0 hI0
  obtain ⟨k, v⟩ := i0
  obtain ⟨hkl, hv⟩ := hI0
  obtain ⟨f1, f2, f3⟩ := sev_fold (p := p) (l := L.take k) hs (fun a ha => hin a (List.mem_of_mem_take ha))
  rw [← hv] at f1 f2 f3
  have hvs : smallP v.ns.l := small_all (b := 100000) (by rw [f1]; rfl) (by rw [f3]; exact hal) (by omega)
  refine At.seq ?_
  refine At.region ?_
  refine At.skim 1 rfl rfl ?_
  refine At.nil ?_
  refine At.then ?_
  refine At.seq ?_
  refine At.if rfl (fun hk => ?_) (fun hk => ?_)
  · skip
    obtain ⟨a, ha⟩ := get_of_lt (l := L) (i := k) (by omega)
    have hk1 := lt_of_get ha
    have hui : l.l[k]? = some (a : Int) := by rw [hL]; exact toI_get ha
    obtain ⟨n, hn, hnr, e1, e2, e3, e4, e5⟩ := sev_step (p := p) f1 (by rw [f2]; exact hin a (List.mem_of_getElem? ha))
    obtain ⟨x, hx, hxp⟩ := p_get (u := v) rfl hn
    have hxs := hvs x (List.mem_of_getElem? hx)
    have hst : setSt p v.p a = setD v.p (a : Int) x.ps.l (nextS p x.stat 3) := by
      unfold setSt
      rw [getD_of hn, ← hxp]; rfl
    refine At.skip ?_
    refine At.then ?_
    refine At.seq ?_
    refine At.block ?_
    refine At.seq ?_
    refine At.region ?_
    refine At.quiet (q_index Try.underlying37 t3 rfl (.tail _ (.tail _ (.tail _ (.tail _ (.tail _ (.tail _ (.head _))))))) (by simp) rfl rfl (lt_of_get hui)) rfl ?_
    refine At.know (prsP x.ps) (fun _ h => psP_get h.2.1 hx) ?_
    refine At.quiet (q_load t3 rfl (Rd.sl0 (.tail _ (.tail _ (.tail _ (.tail _ (.tail _ (.tail _ (.tail _ (.head _)))))))) (map_get hui) rfl)) rfl ?_
    refine At.skim 1 rfl rfl ?_
    refine At.nil ?_
    refine At.then ?_
    refine At.draw 21 (.q 1 (.q 2 (.q 4 (.q 8 (.q 9 (.q 11 (.u 0 (.t 3 (.q 5 (.q 6 (.q 7 (.o 10 (.q 12 (.q 13 (.q 14 (.o 15 (.o 16 (.q 17 (.q 18 (.q 19 (.o 20 (.e)))))))))))))) 10 (.q 12 (.q 13 (.q 14 (.t 3 (.q 5 (.q 6 (.q 7 (.o 15 (.o 16 (.q 17 (.q 18 (.q 19 (.o 20 (.e)))))))))) 15 (.o 3 (.q 5 (.q 6 (.q 7 (.o 16 (.q 17 (.q 18 (.q 19 (.o 20 (.e))))))))))))))) 3 (.q 5 (.q 6 (.q 7 (.t 0 (.o 10 (.q 12 (.q 13 (.q 14 (.o 15 (.o 16 (.q 17 (.q 18 (.q 19 (.o 20 (.e))))))))))) 10 (.q 12 (.q 13 (.q 14 (.t 0 (.o 15 (.o 16 (.q 17 (.q 18 (.q 19 (.o 20 (.e))))))) 15 (.o 0 (.o 16 (.q 17 (.q 18 (.q 19 (.o 20 (.e))))))))))))))) 10 (.q 12 (.q 13 (.q 14 (.u 0 (.t 3 (.q 5 (.q 6 (.q 7 (.o 15 (.o 16 (.q 17 (.q 18 (.q 19 (.o 20 (.e)))))))))) 15 (.o 3 (.q 5 (.q 6 (.q 7 (.o 16 (.q 17 (.q 18 (.q 19 (.o 20 (.e))))))))))) 3 (.q 5 (.q 6 (.q 7 (.t 0 (.o 15 (.o 16 (.q 17 (.q 18 (.q 19 (.o 20 (.e))))))) 15 (.o 0 (.o 16 (.q 17 (.q 18 (.q 19 (.o 20 (.e))))))))))) 15 (.t 0 (.o 3 (.q 5 (.q 6 (.q 7 (.o 16 (.q 17 (.q 18 (.q 19 (.o 20 (.e)))))))))) 3 (.q 5 (.q 6 (.q 7 (.o 0 (.o 16 (.q 17 (.q 18 (.q 19 (.o 20 (.e)))))))))))))))))))))) (_ :: L₀) (.cons _ (.cons_cons _ (.refl _))) mixed (by kernel_rfl) rfl ?_
    refine AtO.quiet rfl (q_move rfl) rfl (Calm.inBlock (Calm.then (Calm.then (Calm.inBlock (Calm.then Post.calm))))) ?_
    refine AtO.quiet rfl (q_fieldAddr s24 rfl rfl rfl) rfl (Calm.inBlock (Calm.then (Calm.then (Calm.inBlock (Calm.then Post.calm))))) ?_
    refine AtO.quiet rfl (q_move rfl) rfl (Calm.inBlock (Calm.then (Calm.then (Calm.inBlock (Calm.then Post.calm))))) ?_
    refine AtO.quiet rfl (q_loadS t64 rfl (RdS.blk (.tail _ (.tail _ (.tail _ (.head _)))) (m := 5) rfl) rfl) rfl (Calm.inBlock (Calm.then (Calm.then (Calm.inBlock (Calm.then Post.calm))))) ?_
    refine AtO.quiet rfl (q_fieldAddr s24 rfl rfl rfl) rfl (Calm.inBlock (Calm.then (Calm.then (Calm.inBlock (Calm.then Post.calm))))) ?_
    refine AtO.quiet rfl (q_move rfl) rfl (Calm.inBlock (Calm.then (Calm.then (Calm.inBlock (Calm.then Post.calm))))) ?_
    refine AtO.three ?_ ?_ ?_
    · skip
      refine AtO.loud rfl (Quiet.loud (q_loadS t24 rfl (RdS.loc (i := 0) rfl (m := 2) rfl) rfl)) rfl (by rintro _ _ _ ⟨rfl, rfl, rfl⟩; exact ⟨fun _ h => h, (.cons _ (.cons_cons _ (.refl _)))⟩) ?_
      rintro _ _ _ ⟨rfl, rfl, rfl⟩
      refine AtO.two ?_ ?_
      · skip
        refine AtO.loud rfl (Quiet.loud (q_load t22 rfl (Rd.loc (i := 0) rfl rfl))) rfl (by rintro _ _ _ ⟨rfl, rfl, rfl⟩; exact ⟨fun _ h => h, (.cons _ (.cons_cons _ (.refl _)))⟩) ?_
        rintro _ _ _ ⟨rfl, rfl, rfl⟩
        refine AtO.quiet rfl (q_index Try.underlying22 t33 rfl (.tail _ (.head _)) (by simp) rfl rfl (lt_of_get hx)) rfl (Calm.inBlock (Calm.then (Calm.then (Calm.inBlock (Calm.then Post.calm))))) ?_
        refine AtO.quiet rfl (q_fieldAddr s33 rfl rfl rfl) rfl (Calm.inBlock (Calm.then (Calm.then (Calm.inBlock (Calm.then Post.calm))))) ?_
        refine AtO.quiet rfl (q_load t31 rfl (Rd.sl (.tail _ (.head _)) (map_get hx) rfl)) rfl (Calm.inBlock (Calm.then (Calm.then (Calm.inBlock (Calm.then Post.calm))))) ?_
        refine AtO.loud rfl (Quiet.loud (q_load t22 rfl (Rd.loc (i := 0) rfl rfl))) rfl (by rintro _ _ _ ⟨rfl, rfl, rfl⟩; exact ⟨fun _ h => h, (.cons _ (.cons_cons _ (.refl _)))⟩) ?_
        rintro _ _ _ ⟨rfl, rfl, rfl⟩
        refine AtO.quiet rfl (q_index Try.underlying22 t33 rfl (.tail _ (.head _)) (by simp) rfl rfl (lt_of_get hx)) rfl (Calm.inBlock (Calm.then (Calm.then (Calm.inBlock (Calm.then Post.calm))))) ?_
        refine AtO.quiet rfl (q_fieldAddr s33 rfl rfl rfl) rfl (Calm.inBlock (Calm.then (Calm.then (Calm.inBlock (Calm.then Post.calm))))) ?_
        refine AtO.quiet rfl (q_load t3 rfl (Rd.sl (.tail _ (.head _)) (map_get hx) rfl)) rfl (Calm.inBlock (Calm.then (Calm.then (Calm.inBlock (Calm.then Post.calm))))) ?_
        refine AtO.call rfl en114 rfl (next114 _ _ _) (fun _ _ => trivial) (List.Perm.refl _) rfl (.cons _ (.cons_cons _ (.refl _))) ?_
        rintro _ _ _ ⟨rfl, rfl, rfl⟩
        refine AtO.call rfl en34 rfl (set34f v hvs (a : Int) x.ps hxs (nextS p x.stat 3)) (fun _ h => ⟨h.2.1, h.2.2.1, h.1, trivial⟩) (List.Perm.refl _) rfl (.cons _ (.cons_cons _ (.refl _))) ?_
        rintro _ _ _ ⟨u, rfl, rfl, rfl, hpu⟩
        refine AtO.quiet rfl (q_move rfl) rfl (Calm.inBlock (Calm.then (Calm.then (Calm.inBlock (Calm.then Post.calm))))) ?_
        refine AtO.quiet rfl (q_extract rfl rfl) rfl (Calm.inBlock (Calm.then (Calm.then (Calm.inBlock (Calm.then Post.calm))))) ?_
        refine AtO.quiet rfl (q_extract rfl rfl) rfl (Calm.inBlock (Calm.then (Calm.then (Calm.inBlock (Calm.then Post.calm))))) ?_
        refine AtO.loudNA rfl (l_store t24 rfl rfl (i := 0) rfl rfl rfl rfl) (by rintro _ _ _ ⟨rfl, rfl⟩; exact ⟨fun _ h => h, (.cons _ (.cons_cons _ (.refl _)))⟩) ?_
        rintro _ _ _ ⟨rfl, rfl⟩
        refine AtO.done ?_
        refine At.nil ?_
        refine At.inNormal ?_
        refine At.then ?_
        refine At.region ?_
        refine At.quiet (q_add rfl rfl (by omega) (by omega)) rfl ?_
        refine At.skim 1 rfl rfl ?_
        refine At.nil ?_
        refine At.then ?_
        exact At.againK (k + 1, u) ⟨hk1, by rw [hpu, ← hst, hv, List.take_succ_eq_append_getElem hk1, List.foldl_append, (List.getElem?_eq_some_iff.1 ha).2]; rfl⟩ (by (try dsimp only); omega) (Tells.end 27 ⟨rfl, trivial⟩ rfl rfl) (fun _ h => ⟨h.1, ⟨h.2.1, h.2.2.2.2.2⟩⟩) (.cons_cons _ (.refl _))
      · skip
        refine AtO.loud rfl (Quiet.loud (q_load t22 rfl (Rd.loc (i := 0) rfl rfl))) rfl (by rintro _ _ _ ⟨rfl, rfl, rfl⟩; exact ⟨fun _ h => h, (.cons _ (.cons_cons _ (.refl _)))⟩) ?_
        rintro _ _ _ ⟨rfl, rfl, rfl⟩
        refine AtO.quiet rfl (q_index Try.underlying22 t33 rfl (.tail _ (.head _)) (by simp) rfl rfl (lt_of_get hx)) rfl (Calm.inBlock (Calm.then (Calm.then (Calm.inBlock (Calm.then Post.calm))))) ?_
        refine AtO.quiet rfl (q_fieldAddr s33 rfl rfl rfl) rfl (Calm.inBlock (Calm.then (Calm.then (Calm.inBlock (Calm.then Post.calm))))) ?_
        refine AtO.quiet rfl (q_load t3 rfl (Rd.sl (.tail _ (.head _)) (map_get hx) rfl)) rfl (Calm.inBlock (Calm.then (Calm.then (Calm.inBlock (Calm.then Post.calm))))) ?_
        refine AtO.two ?_ ?_
        · skip
          refine AtO.loud rfl (Quiet.loud (q_load t22 rfl (Rd.loc (i := 0) rfl rfl))) rfl (by rintro _ _ _ ⟨rfl, rfl, rfl⟩; exact ⟨fun _ h => h, (.cons _ (.cons_cons _ (.refl _)))⟩) ?_
          rintro _ _ _ ⟨rfl, rfl, rfl⟩
          refine AtO.quiet rfl (q_index Try.underlying22 t33 rfl (.tail _ (.head _)) (by simp) rfl rfl (lt_of_get hx)) rfl (Calm.inBlock (Calm.then (Calm.then (Calm.inBlock (Calm.then Post.calm))))) ?_
          refine AtO.quiet rfl (q_fieldAddr s33 rfl rfl rfl) rfl (Calm.inBlock (Calm.then (Calm.then (Calm.inBlock (Calm.then Post.calm))))) ?_
          refine AtO.quiet rfl (q_load t31 rfl (Rd.sl (.tail _ (.head _)) (map_get hx) rfl)) rfl (Calm.inBlock (Calm.then (Calm.then (Calm.inBlock (Calm.then Post.calm))))) ?_
          refine AtO.call rfl en114 rfl (next114 _ _ _) (fun _ _ => trivial) (List.Perm.refl _) rfl (.cons _ (.cons_cons _ (.refl _))) ?_
          rintro _ _ _ ⟨rfl, rfl, rfl⟩
          refine AtO.call rfl en34 rfl (set34f v hvs (a : Int) x.ps hxs (nextS p x.stat 3)) (fun _ h => ⟨h.2.1, h.2.2.1, h.1, trivial⟩) (List.Perm.refl _) rfl (.cons _ (.cons_cons _ (.refl _))) ?_
          rintro _ _ _ ⟨u, rfl, rfl, rfl, hpu⟩
          refine AtO.quiet rfl (q_move rfl) rfl (Calm.inBlock (Calm.then (Calm.then (Calm.inBlock (Calm.then Post.calm))))) ?_
          refine AtO.quiet rfl (q_extract rfl rfl) rfl (Calm.inBlock (Calm.then (Calm.then (Calm.inBlock (Calm.then Post.calm))))) ?_
          refine AtO.quiet rfl (q_extract rfl rfl) rfl (Calm.inBlock (Calm.then (Calm.then (Calm.inBlock (Calm.then Post.calm))))) ?_
          refine AtO.loudNA rfl (l_store t24 rfl rfl (i := 0) rfl rfl rfl rfl) (by rintro _ _ _ ⟨rfl, rfl⟩; exact ⟨fun _ h => h, (.cons _ (.cons_cons _ (.refl _)))⟩) ?_
          rintro _ _ _ ⟨rfl, rfl⟩
          refine AtO.done ?_
          refine At.nil ?_
          refine At.inNormal ?_
          refine At.then ?_
          refine At.region ?_
          refine At.quiet (q_add rfl rfl (by omega) (by omega)) rfl ?_
          refine At.skim 1 rfl rfl ?_
          refine At.nil ?_
          refine At.then ?_
          exact At.againK (k + 1, u) ⟨hk1, by rw [hpu, ← hst, hv, List.take_succ_eq_append_getElem hk1, List.foldl_append, (List.getElem?_eq_some_iff.1 ha).2]; rfl⟩ (by (try dsimp only); omega) (Tells.end 27 ⟨rfl, trivial⟩ rfl rfl) (fun _ h => ⟨h.1, ⟨h.2.1, h.2.2.2.2.2⟩⟩) (.cons_cons _ (.refl _))
        · skip
          refine AtO.call rfl en114 rfl (next114 _ _ _) (fun _ _ => trivial) (List.Perm.refl _) rfl (.cons _ (.cons_cons _ (.refl _))) ?_
          rintro _ _ _ ⟨rfl, rfl, rfl⟩
          refine AtO.loud rfl (Quiet.loud (q_load t22 rfl (Rd.loc (i := 0) rfl rfl))) rfl (by rintro _ _ _ ⟨rfl, rfl, rfl⟩; exact ⟨fun _ h => h, (.cons _ (.cons_cons _ (.refl _)))⟩) ?_
          rintro _ _ _ ⟨rfl, rfl, rfl⟩
          refine AtO.quiet rfl (q_index Try.underlying22 t33 rfl (.tail _ (.head _)) (by simp) rfl rfl (lt_of_get hx)) rfl (Calm.inBlock (Calm.then (Calm.then (Calm.inBlock (Calm.then Post.calm))))) ?_
          refine AtO.quiet rfl (q_fieldAddr s33 rfl rfl rfl) rfl (Calm.inBlock (Calm.then (Calm.then (Calm.inBlock (Calm.then Post.calm))))) ?_
          refine AtO.quiet rfl (q_load t31 rfl (Rd.sl (.tail _ (.head _)) (map_get hx) rfl)) rfl (Calm.inBlock (Calm.then (Calm.then (Calm.inBlock (Calm.then Post.calm))))) ?_
          refine AtO.call rfl en34 rfl (set34f v hvs (a : Int) x.ps hxs (nextS p x.stat 3)) (fun _ h => ⟨h.2.1, h.2.2.1, h.1, trivial⟩) (List.Perm.refl _) rfl (.cons _ (.cons_cons _ (.refl _))) ?_
          rintro _ _ _ ⟨u, rfl, rfl, rfl, hpu⟩
          refine AtO.quiet rfl (q_move rfl) rfl (Calm.inBlock (Calm.then (Calm.then (Calm.inBlock (Calm.then Post.calm))))) ?_
          refine AtO.quiet rfl (q_extract rfl rfl) rfl (Calm.inBlock (Calm.then (Calm.then (Calm.inBlock (Calm.then Post.calm))))) ?_
          refine AtO.quiet rfl (q_extract rfl rfl) rfl (Calm.inBlock (Calm.then (Calm.then (Calm.inBlock (Calm.then Post.calm))))) ?_
          refine AtO.loudNA rfl (l_store t24 rfl rfl (i := 0) rfl rfl rfl rfl) (by rintro _ _ _ ⟨rfl, rfl⟩; exact ⟨fun _ h => h, (.cons _ (.cons_cons _ (.refl _)))⟩) ?_
          rintro _ _ _ ⟨rfl, rfl⟩
          refine AtO.done ?_
          refine At.nil ?_
          refine At.inNormal ?_
          refine At.then ?_
          refine At.region ?_
          refine At.quiet (q_add rfl rfl (by omega) (by omega)) rfl ?_
          refine At.skim 1 rfl rfl ?_
          refine At.nil ?_
          refine At.then ?_
          exact At.againK (k + 1, u) ⟨hk1, by rw [hpu, ← hst, hv, List.take_succ_eq_append_getElem hk1, List.foldl_append, (List.getElem?_eq_some_iff.1 ha).2]; rfl⟩ (by (try dsimp only); omega) (Tells.end 27 ⟨rfl, trivial⟩ rfl rfl) (fun _ h => ⟨h.1, ⟨h.2.1, h.2.2.2.2.2⟩⟩) (.cons_cons _ (.refl _))
    · skip
      refine AtO.loud rfl (Quiet.loud (q_load t22 rfl (Rd.loc (i := 0) rfl rfl))) rfl (by rintro _ _ _ ⟨rfl, rfl, rfl⟩; exact ⟨fun _ h => h, (.cons _ (.cons_cons _ (.refl _)))⟩) ?_
      rintro _ _ _ ⟨rfl, rfl, rfl⟩
      refine AtO.quiet rfl (q_index Try.underlying22 t33 rfl (.tail _ (.head _)) (by simp) rfl rfl (lt_of_get hx)) rfl (Calm.inBlock (Calm.then (Calm.then (Calm.inBlock (Calm.then Post.calm))))) ?_
      refine AtO.quiet rfl (q_fieldAddr s33 rfl rfl rfl) rfl (Calm.inBlock (Calm.then (Calm.then (Calm.inBlock (Calm.then Post.calm))))) ?_
      refine AtO.quiet rfl (q_load t31 rfl (Rd.sl (.tail _ (.head _)) (map_get hx) rfl)) rfl (Calm.inBlock (Calm.then (Calm.then (Calm.inBlock (Calm.then Post.calm))))) ?_
      refine AtO.two ?_ ?_
      · skip
        refine AtO.loud rfl (Quiet.loud (q_loadS t24 rfl (RdS.loc (i := 0) rfl (m := 2) rfl) rfl)) rfl (by rintro _ _ _ ⟨rfl, rfl, rfl⟩; exact ⟨fun _ h => h, (.cons _ (.cons_cons _ (.refl _)))⟩) ?_
        rintro _ _ _ ⟨rfl, rfl, rfl⟩
        refine AtO.loud rfl (Quiet.loud (q_load t22 rfl (Rd.loc (i := 0) rfl rfl))) rfl (by rintro _ _ _ ⟨rfl, rfl, rfl⟩; exact ⟨fun _ h => h, (.cons _ (.cons_cons _ (.refl _)))⟩) ?_
        rintro _ _ _ ⟨rfl, rfl, rfl⟩
        refine AtO.quiet rfl (q_index Try.underlying22 t33 rfl (.tail _ (.head _)) (by simp) rfl rfl (lt_of_get hx)) rfl (Calm.inBlock (Calm.then (Calm.then (Calm.inBlock (Calm.then Post.calm))))) ?_
        refine AtO.quiet rfl (q_fieldAddr s33 rfl rfl rfl) rfl (Calm.inBlock (Calm.then (Calm.then (Calm.inBlock (Calm.then Post.calm))))) ?_
        refine AtO.quiet rfl (q_load t3 rfl (Rd.sl (.tail _ (.head _)) (map_get hx) rfl)) rfl (Calm.inBlock (Calm.then (Calm.then (Calm.inBlock (Calm.then Post.calm))))) ?_
        refine AtO.call rfl en114 rfl (next114 _ _ _) (fun _ _ => trivial) (List.Perm.refl _) rfl (.cons _ (.cons_cons _ (.refl _))) ?_
        rintro _ _ _ ⟨rfl, rfl, rfl⟩
        refine AtO.call rfl en34 rfl (set34f v hvs (a : Int) x.ps hxs (nextS p x.stat 3)) (fun _ h => ⟨h.2.1, h.2.2.1, h.1, trivial⟩) (List.Perm.refl _) rfl (.cons _ (.cons_cons _ (.refl _))) ?_
        rintro _ _ _ ⟨u, rfl, rfl, rfl, hpu⟩
        refine AtO.quiet rfl (q_move rfl) rfl (Calm.inBlock (Calm.then (Calm.then (Calm.inBlock (Calm.then Post.calm))))) ?_
        refine AtO.quiet rfl (q_extract rfl rfl) rfl (Calm.inBlock (Calm.then (Calm.then (Calm.inBlock (Calm.then Post.calm))))) ?_
        refine AtO.quiet rfl (q_extract rfl rfl) rfl (Calm.inBlock (Calm.then (Calm.then (Calm.inBlock (Calm.then Post.calm))))) ?_
        refine AtO.loudNA rfl (l_store t24 rfl rfl (i := 0) rfl rfl rfl rfl) (by rintro _ _ _ ⟨rfl, rfl⟩; exact ⟨fun _ h => h, (.cons _ (.cons_cons _ (.refl _)))⟩) ?_
        rintro _ _ _ ⟨rfl, rfl⟩
        refine AtO.done ?_
        refine At.nil ?_
        refine At.inNormal ?_
        refine At.then ?_
        refine At.region ?_
        refine At.quiet (q_add rfl rfl (by omega) (by omega)) rfl ?_
        refine At.skim 1 rfl rfl ?_
        refine At.nil ?_
        refine At.then ?_
        exact At.againK (k + 1, u) ⟨hk1, by rw [hpu, ← hst, hv, List.take_succ_eq_append_getElem hk1, List.foldl_append, (List.getElem?_eq_some_iff.1 ha).2]; rfl⟩ (by (try dsimp only); omega) (Tells.end 27 ⟨rfl, trivial⟩ rfl rfl) (fun _ h => ⟨h.1, ⟨h.2.1, h.2.2.2.2.2⟩⟩) (.cons_cons _ (.refl _))
      · skip
        refine AtO.loud rfl (Quiet.loud (q_load t22 rfl (Rd.loc (i := 0) rfl rfl))) rfl (by rintro _ _ _ ⟨rfl, rfl, rfl⟩; exact ⟨fun _ h => h, (.cons _ (.cons_cons _ (.refl _)))⟩) ?_
        rintro _ _ _ ⟨rfl, rfl, rfl⟩
        refine AtO.quiet rfl (q_index Try.underlying22 t33 rfl (.tail _ (.head _)) (by simp) rfl rfl (lt_of_get hx)) rfl (Calm.inBlock (Calm.then (Calm.then (Calm.inBlock (Calm.then Post.calm))))) ?_
        refine AtO.quiet rfl (q_fieldAddr s33 rfl rfl rfl) rfl (Calm.inBlock (Calm.then (Calm.then (Calm.inBlock (Calm.then Post.calm))))) ?_
        refine AtO.quiet rfl (q_load t3 rfl (Rd.sl (.tail _ (.head _)) (map_get hx) rfl)) rfl (Calm.inBlock (Calm.then (Calm.then (Calm.inBlock (Calm.then Post.calm))))) ?_
        refine AtO.two ?_ ?_
        · skip
          refine AtO.loud rfl (Quiet.loud (q_loadS t24 rfl (RdS.loc (i := 0) rfl (m := 2) rfl) rfl)) rfl (by rintro _ _ _ ⟨rfl, rfl, rfl⟩; exact ⟨fun _ h => h, (.cons _ (.cons_cons _ (.refl _)))⟩) ?_
          rintro _ _ _ ⟨rfl, rfl, rfl⟩
          refine AtO.call rfl en114 rfl (next114 _ _ _) (fun _ _ => trivial) (List.Perm.refl _) rfl (.cons _ (.cons_cons _ (.refl _))) ?_
          rintro _ _ _ ⟨rfl, rfl, rfl⟩
          refine AtO.call rfl en34 rfl (set34f v hvs (a : Int) x.ps hxs (nextS p x.stat 3)) (fun _ h => ⟨h.2.1, h.2.2.1, h.1, trivial⟩) (List.Perm.refl _) rfl (.cons _ (.cons_cons _ (.refl _))) ?_
          rintro _ _ _ ⟨u, rfl, rfl, rfl, hpu⟩
          refine AtO.quiet rfl (q_move rfl) rfl (Calm.inBlock (Calm.then (Calm.then (Calm.inBlock (Calm.then Post.calm))))) ?_
          refine AtO.quiet rfl (q_extract rfl rfl) rfl (Calm.inBlock (Calm.then (Calm.then (Calm.inBlock (Calm.then Post.calm))))) ?_
          refine AtO.quiet rfl (q_extract rfl rfl) rfl (Calm.inBlock (Calm.then (Calm.then (Calm.inBlock (Calm.then Post.calm))))) ?_
          refine AtO.loudNA rfl (l_store t24 rfl rfl (i := 0) rfl rfl rfl rfl) (by rintro _ _ _ ⟨rfl, rfl⟩; exact ⟨fun _ h => h, (.cons _ (.cons_cons _ (.refl _)))⟩) ?_
          rintro _ _ _ ⟨rfl, rfl⟩
          refine AtO.done ?_
          refine At.nil ?_
          refine At.inNormal ?_
          refine At.then ?_
          refine At.region ?_
          refine At.quiet (q_add rfl rfl (by omega) (by omega)) rfl ?_
          refine At.skim 1 rfl rfl ?_
          refine At.nil ?_
          refine At.then ?_
          exact At.againK (k + 1, u) ⟨hk1, by rw [hpu, ← hst, hv, List.take_succ_eq_append_getElem hk1, List.foldl_append, (List.getElem?_eq_some_iff.1 ha).2]; rfl⟩ (by (try dsimp only); omega) (Tells.end 27 ⟨rfl, trivial⟩ rfl rfl) (fun _ h => ⟨h.1, ⟨h.2.1, h.2.2.2.2.2⟩⟩) (.cons_cons _ (.refl _))
        · skip
          refine AtO.call rfl en114 rfl (next114 _ _ _) (fun _ _ => trivial) (List.Perm.refl _) rfl (.cons _ (.cons_cons _ (.refl _))) ?_
          rintro _ _ _ ⟨rfl, rfl, rfl⟩
          refine AtO.loud rfl (Quiet.loud (q_loadS t24 rfl (RdS.loc (i := 0) rfl (m := 2) rfl) rfl)) rfl (by rintro _ _ _ ⟨rfl, rfl, rfl⟩; exact ⟨fun _ h => h, (.cons _ (.cons_cons _ (.refl _)))⟩) ?_
          rintro _ _ _ ⟨rfl, rfl, rfl⟩
          refine AtO.call rfl en34 rfl (set34f v hvs (a : Int) x.ps hxs (nextS p x.stat 3)) (fun _ h => ⟨h.2.1, h.2.2.1, h.1, trivial⟩) (List.Perm.refl _) rfl (.cons _ (.cons_cons _ (.refl _))) ?_
          rintro _ _ _ ⟨u, rfl, rfl, rfl, hpu⟩
          refine AtO.quiet rfl (q_move rfl) rfl (Calm.inBlock (Calm.then (Calm.then (Calm.inBlock (Calm.then Post.calm))))) ?_
          refine AtO.quiet rfl (q_extract rfl rfl) rfl (Calm.inBlock (Calm.then (Calm.then (Calm.inBlock (Calm.then Post.calm))))) ?_
          refine AtO.quiet rfl (q_extract rfl rfl) rfl (Calm.inBlock (Calm.then (Calm.then (Calm.inBlock (Calm.then Post.calm))))) ?_
          refine AtO.loudNA rfl (l_store t24 rfl rfl (i := 0) rfl rfl rfl rfl) (by rintro _ _ _ ⟨rfl, rfl⟩; exact ⟨fun _ h => h, (.cons _ (.cons_cons _ (.refl _)))⟩) ?_
          rintro _ _ _ ⟨rfl, rfl⟩
          refine AtO.done ?_
          refine At.nil ?_
          refine At.inNormal ?_
          refine At.then ?_
          refine At.region ?_
          refine At.quiet (q_add rfl rfl (by omega) (by omega)) rfl ?_
          refine At.skim 1 rfl rfl ?_
          refine At.nil ?_
          refine At.then ?_
          exact At.againK (k + 1, u) ⟨hk1, by rw [hpu, ← hst, hv, List.take_succ_eq_append_getElem hk1, List.foldl_append, (List.getElem?_eq_some_iff.1 ha).2]; rfl⟩ (by (try dsimp only); omega) (Tells.end 27 ⟨rfl, trivial⟩ rfl rfl) (fun _ h => ⟨h.1, ⟨h.2.1, h.2.2.2.2.2⟩⟩) (.cons_cons _ (.refl _))
    · skip
      refine AtO.loud rfl (Quiet.loud (q_load t22 rfl (Rd.loc (i := 0) rfl rfl))) rfl (by rintro _ _ _ ⟨rfl, rfl, rfl⟩; exact ⟨fun _ h => h, (.cons _ (.cons_cons _ (.refl _)))⟩) ?_
      rintro _ _ _ ⟨rfl, rfl, rfl⟩
      refine AtO.quiet rfl (q_index Try.underlying22 t33 rfl (.tail _ (.head _)) (by simp) rfl rfl (lt_of_get hx)) rfl (Calm.inBlock (Calm.then (Calm.then (Calm.inBlock (Calm.then Post.calm))))) ?_
      refine AtO.quiet rfl (q_fieldAddr s33 rfl rfl rfl) rfl (Calm.inBlock (Calm.then (Calm.then (Calm.inBlock (Calm.then Post.calm))))) ?_
      refine AtO.quiet rfl (q_load t3 rfl (Rd.sl (.tail _ (.head _)) (map_get hx) rfl)) rfl (Calm.inBlock (Calm.then (Calm.then (Calm.inBlock (Calm.then Post.calm))))) ?_
      refine AtO.three ?_ ?_ ?_
      · skip
        refine AtO.loud rfl (Quiet.loud (q_loadS t24 rfl (RdS.loc (i := 0) rfl (m := 2) rfl) rfl)) rfl (by rintro _ _ _ ⟨rfl, rfl, rfl⟩; exact ⟨fun _ h => h, (.cons _ (.cons_cons _ (.refl _)))⟩) ?_
        rintro _ _ _ ⟨rfl, rfl, rfl⟩
        refine AtO.two ?_ ?_
        · skip
          refine AtO.loud rfl (Quiet.loud (q_load t22 rfl (Rd.loc (i := 0) rfl rfl))) rfl (by rintro _ _ _ ⟨rfl, rfl, rfl⟩; exact ⟨fun _ h => h, (.cons _ (.cons_cons _ (.refl _)))⟩) ?_
          rintro _ _ _ ⟨rfl, rfl, rfl⟩
          refine AtO.quiet rfl (q_index Try.underlying22 t33 rfl (.tail _ (.head _)) (by simp) rfl rfl (lt_of_get hx)) rfl (Calm.inBlock (Calm.then (Calm.then (Calm.inBlock (Calm.then Post.calm))))) ?_
          refine AtO.quiet rfl (q_fieldAddr s33 rfl rfl rfl) rfl (Calm.inBlock (Calm.then (Calm.then (Calm.inBlock (Calm.then Post.calm))))) ?_
          refine AtO.quiet rfl (q_load t31 rfl (Rd.sl (.tail _ (.head _)) (map_get hx) rfl)) rfl (Calm.inBlock (Calm.then (Calm.then (Calm.inBlock (Calm.then Post.calm))))) ?_
          refine AtO.call rfl en114 rfl (next114 _ _ _) (fun _ _ => trivial) (List.Perm.refl _) rfl (.cons _ (.cons_cons _ (.refl _))) ?_
          rintro _ _ _ ⟨rfl, rfl, rfl⟩
          refine AtO.call rfl en34 rfl (set34f v hvs (a : Int) x.ps hxs (nextS p x.stat 3)) (fun _ h => ⟨h.2.1, h.2.2.1, h.1, trivial⟩) (List.Perm.refl _) rfl (.cons _ (.cons_cons _ (.refl _))) ?_
          rintro _ _ _ ⟨u, rfl, rfl, rfl, hpu⟩
          refine AtO.quiet rfl (q_move rfl) rfl (Calm.inBlock (Calm.then (Calm.then (Calm.inBlock (Calm.then Post.calm))))) ?_
          refine AtO.quiet rfl (q_extract rfl rfl) rfl (Calm.inBlock (Calm.then (Calm.then (Calm.inBlock (Calm.then Post.calm))))) ?_
          refine AtO.quiet rfl (q_extract rfl rfl) rfl (Calm.inBlock (Calm.then (Calm.then (Calm.inBlock (Calm.then Post.calm))))) ?_
          refine AtO.loudNA rfl (l_store t24 rfl rfl (i := 0) rfl rfl rfl rfl) (by rintro _ _ _ ⟨rfl, rfl⟩; exact ⟨fun _ h => h, (.cons _ (.cons_cons _ (.refl _)))⟩) ?_
          rintro _ _ _ ⟨rfl, rfl⟩
          refine AtO.done ?_
          refine At.nil ?_
          refine At.inNormal ?_
          refine At.then ?_
          refine At.region ?_
          refine At.quiet (q_add rfl rfl (by omega) (by omega)) rfl ?_
          refine At.skim 1 rfl rfl ?_
          refine At.nil ?_
          refine At.then ?_
          exact At.againK (k + 1, u) ⟨hk1, by rw [hpu, ← hst, hv, List.take_succ_eq_append_getElem hk1, List.foldl_append, (List.getElem?_eq_some_iff.1 ha).2]; rfl⟩ (by (try dsimp only); omega) (Tells.end 27 ⟨rfl, trivial⟩ rfl rfl) (fun _ h => ⟨h.1, ⟨h.2.1, h.2.2.2.2.2⟩⟩) (.cons_cons _ (.refl _))
        · skip
          refine AtO.call rfl en114 rfl (next114 _ _ _) (fun _ _ => trivial) (List.Perm.refl _) rfl (.cons _ (.cons_cons _ (.refl _))) ?_
          rintro _ _ _ ⟨rfl, rfl, rfl⟩
          refine AtO.loud rfl (Quiet.loud (q_load t22 rfl (Rd.loc (i := 0) rfl rfl))) rfl (by rintro _ _ _ ⟨rfl, rfl, rfl⟩; exact ⟨fun _ h => h, (.cons _ (.cons_cons _ (.refl _)))⟩) ?_
          rintro _ _ _ ⟨rfl, rfl, rfl⟩
          refine AtO.quiet rfl (q_index Try.underlying22 t33 rfl (.tail _ (.head _)) (by simp) rfl rfl (lt_of_get hx)) rfl (Calm.inBlock (Calm.then (Calm.then (Calm.inBlock (Calm.then Post.calm))))) ?_
          refine AtO.quiet rfl (q_fieldAddr s33 rfl rfl rfl) rfl (Calm.inBlock (Calm.then (Calm.then (Calm.inBlock (Calm.then Post.calm))))) ?_
          refine AtO.quiet rfl (q_load t31 rfl (Rd.sl (.tail _ (.head _)) (map_get hx) rfl)) rfl (Calm.inBlock (Calm.then (Calm.then (Calm.inBlock (Calm.then Post.calm))))) ?_
          refine AtO.call rfl en34 rfl (set34f v hvs (a : Int) x.ps hxs (nextS p x.stat 3)) (fun _ h => ⟨h.2.1, h.2.2.1, h.1, trivial⟩) (List.Perm.refl _) rfl (.cons _ (.cons_cons _ (.refl _))) ?_
          rintro _ _ _ ⟨u, rfl, rfl, rfl, hpu⟩
          refine AtO.quiet rfl (q_move rfl) rfl (Calm.inBlock (Calm.then (Calm.then (Calm.inBlock (Calm.then Post.calm))))) ?_
          refine AtO.quiet rfl (q_extract rfl rfl) rfl (Calm.inBlock (Calm.then (Calm.then (Calm.inBlock (Calm.then Post.calm))))) ?_
          refine AtO.quiet rfl (q_extract rfl rfl) rfl (Calm.inBlock (Calm.then (Calm.then (Calm.inBlock (Calm.then Post.calm))))) ?_
          refine AtO.loudNA rfl (l_store t24 rfl rfl (i := 0) rfl rfl rfl rfl) (by rintro _ _ _ ⟨rfl, rfl⟩; exact ⟨fun _ h => h, (.cons _ (.cons_cons _ (.refl _)))⟩) ?_
          rintro _ _ _ ⟨rfl, rfl⟩
          refine AtO.done ?_
          refine At.nil ?_
          refine At.inNormal ?_
          refine At.then ?_
          refine At.region ?_
          refine At.quiet (q_add rfl rfl (by omega) (by omega)) rfl ?_
          refine At.skim 1 rfl rfl ?_
          refine At.nil ?_
          refine At.then ?_
          exact At.againK (k + 1, u) ⟨hk1, by rw [hpu, ← hst, hv, List.take_succ_eq_append_getElem hk1, List.foldl_append, (List.getElem?_eq_some_iff.1 ha).2]; rfl⟩ (by (try dsimp only); omega) (Tells.end 27 ⟨rfl, trivial⟩ rfl rfl) (fun _ h => ⟨h.1, ⟨h.2.1, h.2.2.2.2.2⟩⟩) (.cons_cons _ (.refl _))
      · skip
        refine AtO.loud rfl (Quiet.loud (q_load t22 rfl (Rd.loc (i := 0) rfl rfl))) rfl (by rintro _ _ _ ⟨rfl, rfl, rfl⟩; exact ⟨fun _ h => h, (.cons _ (.cons_cons _ (.refl _)))⟩) ?_
        rintro _ _ _ ⟨rfl, rfl, rfl⟩
        refine AtO.quiet rfl (q_index Try.underlying22 t33 rfl (.tail _ (.head _)) (by simp) rfl rfl (lt_of_get hx)) rfl (Calm.inBlock (Calm.then (Calm.then (Calm.inBlock (Calm.then Post.calm))))) ?_
        refine AtO.quiet rfl (q_fieldAddr s33 rfl rfl rfl) rfl (Calm.inBlock (Calm.then (Calm.then (Calm.inBlock (Calm.then Post.calm))))) ?_
        refine AtO.quiet rfl (q_load t31 rfl (Rd.sl (.tail _ (.head _)) (map_get hx) rfl)) rfl (Calm.inBlock (Calm.then (Calm.then (Calm.inBlock (Calm.then Post.calm))))) ?_
        refine AtO.two ?_ ?_
        · skip
          refine AtO.loud rfl (Quiet.loud (q_loadS t24 rfl (RdS.loc (i := 0) rfl (m := 2) rfl) rfl)) rfl (by rintro _ _ _ ⟨rfl, rfl, rfl⟩; exact ⟨fun _ h => h, (.cons _ (.cons_cons _ (.refl _)))⟩) ?_
          rintro _ _ _ ⟨rfl, rfl, rfl⟩
          refine AtO.call rfl en114 rfl (next114 _ _ _) (fun _ _ => trivial) (List.Perm.refl _) rfl (.cons _ (.cons_cons _ (.refl _))) ?_
          rintro _ _ _ ⟨rfl, rfl, rfl⟩
          refine AtO.call rfl en34 rfl (set34f v hvs (a : Int) x.ps hxs (nextS p x.stat 3)) (fun _ h => ⟨h.2.1, h.2.2.1, h.1, trivial⟩) (List.Perm.refl _) rfl (.cons _ (.cons_cons _ (.refl _))) ?_
          rintro _ _ _ ⟨u, rfl, rfl, rfl, hpu⟩
          refine AtO.quiet rfl (q_move rfl) rfl (Calm.inBlock (Calm.then (Calm.then (Calm.inBlock (Calm.then Post.calm))))) ?_
          refine AtO.quiet rfl (q_extract rfl rfl) rfl (Calm.inBlock (Calm.then (Calm.then (Calm.inBlock (Calm.then Post.calm))))) ?_
          refine AtO.quiet rfl (q_extract rfl rfl) rfl (Calm.inBlock (Calm.then (Calm.then (Calm.inBlock (Calm.then Post.calm))))) ?_
          refine AtO.loudNA rfl (l_store t24 rfl rfl (i := 0) rfl rfl rfl rfl) (by rintro _ _ _ ⟨rfl, rfl⟩; exact ⟨fun _ h => h, (.cons _ (.cons_cons _ (.refl _)))⟩) ?_
          rintro _ _ _ ⟨rfl, rfl⟩
          refine AtO.done ?_
          refine At.nil ?_
          refine At.inNormal ?_
          refine At.then ?_
          refine At.region ?_
          refine At.quiet (q_add rfl rfl (by omega) (by omega)) rfl ?_
          refine At.skim 1 rfl rfl ?_
          refine At.nil ?_
          refine At.then ?_
          exact At.againK (k + 1, u) ⟨hk1, by rw [hpu, ← hst, hv, List.take_succ_eq_append_getElem hk1, List.foldl_append, (List.getElem?_eq_some_iff.1 ha).2]; rfl⟩ (by (try dsimp only); omega) (Tells.end 27 ⟨rfl, trivial⟩ rfl rfl) (fun _ h => ⟨h.1, ⟨h.2.1, h.2.2.2.2.2⟩⟩) (.cons_cons _ (.refl _))
        · skip
          refine AtO.call rfl en114 rfl (next114 _ _ _) (fun _ _ => trivial) (List.Perm.refl _) rfl (.cons _ (.cons_cons _ (.refl _))) ?_
          rintro _ _ _ ⟨rfl, rfl, rfl⟩
          refine AtO.loud rfl (Quiet.loud (q_loadS t24 rfl (RdS.loc (i := 0) rfl (m := 2) rfl) rfl)) rfl (by rintro _ _ _ ⟨rfl, rfl, rfl⟩; exact ⟨fun _ h => h, (.cons _ (.cons_cons _ (.refl _)))⟩) ?_
          rintro _ _ _ ⟨rfl, rfl, rfl⟩
          refine AtO.call rfl en34 rfl (set34f v hvs (a : Int) x.ps hxs (nextS p x.stat 3)) (fun _ h => ⟨h.2.1, h.2.2.1, h.1, trivial⟩) (List.Perm.refl _) rfl (.cons _ (.cons_cons _ (.refl _))) ?_
          rintro _ _ _ ⟨u, rfl, rfl, rfl, hpu⟩
          refine AtO.quiet rfl (q_move rfl) rfl (Calm.inBlock (Calm.then (Calm.then (Calm.inBlock (Calm.then Post.calm))))) ?_
          refine AtO.quiet rfl (q_extract rfl rfl) rfl (Calm.inBlock (Calm.then (Calm.then (Calm.inBlock (Calm.then Post.calm))))) ?_
          refine AtO.quiet rfl (q_extract rfl rfl) rfl (Calm.inBlock (Calm.then (Calm.then (Calm.inBlock (Calm.then Post.calm))))) ?_
          refine AtO.loudNA rfl (l_store t24 rfl rfl (i := 0) rfl rfl rfl rfl) (by rintro _ _ _ ⟨rfl, rfl⟩; exact ⟨fun _ h => h, (.cons _ (.cons_cons _ (.refl _)))⟩) ?_
          rintro _ _ _ ⟨rfl, rfl⟩
          refine AtO.done ?_
          refine At.nil ?_
          refine At.inNormal ?_
          refine At.then ?_
          refine At.region ?_
          refine At.quiet (q_add rfl rfl (by omega) (by omega)) rfl ?_
          refine At.skim 1 rfl rfl ?_
          refine At.nil ?_
          refine At.then ?_
          exact At.againK (k + 1, u) ⟨hk1, by rw [hpu, ← hst, hv, List.take_succ_eq_append_getElem hk1, List.foldl_append, (List.getElem?_eq_some_iff.1 ha).2]; rfl⟩ (by (try dsimp only); omega) (Tells.end 27 ⟨rfl, trivial⟩ rfl rfl) (fun _ h => ⟨h.1, ⟨h.2.1, h.2.2.2.2.2⟩⟩) (.cons_cons _ (.refl _))
      · skip
        refine AtO.call rfl en114 rfl (next114 _ _ _) (fun _ _ => trivial) (List.Perm.refl _) rfl (.cons _ (.cons_cons _ (.refl _))) ?_
        rintro _ _ _ ⟨rfl, rfl, rfl⟩
        refine AtO.two ?_ ?_
        · skip
          refine AtO.loud rfl (Quiet.loud (q_loadS t24 rfl (RdS.loc (i := 0) rfl (m := 2) rfl) rfl)) rfl (by rintro _ _ _ ⟨rfl, rfl, rfl⟩; exact ⟨fun _ h => h, (.cons _ (.cons_cons _ (.refl _)))⟩) ?_
          rintro _ _ _ ⟨rfl, rfl, rfl⟩
          refine AtO.loud rfl (Quiet.loud (q_load t22 rfl (Rd.loc (i := 0) rfl rfl))) rfl (by rintro _ _ _ ⟨rfl, rfl, rfl⟩; exact ⟨fun _ h => h, (.cons _ (.cons_cons _ (.refl _)))⟩) ?_
          rintro _ _ _ ⟨rfl, rfl, rfl⟩
          refine AtO.quiet rfl (q_index Try.underlying22 t33 rfl (.tail _ (.head _)) (by simp) rfl rfl (lt_of_get hx)) rfl (Calm.inBlock (Calm.then (Calm.then (Calm.inBlock (Calm.then Post.calm))))) ?_
          refine AtO.quiet rfl (q_fieldAddr s33 rfl rfl rfl) rfl (Calm.inBlock (Calm.then (Calm.then (Calm.inBlock (Calm.then Post.calm))))) ?_
          refine AtO.quiet rfl (q_load t31 rfl (Rd.sl (.tail _ (.head _)) (map_get hx) rfl)) rfl (Calm.inBlock (Calm.then (Calm.then (Calm.inBlock (Calm.then Post.calm))))) ?_
          refine AtO.call rfl en34 rfl (set34f v hvs (a : Int) x.ps hxs (nextS p x.stat 3)) (fun _ h => ⟨h.2.1, h.2.2.1, h.1, trivial⟩) (List.Perm.refl _) rfl (.cons _ (.cons_cons _ (.refl _))) ?_
          rintro _ _ _ ⟨u, rfl, rfl, rfl, hpu⟩
          refine AtO.quiet rfl (q_move rfl) rfl (Calm.inBlock (Calm.then (Calm.then (Calm.inBlock (Calm.then Post.calm))))) ?_
          refine AtO.quiet rfl (q_extract rfl rfl) rfl (Calm.inBlock (Calm.then (Calm.then (Calm.inBlock (Calm.then Post.calm))))) ?_
          refine AtO.quiet rfl (q_extract rfl rfl) rfl (Calm.inBlock (Calm.then (Calm.then (Calm.inBlock (Calm.then Post.calm))))) ?_
          refine AtO.loudNA rfl (l_store t24 rfl rfl (i := 0) rfl rfl rfl rfl) (by rintro _ _ _ ⟨rfl, rfl⟩; exact ⟨fun _ h => h, (.cons _ (.cons_cons _ (.refl _)))⟩) ?_
          rintro _ _ _ ⟨rfl, rfl⟩
          refine AtO.done ?_
          refine At.nil ?_
          refine At.inNormal ?_
          refine At.then ?_
          refine At.region ?_
          refine At.quiet (q_add rfl rfl (by omega) (by omega)) rfl ?_
          refine At.skim 1 rfl rfl ?_
          refine At.nil ?_
          refine At.then ?_
          exact At.againK (k + 1, u) ⟨hk1, by rw [hpu, ← hst, hv, List.take_succ_eq_append_getElem hk1, List.foldl_append, (List.getElem?_eq_some_iff.1 ha).2]; rfl⟩ (by (try dsimp only); omega) (Tells.end 27 ⟨rfl, trivial⟩ rfl rfl) (fun _ h => ⟨h.1, ⟨h.2.1, h.2.2.2.2.2⟩⟩) (.cons_cons _ (.refl _))
        · skip
          refine AtO.loud rfl (Quiet.loud (q_load t22 rfl (Rd.loc (i := 0) rfl rfl))) rfl (by rintro _ _ _ ⟨rfl, rfl, rfl⟩; exact ⟨fun _ h => h, (.cons _ (.cons_cons _ (.refl _)))⟩) ?_
          rintro _ _ _ ⟨rfl, rfl, rfl⟩
          refine AtO.quiet rfl (q_index Try.underlying22 t33 rfl (.tail _ (.head _)) (by simp) rfl rfl (lt_of_get hx)) rfl (Calm.inBlock (Calm.then (Calm.then (Calm.inBlock (Calm.then Post.calm))))) ?_
          refine AtO.quiet rfl (q_fieldAddr s33 rfl rfl rfl) rfl (Calm.inBlock (Calm.then (Calm.then (Calm.inBlock (Calm.then Post.calm))))) ?_
          refine AtO.quiet rfl (q_load t31 rfl (Rd.sl (.tail _ (.head _)) (map_get hx) rfl)) rfl (Calm.inBlock (Calm.then (Calm.then (Calm.inBlock (Calm.then Post.calm))))) ?_
          refine AtO.loud rfl (Quiet.loud (q_loadS t24 rfl (RdS.loc (i := 0) rfl (m := 2) rfl) rfl)) rfl (by rintro _ _ _ ⟨rfl, rfl, rfl⟩; exact ⟨fun _ h => h, (.cons _ (.cons_cons _ (.refl _)))⟩) ?_
          rintro _ _ _ ⟨rfl, rfl, rfl⟩
          refine AtO.call rfl en34 rfl (set34f v hvs (a : Int) x.ps hxs (nextS p x.stat 3)) (fun _ h => ⟨h.2.1, h.2.2.1, h.1, trivial⟩) (List.Perm.refl _) rfl (.cons _ (.cons_cons _ (.refl _))) ?_
          rintro _ _ _ ⟨u, rfl, rfl, rfl, hpu⟩
          refine AtO.quiet rfl (q_move rfl) rfl (Calm.inBlock (Calm.then (Calm.then (Calm.inBlock (Calm.then Post.calm))))) ?_
          refine AtO.quiet rfl (q_extract rfl rfl) rfl (Calm.inBlock (Calm.then (Calm.then (Calm.inBlock (Calm.then Post.calm))))) ?_
          refine AtO.quiet rfl (q_extract rfl rfl) rfl (Calm.inBlock (Calm.then (Calm.then (Calm.inBlock (Calm.then Post.calm))))) ?_
          refine AtO.loudNA rfl (l_store t24 rfl rfl (i := 0) rfl rfl rfl rfl) (by rintro _ _ _ ⟨rfl, rfl⟩; exact ⟨fun _ h => h, (.cons _ (.cons_cons _ (.refl _)))⟩) ?_
          rintro _ _ _ ⟨rfl, rfl⟩
          refine AtO.done ?_
          refine At.nil ?_
          refine At.inNormal ?_
          refine At.then ?_
          refine At.region ?_
          refine At.quiet (q_add rfl rfl (by omega) (by omega)) rfl ?_
          refine At.skim 1 rfl rfl ?_
          refine At.nil ?_
          refine At.then ?_
          exact At.againK (k + 1, u) ⟨hk1, by rw [hpu, ← hst, hv, List.take_succ_eq_append_getElem hk1, List.foldl_append, (List.getElem?_eq_some_iff.1 ha).2]; rfl⟩ (by (try dsimp only); omega) (Tells.end 27 ⟨rfl, trivial⟩ rfl rfl) (fun _ h => ⟨h.1, ⟨h.2.1, h.2.2.2.2.2⟩⟩) (.cons_cons _ (.refl _))
  · skip
    have hvp : v.p = L.foldl (setSt p) t.p := by rw [hv, List.take_of_length_le (by omega)]
    refine At.exit ?_
    refine At.thenExit ?_
    refine At.thenExit ?_
    refine At.inHere rfl ?_
    refine At.then ?_
    refine At.seq ?_
    refine At.draw 10 (.q 1 (.q 2 (.q 3 (.q 4 (.o 0 (.o 5 (.q 6 (.q 7 (.q 8 (.o 9 (.e))))))))))) (_ :: L₀) (.cons _ (.cons_cons _ (.refl _))) mixed (by kernel_rfl) rfl ?_
    refine AtO.quiet rfl (q_loadS t64 rfl (RdS.blk (.tail _ (.tail _ (.head _))) (m := 5) rfl) rfl) rfl (Calm.then Post.calm) ?_
    refine AtO.quiet rfl (q_move rfl) rfl (Calm.then Post.calm) ?_
    refine AtO.quiet rfl (q_index Try.underlying37 t3 rfl (.tail _ (.tail _ (.tail _ (.tail _ (.tail _ (.tail _ (.head _))))))) (by simp) rfl rfl (lt_of_get h00)) rfl (Calm.then Post.calm) ?_
    refine AtO.quiet rfl (q_load t3 rfl (Rd.sl0 (.tail _ (.tail _ (.tail _ (.tail _ (.tail _ (.tail _ (.head _))))))) (map_get h00) rfl)) rfl (Calm.then Post.calm) ?_
    refine AtO.loud rfl (Quiet.loud (q_loadS t24 rfl (RdS.loc (i := 0) rfl (m := 2) rfl) rfl)) rfl (by rintro _ _ _ ⟨rfl, rfl, rfl⟩; exact ⟨fun _ h => h, (.cons _ (.cons_cons _ (.refl _)))⟩) ?_
    rintro _ _ _ ⟨rfl, rfl, rfl⟩
    refine AtO.call rfl en51 rfl (bend51 v hvs p _) (fun _ h => ⟨h.1, h.2.1, trivial⟩) (List.Perm.refl _) rfl (.cons _ (.cons_cons _ (.refl _))) ?_
    rintro _ _ _ ⟨w, rfl, rfl, rfl, hpw⟩
    refine AtO.quiet rfl (q_move rfl) rfl (Calm.then Post.calm) ?_
    refine AtO.quiet rfl (q_extract rfl rfl) rfl (Calm.then Post.calm) ?_
    refine AtO.quiet rfl (q_extract rfl rfl) rfl (Calm.then Post.calm) ?_
    refine AtO.loudNA rfl (l_store t24 rfl rfl (i := 0) rfl rfl rfl rfl) (by rintro _ _ _ ⟨rfl, rfl⟩; exact ⟨fun _ h => h, (.cons _ (.cons_cons _ (.refl _)))⟩) ?_
    rintro _ _ _ ⟨rfl, rfl⟩
    refine AtO.done ?_
    refine At.nil ?_
    refine At.then ?_
    refine At.seq ?_
    refine At.region ?_
    refine At.quiet (q_loadS t24 rfl (RdS.loc (i := 0) rfl (m := 2) rfl) rfl) rfl ?_
    refine At.loudN (l_store t24 rfl rfl (i := 1) rfl rfl rfl rfl) ?_
    rintro _ _ _ ⟨rfl, rfl⟩
    refine At.nil ?_
    refine At.then ?_
    refine At.ret ?_
    exact At.results (Γr := [_, _]) (M := []) rfl (RVals.cons (RVal.cellS rfl t24 (RdS.loc (i := 1) rfl (m := 2) rfl) rfl) RVals.nil) (.tail _ (.tail _ (.tail _ (.tail _ (.tail _ (.head _)))))) (fun _ h => ⟨h.1, h.2.1, trivial⟩) (.cons _ (.cons _ (.refl _))) ⟨w, rfl, rfl, rfl, by rw [hpw, hvp]; rfl⟩
end Go.Proofs.Ytmkodknmknfdkaa
set_option linter.unusedVariables false
set_option linter.unusedSimpArgs false
namespace Go.Proofs.Ytmkodknmknfdkaa
open E
set_option maxRecDepth 4000
theorem en57 : Enters Try.prog 57 := Enters.mk' Try.func57 rfl rfl
theorem en93 : Enters Try.prog 93 := Enters.mk' Try.func93 rfl rfl
theorem en95 : Enters Try.prog 95 := Enters.mk' Try.func95 rfl rfl
theorem en96 : Enters Try.prog 96 := Enters.mk' Try.func96 rfl rfl
theorem en97 : Enters Try.prog 97 := Enters.mk' Try.func97 rfl rfl
set_option maxHeartbeats 2000000 in
theorem solo57 (t : Tr) (hsm : smallP t.ns.l) (p : Pol) (o : OpS) (hal : (allT t.p).length ≤ 100000) : Con Try.prog 57 [t.val, p.val, o.val] [ndsP t.ns, psP t.ns.l] [] (SoloEnd t.p p o) := by
  refine Con.body 58 Try.func57 rfl Try.ntmps57 rfl fun X H₀ L₀ => ?_
  refine At.know (ndsP ⟨none, 0, []⟩) (fun _ h => sl_nil _ _ _ (Nat.zero_le _)) ?_
  refine At.know (psP []) (fun _ h => psP_nil) ?_
  refine At.know (prsP ⟨none, 0, []⟩) (fun _ h => sl_nil _ _ _ (Nat.zero_le _)) ?_
  refine At.seq ?_
  refine At.region ?_
  refine At.loud (l_box rfl) rfl ?_
  rintro _ _ _ ⟨b1, rfl, rfl, rfl⟩
  refine At.freeze 0 (φ := blk b1 _) rfl (fun _ h => blk_def.2 ⟨_, _, h⟩) ?_
  refine At.loud (l_box rfl) rfl ?_
  rintro _ _ _ ⟨b2, rfl, rfl, rfl⟩
  refine At.freeze 0 (φ := blk b2 _) rfl (fun _ h => blk_def.2 ⟨_, _, h⟩) ?_
  refine At.loud (l_box rfl) rfl ?_
  rintro _ _ _ ⟨b3, rfl, rfl, rfl⟩
  refine At.freeze 0 (φ := blk b3 _) rfl (fun _ h => blk_def.2 ⟨_, _, h⟩) ?_
  refine At.loud (l_alloc t24) rfl ?_
  rintro _ _ _ ⟨b4, rfl, rfl, rfl⟩
  refine At.loud (l_alloc t80) rfl ?_
  rintro _ _ _ ⟨b5, rfl, rfl, rfl⟩
  refine At.nil ?_
  refine At.then ?_
  refine At.seq ?_
  refine At.region ?_
  refine At.quiet (q_loadS t24 rfl (RdS.blk (.tail _ (.tail _ (.head _))) (m := 2) rfl) rfl) rfl ?_
  refine At.call en25 rfl (plain25 _ (by assumption)) (fun _ h => ⟨h.2.2.2.2.2.2.2.1, h.2.2.2.2.2.2.2.2.1, trivial⟩) (List.Perm.refl _) rfl ?_
  rintro _ _ _ ⟨w, Mw, rfl, rfl, rfl, hw, hpw⟩
  refine At.skim 1 rfl rfl ?_
  refine At.quiet (q_extract rfl rfl) rfl ?_
  refine At.quiet (q_extract rfl rfl) rfl ?_
  refine At.loud (l_alloc t24) rfl ?_
  rintro _ _ _ ⟨b6, rfl, rfl, rfl⟩
  refine At.loudN (l_store t24 rfl rfl (i := 0) rfl rfl rfl rfl) ?_
  rintro _ _ _ ⟨rfl, rfl⟩
  refine At.skim 1 rfl rfl ?_
  refine At.nil ?_
  refine At.then ?_
  refine At.seq ?_
  refine At.seq ?_
  refine At.region ?_
  refine At.skim 2 rfl rfl ?_
  refine At.nil ?_
  refine At.then ?_
  refine At.cond rfl (fun hm => ?_) (fun hm => ?_)
  · skip
    refine At.seq ?_
    refine At.region ?_
    refine At.quiet (q_build t24 s24 rfl rfl) rfl ?_
    refine At.quiet (q_build t80 s80 rfl rfl) rfl ?_
    refine At.loudN (l_store t24 rfl rfl (i := 3) rfl rfl rfl rfl) ?_
    rintro _ _ _ ⟨rfl, rfl⟩
    refine At.loudN (l_store t80 rfl rfl (i := 2) rfl rfl rfl rfl) ?_
    rintro _ _ _ ⟨rfl, rfl⟩
    refine At.nil ?_
    refine At.then ?_
    refine At.ret ?_
    refine At.thenRet ?_
    exact At.results (Γr := [_, psP [], _]) (M := []) rfl (RVals.cons (RVal.cellS rfl t24 (RdS.loc (i := 3) rfl (m := 2) rfl) rfl) (RVals.cons (RVal.cellS rfl t80 (RdS.loc (i := 2) rfl (m := 6) rfl) rfl) RVals.nil)) (.tail _ (.tail _ (.tail _ (.tail _ (.tail _ (.tail _ (.tail _ (.head _)))))))) (fun _ h => ⟨h.2.2.2.2.2.2.1, h.2.2.2.2.2.1, h.2.2.2.2.1, trivial⟩) (.cons _ (.cons _ (.cons _ (.cons _ (.refl _))))) ⟨⟨0, ⟨none, 0, []⟩⟩, ⟨none, 0, []⟩, by rw [solo_no (not_t hm)]; rfl, rfl, rfl, by rw [solo_no (not_t hm)]; rfl, by rw [solo_no (not_t hm)]; rfl⟩
  · skip
    have hmt : (mayT t.p).isSome = true := not_f hm
    refine At.skip ?_
    refine At.then ?_
    refine At.seq ?_
    refine At.seq ?_
    refine At.region ?_
    refine At.freezeOwn 1 hw rfl ?_
    obtain ⟨hk1, _, hk3, _⟩ := plain_keeps hmt
    rw [← hpw] at hk1 hk3
    obtain ⟨s, hs⟩ := Option.isSome_iff_exists.1 hk1
    have halw : (allT w.p).length ≤ 100000 := by rw [hk3]; exact hal
    refine At.quiet (q_loadS t77 rfl (RdS.blk (.tail _ (.tail _ (.head _))) (m := 4) rfl) rfl) rfl ?_
    refine At.call en92 rfl (mayop92 _) (fun _ _ => trivial) (List.Perm.refl _) rfl ?_
    rintro _ _ _ ⟨rfl, rfl, rfl⟩
    refine At.skim 1 rfl rfl ?_
    refine At.nil ?_
    refine At.then ?_
    refine At.cond rfl (fun ho => ?_) (fun ho => ?_)
    · skip
      refine At.seq ?_
      refine At.region ?_
      refine At.quiet (q_loadS t24 rfl (RdS.loc (i := 0) rfl (m := 2) rfl) rfl) rfl ?_
      refine At.quiet (q_build t80 s80 rfl rfl) rfl ?_
      refine At.loudN (l_store t24 rfl rfl (i := 2) rfl rfl rfl rfl) ?_
      rintro _ _ _ ⟨rfl, rfl⟩
      refine At.loudN (l_store t80 rfl rfl (i := 1) rfl rfl rfl rfl) ?_
      rintro _ _ _ ⟨rfl, rfl⟩
      refine At.nil ?_
      refine At.then ?_
      refine At.ret ?_
      refine At.thenRet ?_
      exact At.results (Γr := [_, _, _]) (M := []) rfl (RVals.cons (RVal.cellS rfl t24 (RdS.loc (i := 2) rfl (m := 2) rfl) rfl) (RVals.cons (RVal.cellS rfl t80 (RdS.loc (i := 1) rfl (m := 6) rfl) rfl) RVals.nil)) (.tail _ (.tail _ (.tail _ (.tail _ (.tail _ (.tail _ (.tail _ (.tail _ (.head _))))))))) (fun _ h => ⟨h.1, h.2.1, h.2.2.2.2.2.1, trivial⟩) (.cons _ (.cons _ (.cons _ (.refl _)))) ⟨w, ⟨none, 0, []⟩, by rw [solo_badop hmt (not_t ho)]; rfl, rfl, rfl, by rw [solo_badop hmt (not_t ho)]; exact hpw, by rw [solo_badop hmt (not_t ho)]; rfl⟩
    · skip
      have hmo : mayO o = true := not_f ho
      refine At.skip ?_
      refine At.then ?_
      refine At.cutD (ι := Nat × Sl Pr × An) .z [10, 26, 27, 28, 29, 30] (fun ⟨b9, s2, A⟩ => [(10, .pointer (some ⟨b9, 0, none⟩))]) (fun ⟨b9, s2, A⟩ => [prsP s2]) (fun ⟨b9, s2, A⟩ => [[(b9, .cells #[.int .i64 A.err, .bool A.ok, .int .i64 A.p.k, .int .i64 A.p.v, .int .i64 A.n, s2.val] 80 (0, 0))]]) (fun ⟨b9, s2, A⟩ => A = (doT (allT t.p) o).2 ∧ s2.l = A.l) ?_ ?_
      · skip
        refine At.draw 6 (.q 0 (.q 3 (.t 1 (.t 2 (.t 4 (.o 5 (.e)) 5 (.o 4 (.e))) 5 (.o 2 (.o 4 (.e)))) 5 (.o 1 (.o 2 (.o 4 (.e))))))) _ (List.Sublist.refl _) mixed (by kernel_rfl) rfl ?_
        refine AtO.quiet rfl (q_loadS t24 rfl (RdS.blk (.tail _ (.tail _ (.tail _ (.tail _ (.head _))))) (m := 2) rfl) rfl) rfl (Calm.then Post.calm) ?_
        refine AtO.quiet rfl (q_loadS t77 rfl (RdS.blk (.tail _ (.tail _ (.head _))) (m := 4) rfl) rfl) rfl (Calm.then Post.calm) ?_
        refine AtO.two ?_ ?_
        · skip
          refine AtO.call rfl en29 rfl (all29f t hsm) (fun _ h => ⟨h.2.2.2.2.2.2.2.2.2.1, h.2.2.2.2.2.2.2.2.2.2.1, trivial⟩) (List.Perm.refl _) rfl (.refl _) ?_
          rintro _ _ _ ⟨al, rfl, rfl, rfl, hpal⟩
          refine AtO.two ?_ ?_
          · skip
            refine AtO.call rfl en93 rfl (new93 al (by rw [hpal]; omega)) (fun _ h => ⟨h.1, trivial⟩) (List.Perm.refl _) rfl (.refl _) ?_
            rintro _ _ _ ⟨bm, sm, rfl, rfl, rfl, hsm9⟩
            have hsm8 : sm.l = allT t.p := by rw [hsm9, hpal, put_all (all_rise _)]
            refine AtO.two ?_ ?_
            · skip
              refine AtO.front 0 rfl ?_
              refine AtO.call rfl en94 rfl (map94 sm o bm (by rw [hsm8]; omega)) (fun _ h => ⟨h.1, trivial⟩) (List.Perm.refl _) rfl (.refl _) ?_
              rintro _ _ _ ⟨s3, s2, rfl, rfl, rfl, hs3, hs2⟩
              refine AtO.loudA rfl (l_alloc t80) rfl (by rintro _ _ _ ⟨_, rfl, rfl, rfl⟩; exact ⟨fun _ h => h, .cons _ (.cons _ (.cons_cons _ (.cons_cons _ (.cons_cons _ (.refl _)))))⟩) ?_
              rintro _ _ _ ⟨b7, rfl, rfl, rfl⟩
              refine AtO.done ?_
              refine At.loudN (l_store t80 rfl rfl (i := 0) rfl rfl rfl rfl) ?_
              rintro _ _ _ ⟨rfl, rfl⟩
              refine At.nil ?_
              refine At.then ?_
              exact At.meetK (b7, s2, (doT sm.l o).2) ⟨by rw [hsm8], hs2⟩ (Tells.meet 6 ⟨rfl, trivial⟩ rfl rfl) (fun _ h => ⟨h.2.1, h.2.2.2.2⟩) (.cons_cons _ (.cons _ (.refl _)))
            · skip
              refine AtO.loud rfl (l_alloc t80) rfl (by rintro _ _ _ ⟨_, rfl, rfl, rfl⟩; exact ⟨fun _ h => h, .cons _ (.cons _ (.cons_cons _ (.cons_cons _ (.cons_cons _ (.refl _)))))⟩) ?_
              rintro _ _ _ ⟨b8, rfl, rfl, rfl⟩
              refine AtO.front 1 rfl ?_
              refine AtO.callA rfl en94 rfl (map94 sm o bm (by rw [hsm8]; omega)) (fun _ h => ⟨h.1, trivial⟩) (List.Perm.refl _) rfl (.cons _ (.cons_cons _ (.cons_cons _ (.cons_cons _ (.refl _))))) ?_
              rintro _ _ _ ⟨s3, s2, rfl, rfl, rfl, hs3, hs2⟩
              refine AtO.done ?_
              refine At.loudN (l_store t80 rfl rfl (i := 1) rfl rfl rfl rfl) ?_
              rintro _ _ _ ⟨rfl, rfl⟩
              refine At.nil ?_
              refine At.front 1 rfl ?_
              refine At.then ?_
              exact At.meetK (b8, s2, (doT sm.l o).2) ⟨by rw [hsm8], hs2⟩ (Tells.meet 6 ⟨rfl, trivial⟩ rfl rfl) (fun _ h => ⟨h.2.1, h.2.2.2.2⟩) (.cons_cons _ (.cons _ (.refl _)))
          · skip
            refine AtO.loud rfl (l_alloc t80) rfl (by rintro _ _ _ ⟨_, rfl, rfl, rfl⟩; exact ⟨fun _ h => h, .cons _ (.refl _)⟩) ?_
            rintro _ _ _ ⟨b9, rfl, rfl, rfl⟩
            refine AtO.call rfl en93 rfl (new93 al (by rw [hpal]; omega)) (fun _ h => ⟨h.1, trivial⟩) (List.Perm.refl _) rfl (.cons _ (.cons_cons _ (.cons_cons _ (.cons_cons _ (.refl _))))) ?_
            rintro _ _ _ ⟨bm, sm, rfl, rfl, rfl, hsm9⟩
            have hsm8 : sm.l = allT t.p := by rw [hsm9, hpal, put_all (all_rise _)]
            refine AtO.front 0 rfl ?_
            refine AtO.callA rfl en94 rfl (map94 sm o bm (by rw [hsm8]; omega)) (fun _ h => ⟨h.1, trivial⟩) (List.Perm.refl _) rfl (.cons _ (.cons_cons _ (.cons_cons _ (.cons_cons _ (.refl _))))) ?_
            rintro _ _ _ ⟨s3, s2, rfl, rfl, rfl, hs3, hs2⟩
            refine AtO.done ?_
            refine At.loudN (l_store t80 rfl rfl (i := 1) rfl rfl rfl rfl) ?_
            rintro _ _ _ ⟨rfl, rfl⟩
            refine At.nil ?_
            refine At.front 1 rfl ?_
            refine At.then ?_
            exact At.meetK (b9, s2, (doT sm.l o).2) ⟨by rw [hsm8], hs2⟩ (Tells.meet 6 ⟨rfl, trivial⟩ rfl rfl) (fun _ h => ⟨h.2.1, h.2.2.2.2⟩) (.cons_cons _ (.cons _ (.refl _)))
        · skip
          refine AtO.loud rfl (l_alloc t80) rfl (by rintro _ _ _ ⟨_, rfl, rfl, rfl⟩; exact ⟨fun _ h => h, .cons _ (.refl _)⟩) ?_
          rintro _ _ _ ⟨b10, rfl, rfl, rfl⟩
          refine AtO.call rfl en29 rfl (all29f t hsm) (fun _ h => ⟨h.2.2.2.2.2.2.2.2.2.1, h.2.2.2.2.2.2.2.2.2.2.1, trivial⟩) (List.Perm.refl _) rfl (.cons _ (.cons_cons _ (.cons_cons _ (.cons_cons _ (.refl _))))) ?_
          rintro _ _ _ ⟨al, rfl, rfl, rfl, hpal⟩
          refine AtO.call rfl en93 rfl (new93 al (by rw [hpal]; omega)) (fun _ h => ⟨h.1, trivial⟩) (List.Perm.refl _) rfl (.cons _ (.cons_cons _ (.cons_cons _ (.cons_cons _ (.refl _))))) ?_
          rintro _ _ _ ⟨bm, sm, rfl, rfl, rfl, hsm9⟩
          have hsm8 : sm.l = allT t.p := by rw [hsm9, hpal, put_all (all_rise _)]
          refine AtO.front 0 rfl ?_
          refine AtO.callA rfl en94 rfl (map94 sm o bm (by rw [hsm8]; omega)) (fun _ h => ⟨h.1, trivial⟩) (List.Perm.refl _) rfl (.cons _ (.cons_cons _ (.cons_cons _ (.cons_cons _ (.refl _))))) ?_
          rintro _ _ _ ⟨s3, s2, rfl, rfl, rfl, hs3, hs2⟩
          refine AtO.done ?_
          refine At.loudN (l_store t80 rfl rfl (i := 1) rfl rfl rfl rfl) ?_
          rintro _ _ _ ⟨rfl, rfl⟩
          refine At.nil ?_
          refine At.front 1 rfl ?_
          refine At.then ?_
          exact At.meetK (b10, s2, (doT sm.l o).2) ⟨by rw [hsm8], hs2⟩ (Tells.meet 6 ⟨rfl, trivial⟩ rfl rfl) (fun _ h => ⟨h.2.1, h.2.2.2.2⟩) (.cons_cons _ (.cons _ (.refl _)))
      intro j0 hMt
      obtain ⟨b9, s2, A⟩ := j0
      obtain ⟨rfl, hs2⟩ := hMt
      refine At.seq ?_
      refine At.region ?_
      refine At.quiet (q_loadS t24 rfl (RdS.loc (i := 1) rfl (m := 2) rfl) rfl) rfl ?_
      refine At.quiet (q_loadS t77 rfl (RdS.blk (.tail _ (.tail _ (.tail _ (.head _)))) (m := 4) rfl) rfl) rfl ?_
      refine At.call en61 rfl (touched61 w o) (fun _ h => ⟨h.2.1, h.2.2.1, trivial⟩) (List.Perm.refl _) rfl ?_
      rintro _ _ _ ⟨tl, rfl, rfl, rfl, htl⟩
      have htll : tl.l.length = (touchT w.p o).length := by rw [htl, toI_length]
      refine At.skim 1 rfl rfl ?_
      refine At.nil ?_
      refine At.then ?_
      refine At.seq ?_
      refine At.block ?_
      refine At.seq ?_
      refine At.region ?_
      refine At.quiet (q_loadS t77 rfl (RdS.blk (.tail _ (.tail _ (.tail _ (.tail _ (.head _))))) (m := 4) rfl) rfl) rfl ?_
      refine At.call en95 rfl (upd95 _) (fun _ _ => trivial) (List.Perm.refl _) rfl ?_
      rintro _ _ _ ⟨rfl, rfl, rfl⟩
      refine At.skim 1 rfl rfl ?_
      refine At.nil ?_
      refine At.then ?_
      refine At.cond rfl (fun hu => ?_) (fun hu => ?_)
      · skip
        refine At.seq ?_
        refine At.draw 6 (.q 0 (.q 1 (.q 2 (.q 4 (.o 3 (.o 5 (.e))))))) (_ :: _ :: _ :: L₀) (.cons_cons _ (.cons_cons _ (.cons_cons _ (.cons _ (.refl _))))) mixed (by kernel_rfl) rfl ?_
        refine AtO.quiet rfl (q_loadS t24 rfl (RdS.loc (i := 1) rfl (m := 2) rfl) rfl) rfl (Calm.then (Calm.inBlock (Calm.then Post.calm))) ?_
        refine AtO.quiet rfl (q_loadS t64 rfl (RdS.blk (.tail _ (.tail _ (.tail _ (.tail _ (.tail _ (.head _)))))) (m := 5) rfl) rfl) rfl (Calm.then (Calm.inBlock (Calm.then Post.calm))) ?_
        refine AtO.quiet rfl (q_loadS t77 rfl (RdS.blk (.tail _ (.tail _ (.tail _ (.tail _ (.head _))))) (m := 4) rfl) rfl) rfl (Calm.then (Calm.inBlock (Calm.then Post.calm))) ?_
        refine AtO.quiet rfl (q_loadS t80 rfl (RdS.loc (i := 0) rfl (m := 6) rfl) rfl) rfl (Calm.then (Calm.inBlock (Calm.then Post.calm))) ?_
        refine AtO.call rfl en96 rfl (update96 w p o s hs hmo hu halw) (fun _ h => ⟨h.2.2.1, h.2.2.2.1, trivial⟩) (List.Perm.refl _) rfl (.cons_cons _ (.cons_cons _ (.cons_cons _ (.cons _ (.refl _))))) ?_
        rintro _ _ _ ⟨v, rfl, rfl, rfl, hpv⟩
        have hso : soloT t.p p o = (updT w.p p o, (doT (allT t.p) o).2) := by rw [solo_plain hmt hmo, ← hpw, tree_upd hu]
        refine AtO.loudNA rfl (l_store t24 rfl rfl (i := 3) rfl rfl rfl rfl) (by rintro _ _ _ ⟨rfl, rfl⟩; exact ⟨fun _ h => h, (.cons_cons _ (.cons_cons _ (.cons_cons _ (.cons _ (.refl _)))))⟩) ?_
        rintro _ _ _ ⟨rfl, rfl⟩
        refine AtO.done ?_
        refine At.loudN (l_store t80 rfl rfl (i := 2) rfl rfl rfl rfl) ?_
        rintro _ _ _ ⟨rfl, rfl⟩
        refine At.nil ?_
        refine At.then ?_
        refine At.ret ?_
        refine At.inRet ?_
        refine At.thenRet ?_
        exact At.results (Γr := [_, _, _]) (M := []) rfl (RVals.cons (RVal.cellS rfl t24 (RdS.loc (i := 3) rfl (m := 2) rfl) rfl) (RVals.cons (RVal.cellS rfl t80 (RdS.loc (i := 2) rfl (m := 6) rfl) rfl) RVals.nil)) (.tail _ (.tail _ (.tail _ (.tail _ (.tail _ (.tail _ (.tail _ (.tail _ (.tail _ (.tail _ (.tail _ (.tail _ (.head _))))))))))))) (fun _ h => ⟨h.1, h.2.1, h.2.2.2.1, trivial⟩) (.cons _ (.cons _ (.cons _ (.cons _ (.refl _))))) ⟨v, s2, by rw [hso]; rfl, rfl, rfl, by rw [hso] <;> exact hpv, by rw [hso] <;> exact hs2⟩
      · skip
        refine At.seq ?_
        refine At.region ?_
        refine At.fld s77 t3 rfl rfl rfl (Rd.blk (.tail _ (.tail _ (.tail _ (.tail _ (.head _))))) rfl) rfl rfl ?_
        refine At.skim 2 rfl rfl ?_
        refine At.splitP (d := 46) rfl (fun h4 => ?_) (fun h4 => ?_)
        · skip
          refine At.skim 1 rfl rfl ?_
          refine At.open rfl rfl ?_
          refine At.quiet (q_len Try.underlying37 rfl) rfl ?_
          refine At.skim 3 rfl rfl ?_
          refine At.nil ?_
          refine At.then ?_
          refine At.if rfl (fun hl1 => ?_) (fun hl1 => ?_)
          · skip
            refine At.seq ?_
            refine At.draw 6 (.q 0 (.q 1 (.q 2 (.q 4 (.o 3 (.o 5 (.e))))))) (_ :: _ :: _ :: L₀) (.cons_cons _ (.cons_cons _ (.cons_cons _ (.cons _ (.refl _))))) mixed (by kernel_rfl) rfl ?_
            refine AtO.quiet rfl (q_loadS t24 rfl (RdS.loc (i := 1) rfl (m := 2) rfl) rfl) rfl (Calm.then (Calm.inBlock (Calm.then Post.calm))) ?_
            refine AtO.quiet rfl (q_loadS t64 rfl (RdS.blk (.tail _ (.tail _ (.tail _ (.tail _ (.tail _ (.head _)))))) (m := 5) rfl) rfl) rfl (Calm.then (Calm.inBlock (Calm.then Post.calm))) ?_
            refine AtO.quiet rfl (q_move rfl) rfl (Calm.then (Calm.inBlock (Calm.then Post.calm))) ?_
            refine AtO.quiet rfl (q_loadS t80 rfl (RdS.loc (i := 0) rfl (m := 6) rfl) rfl) rfl (Calm.then (Calm.inBlock (Calm.then Post.calm))) ?_
            refine AtO.call rfl en97 rfl (several97 w p s hs tl (touchT w.p o) htl (touch_sub hs) (fun e => by rw [e, List.length_nil] at htll; omega) halw) (fun _ h => ⟨h.2.2.1, h.2.2.2.1, h.1, trivial⟩) (List.Perm.refl _) rfl (.cons_cons _ (.cons_cons _ (.cons_cons _ (.cons _ (.refl _))))) ?_
            rintro _ _ _ ⟨v, rfl, rfl, rfl, hpv⟩
            have hso : soloT t.p p o = (sevT w.p p (touchT w.p o), (doT (allT t.p) o).2) := by rw [solo_plain hmt hmo, ← hpw, tree_sev hu (by omega)]
            refine AtO.loudNA rfl (l_store t24 rfl rfl (i := 3) rfl rfl rfl rfl) (by rintro _ _ _ ⟨rfl, rfl⟩; exact ⟨fun _ h => h, (.cons_cons _ (.cons_cons _ (.cons_cons _ (.cons _ (.refl _)))))⟩) ?_
            rintro _ _ _ ⟨rfl, rfl⟩
            refine AtO.done ?_
            refine At.loudN (l_store t80 rfl rfl (i := 2) rfl rfl rfl rfl) ?_
            rintro _ _ _ ⟨rfl, rfl⟩
            refine At.nil ?_
            refine At.then ?_
            refine At.ret ?_
            refine At.inRet ?_
            refine At.thenRet ?_
            exact At.results (Γr := [_, _, _]) (M := []) rfl (RVals.cons (RVal.cellS rfl t24 (RdS.loc (i := 3) rfl (m := 2) rfl) rfl) (RVals.cons (RVal.cellS rfl t80 (RdS.loc (i := 2) rfl (m := 6) rfl) rfl) RVals.nil)) (.tail _ (.tail _ (.tail _ (.tail _ (.tail _ (.tail _ (.tail _ (.tail _ (.tail _ (.tail _ (.tail _ (.tail _ (.head _))))))))))))) (fun _ h => ⟨h.1, h.2.1, h.2.2.2.1, trivial⟩) (.cons _ (.cons _ (.cons _ (.cons _ (.refl _))))) ⟨v, s2, by rw [hso]; rfl, rfl, rfl, by rw [hso] <;> exact hpv, by rw [hso] <;> exact hs2⟩
          · skip
            have hso : soloT t.p p o = (w.p, (doT (allT t.p) o).2) := by rw [solo_plain hmt hmo, ← hpw, tree_same hu (by omega)]
            refine At.skip ?_
            refine At.inNormal ?_
            refine At.then ?_
            refine At.seq ?_
            refine At.draw 3 (.q 0 (.q 1 (.o 2 (.e)))) (_ :: _ :: _ :: L₀) (.cons_cons _ (.cons_cons _ (.cons_cons _ (.cons _ (.refl _))))) mixed (by kernel_rfl) rfl ?_
            refine AtO.quiet rfl (q_loadS t24 rfl (RdS.loc (i := 1) rfl (m := 2) rfl) rfl) rfl (Calm.then Post.calm) ?_
            refine AtO.quiet rfl (q_loadS t80 rfl (RdS.loc (i := 0) rfl (m := 6) rfl) rfl) rfl (Calm.then Post.calm) ?_
            refine AtO.loudNA rfl (l_store t24 rfl rfl (i := 3) rfl rfl rfl rfl) (by rintro _ _ _ ⟨rfl, rfl⟩; exact ⟨fun _ h => h, (.cons_cons _ (.cons_cons _ (.cons_cons _ (.cons _ (.refl _)))))⟩) ?_
            rintro _ _ _ ⟨rfl, rfl⟩
            refine AtO.done ?_
            refine At.loudN (l_store t80 rfl rfl (i := 2) rfl rfl rfl rfl) ?_
            rintro _ _ _ ⟨rfl, rfl⟩
            refine At.nil ?_
            refine At.then ?_
            refine At.ret ?_
            exact At.results (Γr := [_, _, _]) (M := []) rfl (RVals.cons (RVal.cellS rfl t24 (RdS.loc (i := 3) rfl (m := 2) rfl) rfl) (RVals.cons (RVal.cellS rfl t80 (RdS.loc (i := 2) rfl (m := 6) rfl) rfl) RVals.nil)) (.tail _ (.tail _ (.tail _ (.tail _ (.tail _ (.tail _ (.tail _ (.tail _ (.tail _ (.tail _ (.head _))))))))))) (fun _ h => ⟨h.2.2.1, h.2.2.2.1, h.2.1, trivial⟩) (.cons _ (.cons _ (.cons _ (.cons _ (.refl _))))) ⟨w, s2, by rw [hso]; rfl, rfl, rfl, by rw [hso] <;> exact rfl, by rw [hso] <;> exact hs2⟩
        · skip
          have hso : soloT t.p p o = (w.p, (doT (allT t.p) o).2) := by rw [solo_plain hmt hmo, ← hpw, tree_same hu (touch_get (by omega))]
          refine At.skim 5 rfl rfl ?_
          refine At.nil ?_
          refine At.then ?_
          refine At.condF rfl ?_
          refine At.skip ?_
          refine At.inNormal ?_
          refine At.then ?_
          refine At.seq ?_
          refine At.draw 3 (.q 0 (.q 1 (.o 2 (.e)))) (_ :: _ :: _ :: L₀) (.cons_cons _ (.cons_cons _ (.cons_cons _ (.cons _ (.refl _))))) mixed (by kernel_rfl) rfl ?_
          refine AtO.quiet rfl (q_loadS t24 rfl (RdS.loc (i := 1) rfl (m := 2) rfl) rfl) rfl (Calm.then Post.calm) ?_
          refine AtO.quiet rfl (q_loadS t80 rfl (RdS.loc (i := 0) rfl (m := 6) rfl) rfl) rfl (Calm.then Post.calm) ?_
          refine AtO.loudNA rfl (l_store t24 rfl rfl (i := 3) rfl rfl rfl rfl) (by rintro _ _ _ ⟨rfl, rfl⟩; exact ⟨fun _ h => h, (.cons_cons _ (.cons_cons _ (.cons_cons _ (.cons _ (.refl _)))))⟩) ?_
          rintro _ _ _ ⟨rfl, rfl⟩
          refine AtO.done ?_
          refine At.loudN (l_store t80 rfl rfl (i := 2) rfl rfl rfl rfl) ?_
          rintro _ _ _ ⟨rfl, rfl⟩
          refine At.nil ?_
          refine At.then ?_
          refine At.ret ?_
          exact At.results (Γr := [_, _, _]) (M := []) rfl (RVals.cons (RVal.cellS rfl t24 (RdS.loc (i := 3) rfl (m := 2) rfl) rfl) (RVals.cons (RVal.cellS rfl t80 (RdS.loc (i := 2) rfl (m := 6) rfl) rfl) RVals.nil)) (.tail _ (.tail _ (.tail _ (.tail _ (.tail _ (.tail _ (.tail _ (.tail _ (.tail _ (.tail _ (.head _))))))))))) (fun _ h => ⟨h.2.2.1, h.2.2.2.1, h.2.1, trivial⟩) (.cons _ (.cons _ (.cons _ (.cons _ (.refl _))))) ⟨w, s2, by rw [hso]; rfl, rfl, rfl, by rw [hso] <;> exact rfl, by rw [hso] <;> exact hs2⟩
set_option maxHeartbeats 2000000 in
theorem run56 (t : Tr) (hsm : smallP t.ns.l) (p : Pol) (l : Sl OpS) (hal : (allT t.p).length ≤ 10000) (hll : l.l.length ≤ 1000) : Con Try.prog 56 [t.val, p.val, l.val] [ndsP t.ns, psP t.ns.l, opsP l] [] (RunEnd t.p p l.l) := by
  refine Con.body 41 Try.func56 rfl Try.ntmps56 rfl fun X H₀ L₀ => ?_
  refine At.know (ndsP ⟨none, 0, []⟩) (fun _ h => sl_nil _ _ _ (Nat.zero_le _)) ?_
  refine At.know (psP []) (fun _ h => psP_nil) ?_
  refine At.know (ansP ⟨none, 0, []⟩) (fun _ h => sl_nil _ _ _ (Nat.zero_le _)) ?_
  refine At.know (apsP []) (fun _ h => apsP_nil) ?_
  refine At.seq ?_
  refine At.region ?_
  refine At.loud (l_box rfl) rfl ?_
  rintro _ _ _ ⟨b1, rfl, rfl, rfl⟩
  refine At.loud (l_box rfl) rfl ?_
  rintro _ _ _ ⟨b2, rfl, rfl, rfl⟩
  refine At.freeze 0 (φ := blk b2 _) rfl (fun _ h => blk_def.2 ⟨_, _, h⟩) ?_
  refine At.loud (l_alloc t24) rfl ?_
  rintro _ _ _ ⟨b3, rfl, rfl, rfl⟩
  refine At.skim 1 rfl rfl ?_
  refine At.nil ?_
  refine At.then ?_
  refine At.seq ?_
  refine At.region ?_
  refine At.quiet (q_loadS t24 rfl (RdS.loc (i := 1) rfl (m := 2) rfl) rfl) rfl ?_
  refine At.call en25 rfl (plain25 _ (by assumption)) (fun _ h => ⟨h.2.2.2.2.2.2.1, h.2.2.2.2.2.2.2.1, trivial⟩) (List.Perm.refl _) rfl ?_
  rintro _ _ _ ⟨w, Mw, rfl, rfl, rfl, hw, hpw⟩
  refine At.skim 1 rfl rfl ?_
  refine At.quiet (q_extract rfl rfl) rfl ?_
  refine At.quiet (q_extract rfl rfl) rfl ?_
  refine At.loudN (l_store t24 rfl rfl (i := 2) rfl rfl rfl rfl) ?_
  rintro _ _ _ ⟨rfl, rfl⟩
  refine At.skim 1 rfl rfl ?_
  refine At.nil ?_
  refine At.then ?_
  refine At.seq ?_
  refine At.seq ?_
  refine At.region ?_
  refine At.skim 2 rfl rfl ?_
  refine At.nil ?_
  refine At.then ?_
  refine At.cond rfl (fun hm => ?_) (fun hm => ?_)
  · skip
    refine At.seq ?_
    refine At.region ?_
    refine At.quiet (q_build t24 s24 rfl rfl) rfl ?_
    refine At.loudN (l_store t24 rfl rfl (i := 1) rfl rfl rfl rfl) ?_
    rintro _ _ _ ⟨rfl, rfl⟩
    refine At.skim 1 rfl rfl ?_
    refine At.nil ?_
    refine At.then ?_
    refine At.ret ?_
    refine At.thenRet ?_
    exact At.results (Γr := [_, psP [], _, apsP []]) (M := []) rfl (RVals.cons (RVal.cellS rfl t24 (RdS.loc (i := 1) rfl (m := 2) rfl) rfl) (RVals.cons (RVal.tmp rfl) RVals.nil)) (.tail _ (.tail _ (.tail _ (.tail _ (.tail _ (.tail _ (.head _))))))) (fun _ h => ⟨h.2.2.2.2.2.1, h.2.2.2.2.1, h.2.2.2.1, h.2.2.1, trivial⟩) (.cons _ (.cons _ (.cons _ (.refl _)))) ⟨⟨0, ⟨none, 0, []⟩⟩, ⟨none, 0, []⟩, rfl, rfl, rfl, by unfold runT; rw [if_neg (by rw [not_t hm]; simp)]; rfl, by unfold runT; rw [if_neg (by rw [not_t hm]; simp)]; rfl⟩
  · skip
    have hmt : (mayT t.p).isSome = true := not_f hm
    obtain ⟨hk1, _, hk3, _⟩ := plain_keeps hmt
    refine At.skip ?_
    refine At.then ?_
    refine At.seq ?_
    refine At.region ?_
    refine At.freezeOwn 0 hw rfl ?_
    refine At.nilSeg ?_
    refine At.lenOf (hs := (.tail _ (.tail _ (.tail _ (.tail _ (.tail _ (.tail _ (.tail _ (.tail _ (.tail _ (.tail _ (.head _)))))))))))) fun hlen => ?_
    rw [List.length_map] at hlen
    refine At.skim 1 rfl rfl ?_
    refine At.nil ?_
    refine At.then ?_
    refine At.seq ?_
    refine At.seq ?_
    refine At.region ?_
    refine At.skim 1 rfl rfl ?_
    refine At.quiet (q_len Try.underlying72 rfl) rfl ?_
    refine At.skim 1 rfl rfl ?_
    refine At.nil ?_
    refine At.then ?_
    refine At.block ?_
    refine At.front 0 rfl ?_
    refine At.front 2 rfl ?_
    refine At.loopK (ι := Nat × Tr × List AnS × Option Addr × Nat × Seg) [9, 11, 12, 23, 24, 25, 26, 27, 28, 29, 30, 31, 32, 33, 34, 35, 36, 37, 38] (fun ⟨k, v, r, a, c, M⟩ => [(23, .int .i64 (k : Int)), (9, .slice a r.length c)]) (fun ⟨k, v, r, a, c, M⟩ => [ndsP v.ns, psP v.ns.l, apsP r]) (fun ⟨k, v, r, a, c, M⟩ => [[(b1, .cells #[.int .i64 v.root, v.ns.val] 24 (0, 0))], M]) _ (fun ⟨k, v, r, a, c, M⟩ => k ≤ l.l.length ∧ v.p = (run2 p (plainD t.p) (l.l.take k)).1 ∧ r.map AnS.a = (run2 p (plainD t.p) (l.l.take k)).2 ∧ Own 80 6 (r.map rowA) a c M ∧ r.length ≤ k) (fun ⟨k, v, r, a, c, M⟩ => l.l.length - k) (0, w, [], none, 0, []) ⟨Nat.zero_le _, by rw [hpw]; rfl, rfl, Own.nil _ _, Nat.le_refl _⟩ ⟨rfl, rfl, trivial⟩ (fun _ h => ⟨h.1, h.2.1, h.2.2.2.1, trivial⟩) (.cons_cons _ (.cons_cons _ (.refl _))) ?_
    intro i0 hI0
    obtain ⟨k, v, r, a, c, M⟩ := i0
    obtain ⟨hkl, hv, hr, hO, hrk⟩ := hI0
    obtain ⟨f1, f2, f3⟩ := run_keeps (p := p) (l := l.l) hk1 k
    rw [hk3] at f2
    rw [← hv] at f1 f2
    have hvs : smallP v.ns.l := small_all f1 f2 (by omega)
    refine At.seq ?_
    refine At.region ?_
    refine At.skim 1 rfl rfl ?_
    refine At.nil ?_
    refine At.then ?_
    refine At.seq ?_
    refine At.if rfl (fun hk => ?_) (fun hk => ?_)
    · skip
      obtain ⟨o, ho⟩ := get_of_lt (l := l.l) (i := k) (by omega)
      have hko := lt_of_get ho
      refine At.skip ?_
      refine At.then ?_
      refine At.seq ?_
      refine At.block ?_
      refine At.seq ?_
      refine At.region ?_
      refine At.quiet (q_index Try.underlying72 t77 rfl (.tail _ (.tail _ (.tail _ (.tail _ (.tail _ (.tail _ (.tail _ (.tail _ (.tail _ (.tail _ (.tail _ (.tail _ (.tail _ (.head _)))))))))))))) (by simp) rfl rfl (lt_of_get ho)) rfl ?_
      refine At.quiet (q_loadS t77 rfl (RdS.sl0 (.tail _ (.tail _ (.tail _ (.tail _ (.tail _ (.tail _ (.tail _ (.tail _ (.tail _ (.tail _ (.tail _ (.tail _ (.tail _ (.head _)))))))))))))) (map_get ho)) rfl) rfl ?_
      refine At.loud (l_alloc t77) rfl ?_
      rintro _ _ _ ⟨b4, rfl, rfl, rfl⟩
      refine At.loudN (l_store t77 rfl rfl (i := 0) rfl rfl rfl rfl) ?_
      rintro _ _ _ ⟨rfl, rfl⟩
      refine At.nil ?_
      refine At.then ?_
      refine At.seq ?_
      refine At.region ?_
      refine At.loud (l_alloc t80) rfl ?_
      rintro _ _ _ ⟨b5, rfl, rfl, rfl⟩
      refine At.nil ?_
      refine At.then ?_
      refine At.seq ?_
      refine At.region ?_
      refine At.quiet (q_loadS t24 rfl (RdS.loc (i := 2) rfl (m := 2) rfl) rfl) rfl ?_
      refine At.quiet (q_loadS t64 rfl (RdS.blk (.tail _ (.tail _ (.tail _ (.tail _ (.tail _ (.head _)))))) (m := 5) rfl) rfl) rfl ?_
      refine At.quiet (q_loadS t77 rfl (RdS.loc (i := 1) rfl (m := 4) rfl) rfl) rfl ?_
      refine At.call en57 rfl (solo57 v hvs p o (by omega)) (fun _ h => ⟨h.1, h.2.1, trivial⟩) (List.Perm.refl _) rfl ?_
      rintro _ _ _ ⟨u, s2, rfl, rfl, rfl, hpu, hs2⟩
      refine At.skim 1 rfl rfl ?_
      refine At.quiet (q_extract rfl rfl) rfl ?_
      refine At.quiet (q_extract rfl rfl) rfl ?_
      refine At.loudN (l_store t24 rfl rfl (i := 2) rfl rfl rfl rfl) ?_
      rintro _ _ _ ⟨rfl, rfl⟩
      refine At.loudN (l_store t80 rfl rfl (i := 0) rfl rfl rfl rfl) ?_
      rintro _ _ _ ⟨rfl, rfl⟩
      refine At.nil ?_
      refine At.then ?_
      refine At.region ?_
      refine At.skim 1 rfl rfl ?_
      refine At.quiet (q_loadS t80 rfl (RdS.loc (i := 0) rfl (m := 6) rfl) rfl) rfl ?_
      refine At.loud (l_buildSlice Try.underlying73 t80 rfl rfl rfl rfl rfl) rfl ?_
      rintro _ _ _ ⟨b6, rfl, rfl, rfl⟩
      refine At.loud (l_append rfl Try.underlying73 t80 rfl rfl hO (by simp) (i := 4) rfl rfl (news := [rowA (AnS.of (soloT v.p p o).2 s2)]) (by simp [rowA, AnS.of]) (RdS.loc (i := 0) rfl (m := 6) rfl) rfl rfl rfl (by omega) (by unfold maxLen; omega)) rfl ?_
      rintro _ _ _ ⟨a2, c2, M2, rfl, ow, rfl, rfl⟩
      refine At.skim 1 rfl rfl ?_
      refine At.nil ?_
      refine At.inNormal ?_
      refine At.then ?_
      refine At.region ?_
      refine At.know (apsP (r ++ [AnS.of (soloT v.p p o).2 s2])) (fun _ h => apsP_snoc (n := AnS.of (soloT v.p p o).2 s2) h.2.2.2.2.2.1 h.2.2.1) ?_
      refine At.quiet (q_add rfl rfl (by omega) (by omega)) rfl ?_
      refine At.skim 1 rfl rfl ?_
      refine At.nil ?_
      refine At.say 9 (.slice a2 (r ++ [AnS.of (soloT v.p p o).2 s2]).length c2) rfl (by simp) ?_
      refine At.front 4 rfl ?_
      refine At.front 4 rfl ?_
      refine At.then ?_
      exact At.againK (k + 1, u, r ++ [AnS.of (soloT v.p p o).2 s2], a2, c2, M2) ⟨hko, by rw [hpu, run_step ho, ← hv], by rw [run_step ho, ← hr, ← hv, List.map_append]; simp [AnS.of_a hs2], by simpa using ow, by simp; omega⟩ (by (try dsimp only); omega) (Tells.end 22 ⟨rfl, rfl, trivial⟩ rfl rfl) (fun _ h => ⟨h.2.1, ⟨h.2.2.1, ⟨h.1, h.2.2.2.2.2.2.2⟩⟩⟩) (.cons_cons _ (.cons_cons _ (.cons _ (.cons _ (.cons _ (.refl _))))))
    · skip
      refine At.freezeOwn 1 hO rfl ?_
      have hrt : runT t.p p l.l = run2 p (plainD t.p) (l.l.take k) := by unfold runT; rw [if_pos hmt, List.take_of_length_le (by omega)]
      refine At.exit ?_
      refine At.thenExit ?_
      refine At.thenExit ?_
      refine At.inHere rfl ?_
      refine At.then ?_
      refine At.seq ?_
      refine At.region ?_
      refine At.quiet (q_loadS t24 rfl (RdS.loc (i := 0) rfl (m := 2) rfl) rfl) rfl ?_
      refine At.skim 1 rfl rfl ?_
      refine At.loudN (l_store t24 rfl rfl (i := 1) rfl rfl rfl rfl) ?_
      rintro _ _ _ ⟨rfl, rfl⟩
      refine At.skim 1 rfl rfl ?_
      refine At.nil ?_
      refine At.then ?_
      refine At.ret ?_
      exact At.results (Γr := [_, _, ansP ⟨a, c, r⟩, apsP r]) (M := []) rfl (RVals.cons (RVal.cellS rfl t24 (RdS.loc (i := 1) rfl (m := 2) rfl) rfl) (RVals.cons (RVal.tmp rfl) RVals.nil)) (.tail _ (.tail _ (.tail _ (.tail _ (.tail _ (.tail _ (.tail _ (.tail _ (.tail _ (.tail _ (.tail _ (.head _)))))))))))) (fun _ h => ⟨h.2.1, h.2.2.1, h.1, h.2.2.2.1, trivial⟩) (.cons _ (.cons _ (.refl _))) ⟨v, ⟨a, c, r⟩, rfl, rfl, rfl, by rw [hrt]; exact hv, by rw [hrt]; exact hr⟩
end Go.Proofs.Ytmkodknmknfdkaa
set_option linter.unusedVariables false
set_option linter.unusedSimpArgs false
namespace Go.Proofs.Ytmkodknmknfdkaa
open E
def aw17o : List OpS := [⟨1, 1, 0, 0⟩, ⟨1, 2, 0, 3⟩, ⟨4, 2, 0, 0⟩]
theorem aw17_1 : (runT (oneT []) Pol.eager aw17o).1.ns.length = 3 ∧ (runT (oneT []) Pol.eager aw17o).2.length = 3 ∧ ((runT (oneT []) Pol.eager aw17o).2[2]?).map (fun a => a.p.v) = some 3 := by decide +kernel
theorem aw17_2 : (touchT (runT (oneT []) Pol.eager aw17o).1 ⟨5, 0, 9, 0⟩).length = 2 := by decide +kernel
theorem all_len2 {t : PT} {b : Nat} (h : pairsUpto t.ns t.ns.length ≤ b) : (allT t).length ≤ b := by
  cases hs : mayT t with
  | none => simp [allT, leavesT, hs]
  | some s => rw [all_pairs hs]; exact h
theorem same_self {t : PT} : sameT t t = (mayT t).isSome := by
  cases h : (mayT t).isSome
  · unfold sameT; rw [h]; simp
  · exact same_true h h rfl
end Go.Proofs.Ytmkodknmknfdkaa
set_option linter.unusedVariables false
set_option linter.unusedSimpArgs false
namespace Go.Proofs.Ytmkodknmknfdkaa
open E
set_option maxRecDepth 4000
theorem en56 : Enters Try.prog 56 := Enters.mk' Try.func56 rfl rfl
theorem en65 : Enters Try.prog 65 := Enters.mk' Try.func65 rfl rfl
theorem eager65  : Con Try.prog 65 [] [] [] (fun v Γ M => v = Pol.eager.val ∧ Γ = [] ∧ M = []) := by
  refine Con.body 2 Try.func65 rfl Try.ntmps65 rfl fun X H₀ L₀ => ?_
  refine At.seq ?_
  refine At.region ?_
  refine At.loud (l_alloc t64) rfl ?_
  rintro _ _ _ ⟨b1, rfl, rfl, rfl⟩
  refine At.nil ?_
  refine At.then ?_
  refine At.seq ?_
  refine At.region ?_
  refine At.quiet (q_build t64 s64 rfl rfl) rfl ?_
  refine At.loudN (l_store t64 rfl rfl (i := 0) rfl rfl rfl rfl) ?_
  rintro _ _ _ ⟨rfl, rfl⟩
  refine At.nil ?_
  refine At.then ?_
  refine At.ret ?_
  exact At.results (Γr := []) (M := []) rfl (RVals.cons (RVal.cellS rfl t64 (RdS.loc (i := 0) rfl (m := 5) rfl) rfl) RVals.nil) (.head _) (fun _ _ => trivial) (.cons _ (.refl _)) ⟨rfl, rfl, rfl⟩
theorem awake55  : Con Try.prog 55 [] [] [] (fun v Γ M => v = .bool true ∧ Γ = [] ∧ M = []) := by
  refine Con.body 37 Try.func55 rfl Try.ntmps55 rfl fun X H₀ L₀ => ?_
  refine At.know (prsP ⟨none, 0, []⟩) (fun _ h => sl_nil _ _ _ (Nat.zero_le _)) ?_
  refine At.seq ?_
  refine At.region ?_
  refine At.skim 1 rfl rfl ?_
  refine At.nil ?_
  refine At.then ?_
  refine At.seq ?_
  refine At.region ?_
  refine At.call en31 rfl (one31 ⟨none, 0, []⟩ (by simp)) (fun _ h => ⟨h.1, trivial⟩) (List.Perm.refl _) rfl ?_
  rintro _ _ _ ⟨t, rfl, rfl, rfl, hpt⟩
  refine At.call en65 rfl (eager65) (fun _ _ => trivial) (List.Perm.refl _) rfl ?_
  rintro _ _ _ ⟨rfl, rfl, rfl⟩
  refine At.quiet (q_build t77 s77 rfl rfl) rfl ?_
  refine At.quiet (q_build t77 s77 rfl rfl) rfl ?_
  refine At.quiet (q_build t77 s77 rfl rfl) rfl ?_
  refine At.loud (l_buildSlice Try.underlying72 t77 rfl rfl rfl rfl rfl) rfl ?_
  rintro _ _ _ ⟨b1, rfl, rfl, rfl⟩
  refine At.freeze 0 (φ := opsP ⟨some ⟨b1, 0, none⟩, 3, aw17o⟩) rfl (fun _ h => sl_of_block h rfl (by simp [rowO, aw17o]) (by kernel_rfl) (show (3 : Nat) ≤ maxLen from by decide)) ?_
  have hta : t.p = oneT [] := hpt
  have htm : (mayT t.p).isSome = true := by rw [hta, one_may]; rfl
  have htl : (allT t.p).length = 0 := by rw [hta, one_all]; rfl
  have hts : smallP t.ns.l := small_all htm (Nat.le_of_eq htl) (by omega)
  refine At.call en56 rfl (run56 t hts Pol.eager ⟨_, 3, aw17o⟩ (by omega) (by simp [aw17o])) (fun _ h => ⟨h.2.1, h.2.2.1, h.1, trivial⟩) (List.Perm.refl _) rfl ?_
  rintro _ _ _ ⟨u, r, rfl, rfl, rfl, hpu, hr⟩
  refine At.skim 1 rfl rfl ?_
  refine At.quiet (q_extract rfl rfl) rfl ?_
  refine At.quiet (q_extract rfl rfl) rfl ?_
  refine At.loud (l_alloc t24) rfl ?_
  rintro _ _ _ ⟨b2, rfl, rfl, rfl⟩
  refine At.loudN (l_store t24 rfl rfl (i := 0) rfl rfl rfl rfl) ?_
  rintro _ _ _ ⟨rfl, rfl⟩
  refine At.skim 1 rfl rfl ?_
  refine At.nil ?_
  refine At.then ?_
  refine At.seq ?_
  refine At.region ?_
  rw [hta] at hpu hr
  obtain ⟨w1, w2, w3⟩ := aw17_1
  have hul : u.ns.l.length = 3 := by have h := p_len hpu; rw [h]; exact w1
  have hrl : r.l.length = 3 := by have h := congrArg List.length hr; rw [List.length_map] at h; rw [h]; exact w2
  obtain ⟨x, hx⟩ := get_of_lt (l := r.l) (i := 2) (by omega)
  have hxv : x.p.v = 3 := by rw [← hr, List.getElem?_map, hx] at w3; exact Option.some.inj w3
  refine At.fld s24 t22 rfl rfl rfl (Rd.loc (i := 0) rfl rfl) rfl rfl ?_
  refine At.quiet (q_len Try.underlying22 rfl) rfl ?_
  refine At.skim 2 rfl rfl ?_
  refine At.say 17 (.bool true) rfl (congrArg Value.bool (decide_eq_true (by rw [hul]; rfl))) ?_
  refine At.skim 1 rfl rfl ?_
  refine At.open rfl rfl ?_
  refine At.quiet (q_len Try.underlying73 rfl) rfl ?_
  refine At.skim 3 rfl rfl ?_
  refine At.say 22 (.bool true) rfl (congrArg Value.bool (decide_eq_true (by rw [hrl]; rfl))) ?_
  refine At.skim 1 rfl rfl ?_
  refine At.open rfl rfl ?_
  refine At.quiet (q_index Try.underlying73 t80 rfl (.tail _ (.tail _ (.head _))) (by simp) rfl rfl (lt_of_get hx)) rfl ?_
  refine At.open rfl rfl ?_
  refine At.quiet (q_fieldAddr s80 rfl rfl rfl) rfl ?_
  refine At.open rfl rfl ?_
  refine At.quiet (q_fieldAddr s50 rfl rfl rfl) rfl ?_
  refine At.have _ (fun _ hH => sl_spot (hH.mem (.tail _ (.tail _ (.head _)))) (map_get hx)) fun hsp => ?_
  refine At.say 26 (.pointer (some (((adr r.a).add (2 * 6)).add 3))) rfl (by rw [add_two hsp]) ?_
  refine At.open rfl rfl ?_
  refine At.quiet (q_load t3 rfl (Rd.sl (.tail _ (.tail _ (.head _))) (map_get hx) rfl)) rfl ?_
  refine At.skim 3 rfl rfl ?_
  refine At.say 30 (.bool true) rfl (congrArg Value.bool (decide_eq_true hxv)) ?_
  refine At.open rfl rfl ?_
  refine At.quiet (q_loadS t24 rfl (RdS.loc (i := 0) rfl (m := 2) rfl) rfl) rfl ?_
  refine At.open rfl rfl ?_
  refine At.quiet (q_build t77 s77 rfl rfl) rfl ?_
  refine At.open rfl rfl ?_
  refine At.call en61 rfl (touched61 u ⟨5, 0, 9, 0⟩) (fun _ h => ⟨h.1, h.2.1, trivial⟩) (List.Perm.refl _) rfl ?_
  rintro _ _ _ ⟨tl, rfl, rfl, rfl, htl2⟩
  refine At.open rfl rfl ?_
  refine At.quiet (q_len Try.underlying37 rfl) rfl ?_
  refine At.skim 3 rfl rfl ?_
  refine At.nil ?_
  refine At.then ?_
  refine At.ret ?_
  exact At.results (Γr := []) (M := []) rfl (RVals.cons (RVal.tmp rfl) RVals.nil) (.tail _ (.tail _ (.tail _ (.tail _ (.tail _ (.tail _ (.tail _ (.tail _ (.tail _ (.head _)))))))))) (fun _ _ => trivial) (.cons _ (.refl _)) ⟨congrArg Value.bool (decide_eq_true (by rw [htl2, toI_length, hpu, aw17_2]; rfl)), rfl, rfl⟩
end Go.Proofs.Ytmkodknmknfdkaa
set_option linter.unusedVariables false
set_option linter.unusedSimpArgs false
namespace Go.Proofs.Ytmkodknmknfdkaa
open E
def ct (n : Nod) : List Pr × Int := (n.l, n.stat)
def contS (ns : List Nod) (s : Sh) : List (List Pr × Int) := s.leaves.map fun i => ct (ns.getD i default)
def contT (t : PT) : List (List Pr × Int) := (leavesT t).map fun i => ct (t.ns.getD i default)
def conts (l : List Nod) : List (List Pr × Int) := (l.filter fun n => !n.route).map ct
theorem cont_lay {ns : List Nod} {s : Sh} {a : Int} {k : Kb} (h : Fits ns s a k) (b : Nat) : conts (s.lay ns b) = contS ns s := by
  induction s generalizing a k b with
  | leaf i =>
    obtain ⟨_, n, hn, hr, _⟩ := h
    have e := getD_of hn
    simp only [Sh.lay, conts, contS, Sh.leaves, e, List.map_cons, List.map_nil, List.filter_cons, hr, List.filter_nil]
    rfl
  | node i l r h1 h2 =>
    obtain ⟨_, n, hn, hr, _, hl, hrr⟩ := h
    have e1 := h1 hl (b + 1)
    have e2 := h2 hrr (b + 1 + l.size)
    simp only [Sh.lay, getD_of hn]
    simp only [conts, List.filter_cons, hr, Bool.not_true, Bool.false_eq_true, if_false, List.filter_append, List.map_append] at e1 e2 ⊢
    rw [e1, e2]
    simp [contS, Sh.leaves]
theorem cont_eq {t : PT} {s : Sh} (hs : mayT t = some s) : contT t = contS t.ns s := by simp [contT, contS, leavesT_eq hs]
theorem cont_conts {t : PT} {s : Sh} (hs : mayT t = some s) : contT t = conts (plainD t).ns := by
  rw [cont_eq hs, (plain_may hs).1]
  exact (cont_lay (may_fits hs) 0).symm
theorem cont_plain {t : PT} (h : (mayT t).isSome = true) : contT (plainD t) = contT t := by
  obtain ⟨s, hs⟩ := Option.isSome_iff_exists.1 h
  obtain ⟨_, p2, p3⟩ := plain_may hs
  rw [cont_conts p2, p3, ← cont_conts hs]
theorem cont_len (t : PT) : (contT t).length = (leavesT t).length := by simp [contT]
theorem flat_id {α β : Type} {f : α → β} {l : List α} : (l.flatMap fun j => [f j]) = l.map f := by
  induction l with
  | nil => rfl
  | cons a l ih => simp [ih]
theorem flat_ext {α β : Type} {f g : α → List β} {l : List α} (h : ∀ x ∈ l, f x = g x) : l.flatMap f = l.flatMap g := by
  induction l with
  | nil => rfl
  | cons a l ih => rw [List.flatMap_cons, List.flatMap_cons, h a (by simp), ih fun x hx => h x (by simp [hx])]
theorem split_leaves {s : Sh} {i N : Nat} : (s.split i N).leaves = s.leaves.flatMap fun j => if j = i then [N, N + 1] else [j] := by
  induction s with
  | leaf j =>
    simp only [Sh.split, Sh.leaves, List.flatMap_cons, List.flatMap_nil, List.append_nil]
    split <;> simp [Sh.leaves]
  | node j l r h1 h2 => simp only [Sh.split, Sh.leaves, List.flatMap_append, h1, h2]
theorem cont_split {t u : PT} {i : Nat} {n : Nod} (h : splitT t (i : Int) = some u) (hn : t.ns[i]? = some n) : contT u = (leavesT t).flatMap fun j => if j = i then [(n.l.take (n.l.length / 2), 0), (n.l.drop (n.l.length / 2), 0)] else [ct (t.ns.getD j default)] := by
  obtain ⟨s, i', n', hs, e, hi, hn', hr, h2, hm, rfl⟩ := split_yes h
  obtain rfl : i = i' := by omega
  rw [hn] at hn'
  cases hn'
  rw [cont_plain (by rw [hm]; rfl), cont_eq hm, leavesT_eq hs, splitRaw_eq]
  unfold contS
  rw [split_leaves, List.map_flatMap]
  refine flat_ext fun j hj => ?_
  have hjl : j < t.ns.length := (good_of hs).lt j (leaves_places j hj)
  split
  · simp only [List.map_cons, List.map_nil]
    show [ct ((spNs t.ns i n).getD t.ns.length default), ct ((spNs t.ns i n).getD (t.ns.length + 1) default)] = _
    rw [getD_of sp_a, getD_of sp_b]
    rfl
  · rename_i hne
    obtain ⟨m, hm2⟩ := get_of_lt hjl
    have := sp_old (n := n) hjl hne
    rw [hm2] at this
    simp only [List.map_cons, List.map_nil]
    show [ct ((spNs t.ns i n).getD j default)] = _
    rw [getD_of this, getD_of hm2]
/-- What is bent, unless it is joined: the leaf alone is another one, or two. -/
theorem cont_bend {t : PT} {s : Sh} {p : Pol} {i : Nat} {n : Nod} (hs : mayT t = some s) (hi : i ∈ leavesT t) (hn : t.ns[i]? = some n) (h2 : (bendT t p (i : Int)).2 ≠ 2) :
    ∃ X : List (List Pr × Int), contT (bendT t p (i : Int)).1 = (leavesT t).flatMap (fun j => if j = i then X else [ct (t.ns.getD j default)]) ∧ (∀ c ∈ X, c = ct n ∨ c.2 = 0) := by
  rw [bend_eq (leaf_of_leaves hi) hn] at h2 ⊢
  split
  · rename_i h
    obtain ⟨u, hu⟩ := Option.isSome_iff_exists.1 h.2
    refine ⟨[(n.l.take (n.l.length / 2), 0), (n.l.drop (n.l.length / 2), 0)], ?_, fun c hc => ?_⟩
    · show contT (optD (splitT t (i : Int))) = _
      rw [hu]
      exact cont_split hu hn
    · simp at hc
      rcases hc with rfl | rfl <;> exact .inr rfl
  · rename_i h
    rw [if_neg h] at h2
    split
    · rename_i h9
      rw [if_pos h9] at h2
      exact absurd rfl h2
    · refine ⟨[ct n], ?_, fun c hc => .inl (List.mem_singleton.1 hc)⟩
      show contT (plainD t) = _
      rw [cont_plain (by rw [hs]; rfl), contT, ← flat_id]
      refine flat_ext fun j hj => ?_
      split
      · rename_i e; rw [e, getD_of hn]
      · rfl
theorem bend_less {t : PT} {s : Sh} {p : Pol} {i : Nat} {n : Nod} (hs : mayT t = some s) (hi : i ∈ leavesT t) (hn : t.ns[i]? = some n) (h : (leavesT t).length ≤ (leavesT (bendT t p (i : Int)).1).length) : (bendT t p (i : Int)).2 ≠ 2 := fun e => by
  obtain ⟨_, h2, _⟩ := bend_keeps (p := p) hs hi hn
  rw [e] at h2
  simp [byT] at h2
  omega
theorem set_other {t : PT} {i j : Nat} {n' : Nod} (h : j ≠ i) : ct ((⟨t.root, t.ns.set i n'⟩ : PT).ns.getD j default) = ct (t.ns.getD j default) := by
  show ct ((t.ns.set i n').getD j default) = _
  rw [List.getD_eq_getElem?_getD, List.getD_eq_getElem?_getD, List.getElem?_set_ne (fun e => h e.symm)]
theorem sev_other {t : PT} {s : Sh} {p : Pol} {l : List Nat} (hs : mayT t = some s) (hl : ∀ a ∈ l, a ∈ leavesT t) {j : Nat} (hj : j ∉ l) : ct ((l.foldl (setSt p) t).ns.getD j default) = ct (t.ns.getD j default) := by
  induction l generalizing t with
  | nil => rfl
  | cons a l ih =>
    obtain ⟨n, _, _, _, e, h1, h2, h3⟩ := sev_step (p := p) hs (hl a (by simp))
    rw [List.foldl_cons, ih h1 (fun b hb => by rw [h2]; exact hl b (by simp [hb])) (fun h => hj (by simp [h])), e]
    exact set_other fun h => hj (by simp [h])
theorem local_law {t : PT} {s : Sh} {p : Pol} {o : OpS} (hs : mayT t = some s) (hm : mayO o = true) (hle : (leavesT t).length ≤ (leavesT (treeT t p o)).length) :
    ∃ f : Nat → List (List Pr × Int), contT (treeT t p o) = (leavesT t).flatMap f ∧ ∀ j ∈ leavesT t, j ∉ touchT t o → f j = [ct (t.ns.getD j default)] := by
  cases hu : updO o
  · by_cases h1 : 1 < (touchT t o).length
    · rw [tree_sev hu h1] at hle ⊢
      have hsub := touch_sub (o := o) hs
      obtain ⟨h2, h3, h4⟩ := sev_fold (p := p) hs hsub
      have h0 : (touchT t o).headD 0 ∈ touchT t o := by
        cases hh : touchT t o with
        | nil => rw [hh] at h1; simp at h1
        | cons a l => simp
      have hmem : (touchT t o).headD 0 ∈ leavesT ((touchT t o).foldl (setSt p) t) := by rw [h3]; exact hsub _ h0
      obtain ⟨n, hn⟩ := get_of_lt (leavesT_lt hmem)
      unfold sevT at hle ⊢
      have hd := bend_less (p := p) h2 hmem hn (by rw [h3]; exact hle)
      obtain ⟨X, hX, _⟩ := cont_bend h2 hmem hn hd
      rw [h3] at hX
      refine ⟨_, hX, fun j hj hjt => ?_⟩
      rw [if_neg (fun e => hjt (by rw [e]; exact h0)), sev_other hs hsub hjt]
    · rw [tree_same hu h1]
      exact ⟨fun j => [ct (t.ns.getD j default)], by rw [flat_id]; rfl, fun _ _ _ => rfl⟩
  · rw [tree_upd hu] at hle ⊢
    have hk : o.kind ≤ 4 := by simp only [updO, Bool.or_eq_true, decide_eq_true_eq] at hu; omega
    have ht := touch_one (by rw [hs]; rfl) hm hk
    obtain ⟨n, hn⟩ := get_of_lt (find_lt hs o.key)
    obtain ⟨h1, h2, h3, h4, h5, h6, h7⟩ := upd_set (st := nextS p n.stat 2) hs hm hu rfl hn (next_bd p n.stat 2).1 (next_bd p n.stat 2).2
    unfold updT setD at hle ⊢
    rw [getD_of hn, h1] at hle ⊢
    have e : (⟨t.root, t.ns.set (findD t o.key).leaf { n with l := (doT n.l o).1, stat := nextS p n.stat 2 }⟩ : PT).ns[(findD t o.key).leaf]? = some { n with l := (doT n.l o).1, stat := nextS p n.stat 2 } := List.getElem?_set_self (lt_of_get hn)
    have hd := bend_less (p := p) h2 (by rw [h3]; exact h7) e (by rw [h3]; exact hle)
    obtain ⟨X, hX, _⟩ := cont_bend h2 (by rw [h3]; exact h7) e hd
    rw [h3] at hX
    refine ⟨_, hX, fun j hj hjt => ?_⟩
    have hne : j ≠ (findD t o.key).leaf := fun e9 => hjt (by rw [ht, e9]; simp)
    rw [if_neg hne]
    exact congrArg (fun c => [c]) (set_other hne)
end Go.Proofs.Ytmkodknmknfdkaa
set_option linter.unusedVariables false
set_option linter.unusedSimpArgs false
namespace Go.Proofs.Ytmkodknmknfdkaa
open E
def posn {β : Type} (f : Nat → List β) (L : List Nat) (a : Nat) : Nat := ((L.take a).flatMap f).length
theorem posn_step {β : Type} {f : Nat → List β} {L : List Nat} {a i : Nat} (h : L[a]? = some i) : posn f L (a + 1) = posn f L a + (f i).length := by
  unfold posn
  rw [List.take_succ_eq_append_getElem (lt_of_get h), List.flatMap_append, List.length_append, (List.getElem?_eq_some_iff.1 h).2]
  simp
theorem posn_get {β : Type} {f : Nat → List β} {L : List Nat} {a i : Nat} {c : β} (h : L[a]? = some i) (hf : f i = [c]) : (L.flatMap f)[posn f L a]? = some c := by
  have e : L = L.take a ++ i :: L.drop (a + 1) := by
    rw [← (List.getElem?_eq_some_iff.1 h).2, List.getElem_cons_drop, List.take_append_drop]
  have e2 : L.flatMap f = (L.take a).flatMap f ++ (f i ++ (L.drop (a + 1)).flatMap f) := by
    conv => lhs; rw [e]
    rw [List.flatMap_append, List.flatMap_cons]
  rw [e2, hf]
  unfold posn
  rw [List.getElem?_append_right (Nat.le_refl _)]
  simp
theorem cont_get {t : PT} {k j : Nat} {n : Nod} (hj : (leavesT t)[k]? = some j) (hn : t.ns[j]? = some n) : (contT t)[k]? = some (ct n) := by
  unfold contT
  rw [List.getElem?_map, hj, Option.map_some, getD_of hn]
def mapK (L : List Nat) (k : Nat) : Int → Option Int := fun x => if (L.take k).any (fun a => decide ((a : Int) = x)) then some 1 else none
theorem mapK_zero (L : List Nat) : mapK L 0 = fun _ => none := by funext x; simp [mapK]
theorem mapK_step {L : List Nat} {k a : Nat} (h : L[k]? = some a) : mupd (mapK L k) (a : Int) 1 = mapK L (k + 1) := by
  funext x
  unfold mupd mapK
  rw [List.take_succ_eq_append_getElem (lt_of_get h), (List.getElem?_eq_some_iff.1 h).2]
  simp only [List.any_append, List.any_cons, List.any_nil, Bool.or_false]
  by_cases e : x = (a : Int)
  · rw [if_pos e, e]; simp
  · have : ¬ (a : Int) = x := fun h => e h.symm
    rw [if_neg e, decide_eq_false this, Bool.or_false]
theorem mapK_not {L : List Nat} {k i : Nat} (hk : L.length ≤ k) (h : (mapK L k (i : Int)).getD 0 = 0) : i ∉ L := fun hi => by
  have : (L.take k).any (fun a => decide ((a : Int) = (i : Int))) = true := by
    rw [List.take_of_length_le hk]
    exact List.any_eq_true.2 ⟨i, hi, by simp⟩
  unfold mapK at h
  rw [if_pos this] at h
  simp at h
end Go.Proofs.Ytmkodknmknfdkaa
set_option linter.unusedVariables false
set_option linter.unusedSimpArgs false
namespace Go.Proofs.Ytmkodknmknfdkaa
open E
set_option maxRecDepth 4000
theorem en55 : Enters Try.prog 55 := Enters.mk' Try.func55 rfl rfl
set_option maxHeartbeats 2000000 in
theorem local16 (t : Tr) (hz : ∀ n ∈ t.ns.l, n.ps.l.length ≤ 8796093022208) (p : Pol) (o : OpS) : Con Try.prog 16 [t.val, p.val, o.val] [ndsP t.ns, psP t.ns.l] [] (fun v Γ M => v = .bool true ∧ Γ = [] ∧ M = []) := by
  refine Con.body 158 Try.func16 rfl Try.ntmps16 rfl fun X H₀ L₀ => ?_
  refine At.seq ?_
  refine At.region ?_
  refine At.loud (l_box rfl) rfl ?_
  rintro _ _ _ ⟨b1, rfl, rfl, rfl⟩
  refine At.loud (l_box rfl) rfl ?_
  rintro _ _ _ ⟨b2, rfl, rfl, rfl⟩
  refine At.freeze 0 (φ := blk b2 _) rfl (fun _ h => blk_def.2 ⟨_, _, h⟩) ?_
  refine At.loud (l_box rfl) rfl ?_
  rintro _ _ _ ⟨b3, rfl, rfl, rfl⟩
  refine At.freeze 0 (φ := blk b3 _) rfl (fun _ h => blk_def.2 ⟨_, _, h⟩) ?_
  refine At.skim 1 rfl rfl ?_
  refine At.nil ?_
  refine At.then ?_
  refine At.seq ?_
  refine At.seq ?_
  refine At.region ?_
  refine At.quiet (q_loadS t24 rfl (RdS.loc (i := 0) rfl (m := 2) rfl) rfl) rfl ?_
  refine At.call en20 rfl (light20 _ (by assumption)) (fun _ h => ⟨h.2.2.2.1, trivial⟩) (List.Perm.refl _) rfl ?_
  rintro _ _ _ ⟨rfl, rfl, rfl⟩
  refine At.skim 2 rfl rfl ?_
  refine At.splitP (d := 20) rfl (fun hlg => ?_) (fun hlg => ?_)
  · skip
    refine At.skim 15 rfl rfl ?_
    refine At.nil ?_
    refine At.then ?_
    refine At.condT rfl ?_
    refine At.seq ?_
    refine At.region ?_
    refine At.call en55 rfl (awake55) (fun _ _ => trivial) (List.Perm.refl _) rfl ?_
    rintro _ _ _ ⟨rfl, rfl, rfl⟩
    refine At.skim 1 rfl rfl ?_
    refine At.nil ?_
    refine At.then ?_
    refine At.ret ?_
    refine At.thenRet ?_
    exact At.results (Γr := []) (M := []) rfl (RVals.cons (RVal.tmp rfl) RVals.nil) (.tail _ (.tail _ (.head _))) (fun _ _ => trivial) (.cons _ (.refl _)) ⟨rfl, rfl, rfl⟩
  · skip
    have hli : lightT t.p = true := light_yes hlg
    obtain ⟨h450, hsm, hp2000⟩ := small_of_light hli
    have hN : t.p.ns.length = t.ns.l.length := by simp [Tr.p]
    have hal := all_len2 hp2000
    refine At.open rfl rfl ?_
    refine At.quiet (q_loadS t24 rfl (RdS.loc (i := 0) rfl (m := 2) rfl) rfl) rfl ?_
    refine At.open rfl rfl ?_
    refine At.call en21 rfl (may21 _) (fun _ h => ⟨h.2.2.2.1, h.2.2.2.2.1, trivial⟩) (List.Perm.refl _) rfl ?_
    rintro _ _ _ ⟨rfl, rfl, rfl⟩
    refine At.skim 3 rfl rfl ?_
    refine At.split (d := 25) rfl (fun hmy => ?_) (fun hmy => ?_)
    · skip
      refine At.skim 10 rfl rfl ?_
      refine At.nil ?_
      refine At.then ?_
      refine At.condT rfl ?_
      refine At.seq ?_
      refine At.region ?_
      refine At.call en55 rfl (awake55) (fun _ _ => trivial) (List.Perm.refl _) rfl ?_
      rintro _ _ _ ⟨rfl, rfl, rfl⟩
      refine At.skim 1 rfl rfl ?_
      refine At.nil ?_
      refine At.then ?_
      refine At.ret ?_
      refine At.thenRet ?_
      exact At.results (Γr := []) (M := []) rfl (RVals.cons (RVal.tmp rfl) RVals.nil) (.tail _ (.tail _ (.head _))) (fun _ _ => trivial) (.cons _ (.refl _)) ⟨rfl, rfl, rfl⟩
    · skip
      have hmt := not_f hmy
      refine At.open rfl rfl ?_
      refine At.quiet (q_loadS t24 rfl (RdS.loc (i := 0) rfl (m := 2) rfl) rfl) rfl ?_
      refine At.open rfl rfl ?_
      refine At.quiet (q_loadS t24 rfl (RdS.loc (i := 0) rfl (m := 2) rfl) rfl) rfl ?_
      refine At.open rfl rfl ?_
      refine At.call en22 rfl (same22 t t hsm hsm) (fun _ h => ⟨h.2.2.2.1, h.2.2.2.2.1, h.2.2.2.1, h.2.2.2.2.1, trivial⟩) (List.Perm.refl _) rfl ?_
      rintro _ _ _ ⟨rfl, rfl, rfl⟩
      refine At.skim 3 rfl rfl ?_
      refine At.say 31 (.bool false) rfl (congrArg Value.bool (by rw [same_self, hmt]; rfl)) ?_
      refine At.open rfl rfl ?_
      refine At.quiet (q_loadS t77 rfl (RdS.blk (.head _) (m := 4) rfl) rfl) rfl ?_
      refine At.open rfl rfl ?_
      refine At.call en64 rfl (mayop64 _) (fun _ _ => trivial) (List.Perm.refl _) rfl ?_
      rintro _ _ _ ⟨rfl, rfl, rfl⟩
      refine At.skim 2 rfl rfl ?_
      refine At.nil ?_
      refine At.then ?_
      refine At.cond rfl (fun ho => ?_) (fun ho => ?_)
      · skip
        refine At.seq ?_
        refine At.region ?_
        refine At.call en55 rfl (awake55) (fun _ _ => trivial) (List.Perm.refl _) rfl ?_
        rintro _ _ _ ⟨rfl, rfl, rfl⟩
        refine At.skim 1 rfl rfl ?_
        refine At.nil ?_
        refine At.then ?_
        refine At.ret ?_
        refine At.thenRet ?_
        exact At.results (Γr := []) (M := []) rfl (RVals.cons (RVal.tmp rfl) RVals.nil) (.tail _ (.tail _ (.head _))) (fun _ _ => trivial) (.cons _ (.refl _)) ⟨rfl, rfl, rfl⟩
      · skip
        have hmo : mayO o = true := not_f ho
        refine At.skip ?_
        refine At.then ?_
        refine At.seq ?_
        refine At.region ?_
        refine At.quiet (q_loadS t24 rfl (RdS.loc (i := 0) rfl (m := 2) rfl) rfl) rfl ?_
        refine At.call en38 rfl (plain38 _ (by assumption)) (fun _ h => ⟨h.2.2.2.1, h.2.2.2.2.1, trivial⟩) (List.Perm.refl _) rfl ?_
        rintro _ _ _ ⟨w, Mw, rfl, rfl, rfl, hw, hpw⟩
        refine At.skim 1 rfl rfl ?_
        refine At.quiet (q_extract rfl rfl) rfl ?_
        refine At.quiet (q_extract rfl rfl) rfl ?_
        refine At.loudN (l_store t24 rfl rfl (i := 1) rfl rfl rfl rfl) ?_
        rintro _ _ _ ⟨rfl, rfl⟩
        refine At.nil ?_
        refine At.then ?_
        refine At.seq ?_
        refine At.region ?_
        refine At.freezeOwn 0 hw rfl ?_
        obtain ⟨hwm, _, hk3, hk4⟩ := plain_keeps hmt
        rw [← hpw] at hwm hk3 hk4
        obtain ⟨s, hs⟩ := Option.isSome_iff_exists.1 hwm
        have hws : smallP w.ns.l := small_all (b := 2000) hwm (by rw [hk3]; exact hal) (by omega)
        refine At.loud (l_makeMap) rfl ?_
        rintro _ _ _ ⟨bm, mp, rfl, hM0, rfl, rfl⟩
        refine At.skim 1 rfl rfl ?_
        refine At.nil ?_
        refine At.then ?_
        refine At.seq ?_
        refine At.seq ?_
        refine At.region ?_
        refine At.quiet (q_loadS t24 rfl (RdS.loc (i := 1) rfl (m := 2) rfl) rfl) rfl ?_
        refine At.quiet (q_loadS t77 rfl (RdS.blk (.tail _ (.tail _ (.head _))) (m := 4) rfl) rfl) rfl ?_
        refine At.call en61 rfl (touched61 w o) (fun _ h => ⟨h.1, h.2.1, trivial⟩) (List.Perm.refl _) rfl ?_
        rintro _ _ _ ⟨tl, rfl, rfl, rfl, htl⟩
        have htll : tl.l.length = (touchT w.p o).length := by rw [htl, toI_length]
        refine At.lenOf (hs := (.head _)) fun htl9 => ?_
        rw [List.length_map] at htl9
        refine At.quiet (q_len Try.underlying37 rfl) rfl ?_
        refine At.skim 1 rfl rfl ?_
        refine At.nil ?_
        refine At.then ?_
        refine At.block ?_
        refine At.loopK (ι := Nat × Seg) [9, 47, 48, 49, 50, 51, 52, 53] (fun ⟨k, M⟩ => [(47, .int .i64 (k : Int))]) (fun ⟨k, M⟩ => []) (fun ⟨k, M⟩ => [M]) _ (fun ⟨k, M⟩ => k ≤ tl.l.length ∧ OwnMap (mapK (touchT w.p o) k) bm M) (fun ⟨k, M⟩ => tl.l.length - k) (0, mp) ⟨Nat.zero_le _, by rw [mapK_zero]; exact hM0⟩ ⟨rfl, trivial⟩ (fun _ _ => trivial) (.cons_cons _ (.refl _)) ?_
        intro i1 hI1
        obtain ⟨k, M⟩ := i1
        obtain ⟨hkN, hM⟩ := hI1
        refine At.seq ?_
        refine At.region ?_
        refine At.skim 1 rfl rfl ?_
        refine At.nil ?_
        refine At.then ?_
        refine At.seq ?_
        refine At.if rfl (fun hk => ?_) (fun hk => ?_)
        · skip
          obtain ⟨a, ha⟩ := get_of_lt (l := touchT w.p o) (i := k) (by omega)
          have hk1 : k + 1 ≤ tl.l.length := by omega
          have hui : tl.l[k]? = some (a : Int) := by rw [htl]; exact toI_get ha
          refine At.skip ?_
          refine At.then ?_
          refine At.seq ?_
          refine At.block ?_
          refine At.seq ?_
          refine At.region ?_
          refine At.quiet (q_index Try.underlying37 t3 rfl (.head _) (by simp) rfl rfl (lt_of_get hui)) rfl ?_
          refine At.quiet (q_load t3 rfl (Rd.sl0 (.head _) (map_get hui) rfl)) rfl ?_
          refine At.skim 1 rfl rfl ?_
          refine At.nil ?_
          refine At.then ?_
          refine At.region ?_
          refine At.skim 2 rfl rfl ?_
          refine At.loudN (l_mapUpdate Try.underlying70 Try.underlying3 rfl rfl rfl hM (i := 0) rfl) ?_
          rintro _ _ _ ⟨Mmp1, mp1, rfl, rfl⟩
          refine At.nil ?_
          refine At.inNormal ?_
          refine At.then ?_
          refine At.region ?_
          have hM2 : OwnMap (mapK (touchT w.p o) (k + 1)) bm Mmp1 := by rw [← mapK_step ha]; exact mp1
          refine At.quiet (q_add rfl rfl (by omega) (by omega)) rfl ?_
          refine At.skim 1 rfl rfl ?_
          refine At.nil ?_
          refine At.then ?_
          exact At.againK (k + 1, _) ⟨hk1, hM2⟩ (by (try dsimp only); omega) (Tells.end 9 ⟨rfl, trivial⟩ rfl rfl) (fun _ h => h) (.cons_cons _ (.refl _))
        · skip
          have hM9 : OwnMap (mapK (touchT w.p o) (touchT w.p o).length) bm M := by rw [show (touchT w.p o).length = k by omega]; exact hM
          refine At.exit ?_
          refine At.thenExit ?_
          refine At.thenExit ?_
          refine At.inHere rfl ?_
          refine At.then ?_
          refine At.seq ?_
          refine At.region ?_
          refine At.quiet (q_loadS t24 rfl (RdS.loc (i := 1) rfl (m := 2) rfl) rfl) rfl ?_
          refine At.quiet (q_loadS t64 rfl (RdS.blk (.tail _ (.tail _ (.tail _ (.tail _ (.head _))))) (m := 5) rfl) rfl) rfl ?_
          refine At.quiet (q_loadS t77 rfl (RdS.blk (.tail _ (.tail _ (.tail _ (.head _)))) (m := 4) rfl) rfl) rfl ?_
          refine At.call en57 rfl (solo57 w hws p o (by rw [hk3]; omega)) (fun _ h => ⟨h.2.1, h.2.2.1, trivial⟩) (List.Perm.refl _) rfl ?_
          rintro _ _ _ ⟨u, s2, rfl, rfl, rfl, hpu, hs2⟩
          refine At.skim 1 rfl rfl ?_
          refine At.quiet (q_extract rfl rfl) rfl ?_
          refine At.quiet (q_extract rfl rfl) rfl ?_
          refine At.loud (l_alloc t24) rfl ?_
          rintro _ _ _ ⟨b4, rfl, rfl, rfl⟩
          refine At.loud (l_alloc t80) rfl ?_
          rintro _ _ _ ⟨b5, rfl, rfl, rfl⟩
          refine At.loudN (l_store t24 rfl rfl (i := 1) rfl rfl rfl rfl) ?_
          rintro _ _ _ ⟨rfl, rfl⟩
          refine At.loudN (l_store t80 rfl rfl (i := 0) rfl rfl rfl rfl) ?_
          rintro _ _ _ ⟨rfl, rfl⟩
          refine At.nil ?_
          refine At.then ?_
          refine At.seq ?_
          have hpu2 : u.p = treeT w.p p o := by rw [hpu, solo_plain hwm hmo, hk4]
          refine At.draw 3 (.q 0 (.q 2 (.o 1 (.e)))) _ (List.Sublist.refl _) mixed (by kernel_rfl) rfl ?_
          refine AtO.quiet rfl (q_loadS t24 rfl (RdS.loc (i := 3) rfl (m := 2) rfl) rfl) rfl (Calm.then Post.calm) ?_
          refine AtO.quiet rfl (q_loadS t24 rfl (RdS.loc (i := 1) rfl (m := 2) rfl) rfl) rfl (Calm.then Post.calm) ?_
          refine AtO.callA rfl en28 rfl (leaves28f w) (fun _ h => ⟨h.2.2.2.2.1, h.2.2.2.2.2.1, trivial⟩) (List.Perm.refl _) rfl (.refl _) ?_
          rintro _ _ _ ⟨bf, rfl, rfl, rfl, hpbf⟩
          refine AtO.done ?_
          refine At.call en28 rfl (leaves28f u) (fun _ h => ⟨h.2.1, h.2.2.1, trivial⟩) (List.Perm.refl _) rfl ?_
          rintro _ _ _ ⟨af, rfl, rfl, rfl, hpaf⟩
          refine At.lenOf (hs := (.tail _ (.head _))) fun hbf9 => ?_
          rw [List.length_map] at hbf9
          refine At.lenOf (hs := (.head _)) fun haf9 => ?_
          rw [List.length_map] at haf9
          refine At.skim 2 rfl rfl ?_
          refine At.nil ?_
          refine At.then ?_
          refine At.seq ?_
          refine At.seq ?_
          refine At.region ?_
          have hbl : bf.l.length = (leavesT w.p).length := by rw [hpbf, toI_length]
          have hal2 : af.l.length = (leavesT u.p).length := by rw [hpaf, toI_length]
          refine At.skim 1 rfl rfl ?_
          refine At.quiet (q_len Try.underlying37 rfl) rfl ?_
          refine At.skim 1 rfl rfl ?_
          refine At.quiet (q_len Try.underlying37 rfl) rfl ?_
          refine At.skim 1 rfl rfl ?_
          refine At.nil ?_
          refine At.then ?_
          refine At.if rfl (fun hlt => ?_) (fun hlt => ?_)
          · skip
            refine At.seq ?_
            refine At.region ?_
            refine At.call en55 rfl (awake55) (fun _ _ => trivial) (List.Perm.refl _) rfl ?_
            rintro _ _ _ ⟨rfl, rfl, rfl⟩
            refine At.skim 1 rfl rfl ?_
            refine At.nil ?_
            refine At.then ?_
            refine At.ret ?_
            refine At.thenRet ?_
            exact At.results (Γr := []) (M := []) rfl (RVals.cons (RVal.tmp rfl) RVals.nil) (.tail _ (.tail _ (.tail _ (.tail _ (.tail _ (.tail _ (.tail _ (.tail _ (.tail _ (.tail _ (.head _))))))))))) (fun _ _ => trivial) (.cons _ (.cons _ (.cons _ (.cons _ (.refl _))))) ⟨rfl, rfl, rfl⟩
          · skip
            obtain ⟨f, hf1, hf2⟩ := local_law (p := p) hs hmo (by rw [← hpu2]; omega)
            rw [← hpu2] at hf1
            refine At.skip ?_
            refine At.then ?_
            refine At.seq ?_
            refine At.region ?_
            refine At.skim 1 rfl rfl ?_
            refine At.nil ?_
            refine At.then ?_
            refine At.seq ?_
            refine At.seq ?_
            refine At.region ?_
            refine At.skim 1 rfl rfl ?_
            refine At.quiet (q_len Try.underlying37 rfl) rfl ?_
            refine At.skim 1 rfl rfl ?_
            refine At.nil ?_
            refine At.then ?_
            refine At.block ?_
            refine At.loopK (ι := Nat × Nat) [6, 14, 16, 73, 74, 75, 76, 77, 78, 79, 80, 81, 82, 83, 84, 85, 86, 87, 88, 89, 90, 91, 92, 93, 94, 95, 96, 97, 98, 99, 100, 101, 102, 103, 104, 105, 106, 107, 108, 109, 110, 111, 112, 113, 114, 115, 116, 117, 118, 119, 120, 121, 122, 123, 124, 125, 126, 127, 128, 129, 130, 131, 132, 133, 134, 135, 136, 137, 138, 139, 140, 141, 142, 143, 144, 145, 146, 147, 148, 149, 150, 151, 152, 153, 154, 155, 156] (fun ⟨a, k⟩ => [(73, .int .i64 (a : Int)), (14, .int .i64 (k : Int))]) (fun ⟨a, k⟩ => []) (fun ⟨a, k⟩ => []) _ (fun ⟨a, k⟩ => a ≤ bf.l.length ∧ k ≤ posn f (leavesT w.p) a) (fun ⟨a, k⟩ => bf.l.length - a) (0, 0) ⟨Nat.zero_le _, Nat.zero_le _⟩ ⟨rfl, rfl, trivial⟩ (fun _ _ => trivial) (.refl _) ?_
            intro i0 hI0
            obtain ⟨a, k⟩ := i0
            obtain ⟨hab, hkp⟩ := hI0
            refine At.seq ?_
            refine At.region ?_
            refine At.skim 1 rfl rfl ?_
            refine At.nil ?_
            refine At.then ?_
            refine At.seq ?_
            refine At.if rfl (fun hka => ?_) (fun hka => ?_)
            · skip
              obtain ⟨i, ha⟩ := get_of_lt (l := leavesT w.p) (i := a) (by omega)
              have ha1 : a + 1 ≤ bf.l.length := by omega
              have hbi : bf.l[a]? = some (i : Int) := by rw [hpbf]; exact toI_get ha
              have him := List.mem_of_getElem? ha
              have hil := leavesT_lt him
              have hil2 : i < w.ns.l.length := by simpa [Tr.p] using hil
              obtain ⟨x, hx⟩ := get_of_lt hil2
              refine At.skip ?_
              refine At.then ?_
              refine At.seq ?_
              refine At.block ?_
              refine At.seq ?_
              refine At.region ?_
              refine At.quiet (q_index Try.underlying37 t3 rfl (.tail _ (.head _)) (by simp) rfl rfl (lt_of_get hbi)) rfl ?_
              refine At.quiet (q_load t3 rfl (Rd.sl0 (.tail _ (.head _)) (map_get hbi) rfl)) rfl ?_
              refine At.skim 1 rfl rfl ?_
              refine At.nil ?_
              refine At.then ?_
              refine At.seq ?_
              refine At.seq ?_
              refine At.region ?_
              refine At.skim 3 rfl rfl ?_
              refine At.say 79 (.bool false) rfl (congrArg Value.bool (decide_eq_false (by omega))) ?_
              refine At.skim 1 rfl rfl ?_
              refine At.open rfl rfl ?_
              refine At.quiet (q_fieldAddr s24 rfl rfl rfl) rfl ?_
              refine At.open rfl rfl ?_
              refine At.quiet (q_load t22 rfl (Rd.loc (i := 3) rfl rfl)) rfl ?_
              refine At.open rfl rfl ?_
              refine At.quiet (q_len Try.underlying22 rfl) rfl ?_
              refine At.skim 2 rfl rfl ?_
              refine At.nil ?_
              refine At.then ?_
              refine At.say 85 (.bool false) rfl (congrArg Value.bool (decide_eq_false (by omega))) ?_
              refine At.condF rfl ?_
              refine At.skip ?_
              refine At.then ?_
              refine At.seq ?_
              refine At.seq ?_
              refine At.region ?_
              refine At.skim 2 rfl rfl ?_
              refine At.quiet (q_lookup Try.underlying70 Try.underlying3 t3 rfl rfl hM9 (i := 2) rfl) rfl ?_
              refine At.skim 1 rfl rfl ?_
              refine At.nil ?_
              refine At.then ?_
              refine At.if rfl (fun hhit => ?_) (fun hhit => ?_)
              · skip
                refine At.exit ?_
                refine At.thenExit ?_
                refine At.inHere rfl ?_
                refine At.then ?_
                refine At.region ?_
                refine At.quiet (q_add rfl rfl (by omega) (by omega)) rfl ?_
                refine At.skim 1 rfl rfl ?_
                refine At.nil ?_
                refine At.then ?_
                exact At.againK (a + 1, k) ⟨ha1, by rw [posn_step ha]; omega⟩ (by (try dsimp only); omega) (Tells.end 23 ⟨rfl, rfl, trivial⟩ rfl rfl) (fun _ h => h) (.refl _)
              · skip
                have hni : i ∉ touchT w.p o := mapK_not (Nat.le_refl _) (by omega)
                have hfi := hf2 i him hni
                rw [show w.p.ns.getD i default = x.p from getD_of (map_get hx)] at hfi
                have hcx : (contT u.p)[posn f (leavesT w.p) a]? = some (ct x.p) := by rw [hf1]; exact posn_get ha hfi
                have hpl := lt_of_get hcx
                rw [cont_len] at hpl
                refine At.know (prsP x.ps) (fun _ h => psP_get h.2.2.2.2.2.2.2.1 hx) ?_
                refine At.skip ?_
                refine At.then ?_
                refine At.seq ?_
                refine At.block ?_
                refine At.loopK (ι := Nat) [14, 90, 91, 92, 93, 94, 95, 96, 97, 98, 99, 100, 101, 102, 103, 104, 105, 106, 107, 108, 109, 110, 111, 112, 113, 114, 115, 116, 117, 118, 119, 120, 121, 122, 123, 124, 125, 126, 127, 128, 129, 130, 131, 132, 133, 134, 135, 136, 137, 138, 139, 140, 141, 142, 143, 144, 145, 146, 147, 148, 149] (fun k2 => [(14, .int .i64 (k2 : Int))]) (fun k2 => []) (fun k2 => []) _ (fun k2 => k2 ≤ posn f (leavesT w.p) a) (fun k2 => posn f (leavesT w.p) a - k2) k hkp ⟨rfl, trivial⟩ (fun _ _ => trivial) (.refl _) ?_
                intro k2 hk2
                obtain ⟨j, hj⟩ := get_of_lt (l := leavesT u.p) (i := k2) (by omega)
                have haj : af.l[k2]? = some (j : Int) := by rw [hpaf]; exact toI_get hj
                have hjl := leavesT_lt (List.mem_of_getElem? hj)
                have hjl2 : j < u.ns.l.length := by simpa [Tr.p] using hjl
                obtain ⟨y, hy⟩ := get_of_lt hjl2
                have hcy : (contT u.p)[k2]? = some (ct y.p) := cont_get hj (map_get hy)
                refine At.know (prsP y.ps) (fun _ h => psP_get h.2.2.2.2.1 hy) ?_
                refine At.seq ?_
                refine At.seq ?_
                refine At.draw 54 (.q 0 (.q 1 (.q 2 (.q 3 (.q 4 (.q 5 (.q 6 (.q 7 (.q 8 (.q 9 (.q 10 (.q 11 (.q 12 (.q 13 (.q 14 (.q 15 (.q 16 (.q 17 (.q 18 (.q 19 (.q 20 (.q 21 (.q 22 (.q 23 (.q 24 (.q 25 (.q 26 (.q 27 (.q 28 (.q 29 (.q 30 (.q 31 (.q 32 (.q 33 (.q 34 (.q 35 (.q 36 (.q 37 (.q 38 (.q 39 (.q 40 (.q 41 (.q 42 (.q 43 (.q 44 (.q 45 (.q 46 (.q 47 (.q 48 (.q 49 (.q 50 (.q 51 (.q 52 (.q 53 (.e))))))))))))))))))))))))))))))))))))))))))))))))))))))) _ (List.Sublist.refl _) mixed (by kernel_rfl) rfl ?_
                refine AtO.quiet rfl (q_move rfl) rfl (Calm.then (Calm.then (Calm.then (Calm.inBlock (Calm.then (Calm.inBlock (Calm.then (Calm.then (Calm.inBlock (Calm.then Post.calm)))))))))) ?_
                refine AtO.quiet rfl (q_move rfl) rfl (Calm.then (Calm.then (Calm.then (Calm.inBlock (Calm.then (Calm.inBlock (Calm.then (Calm.then (Calm.inBlock (Calm.then Post.calm)))))))))) ?_
                refine AtO.quiet rfl (q_len Try.underlying37 rfl) rfl (Calm.then (Calm.then (Calm.then (Calm.inBlock (Calm.then (Calm.inBlock (Calm.then (Calm.then (Calm.inBlock (Calm.then Post.calm)))))))))) ?_
                refine AtO.quiet rfl (q_lss rfl rfl) rfl (Calm.then (Calm.then (Calm.then (Calm.inBlock (Calm.then (Calm.inBlock (Calm.then (Calm.then (Calm.inBlock (Calm.then Post.calm)))))))))) ?_
                refine AtO.quiet rfl (q_move rfl) rfl (Calm.then (Calm.then (Calm.then (Calm.inBlock (Calm.then (Calm.inBlock (Calm.then (Calm.then (Calm.inBlock (Calm.then Post.calm)))))))))) ?_
                refine AtO.say 94 (.bool true) rfl (congrArg Value.bool (decide_eq_true (by omega))) ?_
                refine AtO.quietG rfl rfl rfl (q_move rfl) rfl (Calm.then (Calm.then (Calm.then (Calm.inBlock (Calm.then (Calm.inBlock (Calm.then (Calm.then (Calm.inBlock (Calm.then Post.calm)))))))))) ?_
                refine AtO.quietG rfl rfl rfl (q_move rfl) rfl (Calm.then (Calm.then (Calm.then (Calm.inBlock (Calm.then (Calm.inBlock (Calm.then (Calm.then (Calm.inBlock (Calm.then Post.calm)))))))))) ?_
                refine AtO.quietG rfl rfl rfl (q_index Try.underlying37 t3 rfl (.tail _ (.tail _ (.head _))) (by simp) rfl rfl (lt_of_get haj)) rfl (Calm.then (Calm.then (Calm.then (Calm.inBlock (Calm.then (Calm.inBlock (Calm.then (Calm.then (Calm.inBlock (Calm.then Post.calm)))))))))) ?_
                refine AtO.quietG rfl rfl rfl (q_load t3 rfl (Rd.sl0 (.tail _ (.tail _ (.head _))) (map_get haj) rfl)) rfl (Calm.then (Calm.then (Calm.then (Calm.inBlock (Calm.then (Calm.inBlock (Calm.then (Calm.then (Calm.inBlock (Calm.then Post.calm)))))))))) ?_
                refine AtO.quietG rfl rfl rfl (q_lss rfl rfl) rfl (Calm.then (Calm.then (Calm.then (Calm.inBlock (Calm.then (Calm.inBlock (Calm.then (Calm.then (Calm.inBlock (Calm.then Post.calm)))))))))) ?_
                refine AtO.quietG rfl rfl rfl (q_move rfl) rfl (Calm.then (Calm.then (Calm.then (Calm.inBlock (Calm.then (Calm.inBlock (Calm.then (Calm.then (Calm.inBlock (Calm.then Post.calm)))))))))) ?_
                refine AtO.say 100 (.bool false) rfl (congrArg Value.bool (decide_eq_false (by omega))) ?_
                refine AtO.quietG rfl rfl rfl (q_move rfl) rfl (Calm.then (Calm.then (Calm.then (Calm.inBlock (Calm.then (Calm.inBlock (Calm.then (Calm.then (Calm.inBlock (Calm.then Post.calm)))))))))) ?_
                refine AtO.quietG rfl rfl rfl (q_move rfl) rfl (Calm.then (Calm.then (Calm.then (Calm.inBlock (Calm.then (Calm.inBlock (Calm.then (Calm.then (Calm.inBlock (Calm.then Post.calm)))))))))) ?_
                refine AtO.quietG rfl rfl rfl (q_index Try.underlying37 t3 rfl (.tail _ (.tail _ (.head _))) (by simp) rfl rfl (lt_of_get haj)) rfl (Calm.then (Calm.then (Calm.then (Calm.inBlock (Calm.then (Calm.inBlock (Calm.then (Calm.then (Calm.inBlock (Calm.then Post.calm)))))))))) ?_
                refine AtO.quietG rfl rfl rfl (q_load t3 rfl (Rd.sl0 (.tail _ (.tail _ (.head _))) (map_get haj) rfl)) rfl (Calm.then (Calm.then (Calm.then (Calm.inBlock (Calm.then (Calm.inBlock (Calm.then (Calm.then (Calm.inBlock (Calm.then Post.calm)))))))))) ?_
                refine AtO.quietG rfl rfl rfl (q_fieldAddr s24 rfl rfl rfl) rfl (Calm.then (Calm.then (Calm.then (Calm.inBlock (Calm.then (Calm.inBlock (Calm.then (Calm.then (Calm.inBlock (Calm.then Post.calm)))))))))) ?_
                refine AtO.quietG rfl rfl rfl (q_load t22 rfl (Rd.loc (i := 1) rfl rfl)) rfl (Calm.then (Calm.then (Calm.then (Calm.inBlock (Calm.then (Calm.inBlock (Calm.then (Calm.then (Calm.inBlock (Calm.then Post.calm)))))))))) ?_
                refine AtO.quietG rfl rfl rfl (q_len Try.underlying22 rfl) rfl (Calm.then (Calm.then (Calm.then (Calm.inBlock (Calm.then (Calm.inBlock (Calm.then (Calm.then (Calm.inBlock (Calm.then Post.calm)))))))))) ?_
                refine AtO.quietG rfl rfl rfl (q_geq rfl rfl) rfl (Calm.then (Calm.then (Calm.then (Calm.inBlock (Calm.then (Calm.inBlock (Calm.then (Calm.then (Calm.inBlock (Calm.then Post.calm)))))))))) ?_
                refine AtO.quietG rfl rfl rfl (q_pickF rfl rfl) rfl (Calm.then (Calm.then (Calm.then (Calm.inBlock (Calm.then (Calm.inBlock (Calm.then (Calm.then (Calm.inBlock (Calm.then Post.calm)))))))))) ?_
                refine AtO.quietG rfl rfl rfl (q_move rfl) rfl (Calm.then (Calm.then (Calm.then (Calm.inBlock (Calm.then (Calm.inBlock (Calm.then (Calm.then (Calm.inBlock (Calm.then Post.calm)))))))))) ?_
                refine AtO.say 110 (.bool false) rfl (congrArg Value.bool (decide_eq_false (by omega))) ?_
                refine AtO.quietG rfl rfl rfl (q_fieldAddr s24 rfl rfl rfl) rfl (Calm.then (Calm.then (Calm.then (Calm.inBlock (Calm.then (Calm.inBlock (Calm.then (Calm.then (Calm.inBlock (Calm.then Post.calm)))))))))) ?_
                refine AtO.quietG rfl rfl rfl (q_load t22 rfl (Rd.loc (i := 1) rfl rfl)) rfl (Calm.then (Calm.then (Calm.then (Calm.inBlock (Calm.then (Calm.inBlock (Calm.then (Calm.then (Calm.inBlock (Calm.then Post.calm)))))))))) ?_
                refine AtO.quietG rfl rfl rfl (q_move rfl) rfl (Calm.then (Calm.then (Calm.then (Calm.inBlock (Calm.then (Calm.inBlock (Calm.then (Calm.then (Calm.inBlock (Calm.then Post.calm)))))))))) ?_
                refine AtO.quietG rfl rfl rfl (q_move rfl) rfl (Calm.then (Calm.then (Calm.then (Calm.inBlock (Calm.then (Calm.inBlock (Calm.then (Calm.then (Calm.inBlock (Calm.then Post.calm)))))))))) ?_
                refine AtO.quietG rfl rfl rfl (q_index Try.underlying37 t3 rfl (.tail _ (.tail _ (.head _))) (by simp) rfl rfl (lt_of_get haj)) rfl (Calm.then (Calm.then (Calm.then (Calm.inBlock (Calm.then (Calm.inBlock (Calm.then (Calm.then (Calm.inBlock (Calm.then Post.calm)))))))))) ?_
                refine AtO.quietG rfl rfl rfl (q_load t3 rfl (Rd.sl0 (.tail _ (.tail _ (.head _))) (map_get haj) rfl)) rfl (Calm.then (Calm.then (Calm.then (Calm.inBlock (Calm.then (Calm.inBlock (Calm.then (Calm.then (Calm.inBlock (Calm.then Post.calm)))))))))) ?_
                refine AtO.quietG rfl rfl rfl (q_index Try.underlying22 t33 rfl (.tail _ (.tail _ (.tail _ (.tail _ (.head _))))) (by simp) rfl rfl (lt_of_get hy)) rfl (Calm.then (Calm.then (Calm.then (Calm.inBlock (Calm.then (Calm.inBlock (Calm.then (Calm.then (Calm.inBlock (Calm.then Post.calm)))))))))) ?_
                refine AtO.quietG rfl rfl rfl (q_fieldAddr s33 rfl rfl rfl) rfl (Calm.then (Calm.then (Calm.then (Calm.inBlock (Calm.then (Calm.inBlock (Calm.then (Calm.then (Calm.inBlock (Calm.then Post.calm)))))))))) ?_
                refine AtO.quietG rfl rfl rfl (q_load t3 rfl (Rd.sl (.tail _ (.tail _ (.tail _ (.tail _ (.head _))))) (map_get hy) rfl)) rfl (Calm.then (Calm.then (Calm.then (Calm.inBlock (Calm.then (Calm.inBlock (Calm.then (Calm.then (Calm.inBlock (Calm.then Post.calm)))))))))) ?_
                refine AtO.quietG rfl rfl rfl (q_fieldAddr s24 rfl rfl rfl) rfl (Calm.then (Calm.then (Calm.then (Calm.inBlock (Calm.then (Calm.inBlock (Calm.then (Calm.then (Calm.inBlock (Calm.then Post.calm)))))))))) ?_
                refine AtO.quietG rfl rfl rfl (q_load t22 rfl (Rd.loc (i := 3) rfl rfl)) rfl (Calm.then (Calm.then (Calm.then (Calm.inBlock (Calm.then (Calm.inBlock (Calm.then (Calm.then (Calm.inBlock (Calm.then Post.calm)))))))))) ?_
                refine AtO.quietG rfl rfl rfl (q_move rfl) rfl (Calm.then (Calm.then (Calm.then (Calm.inBlock (Calm.then (Calm.inBlock (Calm.then (Calm.then (Calm.inBlock (Calm.then Post.calm)))))))))) ?_
                refine AtO.quietG rfl rfl rfl (q_index Try.underlying22 t33 rfl (.tail _ (.tail _ (.tail _ (.tail _ (.tail _ (.tail _ (.tail _ (.tail _ (.head _))))))))) (by simp) rfl rfl (lt_of_get hx)) rfl (Calm.then (Calm.then (Calm.then (Calm.inBlock (Calm.then (Calm.inBlock (Calm.then (Calm.then (Calm.inBlock (Calm.then Post.calm)))))))))) ?_
                refine AtO.quietG rfl rfl rfl (q_fieldAddr s33 rfl rfl rfl) rfl (Calm.then (Calm.then (Calm.then (Calm.inBlock (Calm.then (Calm.inBlock (Calm.then (Calm.then (Calm.inBlock (Calm.then Post.calm)))))))))) ?_
                refine AtO.quietG rfl rfl rfl (q_load t3 rfl (Rd.sl (.tail _ (.tail _ (.tail _ (.tail _ (.tail _ (.tail _ (.tail _ (.tail _ (.head _))))))))) (map_get hx) rfl)) rfl (Calm.then (Calm.then (Calm.then (Calm.inBlock (Calm.then (Calm.inBlock (Calm.then (Calm.then (Calm.inBlock (Calm.then Post.calm)))))))))) ?_
                refine AtO.quietG rfl rfl rfl (q_neq rfl rfl) rfl (Calm.then (Calm.then (Calm.then (Calm.inBlock (Calm.then (Calm.inBlock (Calm.then (Calm.then (Calm.inBlock (Calm.then Post.calm)))))))))) ?_
                refine AtO.quietG rfl rfl rfl (q_pickF rfl rfl) rfl (Calm.then (Calm.then (Calm.then (Calm.inBlock (Calm.then (Calm.inBlock (Calm.then (Calm.then (Calm.inBlock (Calm.then Post.calm)))))))))) ?_
                refine AtO.quietG rfl rfl rfl (q_move rfl) rfl (Calm.then (Calm.then (Calm.then (Calm.inBlock (Calm.then (Calm.inBlock (Calm.then (Calm.then (Calm.inBlock (Calm.then Post.calm)))))))))) ?_
                refine AtO.splitP (d := 128) rfl (fun hst => ?_) (fun hst => ?_)
                · skip
                  have hne : k2 ≠ posn f (leavesT w.p) a := fun e => by rw [e, hcx] at hcy; exact hst (congrArg Prod.snd (Option.some.inj hcy)).symm
                  refine AtO.shut rfl rfl rfl rfl (Calm.then (Calm.then (Calm.then (Calm.inBlock (Calm.then (Calm.inBlock (Calm.then (Calm.then (Calm.inBlock (Calm.then Post.calm)))))))))) ?_
                  refine AtO.shut rfl rfl rfl rfl (Calm.then (Calm.then (Calm.then (Calm.inBlock (Calm.then (Calm.inBlock (Calm.then (Calm.then (Calm.inBlock (Calm.then Post.calm)))))))))) ?_
                  refine AtO.shut rfl rfl rfl rfl (Calm.then (Calm.then (Calm.then (Calm.inBlock (Calm.then (Calm.inBlock (Calm.then (Calm.then (Calm.inBlock (Calm.then Post.calm)))))))))) ?_
                  refine AtO.shut rfl rfl rfl rfl (Calm.then (Calm.then (Calm.then (Calm.inBlock (Calm.then (Calm.inBlock (Calm.then (Calm.then (Calm.inBlock (Calm.then Post.calm)))))))))) ?_
                  refine AtO.shut rfl rfl rfl rfl (Calm.then (Calm.then (Calm.then (Calm.inBlock (Calm.then (Calm.inBlock (Calm.then (Calm.then (Calm.inBlock (Calm.then Post.calm)))))))))) ?_
                  refine AtO.shut rfl rfl rfl rfl (Calm.then (Calm.then (Calm.then (Calm.inBlock (Calm.then (Calm.inBlock (Calm.then (Calm.then (Calm.inBlock (Calm.then Post.calm)))))))))) ?_
                  refine AtO.shut rfl rfl rfl rfl (Calm.then (Calm.then (Calm.then (Calm.inBlock (Calm.then (Calm.inBlock (Calm.then (Calm.then (Calm.inBlock (Calm.then Post.calm)))))))))) ?_
                  refine AtO.shut rfl rfl rfl rfl (Calm.then (Calm.then (Calm.then (Calm.inBlock (Calm.then (Calm.inBlock (Calm.then (Calm.then (Calm.inBlock (Calm.then Post.calm)))))))))) ?_
                  refine AtO.shut rfl rfl rfl rfl (Calm.then (Calm.then (Calm.then (Calm.inBlock (Calm.then (Calm.inBlock (Calm.then (Calm.then (Calm.inBlock (Calm.then Post.calm)))))))))) ?_
                  refine AtO.shut rfl rfl rfl rfl (Calm.then (Calm.then (Calm.then (Calm.inBlock (Calm.then (Calm.inBlock (Calm.then (Calm.then (Calm.inBlock (Calm.then Post.calm)))))))))) ?_
                  refine AtO.shut rfl rfl rfl rfl (Calm.then (Calm.then (Calm.then (Calm.inBlock (Calm.then (Calm.inBlock (Calm.then (Calm.then (Calm.inBlock (Calm.then Post.calm)))))))))) ?_
                  refine AtO.shut rfl rfl rfl rfl (Calm.then (Calm.then (Calm.then (Calm.inBlock (Calm.then (Calm.inBlock (Calm.then (Calm.then (Calm.inBlock (Calm.then Post.calm)))))))))) ?_
                  refine AtO.shut rfl rfl rfl rfl (Calm.then (Calm.then (Calm.then (Calm.inBlock (Calm.then (Calm.inBlock (Calm.then (Calm.then (Calm.inBlock (Calm.then Post.calm)))))))))) ?_
                  refine AtO.shut rfl rfl rfl rfl (Calm.then (Calm.then (Calm.then (Calm.inBlock (Calm.then (Calm.inBlock (Calm.then (Calm.then (Calm.inBlock (Calm.then Post.calm)))))))))) ?_
                  refine AtO.shut rfl rfl rfl rfl (Calm.then (Calm.then (Calm.then (Calm.inBlock (Calm.then (Calm.inBlock (Calm.then (Calm.then (Calm.inBlock (Calm.then Post.calm)))))))))) ?_
                  refine AtO.done ?_
                  refine At.skim 4 rfl rfl ?_
                  refine At.nil ?_
                  refine At.then ?_
                  refine At.condT rfl ?_
                  refine At.skip ?_
                  refine At.then ?_
                  refine At.block ?_
                  refine At.region ?_
                  refine At.skim 1 rfl rfl ?_
                  refine At.quiet (q_add rfl rfl (by omega) (by omega)) rfl ?_
                  refine At.skim 1 rfl rfl ?_
                  refine At.nil ?_
                  refine At.inNormal ?_
                  refine At.then ?_
                  exact At.againK (k2 + 1) (by omega) (by (try dsimp only); omega) (Tells.end 66 ⟨rfl, trivial⟩ rfl rfl) (fun _ h => h.2) (.refl _)
                · skip
                  refine AtO.quietG rfl rfl rfl (q_fieldAddr s24 rfl rfl rfl) rfl (Calm.then (Calm.then (Calm.then (Calm.inBlock (Calm.then (Calm.inBlock (Calm.then (Calm.then (Calm.inBlock (Calm.then Post.calm)))))))))) ?_
                  refine AtO.quietG rfl rfl rfl (q_load t22 rfl (Rd.loc (i := 1) rfl rfl)) rfl (Calm.then (Calm.then (Calm.then (Calm.inBlock (Calm.then (Calm.inBlock (Calm.then (Calm.then (Calm.inBlock (Calm.then Post.calm)))))))))) ?_
                  refine AtO.quietG rfl rfl rfl (q_move rfl) rfl (Calm.then (Calm.then (Calm.then (Calm.inBlock (Calm.then (Calm.inBlock (Calm.then (Calm.then (Calm.inBlock (Calm.then Post.calm)))))))))) ?_
                  refine AtO.quietG rfl rfl rfl (q_move rfl) rfl (Calm.then (Calm.then (Calm.then (Calm.inBlock (Calm.then (Calm.inBlock (Calm.then (Calm.then (Calm.inBlock (Calm.then Post.calm)))))))))) ?_
                  refine AtO.quietG rfl rfl rfl (q_index Try.underlying37 t3 rfl (.tail _ (.tail _ (.head _))) (by simp) rfl rfl (lt_of_get haj)) rfl (Calm.then (Calm.then (Calm.then (Calm.inBlock (Calm.then (Calm.inBlock (Calm.then (Calm.then (Calm.inBlock (Calm.then Post.calm)))))))))) ?_
                  refine AtO.quietG rfl rfl rfl (q_load t3 rfl (Rd.sl0 (.tail _ (.tail _ (.head _))) (map_get haj) rfl)) rfl (Calm.then (Calm.then (Calm.then (Calm.inBlock (Calm.then (Calm.inBlock (Calm.then (Calm.then (Calm.inBlock (Calm.then Post.calm)))))))))) ?_
                  refine AtO.quietG rfl rfl rfl (q_index Try.underlying22 t33 rfl (.tail _ (.tail _ (.tail _ (.tail _ (.head _))))) (by simp) rfl rfl (lt_of_get hy)) rfl (Calm.then (Calm.then (Calm.then (Calm.inBlock (Calm.then (Calm.inBlock (Calm.then (Calm.then (Calm.inBlock (Calm.then Post.calm)))))))))) ?_
                  refine AtO.quietG rfl rfl rfl (q_fieldAddr s33 rfl rfl rfl) rfl (Calm.then (Calm.then (Calm.then (Calm.inBlock (Calm.then (Calm.inBlock (Calm.then (Calm.then (Calm.inBlock (Calm.then Post.calm)))))))))) ?_
                  refine AtO.quietG rfl rfl rfl (q_load t31 rfl (Rd.sl (.tail _ (.tail _ (.tail _ (.tail _ (.head _))))) (map_get hy) rfl)) rfl (Calm.then (Calm.then (Calm.then (Calm.inBlock (Calm.then (Calm.inBlock (Calm.then (Calm.then (Calm.inBlock (Calm.then Post.calm)))))))))) ?_
                  refine AtO.quietG rfl rfl rfl (q_fieldAddr s24 rfl rfl rfl) rfl (Calm.then (Calm.then (Calm.then (Calm.inBlock (Calm.then (Calm.inBlock (Calm.then (Calm.then (Calm.inBlock (Calm.then Post.calm)))))))))) ?_
                  refine AtO.quietG rfl rfl rfl (q_load t22 rfl (Rd.loc (i := 3) rfl rfl)) rfl (Calm.then (Calm.then (Calm.then (Calm.inBlock (Calm.then (Calm.inBlock (Calm.then (Calm.then (Calm.inBlock (Calm.then Post.calm)))))))))) ?_
                  refine AtO.quietG rfl rfl rfl (q_move rfl) rfl (Calm.then (Calm.then (Calm.then (Calm.inBlock (Calm.then (Calm.inBlock (Calm.then (Calm.then (Calm.inBlock (Calm.then Post.calm)))))))))) ?_
                  refine AtO.quietG rfl rfl rfl (q_index Try.underlying22 t33 rfl (.tail _ (.tail _ (.tail _ (.tail _ (.tail _ (.tail _ (.tail _ (.tail _ (.head _))))))))) (by simp) rfl rfl (lt_of_get hx)) rfl (Calm.then (Calm.then (Calm.then (Calm.inBlock (Calm.then (Calm.inBlock (Calm.then (Calm.then (Calm.inBlock (Calm.then Post.calm)))))))))) ?_
                  refine AtO.quietG rfl rfl rfl (q_fieldAddr s33 rfl rfl rfl) rfl (Calm.then (Calm.then (Calm.then (Calm.inBlock (Calm.then (Calm.inBlock (Calm.then (Calm.then (Calm.inBlock (Calm.then Post.calm)))))))))) ?_
                  refine AtO.quietG rfl rfl rfl (q_load t31 rfl (Rd.sl (.tail _ (.tail _ (.tail _ (.tail _ (.tail _ (.tail _ (.tail _ (.tail _ (.head _))))))))) (map_get hx) rfl)) rfl (Calm.then (Calm.then (Calm.then (Calm.inBlock (Calm.then (Calm.inBlock (Calm.then (Calm.then (Calm.inBlock (Calm.then Post.calm)))))))))) ?_
                  refine AtO.done ?_
                  refine At.open rfl rfl ?_
                  refine At.call en33 rfl (same33 _ _) (fun _ h => ⟨h.1, h.2.1, trivial⟩) (List.Perm.refl _) rfl ?_
                  rintro _ _ _ ⟨rfl, rfl, rfl⟩
                  refine At.skim 3 rfl rfl ?_
                  refine At.nil ?_
                  refine At.then ?_
                  refine At.cond rfl (fun hps => ?_) (fun hps => ?_)
                  · skip
                    have hne : k2 ≠ posn f (leavesT w.p) a := fun e => by rw [e, hcx] at hcy; have h9 : x.ps.l = y.ps.l := congrArg Prod.fst (Option.some.inj hcy); rw [h9] at hps; simp at hps
                    refine At.skip ?_
                    refine At.then ?_
                    refine At.block ?_
                    refine At.region ?_
                    refine At.skim 1 rfl rfl ?_
                    refine At.quiet (q_add rfl rfl (by omega) (by omega)) rfl ?_
                    refine At.skim 1 rfl rfl ?_
                    refine At.nil ?_
                    refine At.inNormal ?_
                    refine At.then ?_
                    exact At.againK (k2 + 1) (by omega) (by (try dsimp only); omega) (Tells.end 66 ⟨rfl, trivial⟩ rfl rfl) (fun _ h => h.2) (.refl _)
                  · skip
                    refine At.exit ?_
                    refine At.thenExit ?_
                    refine At.thenExit ?_
                    refine At.inHere rfl ?_
                    refine At.then ?_
                    refine At.seq ?_
                    refine At.seq ?_
                    refine At.region ?_
                    refine At.skim 2 rfl rfl ?_
                    refine At.quiet (q_len Try.underlying37 rfl) rfl ?_
                    refine At.skim 1 rfl rfl ?_
                    refine At.nil ?_
                    refine At.then ?_
                    refine At.say 153 (.bool false) rfl (congrArg Value.bool (decide_eq_false (by omega))) ?_
                    refine At.condF rfl ?_
                    refine At.skip ?_
                    refine At.then ?_
                    refine At.region ?_
                    refine At.skim 1 rfl rfl ?_
                    refine At.quiet (q_add rfl rfl (by omega) (by omega)) rfl ?_
                    refine At.skim 1 rfl rfl ?_
                    refine At.nil ?_
                    refine At.inNormal ?_
                    refine At.then ?_
                    refine At.region ?_
                    refine At.quiet (q_add rfl rfl (by omega) (by omega)) rfl ?_
                    refine At.skim 1 rfl rfl ?_
                    refine At.nil ?_
                    refine At.then ?_
                    exact At.againK (a + 1, k2 + 1) ⟨ha1, by rw [posn_step ha, hfi]; simp; omega⟩ (by (try dsimp only); omega) (Tells.end 93 ⟨rfl, rfl, trivial⟩ rfl rfl) (fun _ h => h.2.2) (.refl _)
            · skip
              refine At.exit ?_
              refine At.thenExit ?_
              refine At.thenExit ?_
              refine At.inHere rfl ?_
              refine At.then ?_
              refine At.seq ?_
              refine At.region ?_
              refine At.call en55 rfl (awake55) (fun _ _ => trivial) (List.Perm.refl _) rfl ?_
              rintro _ _ _ ⟨rfl, rfl, rfl⟩
              refine At.skim 1 rfl rfl ?_
              refine At.nil ?_
              refine At.then ?_
              refine At.ret ?_
              exact At.results (Γr := []) (M := []) rfl (RVals.cons (RVal.tmp rfl) RVals.nil) (.tail _ (.tail _ (.tail _ (.tail _ (.tail _ (.tail _ (.tail _ (.tail _ (.tail _ (.tail _ (.head _))))))))))) (fun _ _ => trivial) (.cons _ (.cons _ (.cons _ (.cons _ (.refl _))))) ⟨rfl, rfl, rfl⟩
end Go.Proofs.Ytmkodknmknfdkaa
set_option linter.unusedVariables false
set_option linter.unusedSimpArgs false
namespace Go.Proofs.Ytmkodknmknfdkaa
open E Go Go.RowKit Go.WideShapes
set_option maxRecDepth 4000
theorem choose_rows {α D : Type} {row : α → List Value} {Q : α → D → Prop} : ∀ (rows : List (List Value)) (elems : List D), (∀ (i : Nat) (r : List Value), rows[i]? = some r → ∃ d, elems[i]? = some d ∧ ∃ x, r = row x ∧ Q x d) → ∃ l : List α, rows = l.map row ∧ ∀ x ∈ l, ∃ d ∈ elems, Q x d
  | [], _, _ => ⟨[], rfl, fun x h => by simp at h⟩
  | r :: rows, elems, h => by
    obtain ⟨d, hd, x, rfl, hq⟩ := h 0 r rfl
    cases elems with
    | nil => simp at hd
    | cons e es =>
      simp at hd
      subst hd
      obtain ⟨l, rfl, hl⟩ := choose_rows rows es fun i r hr => h (i + 1) r (by simpa using hr)
      refine ⟨x :: l, rfl, fun y hy => ?_⟩
      rcases List.mem_cons.1 hy with rfl | hy
      · exact ⟨e, by simp, hq⟩
      · obtain ⟨d, hd, hq⟩ := hl y hy
        exact ⟨d, by simp [hd], hq⟩
section
variable {H : Type} {enc : TypeId × Value → H} {w : World} {base : Nat} {spare : Nat → Bool} {held : Bool}
theorem weights_all {P : Program} {e : TypeId} {d : DataW H} {n : Nat} : ∀ {l : List (DataW H)}, d ∈ l → n ∈ d.weights P e → n ∈ DataW.weightsAll P e l
  | x :: l, hd, hn => by
    simp only [DataW.weightsAll, List.mem_append]
    rcases List.mem_cons.1 hd with rfl | hd
    · exact .inl hn
    · exact .inr (weights_all hd hn)
/-- A slice, with what each of its rows tells. -/
theorem openSlQ {t e k fuel : Nat} {cs : List Value} {x : DataW H × List MemPlace} {α : Type} (row : α → List Value) (Q : α → DataW H → Prop) (ht : Try.prog.underlying t = some (.slice e)) (hk : Try.prog.cellsOf e = k) (hpos : Nat.blt 0 k = true)
    (hrow : ∀ (n : Nat) (cs : List Value) (y : DataW H × List MemPlace), DataW.trod enc Try.prog w base spare held n e cs = some y → ∃ x, cs = row x ∧ Q x y.1)
    (h : DataW.trod enc Try.prog w base spare held fuel t cs = some x) :
    ∃ s : Sl α, cs = [s.val] ∧ (sl s.a s.c k (s.l.map row)).holds (hp w) ∧ ((x.1 = .nil ∧ s.l = []) ∨ ∃ elems sp, x.1 = .slice elems sp ∧ s.l.length = elems.length ∧ ∀ x ∈ s.l, ∃ d ∈ elems, Q x d) := by
  obtain ⟨a, c, rows, rfl, h2, h3, h4, n, elems, sp, hx, hlen, h5⟩ := openSl ht hk hpos h
  obtain ⟨l, rfl, hl⟩ := choose_rows (row := row) (Q := Q) rows elems fun i r hr => by
    obtain ⟨y, hy, he⟩ := h5 i r hr
    obtain ⟨x, hx, hq⟩ := hrow n r y hy
    exact ⟨y.1, he, x, hx, hq⟩
  refine ⟨⟨a, c, l⟩, by simp [Sl.val], h2, ?_⟩
  rcases hx with ⟨hx, he⟩ | hx
  · left
    refine ⟨hx, ?_⟩
    rw [he, List.length_map] at hlen
    exact List.eq_nil_of_length_eq_zero hlen.symm
  · exact .inr ⟨elems, sp, hx, by rw [hlen, List.length_map], hl⟩
theorem rowOfPair {n : Nat} {cs : List Value} {y : DataW H × List MemPlace} (h : DataW.trod enc Try.prog w base spare held n 50 cs = some y) : ∃ p : Pr, cs = rowP p ∧ True := by
  obtain ⟨zs, e, hl, _⟩ := openIntStruct (k := 2) (by kernel_rfl) (by kernel_rfl) h
  match zs, hl with
  | [a, b], _ => exact ⟨⟨a, b⟩, e, trivial⟩
theorem bytes50 : Try.prog.bytesOf 50 = 16 := by kernel_rfl
theorem openPairs {fuel : Nat} {cs : List Value} {x : DataW H × List MemPlace} (h : DataW.trod enc Try.prog w base spare held fuel 31 cs = some x) :
    ∃ s : Sl Pr, cs = [s.val] ∧ (prsP s).holds (hp w) ∧ ((x.1.weights Try.prog 31).all (· ≤ reachBytes) = true → s.l.length ≤ 8796093022208) := by
  obtain ⟨s, h1, h2, h3⟩ := openSlQ (k := 2) rowP (fun _ _ => True) Try.underlying31 (by kernel_rfl) rfl (fun n cs y h => rowOfPair h) h
  refine ⟨s, h1, h2, fun hw => ?_⟩
  rcases h3 with ⟨_, h4⟩ | ⟨elems, sp, hx, hl, _⟩
  · rw [h4]; simp
  · rw [hx] at hw
    simp only [DataW.weights, Try.underlying31, List.all_cons, Bool.and_eq_true, decide_eq_true_eq, bytes50, reachBytes] at hw
    have h5 := of_decide_eq_true hw.1
    rw [hl]
    omega
theorem openNode {n : Nat} {cs : List Value} {y : DataW H × List MemPlace} (h : DataW.trod enc Try.prog w base spare held n 33 cs = some y) :
    ∃ x : Nd, cs = rowN x ∧ ((prsP x.ps).holds (hp w) ∧ ((y.1.weights Try.prog 33).all (· ≤ reachBytes) = true → x.ps.l.length ≤ 8796093022208)) := by
  obtain ⟨xs, m, _, rfl, hl, hlen, hf⟩ := DataW.trod_struct Try.underlying33 h
  have hc : Try.prog.cellsOf 33 = 6 := by kernel_rfl
  have c3 : Try.prog.cellsOf 3 = 1 := by kernel_rfl
  have c4 : Try.prog.cellsOf 4 = 1 := by kernel_rfl
  have c31 : Try.prog.cellsOf 31 = 1 := by kernel_rfl
  rw [hc] at hl
  match cs, hl, xs, hlen, hf with
  | [k0, k1, k2, k3, k4, k5], _, [y0, y1, y2, y3, y4, y5], _, hf =>
    have f0 := hf 0 _ rfl
    have f1 := hf 1 _ rfl
    have f2 := hf 2 _ rfl
    have f3 := hf 3 _ rfl
    have f4 := hf 4 _ rfl
    have f5 := hf 5 _ rfl
    simp only [c3, c4, c31, List.drop_succ_cons, List.drop_zero, List.take_succ_cons, List.take_zero, List.getElem?_cons_succ, List.getElem?_cons_zero] at f0 f1 f2 f3 f4 f5
    obtain ⟨b0, e0, _⟩ := DataW.trod_bool Try.underlying4 f0
    obtain ⟨n1, e1, _, _⟩ := DataW.trod_int Try.underlying3 f1
    obtain ⟨n2, e2, _, _⟩ := DataW.trod_int Try.underlying3 f2
    obtain ⟨n3, e3, _, _⟩ := DataW.trod_int Try.underlying3 f3
    obtain ⟨s4, e4, g4, w4⟩ := openPairs f4
    obtain ⟨n5, e5, _, _⟩ := DataW.trod_int Try.underlying3 f5
    cases e0; cases e1; cases e2; cases e3; cases e4; cases e5
    refine ⟨⟨b0, n1, n2, n3, s4, n5⟩, rfl, g4, fun hw => w4 ?_⟩
    rw [List.all_eq_true] at hw ⊢
    intro z hz
    refine hw z ?_
    simp only [DataW.weights, Try.underlying33]
    exact DataW.weights_mem_each (j := 4) rfl rfl z hz
/-- A tree that came in. -/
theorem openTree {fuel : Nat} {cs : List Value} {x : DataW H × List MemPlace} (h : DataW.trod enc Try.prog w base spare held fuel 24 cs = some x) :
    ∃ t : Tr, cs = [.int .i64 t.root, t.ns.val] ∧ (ndsP t.ns).holds (hp w) ∧ (psP t.ns.l).holds (hp w) ∧ ((x.1.weights Try.prog 24).all (· ≤ reachBytes) = true → ∀ n ∈ t.ns.l, n.ps.l.length ≤ 8796093022208) := by
  obtain ⟨xs, m, _, rfl, hl, hlen, hf⟩ := DataW.trod_struct Try.underlying24 h
  have hc : Try.prog.cellsOf 24 = 2 := by kernel_rfl
  have c3 : Try.prog.cellsOf 3 = 1 := by kernel_rfl
  have c22 : Try.prog.cellsOf 22 = 1 := by kernel_rfl
  rw [hc] at hl
  match cs, hl, xs, hlen, hf with
  | [k0, k1], _, [y0, y1], _, hf =>
    have f0 := hf 0 _ rfl
    have f1 := hf 1 _ rfl
    simp only [c3, c22, List.drop_succ_cons, List.drop_zero, List.take_succ_cons, List.take_zero, List.getElem?_cons_succ, List.getElem?_cons_zero] at f0 f1
    obtain ⟨n0, e0, _, _⟩ := DataW.trod_int Try.underlying3 f0
    obtain ⟨s, e1, g1, g2⟩ := openSlQ (k := 6) rowN (fun x d => (prsP x.ps).holds (hp w) ∧ ((d.weights Try.prog 33).all (· ≤ reachBytes) = true → x.ps.l.length ≤ 8796093022208)) Try.underlying22 (by kernel_rfl) rfl (fun n cs y h => openNode h) f1
    cases e0; cases e1
    refine ⟨⟨n0, s⟩, rfl, g1, ?_, fun hw n hn => ?_⟩
    · rcases g2 with ⟨_, g3⟩ | ⟨elems, sp, _, _, g3⟩
      · intro n hn; rw [g3] at hn; simp at hn
      · intro n hn; obtain ⟨d, _, g4, _⟩ := g3 n hn; exact g4
    · rcases g2 with ⟨_, g3⟩ | ⟨elems, sp, hx, _, g3⟩
      · rw [g3] at hn; simp at hn
      · obtain ⟨d, hd, _, g5⟩ := g3 n hn
        apply g5
        rw [List.all_eq_true] at hw ⊢
        intro z hz
        refine hw z ?_
        simp only [DataW.weights, Try.underlying24]
        refine DataW.weights_mem_each (j := 1) (t := 22) (d := y1.1) rfl rfl z ?_
        rw [hx]
        simp only [DataW.weights, Try.underlying22, List.mem_cons, List.mem_append]
        exact .inr (.inl (weights_all hd hz))
theorem argTree {r : Reach} {b0 : Nat} {v : Value} {d : DataW H} {ps : List MemPlace} (hval : Value.okWide Try.prog w r b0 24 v) (h : DataW.Trod enc Try.prog w base spare held 24 v d ps) :
    ∃ t : Tr, v = t.val ∧ (ndsP t.ns).holds (hp w) ∧ (psP t.ns.l).holds (hp w) ∧ ((d.weights Try.prog 24).all (· ≤ reachBytes) = true → ∀ n ∈ t.ns.l, n.ps.l.length ≤ 8796093022208) := by
  obtain ⟨cs, rfl, _⟩ := okWide_struct Try.underlying24 hval
  obtain ⟨fuel, hf⟩ := h
  obtain ⟨t, e, h1, h2, h3⟩ := openTree hf
  refine ⟨t, ?_, h1, h2, h3⟩
  have e' : cs.toList = [.int .i64 t.root, t.ns.val] := by simpa [Value.cells] using e
  show Value.agg cs = .agg #[.int .i64 t.root, t.ns.val]
  congr 1
  apply Array.ext'
  rw [e']
/-- What one argument weighs. -/
theorem sizedArg {ts : List TypeId} {ds : List (DataW H)} {j : Nat} {t : TypeId} {d : DataW H} (h : (DataW.weightsEach Try.prog ts ds).all (· ≤ reachBytes) = true) (ht : ts[j]? = some t) (hd : ds[j]? = some d) : (d.weights Try.prog t).all (· ≤ reachBytes) = true := by
  rw [List.all_eq_true] at h ⊢
  exact fun n hn => h n (DataW.weights_mem_each ht hd n hn)
end
end Go.Proofs.Ytmkodknmknfdkaa
