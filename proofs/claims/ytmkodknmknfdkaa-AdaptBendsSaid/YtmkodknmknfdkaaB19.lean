/- The walk of AdaptBends. -/
import Derived.Test.YtmkodknmknfdkaaB18
set_option linter.unusedVariables false
set_option linter.unusedSimpArgs false
namespace Go.Proofs.Ytmkodknmknfdkaa
open E
set_option maxRecDepth 4000

theorem en51 : Enters Try.prog 51 := Enters.mk' Try.func51 rfl rfl
theorem en54 : Enters Try.prog 54 := Enters.mk' Try.func54 rfl rfl

set_option maxHeartbeats 2000000 in
theorem bends13 (t : Tr) (hz : ∀ n ∈ t.ns.l, n.ps.l.length ≤ 8796093022208) (p : Pol) (at_ stat : Int) : Con Try.prog 13 [t.val, p.val, .int .i64 at_, .int .i64 stat] [ndsP t.ns, psP t.ns.l] [] (fun v Γ M => v = .bool true ∧ Γ = [] ∧ M = []) := by
  refine Con.body 146 Try.func13 rfl Try.ntmps13 rfl fun X H₀ L₀ => ?_
  refine At.seq ?_
  refine At.region ?_
  refine At.loud (l_box rfl) rfl ?_
  rintro _ _ _ ⟨b1, rfl, rfl, rfl⟩
  refine At.freeze 0 (φ := blk b1 _) rfl (fun _ h => blk_def.2 ⟨_, _, h⟩) ?_
  refine At.loud (l_box rfl) rfl ?_
  rintro _ _ _ ⟨b2, rfl, rfl, rfl⟩
  refine At.freeze 0 (φ := blk b2 _) rfl (fun _ h => blk_def.2 ⟨_, _, h⟩) ?_
  refine At.skim 1 rfl rfl ?_
  refine At.nil ?_
  refine At.then ?_
  refine At.seq ?_
  refine At.seq ?_
  refine At.region ?_
  refine At.quiet (q_loadS t24 rfl (RdS.blk (.tail _ (.head _)) (m := 2) rfl) rfl) rfl ?_
  refine At.call en20 rfl (light20 _ (by assumption)) (fun _ h => ⟨h.2.2.2.1, trivial⟩) (List.Perm.refl _) rfl ?_
  rintro _ _ _ ⟨rfl, rfl, rfl⟩
  refine At.skim 2 rfl rfl ?_
  refine At.splitP (d := 19) rfl (fun hlg => ?_) (fun hlg => ?_)
  · skip
    refine At.skim 10 rfl rfl ?_
    refine At.nil ?_
    refine At.then ?_
    refine At.condT rfl ?_
    refine At.seq ?_
    refine At.region ?_
    refine At.call en45 rfl (awake45) (fun _ _ => trivial) (List.Perm.refl _) rfl ?_
    rintro _ _ _ ⟨rfl, rfl, rfl⟩
    refine At.skim 1 rfl rfl ?_
    refine At.nil ?_
    refine At.then ?_
    refine At.ret ?_
    refine At.thenRet ?_
    exact At.results (Γr := []) (M := []) rfl (RVals.cons (RVal.tmp rfl) RVals.nil) (.tail _ (.tail _ (.head _))) (fun _ _ => trivial) (.refl _) ⟨rfl, rfl, rfl⟩
  · skip
    have hli : lightT t.p = true := light_yes hlg
    obtain ⟨h450, hsm, hp2000⟩ := small_of_light hli
    have hN : t.p.ns.length = t.ns.l.length := by simp [Tr.p]
    refine At.open rfl rfl ?_
    refine At.quiet (q_loadS t24 rfl (RdS.blk (.tail _ (.head _)) (m := 2) rfl) rfl) rfl ?_
    refine At.open rfl rfl ?_
    refine At.call en21 rfl (may21 _) (fun _ h => ⟨h.2.2.2.1, h.2.2.2.2.1, trivial⟩) (List.Perm.refl _) rfl ?_
    rintro _ _ _ ⟨rfl, rfl, rfl⟩
    refine At.skim 3 rfl rfl ?_
    refine At.split (d := 24) rfl (fun hmy => ?_) (fun hmy => ?_)
    · skip
      refine At.skim 5 rfl rfl ?_
      refine At.nil ?_
      refine At.then ?_
      refine At.condT rfl ?_
      refine At.seq ?_
      refine At.region ?_
      refine At.call en45 rfl (awake45) (fun _ _ => trivial) (List.Perm.refl _) rfl ?_
      rintro _ _ _ ⟨rfl, rfl, rfl⟩
      refine At.skim 1 rfl rfl ?_
      refine At.nil ?_
      refine At.then ?_
      refine At.ret ?_
      refine At.thenRet ?_
      exact At.results (Γr := []) (M := []) rfl (RVals.cons (RVal.tmp rfl) RVals.nil) (.tail _ (.tail _ (.head _))) (fun _ _ => trivial) (.refl _) ⟨rfl, rfl, rfl⟩
    · skip
      refine At.open rfl rfl ?_
      refine At.quiet (q_loadS t24 rfl (RdS.blk (.tail _ (.head _)) (m := 2) rfl) rfl) rfl ?_
      refine At.open rfl rfl ?_
      refine At.quiet (q_loadS t24 rfl (RdS.blk (.tail _ (.head _)) (m := 2) rfl) rfl) rfl ?_
      refine At.open rfl rfl ?_
      refine At.call en22 rfl (same22 _ _ (by assumption) (by assumption)) (fun _ h => ⟨h.2.2.2.1, h.2.2.2.2.1, h.2.2.2.1, h.2.2.2.2.1, trivial⟩) (List.Perm.refl _) rfl ?_
      rintro _ _ _ ⟨rfl, rfl, rfl⟩
      refine At.skim 2 rfl rfl ?_
      refine At.nil ?_
      refine At.then ?_
      refine At.cond rfl (fun hst => ?_) (fun hst => ?_)
      · skip
        refine At.seq ?_
        refine At.region ?_
        refine At.call en45 rfl (awake45) (fun _ _ => trivial) (List.Perm.refl _) rfl ?_
        rintro _ _ _ ⟨rfl, rfl, rfl⟩
        refine At.skim 1 rfl rfl ?_
        refine At.nil ?_
        refine At.then ?_
        refine At.ret ?_
        refine At.thenRet ?_
        exact At.results (Γr := []) (M := []) rfl (RVals.cons (RVal.tmp rfl) RVals.nil) (.tail _ (.tail _ (.head _))) (fun _ _ => trivial) (.refl _) ⟨rfl, rfl, rfl⟩
      · skip
        obtain ⟨s, hs⟩ := Option.isSome_iff_exists.1 (not_f hmy)
        have hpos := may_pos hs
        refine At.skip ?_
        refine At.then ?_
        refine At.seq ?_
        refine At.region ?_
        refine At.quiet (q_loadS t24 rfl (RdS.blk (.tail _ (.head _)) (m := 2) rfl) rfl) rfl ?_
        refine At.call en28 rfl (leaves28f _) (fun _ h => ⟨h.2.2.2.1, h.2.2.2.2.1, trivial⟩) (List.Perm.refl _) rfl ?_
        rintro _ _ _ ⟨lv, rfl, rfl, rfl, hplv⟩
        refine At.skim 1 rfl rfl ?_
        refine At.nil ?_
        refine At.then ?_
        refine At.seq ?_
        refine At.seq ?_
        refine At.region ?_
        have hlp0 := leavesT_pos hs
        have hll : lv.l.length = (leavesT t.p).length := by rw [hplv, toI_length]
        have hle := leavesT_len t.p
        refine At.skim 1 rfl rfl ?_
        refine At.quiet (q_len Try.underlying37 rfl) rfl ?_
        refine At.skim 1 rfl rfl ?_
        refine At.nil ?_
        refine At.then ?_
        refine At.say 35 (.bool false) rfl (congrArg Value.bool (decide_eq_false (by omega))) ?_
        refine At.condF rfl ?_
        refine At.skip ?_
        refine At.then ?_
        refine At.seq ?_
        refine At.region ?_
        obtain ⟨j, hj, hje, hjne⟩ := pick (a := at_) (n := lv.l.length) (by omega) (by omega)
        obtain ⟨i, hi⟩ := get_of_lt (l := leavesT t.p) (i := j) (by omega)
        have hui : lv.l[j]? = some (i : Int) := by rw [hplv]; exact toI_get hi
        have hmem := List.mem_of_getElem? hi
        have hilt := leavesT_lt hmem
        obtain ⟨x, hx⟩ := get_of_lt (l := t.ns.l) (i := i) (by omega)
        have hxp : t.p.ns[i]? = some x.p := map_get hx
        have hall := all_len hs hp2000
        have hxs := hsm x (List.mem_of_getElem? hx)
        refine At.skim 2 rfl rfl ?_
        refine At.quiet (q_convInt Try.underlying3 Try.underlying29 rfl) rfl ?_
        refine At.skim 1 rfl rfl ?_
        refine At.quiet (q_len Try.underlying37 rfl) rfl ?_
        refine At.quiet (q_convInt Try.underlying3 Try.underlying29 rfl) rfl ?_
        refine At.quiet (q_rem rfl rfl (by omega)) rfl ?_
        refine At.quiet (q_convInt Try.underlying29 Try.underlying3 rfl) rfl ?_
        refine At.say 43 (.int .i64 (j : Int)) rfl (congrArg (Value.int .i64) hje) ?_
        refine At.quiet (q_index Try.underlying37 t3 rfl (.head _) (by simp) rfl rfl (lt_of_get hui)) rfl ?_
        refine At.quiet (q_load t3 rfl (Rd.sl0 (.head _) (map_get hui) rfl)) rfl ?_
        refine At.skim 1 rfl rfl ?_
        refine At.nil ?_
        refine At.then ?_
        refine At.seq ?_
        refine At.seq ?_
        refine At.region ?_
        refine At.skim 3 rfl rfl ?_
        refine At.say 48 (.bool false) rfl (congrArg Value.bool (decide_eq_false (by omega))) ?_
        refine At.skim 1 rfl rfl ?_
        refine At.open rfl rfl ?_
        refine At.quiet (q_fieldAddr s24 rfl rfl rfl) rfl ?_
        refine At.open rfl rfl ?_
        refine At.quiet (q_load t22 rfl (Rd.blk (.tail _ (.tail _ (.head _))) rfl)) rfl ?_
        refine At.open rfl rfl ?_
        refine At.quiet (q_len Try.underlying22 rfl) rfl ?_
        refine At.skim 2 rfl rfl ?_
        refine At.nil ?_
        refine At.then ?_
        refine At.say 54 (.bool false) rfl (congrArg Value.bool (decide_eq_false (by omega))) ?_
        refine At.condF rfl ?_
        refine At.skip ?_
        refine At.then ?_
        refine At.seq ?_
        obtain ⟨c, hc, hce⟩ := hundred stat
        obtain ⟨hst1, hst2, hst3, hst4⟩ := set_stat (st := (c : Int) - 50) hs hmem hxp (by omega) (by omega)
        refine At.know (prsP x.ps) (fun _ h => psP_get h.2.2.2.2.2.1 hx) ?_
        refine At.draw 19 (.q 0 (.q 1 (.q 2 (.q 3 (.q 4 (.q 5 (.q 6 (.q 7 (.q 8 (.q 9 (.q 10 (.q 11 (.q 12 (.t 13 (.q 14 (.q 15 (.q 16 (.o 17 (.o 18 (.e)))))) 17 (.o 13 (.q 14 (.q 15 (.q 16 (.o 18 (.e)))))))))))))))))))) _ (List.Sublist.refl _) mixed (by kernel_rfl) rfl ?_
        refine AtO.quiet rfl (q_loadS t24 rfl (RdS.blk (.tail _ (.tail _ (.tail _ (.head _)))) (m := 2) rfl) rfl) rfl (Calm.then Post.calm) ?_
        refine AtO.quiet rfl (q_move rfl) rfl (Calm.then Post.calm) ?_
        refine AtO.quiet rfl (q_fieldAddr s24 rfl rfl rfl) rfl (Calm.then Post.calm) ?_
        refine AtO.quiet rfl (q_load t22 rfl (Rd.blk (.tail _ (.tail _ (.tail _ (.head _)))) rfl)) rfl (Calm.then Post.calm) ?_
        refine AtO.quiet rfl (q_move rfl) rfl (Calm.then Post.calm) ?_
        refine AtO.quiet rfl (q_index Try.underlying22 t33 rfl (.tail _ (.tail _ (.tail _ (.tail _ (.tail _ (.head _)))))) (by simp) rfl rfl (lt_of_get hx)) rfl (Calm.then Post.calm) ?_
        refine AtO.quiet rfl (q_fieldAddr s33 rfl rfl rfl) rfl (Calm.then Post.calm) ?_
        refine AtO.quiet rfl (q_load t31 rfl (Rd.sl (.tail _ (.tail _ (.tail _ (.tail _ (.tail _ (.head _)))))) (map_get hx) rfl)) rfl (Calm.then Post.calm) ?_
        refine AtO.quiet rfl (q_move rfl) rfl (Calm.then Post.calm) ?_
        refine AtO.quiet rfl (q_convInt Try.underlying3 Try.underlying29 rfl) rfl (Calm.then Post.calm) ?_
        refine AtO.quiet rfl (q_rem rfl rfl (by omega)) rfl (Calm.then Post.calm) ?_
        refine AtO.quiet rfl (q_convInt Try.underlying29 Try.underlying3 rfl) rfl (Calm.then Post.calm) ?_
        refine AtO.say 67 (.int .i64 (c : Int)) rfl (congrArg (Value.int .i64) hce) ?_
        refine AtO.quiet rfl (q_sub rfl rfl (by omega) (by omega)) rfl (Calm.then Post.calm) ?_
        refine AtO.two ?_ ?_
        · skip
          refine AtO.call rfl en34 rfl (set34 _ (by assumption) _ x.ps hxs _) (fun _ h => ⟨h.2.2.2.2.2.1, h.2.2.2.2.2.2.1, h.1, trivial⟩) (List.Perm.refl _) rfl (.refl _) ?_
          rintro _ _ _ ⟨u, Mu, rfl, rfl, rfl, hu, hpu0⟩
          refine AtO.quiet rfl (q_move rfl) rfl (Calm.then Post.calm) ?_
          refine AtO.quiet rfl (q_extract rfl rfl) rfl (Calm.then Post.calm) ?_
          refine AtO.quiet rfl (q_extract rfl rfl) rfl (Calm.then Post.calm) ?_
          refine AtO.loud rfl (l_alloc t24) rfl (by rintro _ _ _ ⟨_, rfl, rfl, rfl⟩; exact ⟨fun _ h => h, .cons _ (.cons _ (.refl _))⟩) ?_
          rintro _ _ _ ⟨b3, rfl, rfl, rfl⟩
          refine AtO.loudNA rfl (l_store t24 rfl rfl (i := 0) rfl rfl rfl rfl) (by rintro _ _ _ ⟨rfl, rfl⟩; exact ⟨fun _ h => h, (.cons _ (.cons _ (.refl _)))⟩) ?_
          rintro _ _ _ ⟨rfl, rfl⟩
          refine AtO.done ?_
          refine At.skim 1 rfl rfl ?_
          refine At.nil ?_
          refine At.then ?_
          refine At.seq ?_
          refine At.seq ?_
          refine At.region ?_
          have hst1b : setT t.p (i : Int) x.ps.l ((c : Int) - 50) = _ := hst1
          have hpu : u.p = ⟨t.p.root, t.p.ns.set i { x.p with l := x.p.l, stat := (c : Int) - 50 }⟩ := by rw [hpu0, setD, hst1b]; rfl
          have hum : mayT u.p = some s := by rw [hpu]; exact hst2
          have hlu : leavesT u.p = leavesT t.p := by rw [hpu]; exact hst3
          have hau : allT u.p = allT t.p := by rw [hpu]; exact hst4
          have hul : u.ns.l.length = t.ns.l.length := by have h := p_len hpu; rw [h]; simp [Tr.p]
          have hus : smallP u.ns.l := small_all (by rw [hum]; rfl) (by rw [hau]; exact hall) (by omega)
          have hmu : i ∈ leavesT u.p := by rw [hlu]; exact hmem
          obtain ⟨xu, hxu, hxup⟩ := p_get hpu (show (t.p.ns.set i { x.p with l := x.p.l, stat := (c : Int) - 50 })[i]? = some { x.p with l := x.p.l, stat := (c : Int) - 50 } from List.getElem?_set_self hilt)
          have hxupp : u.p.ns[i]? = some xu.p := map_get hxu
          have huN : u.p.ns.length + 2 ≤ 2000 := by rw [show u.p.ns.length = u.ns.l.length by simp [Tr.p]]; omega
          have hwhat := bend_what (p := p) hum hmu hxupp huN (w := decideS p xu.stat) (d := (bendT u.p p (i : Int)).2) (k := xu.ps.l.length) (len := lv.l.length) rfl rfl rfl (by rw [hll, hlu])
          obtain ⟨hbk1, hbk2, hbk3⟩ := bend_keeps (p := p) hum hmu hxupp
          have hbd := byT_bd (bendT u.p p (i : Int)).2
          refine At.skim 3 rfl rfl ?_
          refine At.say 74 (.bool false) rfl (congrArg Value.bool (by rw [hst1b]; rfl)) ?_
          refine At.open rfl rfl ?_
          refine At.quiet (q_fieldAddr s24 rfl rfl rfl) rfl ?_
          refine At.open rfl rfl ?_
          refine At.quiet (q_load t22 rfl (Rd.loc (i := 0) rfl rfl)) rfl ?_
          refine At.open rfl rfl ?_
          refine At.quiet (q_len Try.underlying22 rfl) rfl ?_
          refine At.open rfl rfl ?_
          refine At.quiet (q_fieldAddr s24 rfl rfl rfl) rfl ?_
          refine At.open rfl rfl ?_
          refine At.quiet (q_load t22 rfl (Rd.blk (.tail _ (.tail _ (.tail _ (.tail _ (.head _))))) rfl)) rfl ?_
          refine At.open rfl rfl ?_
          refine At.quiet (q_len Try.underlying22 rfl) rfl ?_
          refine At.skim 2 rfl rfl ?_
          refine At.nil ?_
          refine At.then ?_
          refine At.say 82 (.bool false) rfl (congrArg Value.bool (decide_eq_false (by rw [hul]; simp))) ?_
          refine At.condF rfl ?_
          refine At.skip ?_
          refine At.then ?_
          refine At.seq ?_
          refine At.region ?_
          refine At.freezeOwn 1 hu rfl ?_
          refine At.quiet (q_loadS t24 rfl (RdS.loc (i := 0) rfl (m := 2) rfl) rfl) rfl ?_
          refine At.quiet (q_loadS t64 rfl (RdS.blk (.tail _ (.tail _ (.tail _ (.tail _ (.head _))))) (m := 5) rfl) rfl) rfl ?_
          refine At.skim 1 rfl rfl ?_
          refine At.call en51 rfl (bend51 _ (by assumption) p _) (fun _ h => ⟨h.1, h.2.1, trivial⟩) (List.Perm.refl _) rfl ?_
          rintro _ _ _ ⟨v, rfl, rfl, rfl, hpv⟩
          refine At.skim 1 rfl rfl ?_
          refine At.quiet (q_extract rfl rfl) rfl ?_
          refine At.quiet (q_extract rfl rfl) rfl ?_
          refine At.loud (l_alloc t24) rfl ?_
          rintro _ _ _ ⟨b4, rfl, rfl, rfl⟩
          refine At.loudN (l_store t24 rfl rfl (i := 0) rfl rfl rfl rfl) ?_
          rintro _ _ _ ⟨rfl, rfl⟩
          refine At.skim 1 rfl rfl ?_
          refine At.nil ?_
          refine At.then ?_
          refine At.seq ?_
          have hvs : smallP v.ns.l := small_all (by rw [hpv]; exact hbk1) (by rw [hpv, hbk3, hau]; exact hall) (by omega)
          refine At.know (prsP xu.ps) (fun _ h => psP_get h.2.2.2.1 hxu) ?_
          refine At.draw 7 (.q 0 (.q 1 (.q 2 (.q 3 (.q 4 (.q 5 (.q 6 (.e)))))))) _ (List.Sublist.refl _) mixed (by kernel_rfl) rfl ?_
          refine AtO.quiet rfl (q_loadS t64 rfl (RdS.blk (.tail _ (.tail _ (.tail _ (.tail _ (.tail _ (.tail _ (.tail _ (.head _)))))))) (m := 5) rfl) rfl) rfl (Calm.then Post.calm) ?_
          refine AtO.quiet rfl (q_fieldAddr s24 rfl rfl rfl) rfl (Calm.then Post.calm) ?_
          refine AtO.quiet rfl (q_load t22 rfl (Rd.loc (i := 1) rfl rfl)) rfl (Calm.then Post.calm) ?_
          refine AtO.quiet rfl (q_move rfl) rfl (Calm.then Post.calm) ?_
          refine AtO.quiet rfl (q_index Try.underlying22 t33 rfl (.tail _ (.tail _ (.tail _ (.head _)))) (by simp) rfl rfl (lt_of_get hxu)) rfl (Calm.then Post.calm) ?_
          refine AtO.quiet rfl (q_fieldAddr s33 rfl rfl rfl) rfl (Calm.then Post.calm) ?_
          refine AtO.quiet rfl (q_load t3 rfl (Rd.sl (.tail _ (.tail _ (.tail _ (.head _)))) (map_get hxu) rfl)) rfl (Calm.then Post.calm) ?_
          refine AtO.done ?_
          refine At.call en54 rfl (decide54 p xu.stat) (fun _ _ => trivial) (List.Perm.refl _) rfl ?_
          rintro _ _ _ ⟨rfl, rfl, rfl⟩
          refine At.skim 1 rfl rfl ?_
          refine At.nil ?_
          refine At.then ?_
          refine At.seq ?_
          refine At.seq ?_
          refine At.region ?_
          refine At.skim 3 rfl rfl ?_
          refine At.splitP (d := 100) rfl (fun hw1 => ?_) (fun hw1 => ?_)
          · skip
            refine At.open rfl rfl ?_
            refine At.quiet (q_fieldAddr s24 rfl rfl rfl) rfl ?_
            refine At.open rfl rfl ?_
            refine At.quiet (q_load t22 rfl (Rd.loc (i := 1) rfl rfl)) rfl ?_
            refine At.skim 1 rfl rfl ?_
            refine At.open rfl rfl ?_
            refine At.quiet (q_index Try.underlying22 t33 rfl (.tail _ (.tail _ (.tail _ (.head _)))) (by simp) rfl rfl (lt_of_get hxu)) rfl ?_
            refine At.open rfl rfl ?_
            refine At.quiet (q_fieldAddr s33 rfl rfl rfl) rfl ?_
            refine At.open rfl rfl ?_
            refine At.quiet (q_load t31 rfl (Rd.sl (.tail _ (.tail _ (.tail _ (.head _)))) (map_get hxu) rfl)) rfl ?_
            refine At.open rfl rfl ?_
            refine At.quiet (q_len Try.underlying31 rfl) rfl ?_
            refine At.skim 3 rfl rfl ?_
            refine At.splitP (d := 110) rfl (fun hl2 => ?_) (fun hl2 => ?_)
            · skip
              refine At.skim 8 rfl rfl ?_
              refine At.nil ?_
              refine At.then ?_
              refine At.condT rfl ?_
              refine At.region ?_
              refine At.skim 1 rfl rfl ?_
              refine At.nil ?_
              refine At.then ?_
              refine At.seq ?_
              refine At.region ?_
              refine At.loud (l_makeMap) rfl ?_
              rintro _ _ _ ⟨bm, mp, rfl, hM0, rfl, rfl⟩
              refine At.loudN (l_mapInsert Try.underlying70 Try.underlying3 rfl rfl rfl hM0 (i := 0) rfl) ?_
              rintro _ _ _ ⟨Mmp1, mp1, rfl, rfl⟩
              refine At.loudN (l_mapInsert Try.underlying70 Try.underlying3 rfl rfl rfl mp1 (i := 0) rfl) ?_
              rintro _ _ _ ⟨Mmp2, mp2, rfl, rfl⟩
              refine At.loudN (l_mapInsert Try.underlying70 Try.underlying3 rfl rfl rfl mp2 (i := 0) rfl) ?_
              rintro _ _ _ ⟨Mmp3, mp3, rfl, rfl⟩
              refine At.skim 2 rfl rfl ?_
              refine At.quiet (q_lookup Try.underlying70 Try.underlying3 t3 rfl rfl mp3 (i := 0) rfl) rfl ?_
              refine At.say 122 (.int .i64 (byT (bendT u.p p (i : Int)).2)) rfl (congrArg (Value.int .i64) (by_look (by omega))) ?_
              refine At.skim 1 rfl rfl ?_
              refine At.nil ?_
              refine At.then ?_
              refine At.seq ?_
              refine At.draw 17 (.q 0 (.q 1 (.q 2 (.q 3 (.q 4 (.q 7 (.q 8 (.q 9 (.q 10 (.o 5 (.q 6 (.q 11 (.q 12 (.q 13 (.q 14 (.q 16 (.o 15 (.e)))))))))))))))))) _ (List.Sublist.refl _) mixed (by kernel_rfl) rfl ?_
              refine AtO.quiet rfl (q_move rfl) rfl (Calm.then Post.calm) ?_
              refine AtO.quiet rfl (q_move rfl) rfl (Calm.then Post.calm) ?_
              refine AtO.quiet rfl (q_eql rfl rfl) rfl (Calm.then Post.calm) ?_
              refine AtO.quiet rfl (q_move rfl) rfl (Calm.then Post.calm) ?_
              refine AtO.say 126 (.bool true) rfl (congrArg Value.bool (decide_eq_true (by omega))) ?_
              refine AtO.quietG rfl rfl rfl (q_loadS t24 rfl (RdS.loc (i := 1) rfl (m := 2) rfl) rfl) rfl (Calm.then Post.calm) ?_
              refine AtO.quietG rfl rfl rfl (q_move rfl) rfl (Calm.then Post.calm) ?_
              refine AtO.quietG rfl rfl rfl (q_len Try.underlying37 rfl) rfl (Calm.then Post.calm) ?_
              refine AtO.quietG rfl rfl rfl (q_move rfl) rfl (Calm.then Post.calm) ?_
              refine AtO.quietG rfl rfl rfl (q_add rfl rfl (by omega) (by omega)) rfl (Calm.then Post.calm) ?_
              refine AtO.callGA rfl rfl rfl en28 rfl (leaves28f _) (fun _ h => ⟨h.2.1, h.2.2.1, trivial⟩) (List.Perm.refl _) rfl (.refl _) ?_
              rintro _ _ _ ⟨l2, rfl, rfl, rfl, hpl2⟩
              refine AtO.quietG rfl rfl rfl (q_len Try.underlying37 rfl) rfl (Calm.then Post.calm) ?_
              refine AtO.say 129 (.int .i64 ((leavesT (bendT u.p p (i : Int)).1).length : Nat)) rfl (congrArg (Value.int .i64) (by rw [hpl2, toI_length, hpv])) ?_
              refine AtO.quietG rfl rfl rfl (q_eql rfl rfl) rfl (Calm.then Post.calm) ?_
              refine AtO.quiet rfl (q_pickT rfl rfl) rfl (Calm.then Post.calm) ?_
              refine AtO.quiet rfl (q_move rfl) rfl (Calm.then Post.calm) ?_
              refine AtO.say 136 (.bool true) rfl (congrArg Value.bool (decide_eq_true (by rw [hbk2, hlu, hll]))) ?_
              refine AtO.quietG rfl rfl rfl (q_loadS t24 rfl (RdS.loc (i := 1) rfl (m := 2) rfl) rfl) rfl (Calm.then Post.calm) ?_
              refine AtO.quietG rfl rfl rfl (q_loadS t24 rfl (RdS.blk (.tail _ (.tail _ (.tail _ (.tail _ (.tail _ (.tail _ (.tail _ (.tail _ (.tail _ (.head _)))))))))) (m := 2) rfl) rfl) rfl (Calm.then Post.calm) ?_
              refine AtO.callGA rfl rfl rfl en29 rfl (all29f _ (by assumption)) (fun _ h => ⟨h.2.2.1, h.2.2.2.1, trivial⟩) (List.Perm.refl _) rfl (.refl _) ?_
              rintro _ _ _ ⟨a2, rfl, rfl, rfl, hpa2⟩
              refine AtO.done ?_
              refine At.open rfl rfl ?_
              refine At.call en29 rfl (all29f _ (by assumption)) (fun _ h => ⟨h.2.2.2.2.2.2.2.2.2.2.2.2.1, h.2.2.2.2.2.2.2.2.2.2.2.2.2.1, trivial⟩) (List.Perm.refl _) rfl ?_
              rintro _ _ _ ⟨a1, rfl, rfl, rfl, hpa1⟩
              refine At.open rfl rfl ?_
              refine At.call en33 rfl (same33 _ _) (fun _ h => ⟨h.2.1, h.1, trivial⟩) (List.Perm.refl _) rfl ?_
              rintro _ _ _ ⟨rfl, rfl, rfl⟩
              refine At.skim 2 rfl rfl ?_
              refine At.say 143 (.bool true) rfl (congrArg Value.bool (decide_eq_true (by rw [hpa2, hpa1, hpv, hbk3, hau]))) ?_
              refine At.open rfl rfl ?_
              refine At.call en45 rfl (awake45) (fun _ _ => trivial) (List.Perm.refl _) rfl ?_
              rintro _ _ _ ⟨rfl, rfl, rfl⟩
              refine At.skim 2 rfl rfl ?_
              refine At.nil ?_
              refine At.then ?_
              refine At.ret ?_
              exact At.results (Γr := []) (M := []) rfl (RVals.cons (RVal.tmp rfl) RVals.nil) (.tail _ (.tail _ (.tail _ (.tail _ (.tail _ (.tail _ (.tail _ (.tail _ (.tail _ (.tail _ (.tail _ (.tail _ (.head _))))))))))))) (fun _ _ => trivial) (.cons _ (.cons _ (.cons _ (.refl _)))) ⟨rfl, rfl, rfl⟩
            · skip
              refine At.skim 3 rfl rfl ?_
              refine At.splitP (d := 113) rfl (fun hw2 => ?_) (fun hw2 => ?_)
              · skip
                exfalso; omega
              · skip
                refine At.skim 5 rfl rfl ?_
                refine At.nil ?_
                refine At.then ?_
                refine At.condF rfl ?_
                refine At.skip ?_
                refine At.then ?_
                refine At.seq ?_
                refine At.region ?_
                refine At.loud (l_makeMap) rfl ?_
                rintro _ _ _ ⟨bm, mp, rfl, hM0, rfl, rfl⟩
                refine At.loudN (l_mapInsert Try.underlying70 Try.underlying3 rfl rfl rfl hM0 (i := 0) rfl) ?_
                rintro _ _ _ ⟨Mmp4, mp4, rfl, rfl⟩
                refine At.loudN (l_mapInsert Try.underlying70 Try.underlying3 rfl rfl rfl mp4 (i := 0) rfl) ?_
                rintro _ _ _ ⟨Mmp5, mp5, rfl, rfl⟩
                refine At.loudN (l_mapInsert Try.underlying70 Try.underlying3 rfl rfl rfl mp5 (i := 0) rfl) ?_
                rintro _ _ _ ⟨Mmp6, mp6, rfl, rfl⟩
                refine At.skim 2 rfl rfl ?_
                refine At.quiet (q_lookup Try.underlying70 Try.underlying3 t3 rfl rfl mp6 (i := 0) rfl) rfl ?_
                refine At.say 122 (.int .i64 (byT (bendT u.p p (i : Int)).2)) rfl (congrArg (Value.int .i64) (by_look (by omega))) ?_
                refine At.skim 1 rfl rfl ?_
                refine At.nil ?_
                refine At.then ?_
                refine At.seq ?_
                refine At.draw 17 (.q 0 (.q 1 (.q 2 (.q 3 (.q 4 (.q 7 (.q 8 (.q 9 (.q 10 (.o 5 (.q 6 (.q 11 (.q 12 (.q 13 (.q 14 (.q 16 (.o 15 (.e)))))))))))))))))) _ (List.Sublist.refl _) mixed (by kernel_rfl) rfl ?_
                refine AtO.quiet rfl (q_move rfl) rfl (Calm.then Post.calm) ?_
                refine AtO.quiet rfl (q_move rfl) rfl (Calm.then Post.calm) ?_
                refine AtO.quiet rfl (q_eql rfl rfl) rfl (Calm.then Post.calm) ?_
                refine AtO.quiet rfl (q_move rfl) rfl (Calm.then Post.calm) ?_
                refine AtO.say 126 (.bool true) rfl (congrArg Value.bool (decide_eq_true (by omega))) ?_
                refine AtO.quietG rfl rfl rfl (q_loadS t24 rfl (RdS.loc (i := 1) rfl (m := 2) rfl) rfl) rfl (Calm.then Post.calm) ?_
                refine AtO.quietG rfl rfl rfl (q_move rfl) rfl (Calm.then Post.calm) ?_
                refine AtO.quietG rfl rfl rfl (q_len Try.underlying37 rfl) rfl (Calm.then Post.calm) ?_
                refine AtO.quietG rfl rfl rfl (q_move rfl) rfl (Calm.then Post.calm) ?_
                refine AtO.quietG rfl rfl rfl (q_add rfl rfl (by omega) (by omega)) rfl (Calm.then Post.calm) ?_
                refine AtO.callGA rfl rfl rfl en28 rfl (leaves28f _) (fun _ h => ⟨h.2.1, h.2.2.1, trivial⟩) (List.Perm.refl _) rfl (.refl _) ?_
                rintro _ _ _ ⟨l2, rfl, rfl, rfl, hpl2⟩
                refine AtO.quietG rfl rfl rfl (q_len Try.underlying37 rfl) rfl (Calm.then Post.calm) ?_
                refine AtO.say 129 (.int .i64 ((leavesT (bendT u.p p (i : Int)).1).length : Nat)) rfl (congrArg (Value.int .i64) (by rw [hpl2, toI_length, hpv])) ?_
                refine AtO.quietG rfl rfl rfl (q_eql rfl rfl) rfl (Calm.then Post.calm) ?_
                refine AtO.quiet rfl (q_pickT rfl rfl) rfl (Calm.then Post.calm) ?_
                refine AtO.quiet rfl (q_move rfl) rfl (Calm.then Post.calm) ?_
                refine AtO.say 136 (.bool true) rfl (congrArg Value.bool (decide_eq_true (by rw [hbk2, hlu, hll]))) ?_
                refine AtO.quietG rfl rfl rfl (q_loadS t24 rfl (RdS.loc (i := 1) rfl (m := 2) rfl) rfl) rfl (Calm.then Post.calm) ?_
                refine AtO.quietG rfl rfl rfl (q_loadS t24 rfl (RdS.blk (.tail _ (.tail _ (.tail _ (.tail _ (.tail _ (.tail _ (.tail _ (.tail _ (.tail _ (.head _)))))))))) (m := 2) rfl) rfl) rfl (Calm.then Post.calm) ?_
                refine AtO.callGA rfl rfl rfl en29 rfl (all29f _ (by assumption)) (fun _ h => ⟨h.2.2.1, h.2.2.2.1, trivial⟩) (List.Perm.refl _) rfl (.refl _) ?_
                rintro _ _ _ ⟨a2, rfl, rfl, rfl, hpa2⟩
                refine AtO.done ?_
                refine At.open rfl rfl ?_
                refine At.call en29 rfl (all29f _ (by assumption)) (fun _ h => ⟨h.2.2.2.2.2.2.2.2.2.2.2.2.1, h.2.2.2.2.2.2.2.2.2.2.2.2.2.1, trivial⟩) (List.Perm.refl _) rfl ?_
                rintro _ _ _ ⟨a1, rfl, rfl, rfl, hpa1⟩
                refine At.open rfl rfl ?_
                refine At.call en33 rfl (same33 _ _) (fun _ h => ⟨h.2.1, h.1, trivial⟩) (List.Perm.refl _) rfl ?_
                rintro _ _ _ ⟨rfl, rfl, rfl⟩
                refine At.skim 2 rfl rfl ?_
                refine At.say 143 (.bool true) rfl (congrArg Value.bool (decide_eq_true (by rw [hpa2, hpa1, hpv, hbk3, hau]))) ?_
                refine At.open rfl rfl ?_
                refine At.call en45 rfl (awake45) (fun _ _ => trivial) (List.Perm.refl _) rfl ?_
                rintro _ _ _ ⟨rfl, rfl, rfl⟩
                refine At.skim 2 rfl rfl ?_
                refine At.nil ?_
                refine At.then ?_
                refine At.ret ?_
                exact At.results (Γr := []) (M := []) rfl (RVals.cons (RVal.tmp rfl) RVals.nil) (.tail _ (.tail _ (.tail _ (.tail _ (.tail _ (.tail _ (.tail _ (.tail _ (.tail _ (.tail _ (.tail _ (.tail _ (.head _))))))))))))) (fun _ _ => trivial) (.cons _ (.cons _ (.cons _ (.refl _)))) ⟨rfl, rfl, rfl⟩
          · skip
            refine At.skim 13 rfl rfl ?_
            refine At.splitP (d := 113) rfl (fun hw2 => ?_) (fun hw2 => ?_)
            · skip
              refine At.skim 1 rfl rfl ?_
              refine At.open rfl rfl ?_
              refine At.quiet (q_len Try.underlying37 rfl) rfl ?_
              refine At.skim 3 rfl rfl ?_
              refine At.nil ?_
              refine At.then ?_
              refine At.if rfl (fun hl1 => ?_) (fun hl1 => ?_)
              · skip
                refine At.region ?_
                refine At.skim 1 rfl rfl ?_
                refine At.nil ?_
                refine At.then ?_
                refine At.seq ?_
                refine At.region ?_
                refine At.loud (l_makeMap) rfl ?_
                rintro _ _ _ ⟨bm, mp, rfl, hM0, rfl, rfl⟩
                refine At.loudN (l_mapInsert Try.underlying70 Try.underlying3 rfl rfl rfl hM0 (i := 0) rfl) ?_
                rintro _ _ _ ⟨Mmp7, mp7, rfl, rfl⟩
                refine At.loudN (l_mapInsert Try.underlying70 Try.underlying3 rfl rfl rfl mp7 (i := 0) rfl) ?_
                rintro _ _ _ ⟨Mmp8, mp8, rfl, rfl⟩
                refine At.loudN (l_mapInsert Try.underlying70 Try.underlying3 rfl rfl rfl mp8 (i := 0) rfl) ?_
                rintro _ _ _ ⟨Mmp9, mp9, rfl, rfl⟩
                refine At.skim 2 rfl rfl ?_
                refine At.quiet (q_lookup Try.underlying70 Try.underlying3 t3 rfl rfl mp9 (i := 0) rfl) rfl ?_
                refine At.say 122 (.int .i64 (byT (bendT u.p p (i : Int)).2)) rfl (congrArg (Value.int .i64) (by_look (by omega))) ?_
                refine At.skim 1 rfl rfl ?_
                refine At.nil ?_
                refine At.then ?_
                refine At.seq ?_
                refine At.draw 17 (.q 0 (.q 1 (.q 2 (.q 3 (.q 4 (.q 7 (.q 8 (.q 9 (.q 10 (.o 5 (.q 6 (.q 11 (.q 12 (.q 13 (.q 14 (.q 16 (.o 15 (.e)))))))))))))))))) _ (List.Sublist.refl _) mixed (by kernel_rfl) rfl ?_
                refine AtO.quiet rfl (q_move rfl) rfl (Calm.then Post.calm) ?_
                refine AtO.quiet rfl (q_move rfl) rfl (Calm.then Post.calm) ?_
                refine AtO.quiet rfl (q_eql rfl rfl) rfl (Calm.then Post.calm) ?_
                refine AtO.quiet rfl (q_move rfl) rfl (Calm.then Post.calm) ?_
                refine AtO.say 126 (.bool true) rfl (congrArg Value.bool (decide_eq_true (by omega))) ?_
                refine AtO.quietG rfl rfl rfl (q_loadS t24 rfl (RdS.loc (i := 1) rfl (m := 2) rfl) rfl) rfl (Calm.then Post.calm) ?_
                refine AtO.quietG rfl rfl rfl (q_move rfl) rfl (Calm.then Post.calm) ?_
                refine AtO.quietG rfl rfl rfl (q_len Try.underlying37 rfl) rfl (Calm.then Post.calm) ?_
                refine AtO.quietG rfl rfl rfl (q_move rfl) rfl (Calm.then Post.calm) ?_
                refine AtO.quietG rfl rfl rfl (q_add rfl rfl (by omega) (by omega)) rfl (Calm.then Post.calm) ?_
                refine AtO.callGA rfl rfl rfl en28 rfl (leaves28f _) (fun _ h => ⟨h.2.1, h.2.2.1, trivial⟩) (List.Perm.refl _) rfl (.refl _) ?_
                rintro _ _ _ ⟨l2, rfl, rfl, rfl, hpl2⟩
                refine AtO.quietG rfl rfl rfl (q_len Try.underlying37 rfl) rfl (Calm.then Post.calm) ?_
                refine AtO.say 129 (.int .i64 ((leavesT (bendT u.p p (i : Int)).1).length : Nat)) rfl (congrArg (Value.int .i64) (by rw [hpl2, toI_length, hpv])) ?_
                refine AtO.quietG rfl rfl rfl (q_eql rfl rfl) rfl (Calm.then Post.calm) ?_
                refine AtO.quiet rfl (q_pickT rfl rfl) rfl (Calm.then Post.calm) ?_
                refine AtO.quiet rfl (q_move rfl) rfl (Calm.then Post.calm) ?_
                refine AtO.say 136 (.bool true) rfl (congrArg Value.bool (decide_eq_true (by rw [hbk2, hlu, hll]))) ?_
                refine AtO.quietG rfl rfl rfl (q_loadS t24 rfl (RdS.loc (i := 1) rfl (m := 2) rfl) rfl) rfl (Calm.then Post.calm) ?_
                refine AtO.quietG rfl rfl rfl (q_loadS t24 rfl (RdS.blk (.tail _ (.tail _ (.tail _ (.tail _ (.tail _ (.tail _ (.tail _ (.tail _ (.tail _ (.head _)))))))))) (m := 2) rfl) rfl) rfl (Calm.then Post.calm) ?_
                refine AtO.callGA rfl rfl rfl en29 rfl (all29f _ (by assumption)) (fun _ h => ⟨h.2.2.1, h.2.2.2.1, trivial⟩) (List.Perm.refl _) rfl (.refl _) ?_
                rintro _ _ _ ⟨a2, rfl, rfl, rfl, hpa2⟩
                refine AtO.done ?_
                refine At.open rfl rfl ?_
                refine At.call en29 rfl (all29f _ (by assumption)) (fun _ h => ⟨h.2.2.2.2.2.2.2.2.2.2.2.2.1, h.2.2.2.2.2.2.2.2.2.2.2.2.2.1, trivial⟩) (List.Perm.refl _) rfl ?_
                rintro _ _ _ ⟨a1, rfl, rfl, rfl, hpa1⟩
                refine At.open rfl rfl ?_
                refine At.call en33 rfl (same33 _ _) (fun _ h => ⟨h.2.1, h.1, trivial⟩) (List.Perm.refl _) rfl ?_
                rintro _ _ _ ⟨rfl, rfl, rfl⟩
                refine At.skim 2 rfl rfl ?_
                refine At.say 143 (.bool true) rfl (congrArg Value.bool (decide_eq_true (by rw [hpa2, hpa1, hpv, hbk3, hau]))) ?_
                refine At.open rfl rfl ?_
                refine At.call en45 rfl (awake45) (fun _ _ => trivial) (List.Perm.refl _) rfl ?_
                rintro _ _ _ ⟨rfl, rfl, rfl⟩
                refine At.skim 2 rfl rfl ?_
                refine At.nil ?_
                refine At.then ?_
                refine At.ret ?_
                exact At.results (Γr := []) (M := []) rfl (RVals.cons (RVal.tmp rfl) RVals.nil) (.tail _ (.tail _ (.tail _ (.tail _ (.tail _ (.tail _ (.tail _ (.tail _ (.tail _ (.tail _ (.tail _ (.tail _ (.head _))))))))))))) (fun _ _ => trivial) (.cons _ (.cons _ (.cons _ (.refl _)))) ⟨rfl, rfl, rfl⟩
              · skip
                refine At.skip ?_
                refine At.then ?_
                refine At.seq ?_
                refine At.region ?_
                refine At.loud (l_makeMap) rfl ?_
                rintro _ _ _ ⟨bm, mp, rfl, hM0, rfl, rfl⟩
                refine At.loudN (l_mapInsert Try.underlying70 Try.underlying3 rfl rfl rfl hM0 (i := 0) rfl) ?_
                rintro _ _ _ ⟨Mmp10, mp10, rfl, rfl⟩
                refine At.loudN (l_mapInsert Try.underlying70 Try.underlying3 rfl rfl rfl mp10 (i := 0) rfl) ?_
                rintro _ _ _ ⟨Mmp11, mp11, rfl, rfl⟩
                refine At.loudN (l_mapInsert Try.underlying70 Try.underlying3 rfl rfl rfl mp11 (i := 0) rfl) ?_
                rintro _ _ _ ⟨Mmp12, mp12, rfl, rfl⟩
                refine At.skim 2 rfl rfl ?_
                refine At.quiet (q_lookup Try.underlying70 Try.underlying3 t3 rfl rfl mp12 (i := 0) rfl) rfl ?_
                refine At.say 122 (.int .i64 (byT (bendT u.p p (i : Int)).2)) rfl (congrArg (Value.int .i64) (by_look (by omega))) ?_
                refine At.skim 1 rfl rfl ?_
                refine At.nil ?_
                refine At.then ?_
                refine At.seq ?_
                refine At.draw 17 (.q 0 (.q 1 (.q 2 (.q 3 (.q 4 (.q 7 (.q 8 (.q 9 (.q 10 (.o 5 (.q 6 (.q 11 (.q 12 (.q 13 (.q 14 (.q 16 (.o 15 (.e)))))))))))))))))) _ (List.Sublist.refl _) mixed (by kernel_rfl) rfl ?_
                refine AtO.quiet rfl (q_move rfl) rfl (Calm.then Post.calm) ?_
                refine AtO.quiet rfl (q_move rfl) rfl (Calm.then Post.calm) ?_
                refine AtO.quiet rfl (q_eql rfl rfl) rfl (Calm.then Post.calm) ?_
                refine AtO.quiet rfl (q_move rfl) rfl (Calm.then Post.calm) ?_
                refine AtO.say 126 (.bool true) rfl (congrArg Value.bool (decide_eq_true (by omega))) ?_
                refine AtO.quietG rfl rfl rfl (q_loadS t24 rfl (RdS.loc (i := 1) rfl (m := 2) rfl) rfl) rfl (Calm.then Post.calm) ?_
                refine AtO.quietG rfl rfl rfl (q_move rfl) rfl (Calm.then Post.calm) ?_
                refine AtO.quietG rfl rfl rfl (q_len Try.underlying37 rfl) rfl (Calm.then Post.calm) ?_
                refine AtO.quietG rfl rfl rfl (q_move rfl) rfl (Calm.then Post.calm) ?_
                refine AtO.quietG rfl rfl rfl (q_add rfl rfl (by omega) (by omega)) rfl (Calm.then Post.calm) ?_
                refine AtO.callGA rfl rfl rfl en28 rfl (leaves28f _) (fun _ h => ⟨h.2.1, h.2.2.1, trivial⟩) (List.Perm.refl _) rfl (.refl _) ?_
                rintro _ _ _ ⟨l2, rfl, rfl, rfl, hpl2⟩
                refine AtO.quietG rfl rfl rfl (q_len Try.underlying37 rfl) rfl (Calm.then Post.calm) ?_
                refine AtO.say 129 (.int .i64 ((leavesT (bendT u.p p (i : Int)).1).length : Nat)) rfl (congrArg (Value.int .i64) (by rw [hpl2, toI_length, hpv])) ?_
                refine AtO.quietG rfl rfl rfl (q_eql rfl rfl) rfl (Calm.then Post.calm) ?_
                refine AtO.quiet rfl (q_pickT rfl rfl) rfl (Calm.then Post.calm) ?_
                refine AtO.quiet rfl (q_move rfl) rfl (Calm.then Post.calm) ?_
                refine AtO.say 136 (.bool true) rfl (congrArg Value.bool (decide_eq_true (by rw [hbk2, hlu, hll]))) ?_
                refine AtO.quietG rfl rfl rfl (q_loadS t24 rfl (RdS.loc (i := 1) rfl (m := 2) rfl) rfl) rfl (Calm.then Post.calm) ?_
                refine AtO.quietG rfl rfl rfl (q_loadS t24 rfl (RdS.blk (.tail _ (.tail _ (.tail _ (.tail _ (.tail _ (.tail _ (.tail _ (.tail _ (.tail _ (.head _)))))))))) (m := 2) rfl) rfl) rfl (Calm.then Post.calm) ?_
                refine AtO.callGA rfl rfl rfl en29 rfl (all29f _ (by assumption)) (fun _ h => ⟨h.2.2.1, h.2.2.2.1, trivial⟩) (List.Perm.refl _) rfl (.refl _) ?_
                rintro _ _ _ ⟨a2, rfl, rfl, rfl, hpa2⟩
                refine AtO.done ?_
                refine At.open rfl rfl ?_
                refine At.call en29 rfl (all29f _ (by assumption)) (fun _ h => ⟨h.2.2.2.2.2.2.2.2.2.2.2.2.1, h.2.2.2.2.2.2.2.2.2.2.2.2.2.1, trivial⟩) (List.Perm.refl _) rfl ?_
                rintro _ _ _ ⟨a1, rfl, rfl, rfl, hpa1⟩
                refine At.open rfl rfl ?_
                refine At.call en33 rfl (same33 _ _) (fun _ h => ⟨h.2.1, h.1, trivial⟩) (List.Perm.refl _) rfl ?_
                rintro _ _ _ ⟨rfl, rfl, rfl⟩
                refine At.skim 2 rfl rfl ?_
                refine At.say 143 (.bool true) rfl (congrArg Value.bool (decide_eq_true (by rw [hpa2, hpa1, hpv, hbk3, hau]))) ?_
                refine At.open rfl rfl ?_
                refine At.call en45 rfl (awake45) (fun _ _ => trivial) (List.Perm.refl _) rfl ?_
                rintro _ _ _ ⟨rfl, rfl, rfl⟩
                refine At.skim 2 rfl rfl ?_
                refine At.nil ?_
                refine At.then ?_
                refine At.ret ?_
                exact At.results (Γr := []) (M := []) rfl (RVals.cons (RVal.tmp rfl) RVals.nil) (.tail _ (.tail _ (.tail _ (.tail _ (.tail _ (.tail _ (.tail _ (.tail _ (.tail _ (.tail _ (.tail _ (.tail _ (.head _))))))))))))) (fun _ _ => trivial) (.cons _ (.cons _ (.cons _ (.refl _)))) ⟨rfl, rfl, rfl⟩
            · skip
              refine At.skim 5 rfl rfl ?_
              refine At.nil ?_
              refine At.then ?_
              refine At.condF rfl ?_
              refine At.skip ?_
              refine At.then ?_
              refine At.seq ?_
              refine At.region ?_
              refine At.loud (l_makeMap) rfl ?_
              rintro _ _ _ ⟨bm, mp, rfl, hM0, rfl, rfl⟩
              refine At.loudN (l_mapInsert Try.underlying70 Try.underlying3 rfl rfl rfl hM0 (i := 0) rfl) ?_
              rintro _ _ _ ⟨Mmp13, mp13, rfl, rfl⟩
              refine At.loudN (l_mapInsert Try.underlying70 Try.underlying3 rfl rfl rfl mp13 (i := 0) rfl) ?_
              rintro _ _ _ ⟨Mmp14, mp14, rfl, rfl⟩
              refine At.loudN (l_mapInsert Try.underlying70 Try.underlying3 rfl rfl rfl mp14 (i := 0) rfl) ?_
              rintro _ _ _ ⟨Mmp15, mp15, rfl, rfl⟩
              refine At.skim 2 rfl rfl ?_
              refine At.quiet (q_lookup Try.underlying70 Try.underlying3 t3 rfl rfl mp15 (i := 0) rfl) rfl ?_
              refine At.say 122 (.int .i64 (byT (bendT u.p p (i : Int)).2)) rfl (congrArg (Value.int .i64) (by_look (by omega))) ?_
              refine At.skim 1 rfl rfl ?_
              refine At.nil ?_
              refine At.then ?_
              refine At.seq ?_
              refine At.draw 17 (.q 0 (.q 1 (.q 2 (.q 3 (.q 4 (.q 7 (.q 8 (.q 9 (.q 10 (.o 5 (.q 6 (.q 11 (.q 12 (.q 13 (.q 14 (.q 16 (.o 15 (.e)))))))))))))))))) _ (List.Sublist.refl _) mixed (by kernel_rfl) rfl ?_
              refine AtO.quiet rfl (q_move rfl) rfl (Calm.then Post.calm) ?_
              refine AtO.quiet rfl (q_move rfl) rfl (Calm.then Post.calm) ?_
              refine AtO.quiet rfl (q_eql rfl rfl) rfl (Calm.then Post.calm) ?_
              refine AtO.quiet rfl (q_move rfl) rfl (Calm.then Post.calm) ?_
              refine AtO.say 126 (.bool true) rfl (congrArg Value.bool (decide_eq_true (by omega))) ?_
              refine AtO.quietG rfl rfl rfl (q_loadS t24 rfl (RdS.loc (i := 1) rfl (m := 2) rfl) rfl) rfl (Calm.then Post.calm) ?_
              refine AtO.quietG rfl rfl rfl (q_move rfl) rfl (Calm.then Post.calm) ?_
              refine AtO.quietG rfl rfl rfl (q_len Try.underlying37 rfl) rfl (Calm.then Post.calm) ?_
              refine AtO.quietG rfl rfl rfl (q_move rfl) rfl (Calm.then Post.calm) ?_
              refine AtO.quietG rfl rfl rfl (q_add rfl rfl (by omega) (by omega)) rfl (Calm.then Post.calm) ?_
              refine AtO.callGA rfl rfl rfl en28 rfl (leaves28f _) (fun _ h => ⟨h.2.1, h.2.2.1, trivial⟩) (List.Perm.refl _) rfl (.refl _) ?_
              rintro _ _ _ ⟨l2, rfl, rfl, rfl, hpl2⟩
              refine AtO.quietG rfl rfl rfl (q_len Try.underlying37 rfl) rfl (Calm.then Post.calm) ?_
              refine AtO.say 129 (.int .i64 ((leavesT (bendT u.p p (i : Int)).1).length : Nat)) rfl (congrArg (Value.int .i64) (by rw [hpl2, toI_length, hpv])) ?_
              refine AtO.quietG rfl rfl rfl (q_eql rfl rfl) rfl (Calm.then Post.calm) ?_
              refine AtO.quiet rfl (q_pickT rfl rfl) rfl (Calm.then Post.calm) ?_
              refine AtO.quiet rfl (q_move rfl) rfl (Calm.then Post.calm) ?_
              refine AtO.say 136 (.bool true) rfl (congrArg Value.bool (decide_eq_true (by rw [hbk2, hlu, hll]))) ?_
              refine AtO.quietG rfl rfl rfl (q_loadS t24 rfl (RdS.loc (i := 1) rfl (m := 2) rfl) rfl) rfl (Calm.then Post.calm) ?_
              refine AtO.quietG rfl rfl rfl (q_loadS t24 rfl (RdS.blk (.tail _ (.tail _ (.tail _ (.tail _ (.tail _ (.tail _ (.tail _ (.tail _ (.tail _ (.head _)))))))))) (m := 2) rfl) rfl) rfl (Calm.then Post.calm) ?_
              refine AtO.callGA rfl rfl rfl en29 rfl (all29f _ (by assumption)) (fun _ h => ⟨h.2.2.1, h.2.2.2.1, trivial⟩) (List.Perm.refl _) rfl (.refl _) ?_
              rintro _ _ _ ⟨a2, rfl, rfl, rfl, hpa2⟩
              refine AtO.done ?_
              refine At.open rfl rfl ?_
              refine At.call en29 rfl (all29f _ (by assumption)) (fun _ h => ⟨h.2.2.2.2.2.2.2.2.2.2.2.2.1, h.2.2.2.2.2.2.2.2.2.2.2.2.2.1, trivial⟩) (List.Perm.refl _) rfl ?_
              rintro _ _ _ ⟨a1, rfl, rfl, rfl, hpa1⟩
              refine At.open rfl rfl ?_
              refine At.call en33 rfl (same33 _ _) (fun _ h => ⟨h.2.1, h.1, trivial⟩) (List.Perm.refl _) rfl ?_
              rintro _ _ _ ⟨rfl, rfl, rfl⟩
              refine At.skim 2 rfl rfl ?_
              refine At.say 143 (.bool true) rfl (congrArg Value.bool (decide_eq_true (by rw [hpa2, hpa1, hpv, hbk3, hau]))) ?_
              refine At.open rfl rfl ?_
              refine At.call en45 rfl (awake45) (fun _ _ => trivial) (List.Perm.refl _) rfl ?_
              rintro _ _ _ ⟨rfl, rfl, rfl⟩
              refine At.skim 2 rfl rfl ?_
              refine At.nil ?_
              refine At.then ?_
              refine At.ret ?_
              exact At.results (Γr := []) (M := []) rfl (RVals.cons (RVal.tmp rfl) RVals.nil) (.tail _ (.tail _ (.tail _ (.tail _ (.tail _ (.tail _ (.tail _ (.tail _ (.tail _ (.tail _ (.tail _ (.tail _ (.head _))))))))))))) (fun _ _ => trivial) (.cons _ (.cons _ (.cons _ (.refl _)))) ⟨rfl, rfl, rfl⟩
        · skip
          refine AtO.loud rfl (l_alloc t24) rfl (by rintro _ _ _ ⟨_, rfl, rfl, rfl⟩; exact ⟨fun _ h => h, .cons _ (.refl _)⟩) ?_
          rintro _ _ _ ⟨b5, rfl, rfl, rfl⟩
          refine AtO.call rfl en34 rfl (set34 _ (by assumption) _ x.ps hxs _) (fun _ h => ⟨h.2.2.2.2.2.1, h.2.2.2.2.2.2.1, h.1, trivial⟩) (List.Perm.refl _) rfl (.cons _ (.refl _)) ?_
          rintro _ _ _ ⟨u, Mu, rfl, rfl, rfl, hu, hpu0⟩
          refine AtO.quiet rfl (q_move rfl) rfl (Calm.then Post.calm) ?_
          refine AtO.quiet rfl (q_extract rfl rfl) rfl (Calm.then Post.calm) ?_
          refine AtO.quiet rfl (q_extract rfl rfl) rfl (Calm.then Post.calm) ?_
          refine AtO.loudNA rfl (l_store t24 rfl rfl (i := 1) rfl rfl rfl rfl) (by rintro _ _ _ ⟨rfl, rfl⟩; exact ⟨fun _ h => h, (.cons _ (.cons _ (.refl _)))⟩) ?_
          rintro _ _ _ ⟨rfl, rfl⟩
          refine AtO.done ?_
          refine At.skim 1 rfl rfl ?_
          refine At.nil ?_
          refine At.then ?_
          refine At.seq ?_
          refine At.seq ?_
          refine At.region ?_
          have hst1b : setT t.p (i : Int) x.ps.l ((c : Int) - 50) = _ := hst1
          have hpu : u.p = ⟨t.p.root, t.p.ns.set i { x.p with l := x.p.l, stat := (c : Int) - 50 }⟩ := by rw [hpu0, setD, hst1b]; rfl
          have hum : mayT u.p = some s := by rw [hpu]; exact hst2
          have hlu : leavesT u.p = leavesT t.p := by rw [hpu]; exact hst3
          have hau : allT u.p = allT t.p := by rw [hpu]; exact hst4
          have hul : u.ns.l.length = t.ns.l.length := by have h := p_len hpu; rw [h]; simp [Tr.p]
          have hus : smallP u.ns.l := small_all (by rw [hum]; rfl) (by rw [hau]; exact hall) (by omega)
          have hmu : i ∈ leavesT u.p := by rw [hlu]; exact hmem
          obtain ⟨xu, hxu, hxup⟩ := p_get hpu (show (t.p.ns.set i { x.p with l := x.p.l, stat := (c : Int) - 50 })[i]? = some { x.p with l := x.p.l, stat := (c : Int) - 50 } from List.getElem?_set_self hilt)
          have hxupp : u.p.ns[i]? = some xu.p := map_get hxu
          have huN : u.p.ns.length + 2 ≤ 2000 := by rw [show u.p.ns.length = u.ns.l.length by simp [Tr.p]]; omega
          have hwhat := bend_what (p := p) hum hmu hxupp huN (w := decideS p xu.stat) (d := (bendT u.p p (i : Int)).2) (k := xu.ps.l.length) (len := lv.l.length) rfl rfl rfl (by rw [hll, hlu])
          obtain ⟨hbk1, hbk2, hbk3⟩ := bend_keeps (p := p) hum hmu hxupp
          have hbd := byT_bd (bendT u.p p (i : Int)).2
          refine At.skim 3 rfl rfl ?_
          refine At.say 74 (.bool false) rfl (congrArg Value.bool (by rw [hst1b]; rfl)) ?_
          refine At.open rfl rfl ?_
          refine At.quiet (q_fieldAddr s24 rfl rfl rfl) rfl ?_
          refine At.open rfl rfl ?_
          refine At.quiet (q_load t22 rfl (Rd.loc (i := 1) rfl rfl)) rfl ?_
          refine At.open rfl rfl ?_
          refine At.quiet (q_len Try.underlying22 rfl) rfl ?_
          refine At.open rfl rfl ?_
          refine At.quiet (q_fieldAddr s24 rfl rfl rfl) rfl ?_
          refine At.open rfl rfl ?_
          refine At.quiet (q_load t22 rfl (Rd.blk (.tail _ (.tail _ (.tail _ (.tail _ (.head _))))) rfl)) rfl ?_
          refine At.open rfl rfl ?_
          refine At.quiet (q_len Try.underlying22 rfl) rfl ?_
          refine At.skim 2 rfl rfl ?_
          refine At.nil ?_
          refine At.then ?_
          refine At.say 82 (.bool false) rfl (congrArg Value.bool (decide_eq_false (by rw [hul]; simp))) ?_
          refine At.condF rfl ?_
          refine At.skip ?_
          refine At.then ?_
          refine At.seq ?_
          refine At.region ?_
          refine At.freezeOwn 0 hu rfl ?_
          refine At.quiet (q_loadS t24 rfl (RdS.loc (i := 0) rfl (m := 2) rfl) rfl) rfl ?_
          refine At.quiet (q_loadS t64 rfl (RdS.blk (.tail _ (.tail _ (.tail _ (.tail _ (.head _))))) (m := 5) rfl) rfl) rfl ?_
          refine At.skim 1 rfl rfl ?_
          refine At.call en51 rfl (bend51 _ (by assumption) p _) (fun _ h => ⟨h.1, h.2.1, trivial⟩) (List.Perm.refl _) rfl ?_
          rintro _ _ _ ⟨v, rfl, rfl, rfl, hpv⟩
          refine At.skim 1 rfl rfl ?_
          refine At.quiet (q_extract rfl rfl) rfl ?_
          refine At.quiet (q_extract rfl rfl) rfl ?_
          refine At.loud (l_alloc t24) rfl ?_
          rintro _ _ _ ⟨b6, rfl, rfl, rfl⟩
          refine At.loudN (l_store t24 rfl rfl (i := 0) rfl rfl rfl rfl) ?_
          rintro _ _ _ ⟨rfl, rfl⟩
          refine At.skim 1 rfl rfl ?_
          refine At.nil ?_
          refine At.then ?_
          refine At.seq ?_
          have hvs : smallP v.ns.l := small_all (by rw [hpv]; exact hbk1) (by rw [hpv, hbk3, hau]; exact hall) (by omega)
          refine At.know (prsP xu.ps) (fun _ h => psP_get h.2.2.2.1 hxu) ?_
          refine At.draw 7 (.q 0 (.q 1 (.q 2 (.q 3 (.q 4 (.q 5 (.q 6 (.e)))))))) _ (List.Sublist.refl _) mixed (by kernel_rfl) rfl ?_
          refine AtO.quiet rfl (q_loadS t64 rfl (RdS.blk (.tail _ (.tail _ (.tail _ (.tail _ (.tail _ (.tail _ (.tail _ (.head _)))))))) (m := 5) rfl) rfl) rfl (Calm.then Post.calm) ?_
          refine AtO.quiet rfl (q_fieldAddr s24 rfl rfl rfl) rfl (Calm.then Post.calm) ?_
          refine AtO.quiet rfl (q_load t22 rfl (Rd.loc (i := 1) rfl rfl)) rfl (Calm.then Post.calm) ?_
          refine AtO.quiet rfl (q_move rfl) rfl (Calm.then Post.calm) ?_
          refine AtO.quiet rfl (q_index Try.underlying22 t33 rfl (.tail _ (.tail _ (.tail _ (.head _)))) (by simp) rfl rfl (lt_of_get hxu)) rfl (Calm.then Post.calm) ?_
          refine AtO.quiet rfl (q_fieldAddr s33 rfl rfl rfl) rfl (Calm.then Post.calm) ?_
          refine AtO.quiet rfl (q_load t3 rfl (Rd.sl (.tail _ (.tail _ (.tail _ (.head _)))) (map_get hxu) rfl)) rfl (Calm.then Post.calm) ?_
          refine AtO.done ?_
          refine At.call en54 rfl (decide54 p xu.stat) (fun _ _ => trivial) (List.Perm.refl _) rfl ?_
          rintro _ _ _ ⟨rfl, rfl, rfl⟩
          refine At.skim 1 rfl rfl ?_
          refine At.nil ?_
          refine At.then ?_
          refine At.seq ?_
          refine At.seq ?_
          refine At.region ?_
          refine At.skim 3 rfl rfl ?_
          refine At.splitP (d := 100) rfl (fun hw1 => ?_) (fun hw1 => ?_)
          · skip
            refine At.open rfl rfl ?_
            refine At.quiet (q_fieldAddr s24 rfl rfl rfl) rfl ?_
            refine At.open rfl rfl ?_
            refine At.quiet (q_load t22 rfl (Rd.loc (i := 1) rfl rfl)) rfl ?_
            refine At.skim 1 rfl rfl ?_
            refine At.open rfl rfl ?_
            refine At.quiet (q_index Try.underlying22 t33 rfl (.tail _ (.tail _ (.tail _ (.head _)))) (by simp) rfl rfl (lt_of_get hxu)) rfl ?_
            refine At.open rfl rfl ?_
            refine At.quiet (q_fieldAddr s33 rfl rfl rfl) rfl ?_
            refine At.open rfl rfl ?_
            refine At.quiet (q_load t31 rfl (Rd.sl (.tail _ (.tail _ (.tail _ (.head _)))) (map_get hxu) rfl)) rfl ?_
            refine At.open rfl rfl ?_
            refine At.quiet (q_len Try.underlying31 rfl) rfl ?_
            refine At.skim 3 rfl rfl ?_
            refine At.splitP (d := 110) rfl (fun hl2 => ?_) (fun hl2 => ?_)
            · skip
              refine At.skim 8 rfl rfl ?_
              refine At.nil ?_
              refine At.then ?_
              refine At.condT rfl ?_
              refine At.region ?_
              refine At.skim 1 rfl rfl ?_
              refine At.nil ?_
              refine At.then ?_
              refine At.seq ?_
              refine At.region ?_
              refine At.loud (l_makeMap) rfl ?_
              rintro _ _ _ ⟨bm, mp, rfl, hM0, rfl, rfl⟩
              refine At.loudN (l_mapInsert Try.underlying70 Try.underlying3 rfl rfl rfl hM0 (i := 0) rfl) ?_
              rintro _ _ _ ⟨Mmp16, mp16, rfl, rfl⟩
              refine At.loudN (l_mapInsert Try.underlying70 Try.underlying3 rfl rfl rfl mp16 (i := 0) rfl) ?_
              rintro _ _ _ ⟨Mmp17, mp17, rfl, rfl⟩
              refine At.loudN (l_mapInsert Try.underlying70 Try.underlying3 rfl rfl rfl mp17 (i := 0) rfl) ?_
              rintro _ _ _ ⟨Mmp18, mp18, rfl, rfl⟩
              refine At.skim 2 rfl rfl ?_
              refine At.quiet (q_lookup Try.underlying70 Try.underlying3 t3 rfl rfl mp18 (i := 0) rfl) rfl ?_
              refine At.say 122 (.int .i64 (byT (bendT u.p p (i : Int)).2)) rfl (congrArg (Value.int .i64) (by_look (by omega))) ?_
              refine At.skim 1 rfl rfl ?_
              refine At.nil ?_
              refine At.then ?_
              refine At.seq ?_
              refine At.draw 17 (.q 0 (.q 1 (.q 2 (.q 3 (.q 4 (.q 7 (.q 8 (.q 9 (.q 10 (.o 5 (.q 6 (.q 11 (.q 12 (.q 13 (.q 14 (.q 16 (.o 15 (.e)))))))))))))))))) _ (List.Sublist.refl _) mixed (by kernel_rfl) rfl ?_
              refine AtO.quiet rfl (q_move rfl) rfl (Calm.then Post.calm) ?_
              refine AtO.quiet rfl (q_move rfl) rfl (Calm.then Post.calm) ?_
              refine AtO.quiet rfl (q_eql rfl rfl) rfl (Calm.then Post.calm) ?_
              refine AtO.quiet rfl (q_move rfl) rfl (Calm.then Post.calm) ?_
              refine AtO.say 126 (.bool true) rfl (congrArg Value.bool (decide_eq_true (by omega))) ?_
              refine AtO.quietG rfl rfl rfl (q_loadS t24 rfl (RdS.loc (i := 1) rfl (m := 2) rfl) rfl) rfl (Calm.then Post.calm) ?_
              refine AtO.quietG rfl rfl rfl (q_move rfl) rfl (Calm.then Post.calm) ?_
              refine AtO.quietG rfl rfl rfl (q_len Try.underlying37 rfl) rfl (Calm.then Post.calm) ?_
              refine AtO.quietG rfl rfl rfl (q_move rfl) rfl (Calm.then Post.calm) ?_
              refine AtO.quietG rfl rfl rfl (q_add rfl rfl (by omega) (by omega)) rfl (Calm.then Post.calm) ?_
              refine AtO.callGA rfl rfl rfl en28 rfl (leaves28f _) (fun _ h => ⟨h.2.1, h.2.2.1, trivial⟩) (List.Perm.refl _) rfl (.refl _) ?_
              rintro _ _ _ ⟨l2, rfl, rfl, rfl, hpl2⟩
              refine AtO.quietG rfl rfl rfl (q_len Try.underlying37 rfl) rfl (Calm.then Post.calm) ?_
              refine AtO.say 129 (.int .i64 ((leavesT (bendT u.p p (i : Int)).1).length : Nat)) rfl (congrArg (Value.int .i64) (by rw [hpl2, toI_length, hpv])) ?_
              refine AtO.quietG rfl rfl rfl (q_eql rfl rfl) rfl (Calm.then Post.calm) ?_
              refine AtO.quiet rfl (q_pickT rfl rfl) rfl (Calm.then Post.calm) ?_
              refine AtO.quiet rfl (q_move rfl) rfl (Calm.then Post.calm) ?_
              refine AtO.say 136 (.bool true) rfl (congrArg Value.bool (decide_eq_true (by rw [hbk2, hlu, hll]))) ?_
              refine AtO.quietG rfl rfl rfl (q_loadS t24 rfl (RdS.loc (i := 1) rfl (m := 2) rfl) rfl) rfl (Calm.then Post.calm) ?_
              refine AtO.quietG rfl rfl rfl (q_loadS t24 rfl (RdS.blk (.tail _ (.tail _ (.tail _ (.tail _ (.tail _ (.tail _ (.tail _ (.tail _ (.tail _ (.head _)))))))))) (m := 2) rfl) rfl) rfl (Calm.then Post.calm) ?_
              refine AtO.callGA rfl rfl rfl en29 rfl (all29f _ (by assumption)) (fun _ h => ⟨h.2.2.1, h.2.2.2.1, trivial⟩) (List.Perm.refl _) rfl (.refl _) ?_
              rintro _ _ _ ⟨a2, rfl, rfl, rfl, hpa2⟩
              refine AtO.done ?_
              refine At.open rfl rfl ?_
              refine At.call en29 rfl (all29f _ (by assumption)) (fun _ h => ⟨h.2.2.2.2.2.2.2.2.2.2.2.2.1, h.2.2.2.2.2.2.2.2.2.2.2.2.2.1, trivial⟩) (List.Perm.refl _) rfl ?_
              rintro _ _ _ ⟨a1, rfl, rfl, rfl, hpa1⟩
              refine At.open rfl rfl ?_
              refine At.call en33 rfl (same33 _ _) (fun _ h => ⟨h.2.1, h.1, trivial⟩) (List.Perm.refl _) rfl ?_
              rintro _ _ _ ⟨rfl, rfl, rfl⟩
              refine At.skim 2 rfl rfl ?_
              refine At.say 143 (.bool true) rfl (congrArg Value.bool (decide_eq_true (by rw [hpa2, hpa1, hpv, hbk3, hau]))) ?_
              refine At.open rfl rfl ?_
              refine At.call en45 rfl (awake45) (fun _ _ => trivial) (List.Perm.refl _) rfl ?_
              rintro _ _ _ ⟨rfl, rfl, rfl⟩
              refine At.skim 2 rfl rfl ?_
              refine At.nil ?_
              refine At.then ?_
              refine At.ret ?_
              exact At.results (Γr := []) (M := []) rfl (RVals.cons (RVal.tmp rfl) RVals.nil) (.tail _ (.tail _ (.tail _ (.tail _ (.tail _ (.tail _ (.tail _ (.tail _ (.tail _ (.tail _ (.tail _ (.tail _ (.head _))))))))))))) (fun _ _ => trivial) (.cons _ (.cons _ (.cons _ (.refl _)))) ⟨rfl, rfl, rfl⟩
            · skip
              refine At.skim 3 rfl rfl ?_
              refine At.splitP (d := 113) rfl (fun hw2 => ?_) (fun hw2 => ?_)
              · skip
                exfalso; omega
              · skip
                refine At.skim 5 rfl rfl ?_
                refine At.nil ?_
                refine At.then ?_
                refine At.condF rfl ?_
                refine At.skip ?_
                refine At.then ?_
                refine At.seq ?_
                refine At.region ?_
                refine At.loud (l_makeMap) rfl ?_
                rintro _ _ _ ⟨bm, mp, rfl, hM0, rfl, rfl⟩
                refine At.loudN (l_mapInsert Try.underlying70 Try.underlying3 rfl rfl rfl hM0 (i := 0) rfl) ?_
                rintro _ _ _ ⟨Mmp19, mp19, rfl, rfl⟩
                refine At.loudN (l_mapInsert Try.underlying70 Try.underlying3 rfl rfl rfl mp19 (i := 0) rfl) ?_
                rintro _ _ _ ⟨Mmp20, mp20, rfl, rfl⟩
                refine At.loudN (l_mapInsert Try.underlying70 Try.underlying3 rfl rfl rfl mp20 (i := 0) rfl) ?_
                rintro _ _ _ ⟨Mmp21, mp21, rfl, rfl⟩
                refine At.skim 2 rfl rfl ?_
                refine At.quiet (q_lookup Try.underlying70 Try.underlying3 t3 rfl rfl mp21 (i := 0) rfl) rfl ?_
                refine At.say 122 (.int .i64 (byT (bendT u.p p (i : Int)).2)) rfl (congrArg (Value.int .i64) (by_look (by omega))) ?_
                refine At.skim 1 rfl rfl ?_
                refine At.nil ?_
                refine At.then ?_
                refine At.seq ?_
                refine At.draw 17 (.q 0 (.q 1 (.q 2 (.q 3 (.q 4 (.q 7 (.q 8 (.q 9 (.q 10 (.o 5 (.q 6 (.q 11 (.q 12 (.q 13 (.q 14 (.q 16 (.o 15 (.e)))))))))))))))))) _ (List.Sublist.refl _) mixed (by kernel_rfl) rfl ?_
                refine AtO.quiet rfl (q_move rfl) rfl (Calm.then Post.calm) ?_
                refine AtO.quiet rfl (q_move rfl) rfl (Calm.then Post.calm) ?_
                refine AtO.quiet rfl (q_eql rfl rfl) rfl (Calm.then Post.calm) ?_
                refine AtO.quiet rfl (q_move rfl) rfl (Calm.then Post.calm) ?_
                refine AtO.say 126 (.bool true) rfl (congrArg Value.bool (decide_eq_true (by omega))) ?_
                refine AtO.quietG rfl rfl rfl (q_loadS t24 rfl (RdS.loc (i := 1) rfl (m := 2) rfl) rfl) rfl (Calm.then Post.calm) ?_
                refine AtO.quietG rfl rfl rfl (q_move rfl) rfl (Calm.then Post.calm) ?_
                refine AtO.quietG rfl rfl rfl (q_len Try.underlying37 rfl) rfl (Calm.then Post.calm) ?_
                refine AtO.quietG rfl rfl rfl (q_move rfl) rfl (Calm.then Post.calm) ?_
                refine AtO.quietG rfl rfl rfl (q_add rfl rfl (by omega) (by omega)) rfl (Calm.then Post.calm) ?_
                refine AtO.callGA rfl rfl rfl en28 rfl (leaves28f _) (fun _ h => ⟨h.2.1, h.2.2.1, trivial⟩) (List.Perm.refl _) rfl (.refl _) ?_
                rintro _ _ _ ⟨l2, rfl, rfl, rfl, hpl2⟩
                refine AtO.quietG rfl rfl rfl (q_len Try.underlying37 rfl) rfl (Calm.then Post.calm) ?_
                refine AtO.say 129 (.int .i64 ((leavesT (bendT u.p p (i : Int)).1).length : Nat)) rfl (congrArg (Value.int .i64) (by rw [hpl2, toI_length, hpv])) ?_
                refine AtO.quietG rfl rfl rfl (q_eql rfl rfl) rfl (Calm.then Post.calm) ?_
                refine AtO.quiet rfl (q_pickT rfl rfl) rfl (Calm.then Post.calm) ?_
                refine AtO.quiet rfl (q_move rfl) rfl (Calm.then Post.calm) ?_
                refine AtO.say 136 (.bool true) rfl (congrArg Value.bool (decide_eq_true (by rw [hbk2, hlu, hll]))) ?_
                refine AtO.quietG rfl rfl rfl (q_loadS t24 rfl (RdS.loc (i := 1) rfl (m := 2) rfl) rfl) rfl (Calm.then Post.calm) ?_
                refine AtO.quietG rfl rfl rfl (q_loadS t24 rfl (RdS.blk (.tail _ (.tail _ (.tail _ (.tail _ (.tail _ (.tail _ (.tail _ (.tail _ (.tail _ (.head _)))))))))) (m := 2) rfl) rfl) rfl (Calm.then Post.calm) ?_
                refine AtO.callGA rfl rfl rfl en29 rfl (all29f _ (by assumption)) (fun _ h => ⟨h.2.2.1, h.2.2.2.1, trivial⟩) (List.Perm.refl _) rfl (.refl _) ?_
                rintro _ _ _ ⟨a2, rfl, rfl, rfl, hpa2⟩
                refine AtO.done ?_
                refine At.open rfl rfl ?_
                refine At.call en29 rfl (all29f _ (by assumption)) (fun _ h => ⟨h.2.2.2.2.2.2.2.2.2.2.2.2.1, h.2.2.2.2.2.2.2.2.2.2.2.2.2.1, trivial⟩) (List.Perm.refl _) rfl ?_
                rintro _ _ _ ⟨a1, rfl, rfl, rfl, hpa1⟩
                refine At.open rfl rfl ?_
                refine At.call en33 rfl (same33 _ _) (fun _ h => ⟨h.2.1, h.1, trivial⟩) (List.Perm.refl _) rfl ?_
                rintro _ _ _ ⟨rfl, rfl, rfl⟩
                refine At.skim 2 rfl rfl ?_
                refine At.say 143 (.bool true) rfl (congrArg Value.bool (decide_eq_true (by rw [hpa2, hpa1, hpv, hbk3, hau]))) ?_
                refine At.open rfl rfl ?_
                refine At.call en45 rfl (awake45) (fun _ _ => trivial) (List.Perm.refl _) rfl ?_
                rintro _ _ _ ⟨rfl, rfl, rfl⟩
                refine At.skim 2 rfl rfl ?_
                refine At.nil ?_
                refine At.then ?_
                refine At.ret ?_
                exact At.results (Γr := []) (M := []) rfl (RVals.cons (RVal.tmp rfl) RVals.nil) (.tail _ (.tail _ (.tail _ (.tail _ (.tail _ (.tail _ (.tail _ (.tail _ (.tail _ (.tail _ (.tail _ (.tail _ (.head _))))))))))))) (fun _ _ => trivial) (.cons _ (.cons _ (.cons _ (.refl _)))) ⟨rfl, rfl, rfl⟩
          · skip
            refine At.skim 13 rfl rfl ?_
            refine At.splitP (d := 113) rfl (fun hw2 => ?_) (fun hw2 => ?_)
            · skip
              refine At.skim 1 rfl rfl ?_
              refine At.open rfl rfl ?_
              refine At.quiet (q_len Try.underlying37 rfl) rfl ?_
              refine At.skim 3 rfl rfl ?_
              refine At.nil ?_
              refine At.then ?_
              refine At.if rfl (fun hl1 => ?_) (fun hl1 => ?_)
              · skip
                refine At.region ?_
                refine At.skim 1 rfl rfl ?_
                refine At.nil ?_
                refine At.then ?_
                refine At.seq ?_
                refine At.region ?_
                refine At.loud (l_makeMap) rfl ?_
                rintro _ _ _ ⟨bm, mp, rfl, hM0, rfl, rfl⟩
                refine At.loudN (l_mapInsert Try.underlying70 Try.underlying3 rfl rfl rfl hM0 (i := 0) rfl) ?_
                rintro _ _ _ ⟨Mmp22, mp22, rfl, rfl⟩
                refine At.loudN (l_mapInsert Try.underlying70 Try.underlying3 rfl rfl rfl mp22 (i := 0) rfl) ?_
                rintro _ _ _ ⟨Mmp23, mp23, rfl, rfl⟩
                refine At.loudN (l_mapInsert Try.underlying70 Try.underlying3 rfl rfl rfl mp23 (i := 0) rfl) ?_
                rintro _ _ _ ⟨Mmp24, mp24, rfl, rfl⟩
                refine At.skim 2 rfl rfl ?_
                refine At.quiet (q_lookup Try.underlying70 Try.underlying3 t3 rfl rfl mp24 (i := 0) rfl) rfl ?_
                refine At.say 122 (.int .i64 (byT (bendT u.p p (i : Int)).2)) rfl (congrArg (Value.int .i64) (by_look (by omega))) ?_
                refine At.skim 1 rfl rfl ?_
                refine At.nil ?_
                refine At.then ?_
                refine At.seq ?_
                refine At.draw 17 (.q 0 (.q 1 (.q 2 (.q 3 (.q 4 (.q 7 (.q 8 (.q 9 (.q 10 (.o 5 (.q 6 (.q 11 (.q 12 (.q 13 (.q 14 (.q 16 (.o 15 (.e)))))))))))))))))) _ (List.Sublist.refl _) mixed (by kernel_rfl) rfl ?_
                refine AtO.quiet rfl (q_move rfl) rfl (Calm.then Post.calm) ?_
                refine AtO.quiet rfl (q_move rfl) rfl (Calm.then Post.calm) ?_
                refine AtO.quiet rfl (q_eql rfl rfl) rfl (Calm.then Post.calm) ?_
                refine AtO.quiet rfl (q_move rfl) rfl (Calm.then Post.calm) ?_
                refine AtO.say 126 (.bool true) rfl (congrArg Value.bool (decide_eq_true (by omega))) ?_
                refine AtO.quietG rfl rfl rfl (q_loadS t24 rfl (RdS.loc (i := 1) rfl (m := 2) rfl) rfl) rfl (Calm.then Post.calm) ?_
                refine AtO.quietG rfl rfl rfl (q_move rfl) rfl (Calm.then Post.calm) ?_
                refine AtO.quietG rfl rfl rfl (q_len Try.underlying37 rfl) rfl (Calm.then Post.calm) ?_
                refine AtO.quietG rfl rfl rfl (q_move rfl) rfl (Calm.then Post.calm) ?_
                refine AtO.quietG rfl rfl rfl (q_add rfl rfl (by omega) (by omega)) rfl (Calm.then Post.calm) ?_
                refine AtO.callGA rfl rfl rfl en28 rfl (leaves28f _) (fun _ h => ⟨h.2.1, h.2.2.1, trivial⟩) (List.Perm.refl _) rfl (.refl _) ?_
                rintro _ _ _ ⟨l2, rfl, rfl, rfl, hpl2⟩
                refine AtO.quietG rfl rfl rfl (q_len Try.underlying37 rfl) rfl (Calm.then Post.calm) ?_
                refine AtO.say 129 (.int .i64 ((leavesT (bendT u.p p (i : Int)).1).length : Nat)) rfl (congrArg (Value.int .i64) (by rw [hpl2, toI_length, hpv])) ?_
                refine AtO.quietG rfl rfl rfl (q_eql rfl rfl) rfl (Calm.then Post.calm) ?_
                refine AtO.quiet rfl (q_pickT rfl rfl) rfl (Calm.then Post.calm) ?_
                refine AtO.quiet rfl (q_move rfl) rfl (Calm.then Post.calm) ?_
                refine AtO.say 136 (.bool true) rfl (congrArg Value.bool (decide_eq_true (by rw [hbk2, hlu, hll]))) ?_
                refine AtO.quietG rfl rfl rfl (q_loadS t24 rfl (RdS.loc (i := 1) rfl (m := 2) rfl) rfl) rfl (Calm.then Post.calm) ?_
                refine AtO.quietG rfl rfl rfl (q_loadS t24 rfl (RdS.blk (.tail _ (.tail _ (.tail _ (.tail _ (.tail _ (.tail _ (.tail _ (.tail _ (.tail _ (.head _)))))))))) (m := 2) rfl) rfl) rfl (Calm.then Post.calm) ?_
                refine AtO.callGA rfl rfl rfl en29 rfl (all29f _ (by assumption)) (fun _ h => ⟨h.2.2.1, h.2.2.2.1, trivial⟩) (List.Perm.refl _) rfl (.refl _) ?_
                rintro _ _ _ ⟨a2, rfl, rfl, rfl, hpa2⟩
                refine AtO.done ?_
                refine At.open rfl rfl ?_
                refine At.call en29 rfl (all29f _ (by assumption)) (fun _ h => ⟨h.2.2.2.2.2.2.2.2.2.2.2.2.1, h.2.2.2.2.2.2.2.2.2.2.2.2.2.1, trivial⟩) (List.Perm.refl _) rfl ?_
                rintro _ _ _ ⟨a1, rfl, rfl, rfl, hpa1⟩
                refine At.open rfl rfl ?_
                refine At.call en33 rfl (same33 _ _) (fun _ h => ⟨h.2.1, h.1, trivial⟩) (List.Perm.refl _) rfl ?_
                rintro _ _ _ ⟨rfl, rfl, rfl⟩
                refine At.skim 2 rfl rfl ?_
                refine At.say 143 (.bool true) rfl (congrArg Value.bool (decide_eq_true (by rw [hpa2, hpa1, hpv, hbk3, hau]))) ?_
                refine At.open rfl rfl ?_
                refine At.call en45 rfl (awake45) (fun _ _ => trivial) (List.Perm.refl _) rfl ?_
                rintro _ _ _ ⟨rfl, rfl, rfl⟩
                refine At.skim 2 rfl rfl ?_
                refine At.nil ?_
                refine At.then ?_
                refine At.ret ?_
                exact At.results (Γr := []) (M := []) rfl (RVals.cons (RVal.tmp rfl) RVals.nil) (.tail _ (.tail _ (.tail _ (.tail _ (.tail _ (.tail _ (.tail _ (.tail _ (.tail _ (.tail _ (.tail _ (.tail _ (.head _))))))))))))) (fun _ _ => trivial) (.cons _ (.cons _ (.cons _ (.refl _)))) ⟨rfl, rfl, rfl⟩
              · skip
                refine At.skip ?_
                refine At.then ?_
                refine At.seq ?_
                refine At.region ?_
                refine At.loud (l_makeMap) rfl ?_
                rintro _ _ _ ⟨bm, mp, rfl, hM0, rfl, rfl⟩
                refine At.loudN (l_mapInsert Try.underlying70 Try.underlying3 rfl rfl rfl hM0 (i := 0) rfl) ?_
                rintro _ _ _ ⟨Mmp25, mp25, rfl, rfl⟩
                refine At.loudN (l_mapInsert Try.underlying70 Try.underlying3 rfl rfl rfl mp25 (i := 0) rfl) ?_
                rintro _ _ _ ⟨Mmp26, mp26, rfl, rfl⟩
                refine At.loudN (l_mapInsert Try.underlying70 Try.underlying3 rfl rfl rfl mp26 (i := 0) rfl) ?_
                rintro _ _ _ ⟨Mmp27, mp27, rfl, rfl⟩
                refine At.skim 2 rfl rfl ?_
                refine At.quiet (q_lookup Try.underlying70 Try.underlying3 t3 rfl rfl mp27 (i := 0) rfl) rfl ?_
                refine At.say 122 (.int .i64 (byT (bendT u.p p (i : Int)).2)) rfl (congrArg (Value.int .i64) (by_look (by omega))) ?_
                refine At.skim 1 rfl rfl ?_
                refine At.nil ?_
                refine At.then ?_
                refine At.seq ?_
                refine At.draw 17 (.q 0 (.q 1 (.q 2 (.q 3 (.q 4 (.q 7 (.q 8 (.q 9 (.q 10 (.o 5 (.q 6 (.q 11 (.q 12 (.q 13 (.q 14 (.q 16 (.o 15 (.e)))))))))))))))))) _ (List.Sublist.refl _) mixed (by kernel_rfl) rfl ?_
                refine AtO.quiet rfl (q_move rfl) rfl (Calm.then Post.calm) ?_
                refine AtO.quiet rfl (q_move rfl) rfl (Calm.then Post.calm) ?_
                refine AtO.quiet rfl (q_eql rfl rfl) rfl (Calm.then Post.calm) ?_
                refine AtO.quiet rfl (q_move rfl) rfl (Calm.then Post.calm) ?_
                refine AtO.say 126 (.bool true) rfl (congrArg Value.bool (decide_eq_true (by omega))) ?_
                refine AtO.quietG rfl rfl rfl (q_loadS t24 rfl (RdS.loc (i := 1) rfl (m := 2) rfl) rfl) rfl (Calm.then Post.calm) ?_
                refine AtO.quietG rfl rfl rfl (q_move rfl) rfl (Calm.then Post.calm) ?_
                refine AtO.quietG rfl rfl rfl (q_len Try.underlying37 rfl) rfl (Calm.then Post.calm) ?_
                refine AtO.quietG rfl rfl rfl (q_move rfl) rfl (Calm.then Post.calm) ?_
                refine AtO.quietG rfl rfl rfl (q_add rfl rfl (by omega) (by omega)) rfl (Calm.then Post.calm) ?_
                refine AtO.callGA rfl rfl rfl en28 rfl (leaves28f _) (fun _ h => ⟨h.2.1, h.2.2.1, trivial⟩) (List.Perm.refl _) rfl (.refl _) ?_
                rintro _ _ _ ⟨l2, rfl, rfl, rfl, hpl2⟩
                refine AtO.quietG rfl rfl rfl (q_len Try.underlying37 rfl) rfl (Calm.then Post.calm) ?_
                refine AtO.say 129 (.int .i64 ((leavesT (bendT u.p p (i : Int)).1).length : Nat)) rfl (congrArg (Value.int .i64) (by rw [hpl2, toI_length, hpv])) ?_
                refine AtO.quietG rfl rfl rfl (q_eql rfl rfl) rfl (Calm.then Post.calm) ?_
                refine AtO.quiet rfl (q_pickT rfl rfl) rfl (Calm.then Post.calm) ?_
                refine AtO.quiet rfl (q_move rfl) rfl (Calm.then Post.calm) ?_
                refine AtO.say 136 (.bool true) rfl (congrArg Value.bool (decide_eq_true (by rw [hbk2, hlu, hll]))) ?_
                refine AtO.quietG rfl rfl rfl (q_loadS t24 rfl (RdS.loc (i := 1) rfl (m := 2) rfl) rfl) rfl (Calm.then Post.calm) ?_
                refine AtO.quietG rfl rfl rfl (q_loadS t24 rfl (RdS.blk (.tail _ (.tail _ (.tail _ (.tail _ (.tail _ (.tail _ (.tail _ (.tail _ (.tail _ (.head _)))))))))) (m := 2) rfl) rfl) rfl (Calm.then Post.calm) ?_
                refine AtO.callGA rfl rfl rfl en29 rfl (all29f _ (by assumption)) (fun _ h => ⟨h.2.2.1, h.2.2.2.1, trivial⟩) (List.Perm.refl _) rfl (.refl _) ?_
                rintro _ _ _ ⟨a2, rfl, rfl, rfl, hpa2⟩
                refine AtO.done ?_
                refine At.open rfl rfl ?_
                refine At.call en29 rfl (all29f _ (by assumption)) (fun _ h => ⟨h.2.2.2.2.2.2.2.2.2.2.2.2.1, h.2.2.2.2.2.2.2.2.2.2.2.2.2.1, trivial⟩) (List.Perm.refl _) rfl ?_
                rintro _ _ _ ⟨a1, rfl, rfl, rfl, hpa1⟩
                refine At.open rfl rfl ?_
                refine At.call en33 rfl (same33 _ _) (fun _ h => ⟨h.2.1, h.1, trivial⟩) (List.Perm.refl _) rfl ?_
                rintro _ _ _ ⟨rfl, rfl, rfl⟩
                refine At.skim 2 rfl rfl ?_
                refine At.say 143 (.bool true) rfl (congrArg Value.bool (decide_eq_true (by rw [hpa2, hpa1, hpv, hbk3, hau]))) ?_
                refine At.open rfl rfl ?_
                refine At.call en45 rfl (awake45) (fun _ _ => trivial) (List.Perm.refl _) rfl ?_
                rintro _ _ _ ⟨rfl, rfl, rfl⟩
                refine At.skim 2 rfl rfl ?_
                refine At.nil ?_
                refine At.then ?_
                refine At.ret ?_
                exact At.results (Γr := []) (M := []) rfl (RVals.cons (RVal.tmp rfl) RVals.nil) (.tail _ (.tail _ (.tail _ (.tail _ (.tail _ (.tail _ (.tail _ (.tail _ (.tail _ (.tail _ (.tail _ (.tail _ (.head _))))))))))))) (fun _ _ => trivial) (.cons _ (.cons _ (.cons _ (.refl _)))) ⟨rfl, rfl, rfl⟩
            · skip
              refine At.skim 5 rfl rfl ?_
              refine At.nil ?_
              refine At.then ?_
              refine At.condF rfl ?_
              refine At.skip ?_
              refine At.then ?_
              refine At.seq ?_
              refine At.region ?_
              refine At.loud (l_makeMap) rfl ?_
              rintro _ _ _ ⟨bm, mp, rfl, hM0, rfl, rfl⟩
              refine At.loudN (l_mapInsert Try.underlying70 Try.underlying3 rfl rfl rfl hM0 (i := 0) rfl) ?_
              rintro _ _ _ ⟨Mmp28, mp28, rfl, rfl⟩
              refine At.loudN (l_mapInsert Try.underlying70 Try.underlying3 rfl rfl rfl mp28 (i := 0) rfl) ?_
              rintro _ _ _ ⟨Mmp29, mp29, rfl, rfl⟩
              refine At.loudN (l_mapInsert Try.underlying70 Try.underlying3 rfl rfl rfl mp29 (i := 0) rfl) ?_
              rintro _ _ _ ⟨Mmp30, mp30, rfl, rfl⟩
              refine At.skim 2 rfl rfl ?_
              refine At.quiet (q_lookup Try.underlying70 Try.underlying3 t3 rfl rfl mp30 (i := 0) rfl) rfl ?_
              refine At.say 122 (.int .i64 (byT (bendT u.p p (i : Int)).2)) rfl (congrArg (Value.int .i64) (by_look (by omega))) ?_
              refine At.skim 1 rfl rfl ?_
              refine At.nil ?_
              refine At.then ?_
              refine At.seq ?_
              refine At.draw 17 (.q 0 (.q 1 (.q 2 (.q 3 (.q 4 (.q 7 (.q 8 (.q 9 (.q 10 (.o 5 (.q 6 (.q 11 (.q 12 (.q 13 (.q 14 (.q 16 (.o 15 (.e)))))))))))))))))) _ (List.Sublist.refl _) mixed (by kernel_rfl) rfl ?_
              refine AtO.quiet rfl (q_move rfl) rfl (Calm.then Post.calm) ?_
              refine AtO.quiet rfl (q_move rfl) rfl (Calm.then Post.calm) ?_
              refine AtO.quiet rfl (q_eql rfl rfl) rfl (Calm.then Post.calm) ?_
              refine AtO.quiet rfl (q_move rfl) rfl (Calm.then Post.calm) ?_
              refine AtO.say 126 (.bool true) rfl (congrArg Value.bool (decide_eq_true (by omega))) ?_
              refine AtO.quietG rfl rfl rfl (q_loadS t24 rfl (RdS.loc (i := 1) rfl (m := 2) rfl) rfl) rfl (Calm.then Post.calm) ?_
              refine AtO.quietG rfl rfl rfl (q_move rfl) rfl (Calm.then Post.calm) ?_
              refine AtO.quietG rfl rfl rfl (q_len Try.underlying37 rfl) rfl (Calm.then Post.calm) ?_
              refine AtO.quietG rfl rfl rfl (q_move rfl) rfl (Calm.then Post.calm) ?_
              refine AtO.quietG rfl rfl rfl (q_add rfl rfl (by omega) (by omega)) rfl (Calm.then Post.calm) ?_
              refine AtO.callGA rfl rfl rfl en28 rfl (leaves28f _) (fun _ h => ⟨h.2.1, h.2.2.1, trivial⟩) (List.Perm.refl _) rfl (.refl _) ?_
              rintro _ _ _ ⟨l2, rfl, rfl, rfl, hpl2⟩
              refine AtO.quietG rfl rfl rfl (q_len Try.underlying37 rfl) rfl (Calm.then Post.calm) ?_
              refine AtO.say 129 (.int .i64 ((leavesT (bendT u.p p (i : Int)).1).length : Nat)) rfl (congrArg (Value.int .i64) (by rw [hpl2, toI_length, hpv])) ?_
              refine AtO.quietG rfl rfl rfl (q_eql rfl rfl) rfl (Calm.then Post.calm) ?_
              refine AtO.quiet rfl (q_pickT rfl rfl) rfl (Calm.then Post.calm) ?_
              refine AtO.quiet rfl (q_move rfl) rfl (Calm.then Post.calm) ?_
              refine AtO.say 136 (.bool true) rfl (congrArg Value.bool (decide_eq_true (by rw [hbk2, hlu, hll]))) ?_
              refine AtO.quietG rfl rfl rfl (q_loadS t24 rfl (RdS.loc (i := 1) rfl (m := 2) rfl) rfl) rfl (Calm.then Post.calm) ?_
              refine AtO.quietG rfl rfl rfl (q_loadS t24 rfl (RdS.blk (.tail _ (.tail _ (.tail _ (.tail _ (.tail _ (.tail _ (.tail _ (.tail _ (.tail _ (.head _)))))))))) (m := 2) rfl) rfl) rfl (Calm.then Post.calm) ?_
              refine AtO.callGA rfl rfl rfl en29 rfl (all29f _ (by assumption)) (fun _ h => ⟨h.2.2.1, h.2.2.2.1, trivial⟩) (List.Perm.refl _) rfl (.refl _) ?_
              rintro _ _ _ ⟨a2, rfl, rfl, rfl, hpa2⟩
              refine AtO.done ?_
              refine At.open rfl rfl ?_
              refine At.call en29 rfl (all29f _ (by assumption)) (fun _ h => ⟨h.2.2.2.2.2.2.2.2.2.2.2.2.1, h.2.2.2.2.2.2.2.2.2.2.2.2.2.1, trivial⟩) (List.Perm.refl _) rfl ?_
              rintro _ _ _ ⟨a1, rfl, rfl, rfl, hpa1⟩
              refine At.open rfl rfl ?_
              refine At.call en33 rfl (same33 _ _) (fun _ h => ⟨h.2.1, h.1, trivial⟩) (List.Perm.refl _) rfl ?_
              rintro _ _ _ ⟨rfl, rfl, rfl⟩
              refine At.skim 2 rfl rfl ?_
              refine At.say 143 (.bool true) rfl (congrArg Value.bool (decide_eq_true (by rw [hpa2, hpa1, hpv, hbk3, hau]))) ?_
              refine At.open rfl rfl ?_
              refine At.call en45 rfl (awake45) (fun _ _ => trivial) (List.Perm.refl _) rfl ?_
              rintro _ _ _ ⟨rfl, rfl, rfl⟩
              refine At.skim 2 rfl rfl ?_
              refine At.nil ?_
              refine At.then ?_
              refine At.ret ?_
              exact At.results (Γr := []) (M := []) rfl (RVals.cons (RVal.tmp rfl) RVals.nil) (.tail _ (.tail _ (.tail _ (.tail _ (.tail _ (.tail _ (.tail _ (.tail _ (.tail _ (.tail _ (.tail _ (.tail _ (.head _))))))))))))) (fun _ _ => trivial) (.cons _ (.cons _ (.cons _ (.refl _)))) ⟨rfl, rfl, rfl⟩

end Go.Proofs.Ytmkodknmknfdkaa
