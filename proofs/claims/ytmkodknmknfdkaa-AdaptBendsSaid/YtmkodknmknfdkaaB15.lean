/- The walks of the laws of adapt. -/
import Derived.Test.YtmkodknmknfdkaaB14
set_option linter.unusedVariables false
set_option linter.unusedSimpArgs false
namespace Go.Proofs.Ytmkodknmknfdkaa
open E
set_option maxRecDepth 4000

theorem en45 : Enters Try.prog 45 := Enters.mk' Try.func45 rfl rfl
theorem en47 : Enters Try.prog 47 := Enters.mk' Try.func47 rfl rfl
theorem en48 : Enters Try.prog 48 := Enters.mk' Try.func48 rfl rfl

theorem awake45  : Con Try.prog 45 [] [] [] (fun v Γ M => v = .bool true ∧ Γ = [] ∧ M = []) := by
  refine Con.body 66 Try.func45 rfl Try.ntmps45 rfl fun X H₀ L₀ => ?_
  refine At.seq ?_
  refine At.region ?_
  refine At.skim 1 rfl rfl ?_
  refine At.nil ?_
  refine At.then ?_
  refine At.seq ?_
  refine At.region ?_
  refine At.quiet (q_build t50 s50 rfl rfl) rfl ?_
  refine At.quiet (q_build t50 s50 rfl rfl) rfl ?_
  refine At.quiet (q_build t50 s50 rfl rfl) rfl ?_
  refine At.loud (l_buildSlice Try.underlying31 t50 rfl rfl rfl rfl rfl) rfl ?_
  rintro _ _ _ ⟨b1, rfl, rfl, rfl⟩
  refine At.freeze 0 (φ := prsP ⟨some ⟨b1, 0, none⟩, 3, [⟨1, 0⟩, ⟨2, 0⟩, ⟨3, 0⟩]⟩) rfl (fun _ h => sl_of_block h rfl (by simp [rowP]) (by kernel_rfl) (show (3 : Nat) ≤ maxLen from by decide)) ?_
  refine At.call en31 rfl (one31 ⟨_, 3, [⟨1, 0⟩, ⟨2, 0⟩, ⟨3, 0⟩]⟩ (by simp)) (fun _ h => ⟨h.1, trivial⟩) (List.Perm.refl _) rfl ?_
  rintro _ _ _ ⟨u, rfl, rfl, rfl, hpu⟩
  refine At.loud (l_alloc t24) rfl ?_
  rintro _ _ _ ⟨b2, rfl, rfl, rfl⟩
  refine At.loudN (l_store t24 rfl rfl (i := 0) rfl rfl rfl rfl) ?_
  rintro _ _ _ ⟨rfl, rfl⟩
  refine At.nil ?_
  refine At.then ?_
  refine At.seq ?_
  refine At.region ?_
  have hua : u.p = aw15 := hpu
  have hsu := small_dec hua aw15_8
  refine At.quiet (q_loadS t24 rfl (RdS.loc (i := 0) rfl (m := 2) rfl) rfl) rfl ?_
  refine At.call en47 rfl (split47 _ (by assumption) 0) (fun _ h => ⟨h.1, h.2.1, trivial⟩) (List.Perm.refl _) rfl ?_
  rintro _ _ _ ⟨v, rfl, rfl, rfl, hpv⟩
  refine At.skim 1 rfl rfl ?_
  refine At.quiet (q_extract rfl rfl) rfl ?_
  refine At.quiet (q_extract rfl rfl) rfl ?_
  refine At.loud (l_alloc t24) rfl ?_
  rintro _ _ _ ⟨b3, rfl, rfl, rfl⟩
  refine At.loudN (l_store t24 rfl rfl (i := 0) rfl rfl rfl rfl) ?_
  rintro _ _ _ ⟨rfl, rfl⟩
  refine At.skim 1 rfl rfl ?_
  refine At.nil ?_
  refine At.then ?_
  refine At.seq ?_
  refine At.seq ?_
  refine At.region ?_
  have hva : v.p = aw15s := by rw [hpv, hua]; rfl
  obtain ⟨hvl, ⟨x0, hx0, hk0⟩, ⟨x1, hx1, hk1⟩⟩ := aw15_v hva
  have hsv := small_dec hva aw15_6
  refine At.skim 3 rfl rfl ?_
  refine At.say 20 (.bool false) rfl (congrArg Value.bool (by rw [hua]; show (!(splitT aw15 0).isSome) = false; rw [aw15_1]; rfl)) ?_
  refine At.open rfl rfl ?_
  refine At.quiet (q_fieldAddr s24 rfl rfl rfl) rfl ?_
  refine At.open rfl rfl ?_
  refine At.quiet (q_load t22 rfl (Rd.loc (i := 0) rfl rfl)) rfl ?_
  refine At.open rfl rfl ?_
  refine At.quiet (q_len Try.underlying22 rfl) rfl ?_
  refine At.skim 2 rfl rfl ?_
  refine At.nil ?_
  refine At.then ?_
  refine At.say 25 (.bool false) rfl (congrArg Value.bool (decide_eq_false (by rw [hvl]; decide))) ?_
  refine At.condF rfl ?_
  refine At.skip ?_
  refine At.then ?_
  refine At.seq ?_
  refine At.region ?_
  refine At.quiet (q_loadS t24 rfl (RdS.loc (i := 0) rfl (m := 2) rfl) rfl) rfl ?_
  refine At.call en46 rfl (next46 _ _) (fun _ h => ⟨h.1, h.2.1, trivial⟩) (List.Perm.refl _) rfl ?_
  rintro _ _ _ ⟨rfl, rfl, rfl⟩
  refine At.skim 1 rfl rfl ?_
  refine At.quiet (q_extract rfl rfl) rfl ?_
  refine At.quiet (q_extract rfl rfl) rfl ?_
  refine At.skim 2 rfl rfl ?_
  refine At.nil ?_
  refine At.then ?_
  refine At.seq ?_
  refine At.region ?_
  refine At.quiet (q_loadS t24 rfl (RdS.loc (i := 0) rfl (m := 2) rfl) rfl) rfl ?_
  refine At.call en48 rfl (join48 _ (by assumption) 2) (fun _ h => ⟨h.1, h.2.1, trivial⟩) (List.Perm.refl _) rfl ?_
  rintro _ _ _ ⟨w, rfl, rfl, rfl, hpw⟩
  refine At.skim 1 rfl rfl ?_
  refine At.quiet (q_extract rfl rfl) rfl ?_
  refine At.quiet (q_extract rfl rfl) rfl ?_
  refine At.loud (l_alloc t24) rfl ?_
  rintro _ _ _ ⟨b4, rfl, rfl, rfl⟩
  refine At.loudN (l_store t24 rfl rfl (i := 0) rfl rfl rfl rfl) ?_
  rintro _ _ _ ⟨rfl, rfl⟩
  refine At.skim 1 rfl rfl ?_
  refine At.nil ?_
  refine At.then ?_
  refine At.seq ?_
  refine At.region ?_
  have hwa : w.p = aw15j := by rw [hpw, hva]; rfl
  have hsw := small_dec hwa aw15_7
  refine At.fld s24 t22 rfl rfl rfl (Rd.loc (i := 1) rfl rfl) rfl rfl ?_
  refine At.quiet (q_index Try.underlying22 t33 rfl (.tail _ (.tail _ (.head _))) (by simp) rfl rfl (lt_of_get hx0)) rfl ?_
  refine At.fld s33 t3 rfl rfl rfl (Rd.sl (.tail _ (.tail _ (.head _))) (map_get hx0) rfl) rfl rfl ?_
  refine At.skim 2 rfl rfl ?_
  refine At.say 42 (.bool true) rfl (congrArg Value.bool (decide_eq_true hk0)) ?_
  refine At.open rfl rfl ?_
  refine At.quiet (q_fieldAddr s24 rfl rfl rfl) rfl ?_
  refine At.open rfl rfl ?_
  refine At.quiet (q_load t22 rfl (Rd.loc (i := 1) rfl rfl)) rfl ?_
  refine At.open rfl rfl ?_
  refine At.quiet (q_index Try.underlying22 t33 rfl (.tail _ (.tail _ (.head _))) (by simp) rfl rfl (lt_of_get hx1)) rfl ?_
  refine At.open rfl rfl ?_
  refine At.quiet (q_fieldAddr s33 rfl rfl rfl) rfl ?_
  refine At.open rfl rfl ?_
  refine At.quiet (q_load t31 rfl (Rd.sl (.tail _ (.tail _ (.head _))) (map_get hx1) rfl)) rfl ?_
  refine At.open rfl rfl ?_
  refine At.quiet (q_len Try.underlying31 rfl) rfl ?_
  refine At.skim 3 rfl rfl ?_
  refine At.say 51 (.bool true) rfl (congrArg Value.bool (decide_eq_true (by rw [hk1]; rfl))) ?_
  refine At.skim 3 rfl rfl ?_
  refine At.say 54 (.bool true) rfl (congrArg Value.bool (by rw [hva, aw15_3]; rfl)) ?_
  refine At.skim 4 rfl rfl ?_
  refine At.say 58 (.bool true) rfl (congrArg Value.bool (decide_eq_true (by rw [hva, aw15_3]; rfl))) ?_
  refine At.skim 3 rfl rfl ?_
  refine At.say 61 (.bool true) rfl (congrArg Value.bool (by rw [hva]; exact aw15_4)) ?_
  refine At.open rfl rfl ?_
  refine At.quiet (q_loadS t24 rfl (RdS.loc (i := 0) rfl (m := 2) rfl) rfl) rfl ?_
  refine At.open rfl rfl ?_
  refine At.quiet (q_loadS t24 rfl (RdS.loc (i := 2) rfl (m := 2) rfl) rfl) rfl ?_
  refine At.open rfl rfl ?_
  refine At.call en37 rfl (same37 _ _ (by assumption) (by assumption)) (fun _ h => ⟨h.1, h.2.1, h.2.2.2.2.1, h.2.2.2.2.2.1, trivial⟩) (List.Perm.refl _) rfl ?_
  rintro _ _ _ ⟨rfl, rfl, rfl⟩
  refine At.skim 2 rfl rfl ?_
  refine At.nil ?_
  refine At.then ?_
  refine At.ret ?_
  exact At.results (Γr := []) (M := []) rfl (RVals.cons (RVal.tmp rfl) RVals.nil) (.tail _ (.tail _ (.tail _ (.tail _ (.tail _ (.tail _ (.tail _ (.head _)))))))) (fun _ _ => trivial) (.cons _ (.cons _ (.cons _ (.refl _)))) ⟨congrArg Value.bool (by rw [hwa, hua]; exact aw15_5), rfl, rfl⟩

set_option maxHeartbeats 1000000 in
theorem next9 (t : Tr) (hz : ∀ n ∈ t.ns.l, n.ps.l.length ≤ 8796093022208) (at_ : Int) : Con Try.prog 9 [t.val, .int .i64 at_] [ndsP t.ns, psP t.ns.l] [] (fun v Γ M => v = .bool true ∧ Γ = [] ∧ M = []) := by
  refine Con.body 86 Try.func9 rfl Try.ntmps9 rfl fun X H₀ L₀ => ?_
  refine At.seq ?_
  refine At.region ?_
  refine At.loud (l_box rfl) rfl ?_
  rintro _ _ _ ⟨b1, rfl, rfl, rfl⟩
  refine At.freeze 0 (φ := blk b1 _) rfl (fun _ h => blk_def.2 ⟨_, _, h⟩) ?_
  refine At.skim 1 rfl rfl ?_
  refine At.nil ?_
  refine At.then ?_
  refine At.seq ?_
  refine At.seq ?_
  refine At.region ?_
  refine At.quiet (q_loadS t24 rfl (RdS.blk (.head _) (m := 2) rfl) rfl) rfl ?_
  refine At.call en20 rfl (light20 _ (by assumption)) (fun _ h => ⟨h.2.2.1, trivial⟩) (List.Perm.refl _) rfl ?_
  rintro _ _ _ ⟨rfl, rfl, rfl⟩
  refine At.skim 2 rfl rfl ?_
  refine At.splitP (d := 13) rfl (fun hlg => ?_) (fun hlg => ?_)
  · skip
    refine At.skim 10 rfl rfl ?_
    refine At.nil ?_
    refine At.then ?_
    refine At.condT rfl ?_
    refine At.seq ?_
    refine At.region ?_
    refine At.call en45 rfl (awake45) (fun _ _ => trivial) (List.Perm.refl _) rfl ?_
    rintro _ _ _ ⟨rfl, rfl, rfl⟩
    refine At.skim 1 rfl rfl ?_
    refine At.nil ?_
    refine At.then ?_
    refine At.ret ?_
    refine At.thenRet ?_
    exact At.results (Γr := []) (M := []) rfl (RVals.cons (RVal.tmp rfl) RVals.nil) (.tail _ (.head _)) (fun _ _ => trivial) (.refl _) ⟨rfl, rfl, rfl⟩
  · skip
    have hli : lightT t.p = true := light_yes hlg
    obtain ⟨h450, hsm, hp2000⟩ := small_of_light hli
    have hN : t.p.ns.length = t.ns.l.length := by simp [Tr.p]
    refine At.open rfl rfl ?_
    refine At.quiet (q_loadS t24 rfl (RdS.blk (.head _) (m := 2) rfl) rfl) rfl ?_
    refine At.open rfl rfl ?_
    refine At.call en21 rfl (may21 _) (fun _ h => ⟨h.2.2.1, h.2.2.2.1, trivial⟩) (List.Perm.refl _) rfl ?_
    rintro _ _ _ ⟨rfl, rfl, rfl⟩
    refine At.skim 3 rfl rfl ?_
    refine At.split (d := 18) rfl (fun hmy => ?_) (fun hmy => ?_)
    · skip
      refine At.skim 5 rfl rfl ?_
      refine At.nil ?_
      refine At.then ?_
      refine At.condT rfl ?_
      refine At.seq ?_
      refine At.region ?_
      refine At.call en45 rfl (awake45) (fun _ _ => trivial) (List.Perm.refl _) rfl ?_
      rintro _ _ _ ⟨rfl, rfl, rfl⟩
      refine At.skim 1 rfl rfl ?_
      refine At.nil ?_
      refine At.then ?_
      refine At.ret ?_
      refine At.thenRet ?_
      exact At.results (Γr := []) (M := []) rfl (RVals.cons (RVal.tmp rfl) RVals.nil) (.tail _ (.head _)) (fun _ _ => trivial) (.refl _) ⟨rfl, rfl, rfl⟩
    · skip
      refine At.open rfl rfl ?_
      refine At.quiet (q_loadS t24 rfl (RdS.blk (.head _) (m := 2) rfl) rfl) rfl ?_
      refine At.open rfl rfl ?_
      refine At.quiet (q_loadS t24 rfl (RdS.blk (.head _) (m := 2) rfl) rfl) rfl ?_
      refine At.open rfl rfl ?_
      refine At.call en22 rfl (same22 _ _ (by assumption) (by assumption)) (fun _ h => ⟨h.2.2.1, h.2.2.2.1, h.2.2.1, h.2.2.2.1, trivial⟩) (List.Perm.refl _) rfl ?_
      rintro _ _ _ ⟨rfl, rfl, rfl⟩
      refine At.skim 2 rfl rfl ?_
      refine At.nil ?_
      refine At.then ?_
      refine At.cond rfl (fun hst => ?_) (fun hst => ?_)
      · skip
        refine At.seq ?_
        refine At.region ?_
        refine At.call en45 rfl (awake45) (fun _ _ => trivial) (List.Perm.refl _) rfl ?_
        rintro _ _ _ ⟨rfl, rfl, rfl⟩
        refine At.skim 1 rfl rfl ?_
        refine At.nil ?_
        refine At.then ?_
        refine At.ret ?_
        refine At.thenRet ?_
        exact At.results (Γr := []) (M := []) rfl (RVals.cons (RVal.tmp rfl) RVals.nil) (.tail _ (.head _)) (fun _ _ => trivial) (.refl _) ⟨rfl, rfl, rfl⟩
      · skip
        obtain ⟨s, hs⟩ := Option.isSome_iff_exists.1 (not_f hmy)
        have hpos := may_pos hs
        refine At.skip ?_
        refine At.then ?_
        refine At.seq ?_
        refine At.region ?_
        refine At.quiet (q_loadS t24 rfl (RdS.blk (.head _) (m := 2) rfl) rfl) rfl ?_
        refine At.call en28 rfl (leaves28f _) (fun _ h => ⟨h.2.2.1, h.2.2.2.1, trivial⟩) (List.Perm.refl _) rfl ?_
        rintro _ _ _ ⟨lv, rfl, rfl, rfl, hplv⟩
        refine At.skim 1 rfl rfl ?_
        refine At.nil ?_
        refine At.then ?_
        refine At.seq ?_
        refine At.seq ?_
        refine At.region ?_
        have hlp := leavesT_pos hs
        have hll : lv.l.length = (leavesT t.p).length := by rw [hplv, toI_length]
        have hle := leavesT_len t.p
        refine At.skim 1 rfl rfl ?_
        refine At.quiet (q_len Try.underlying37 rfl) rfl ?_
        refine At.skim 1 rfl rfl ?_
        refine At.nil ?_
        refine At.then ?_
        refine At.say 29 (.bool false) rfl (congrArg Value.bool (decide_eq_false (by omega))) ?_
        refine At.condF rfl ?_
        refine At.skip ?_
        refine At.then ?_
        refine At.seq ?_
        refine At.region ?_
        obtain ⟨k, hk, hke, hkne⟩ := pick (a := at_) (n := lv.l.length) (by omega) (by omega)
        obtain ⟨i, hi⟩ := get_of_lt (l := leavesT t.p) (i := k) (by omega)
        have hui : lv.l[k]? = some (i : Int) := by rw [hplv]; exact toI_get hi
        have hmem := List.mem_of_getElem? hi
        have hni := next_iff hs hmem
        refine At.skim 1 rfl rfl ?_
        refine At.quiet (q_convInt Try.underlying3 Try.underlying29 rfl) rfl ?_
        refine At.skim 1 rfl rfl ?_
        refine At.quiet (q_len Try.underlying37 rfl) rfl ?_
        refine At.quiet (q_convInt Try.underlying3 Try.underlying29 rfl) rfl ?_
        refine At.quiet (q_rem rfl rfl (by omega)) rfl ?_
        refine At.quiet (q_convInt Try.underlying29 Try.underlying3 rfl) rfl ?_
        refine At.say 36 (.int .i64 (k : Int)) rfl (congrArg (Value.int .i64) hke) ?_
        refine At.skim 1 rfl rfl ?_
        refine At.nil ?_
        refine At.then ?_
        refine At.seq ?_
        refine At.draw 10 (.q 0 (.q 1 (.q 2 (.q 3 (.q 4 (.o 5 (.q 6 (.q 7 (.q 8 (.q 9 (.e))))))))))) _ (List.Sublist.refl _) mixed (by kernel_rfl) rfl ?_
        refine AtO.quiet rfl (q_loadS t24 rfl (RdS.blk (.tail _ (.head _)) (m := 2) rfl) rfl) rfl (Calm.then Post.calm) ?_
        refine AtO.quiet rfl (q_move rfl) rfl (Calm.then Post.calm) ?_
        refine AtO.quiet rfl (q_move rfl) rfl (Calm.then Post.calm) ?_
        refine AtO.quiet rfl (q_index Try.underlying37 t3 rfl (.head _) (by simp) rfl rfl (lt_of_get hui)) rfl (Calm.then Post.calm) ?_
        refine AtO.quiet rfl (q_load t3 rfl (Rd.sl0 (.head _) (map_get hui) rfl)) rfl (Calm.then Post.calm) ?_
        refine AtO.callA rfl en46 rfl (next46 _ _) (fun _ h => ⟨h.2.2.2.1, h.2.2.2.2.1, trivial⟩) (List.Perm.refl _) rfl (.refl _) ?_
        rintro _ _ _ ⟨rfl, rfl, rfl⟩
        refine AtO.quiet rfl (q_move rfl) rfl (Calm.then Post.calm) ?_
        refine AtO.quiet rfl (q_extract rfl rfl) rfl (Calm.then Post.calm) ?_
        refine AtO.quiet rfl (q_extract rfl rfl) rfl (Calm.then Post.calm) ?_
        refine AtO.quiet rfl (q_assign rfl) rfl (Calm.then Post.calm) ?_
        refine AtO.done ?_
        refine At.skim 1 rfl rfl ?_
        refine At.nil ?_
        refine At.then ?_
        refine At.seq ?_
        refine At.seq ?_
        refine At.region ?_
        refine At.skim 2 rfl rfl ?_
        refine At.quiet (q_len Try.underlying37 rfl) rfl ?_
        refine At.skim 1 rfl rfl ?_
        refine At.quiet (q_neqBool Try.underlying4 rfl rfl) rfl ?_
        refine At.nil ?_
        refine At.then ?_
        refine At.say 50 (.bool false) rfl (congrArg Value.bool (by rw [hni, hll, dec1]; simp)) ?_
        refine At.condF rfl ?_
        refine At.skip ?_
        refine At.then ?_
        refine At.seq ?_
        refine At.region ?_
        have hum : 0 < k → lv.l[k - 1]? = some (lv.l.getD (k - 1) 0) := fun h => by rw [List.getD_eq_getElem?_getD, List.getElem?_eq_getElem (by omega)]; rfl
        have hup : k + 1 < lv.l.length → lv.l[k + 1]? = some (lv.l.getD (k + 1) 0) := fun h => by rw [List.getD_eq_getElem?_getD, List.getElem?_eq_getElem h]; rfl
        have hb : (nextT t.p (i : Int)).isSome = true → (0 < k ∧ (((nextT t.p (i : Int)).getD 0 : Nat) : Int) = lv.l.getD (k - 1) 0) ∨ (k + 1 < lv.l.length ∧ (((nextT t.p (i : Int)).getD 0 : Nat) : Int) = lv.l.getD (k + 1) 0) := fun h => by
          rcases next_beside hs hi h with ⟨h1, h2⟩ | h2
          · exact .inl ⟨h1, by rw [List.getD_eq_getElem?_getD, hplv, toI_get h2]; rfl⟩
          · exact .inr ⟨by rw [hll]; exact lt_of_get h2, by rw [List.getD_eq_getElem?_getD, hplv, toI_get h2]; rfl⟩
        refine At.skim 3 rfl rfl ?_
        refine At.splitP (d := 53) rfl (fun h1 => ?_) (fun h1 => ?_)
        · skip
          refine At.skim 3 rfl rfl ?_
          refine At.open rfl rfl ?_
          refine At.quiet (q_sub rfl rfl (by omega) (by omega)) rfl ?_
          refine At.open rfl rfl ?_
          refine At.quiet (q_index Try.underlying37 t3 rfl (.head _) (by simp) rfl (by omega) (lt_of_get (hum (by omega)))) rfl ?_
          refine At.open rfl rfl ?_
          refine At.quiet (q_load t3 rfl (Rd.sl0 (.head _) (map_get (hum (by omega))) rfl)) rfl ?_
          refine At.skim 3 rfl rfl ?_
          refine At.splitP (d := 62) rfl (fun h2 => ?_) (fun h2 => ?_)
          · skip
            refine At.skim 16 rfl rfl ?_
            refine At.nil ?_
            refine At.then ?_
            refine At.seq ?_
            refine At.region ?_
            refine At.skim 3 rfl rfl ?_
            refine At.split (d := 80) rfl (fun h3 => ?_) (fun h3 => ?_)
            · skip
              refine At.skim 3 rfl rfl ?_
              refine At.open rfl rfl ?_
              refine At.call en45 rfl (awake45) (fun _ _ => trivial) (List.Perm.refl _) rfl ?_
              rintro _ _ _ ⟨rfl, rfl, rfl⟩
              refine At.skim 2 rfl rfl ?_
              refine At.nil ?_
              refine At.then ?_
              refine At.ret ?_
              exact At.results (Γr := []) (M := []) rfl (RVals.cons (RVal.tmp rfl) RVals.nil) (.tail _ (.tail _ (.head _))) (fun _ _ => trivial) (.refl _) ⟨by first | rfl | (exfalso; have hb2 := hb (not_f (by assumption)); omega), rfl, rfl⟩
            · skip
              refine At.skim 3 rfl rfl ?_
              refine At.open rfl rfl ?_
              refine At.call en45 rfl (awake45) (fun _ _ => trivial) (List.Perm.refl _) rfl ?_
              rintro _ _ _ ⟨rfl, rfl, rfl⟩
              refine At.skim 2 rfl rfl ?_
              refine At.nil ?_
              refine At.then ?_
              refine At.ret ?_
              exact At.results (Γr := []) (M := []) rfl (RVals.cons (RVal.tmp rfl) RVals.nil) (.tail _ (.tail _ (.head _))) (fun _ _ => trivial) (.refl _) ⟨by first | rfl | (exfalso; have hb2 := hb (not_f (by assumption)); omega), rfl, rfl⟩
          · skip
            refine At.skim 1 rfl rfl ?_
            refine At.open rfl rfl ?_
            refine At.quiet (q_add rfl rfl (by omega) (by omega)) rfl ?_
            refine At.skim 1 rfl rfl ?_
            refine At.open rfl rfl ?_
            refine At.quiet (q_len Try.underlying37 rfl) rfl ?_
            refine At.skim 2 rfl rfl ?_
            refine At.splitP (d := 68) rfl (fun h4 => ?_) (fun h4 => ?_)
            · skip
              refine At.skim 3 rfl rfl ?_
              refine At.open rfl rfl ?_
              refine At.quiet (q_add rfl rfl (by omega) (by omega)) rfl ?_
              refine At.open rfl rfl ?_
              refine At.quiet (q_index Try.underlying37 t3 rfl (.head _) (by simp) rfl (by omega) (lt_of_get (hup (by omega)))) rfl ?_
              refine At.open rfl rfl ?_
              refine At.quiet (q_load t3 rfl (Rd.sl0 (.head _) (map_get (hup (by omega))) rfl)) rfl ?_
              refine At.skim 4 rfl rfl ?_
              refine At.nil ?_
              refine At.then ?_
              refine At.seq ?_
              refine At.region ?_
              refine At.skim 3 rfl rfl ?_
              refine At.split (d := 80) rfl (fun h5 => ?_) (fun h5 => ?_)
              · skip
                refine At.skim 3 rfl rfl ?_
                refine At.open rfl rfl ?_
                refine At.call en45 rfl (awake45) (fun _ _ => trivial) (List.Perm.refl _) rfl ?_
                rintro _ _ _ ⟨rfl, rfl, rfl⟩
                refine At.skim 2 rfl rfl ?_
                refine At.nil ?_
                refine At.then ?_
                refine At.ret ?_
                exact At.results (Γr := []) (M := []) rfl (RVals.cons (RVal.tmp rfl) RVals.nil) (.tail _ (.tail _ (.head _))) (fun _ _ => trivial) (.refl _) ⟨by first | rfl | (exfalso; have hb2 := hb (not_f (by assumption)); omega), rfl, rfl⟩
              · skip
                refine At.skim 3 rfl rfl ?_
                refine At.splitP (d := 83) rfl (fun h6 => ?_) (fun h6 => ?_)
                · skip
                  refine At.open rfl rfl ?_
                  refine At.call en45 rfl (awake45) (fun _ _ => trivial) (List.Perm.refl _) rfl ?_
                  rintro _ _ _ ⟨rfl, rfl, rfl⟩
                  refine At.skim 2 rfl rfl ?_
                  refine At.nil ?_
                  refine At.then ?_
                  refine At.ret ?_
                  exact At.results (Γr := []) (M := []) rfl (RVals.cons (RVal.tmp rfl) RVals.nil) (.tail _ (.tail _ (.head _))) (fun _ _ => trivial) (.refl _) ⟨by first | rfl | (exfalso; have hb2 := hb (not_f (by assumption)); omega), rfl, rfl⟩
                · skip
                  refine At.skim 3 rfl rfl ?_
                  refine At.nil ?_
                  refine At.then ?_
                  refine At.ret ?_
                  exact At.results (Γr := []) (M := []) rfl (RVals.cons (RVal.tmp rfl) RVals.nil) (.tail _ (.tail _ (.head _))) (fun _ _ => trivial) (.refl _) ⟨by first | rfl | (exfalso; have hb2 := hb (not_f (by assumption)); omega), rfl, rfl⟩
            · skip
              refine At.skim 10 rfl rfl ?_
              refine At.nil ?_
              refine At.then ?_
              refine At.seq ?_
              refine At.region ?_
              refine At.skim 3 rfl rfl ?_
              refine At.split (d := 80) rfl (fun h7 => ?_) (fun h7 => ?_)
              · skip
                refine At.skim 3 rfl rfl ?_
                refine At.open rfl rfl ?_
                refine At.call en45 rfl (awake45) (fun _ _ => trivial) (List.Perm.refl _) rfl ?_
                rintro _ _ _ ⟨rfl, rfl, rfl⟩
                refine At.skim 2 rfl rfl ?_
                refine At.nil ?_
                refine At.then ?_
                refine At.ret ?_
                exact At.results (Γr := []) (M := []) rfl (RVals.cons (RVal.tmp rfl) RVals.nil) (.tail _ (.tail _ (.head _))) (fun _ _ => trivial) (.refl _) ⟨by first | rfl | (exfalso; have hb2 := hb (not_f (by assumption)); omega), rfl, rfl⟩
              · skip
                refine At.skim 6 rfl rfl ?_
                refine At.nil ?_
                refine At.then ?_
                refine At.ret ?_
                exact At.results (Γr := []) (M := []) rfl (RVals.cons (RVal.tmp rfl) RVals.nil) (.tail _ (.tail _ (.head _))) (fun _ _ => trivial) (.refl _) ⟨by first | rfl | (exfalso; have hb2 := hb (not_f (by assumption)); omega), rfl, rfl⟩
        · skip
          refine At.skim 10 rfl rfl ?_
          refine At.open rfl rfl ?_
          refine At.quiet (q_add rfl rfl (by omega) (by omega)) rfl ?_
          refine At.skim 1 rfl rfl ?_
          refine At.open rfl rfl ?_
          refine At.quiet (q_len Try.underlying37 rfl) rfl ?_
          refine At.skim 2 rfl rfl ?_
          refine At.splitP (d := 68) rfl (fun h8 => ?_) (fun h8 => ?_)
          · skip
            refine At.skim 3 rfl rfl ?_
            refine At.open rfl rfl ?_
            refine At.quiet (q_add rfl rfl (by omega) (by omega)) rfl ?_
            refine At.open rfl rfl ?_
            refine At.quiet (q_index Try.underlying37 t3 rfl (.head _) (by simp) rfl (by omega) (lt_of_get (hup (by omega)))) rfl ?_
            refine At.open rfl rfl ?_
            refine At.quiet (q_load t3 rfl (Rd.sl0 (.head _) (map_get (hup (by omega))) rfl)) rfl ?_
            refine At.skim 4 rfl rfl ?_
            refine At.nil ?_
            refine At.then ?_
            refine At.seq ?_
            refine At.region ?_
            refine At.skim 3 rfl rfl ?_
            refine At.split (d := 80) rfl (fun h9 => ?_) (fun h9 => ?_)
            · skip
              refine At.skim 3 rfl rfl ?_
              refine At.open rfl rfl ?_
              refine At.call en45 rfl (awake45) (fun _ _ => trivial) (List.Perm.refl _) rfl ?_
              rintro _ _ _ ⟨rfl, rfl, rfl⟩
              refine At.skim 2 rfl rfl ?_
              refine At.nil ?_
              refine At.then ?_
              refine At.ret ?_
              exact At.results (Γr := []) (M := []) rfl (RVals.cons (RVal.tmp rfl) RVals.nil) (.tail _ (.tail _ (.head _))) (fun _ _ => trivial) (.refl _) ⟨by first | rfl | (exfalso; have hb2 := hb (not_f (by assumption)); omega), rfl, rfl⟩
            · skip
              refine At.skim 3 rfl rfl ?_
              refine At.splitP (d := 83) rfl (fun h10 => ?_) (fun h10 => ?_)
              · skip
                refine At.open rfl rfl ?_
                refine At.call en45 rfl (awake45) (fun _ _ => trivial) (List.Perm.refl _) rfl ?_
                rintro _ _ _ ⟨rfl, rfl, rfl⟩
                refine At.skim 2 rfl rfl ?_
                refine At.nil ?_
                refine At.then ?_
                refine At.ret ?_
                exact At.results (Γr := []) (M := []) rfl (RVals.cons (RVal.tmp rfl) RVals.nil) (.tail _ (.tail _ (.head _))) (fun _ _ => trivial) (.refl _) ⟨by first | rfl | (exfalso; have hb2 := hb (not_f (by assumption)); omega), rfl, rfl⟩
              · skip
                refine At.skim 3 rfl rfl ?_
                refine At.nil ?_
                refine At.then ?_
                refine At.ret ?_
                exact At.results (Γr := []) (M := []) rfl (RVals.cons (RVal.tmp rfl) RVals.nil) (.tail _ (.tail _ (.head _))) (fun _ _ => trivial) (.refl _) ⟨by first | rfl | (exfalso; have hb2 := hb (not_f (by assumption)); omega), rfl, rfl⟩
          · skip
            refine At.skim 10 rfl rfl ?_
            refine At.nil ?_
            refine At.then ?_
            refine At.seq ?_
            refine At.region ?_
            refine At.skim 3 rfl rfl ?_
            refine At.split (d := 80) rfl (fun h11 => ?_) (fun h11 => ?_)
            · skip
              refine At.skim 3 rfl rfl ?_
              refine At.open rfl rfl ?_
              refine At.call en45 rfl (awake45) (fun _ _ => trivial) (List.Perm.refl _) rfl ?_
              rintro _ _ _ ⟨rfl, rfl, rfl⟩
              refine At.skim 2 rfl rfl ?_
              refine At.nil ?_
              refine At.then ?_
              refine At.ret ?_
              exact At.results (Γr := []) (M := []) rfl (RVals.cons (RVal.tmp rfl) RVals.nil) (.tail _ (.tail _ (.head _))) (fun _ _ => trivial) (.refl _) ⟨by first | rfl | (exfalso; have hb2 := hb (not_f (by assumption)); omega), rfl, rfl⟩
            · skip
              refine At.skim 6 rfl rfl ?_
              refine At.nil ?_
              refine At.then ?_
              refine At.ret ?_
              exact At.results (Γr := []) (M := []) rfl (RVals.cons (RVal.tmp rfl) RVals.nil) (.tail _ (.tail _ (.head _))) (fun _ _ => trivial) (.refl _) ⟨by first | rfl | (exfalso; have hb2 := hb (not_f (by assumption)); omega), rfl, rfl⟩

end Go.Proofs.Ytmkodknmknfdkaa
