/- Texts of this seat, joined: part 5. -/
import Derived.WalkKit
import Derived.OrdersHeld
import Derived.Lib.MinMax
import Derived.Laws.AppendOwn
import Derived.ProofKit
import Derived.OpenShut
import Derived.ChangeOld
import Derived.Carry
import Derived.Deep.Slices
import Derived.Laws.MakeOwn
import Derived.Lib.SliceRun
import Derived.Test.YtmkodknmknfdkaaRows
import Derived.MapKept
import Derived.Lib.AppendZeros
import Derived.SizedLaws
import Derived.Test.YtmkodknmknfdkaaXD4
set_option linter.unusedVariables false
set_option linter.unusedSimpArgs false
namespace Go.Proofs.Ytmkodknmknfdkaa
open E
set_option maxRecDepth 4000
theorem t80 : tRow Try.prog 80 = some (false, 6, 64, .agg #[.int .i64 0, .bool false, .int .i64 0, .int .i64 0, .int .i64 0, .slice none 0 0]) := by kernel_rfl
theorem s80 : sRow Try.prog 80 = some [(0, 1, true), (1, 1, true), (2, 2, false), (4, 1, true), (5, 1, true)] := by kernel_rfl
theorem en64 : Enters Try.prog 64 := Enters.mk' Try.func64 rfl rfl
theorem en66 : Enters Try.prog 66 := Enters.mk' Try.func66 rfl rfl
theorem en92 : Enters Try.prog 92 := Enters.mk' Try.func92 rfl rfl
theorem en101 : Enters Try.prog 101 := Enters.mk' Try.func101 rfl rfl
theorem en102 : Enters Try.prog 102 := Enters.mk' Try.func102 rfl rfl
theorem en118 : Enters Try.prog 118 := Enters.mk' Try.func118 rfl rfl
theorem en119 : Enters Try.prog 119 := Enters.mk' Try.func119 rfl rfl
theorem en122 : Enters Try.prog 122 := Enters.mk' Try.func122 rfl rfl
theorem en123 : Enters Try.prog 123 := Enters.mk' Try.func123 rfl rfl
set_option maxHeartbeats 1000000 in
theorem one119 (l : Sl Pr) (o : OpS) (hr : rises l.l = true) (hmo : mayO o = true) (hk : o.kind = 1 ∨ o.kind = 2 ∨ o.kind = 3 ∨ o.kind = 4) (hl : l.l.length + 1 ≤ 8796093022208) : Con Try.prog 119 [l.val, o.val] [prsP l] [] (DoEnd l.l o) := by
 refine Con.body 61 Try.func119 rfl Try.ntmps119 rfl fun X H₀ L₀ => ?_
 refine At.know (prsP ⟨none, 0, []⟩) (fun _ h => sl_nil _ _ _ (Nat.zero_le _)) ?_
 refine aE (aR ?_)
 refine At.loud (l_box rfl) rfl ?_
 rintro _ _ _ ⟨b1, rfl, rfl, rfl⟩
 refine At.freeze 0 (φ := blk b1 _) rfl (fun _ h => blk_def.2 ⟨_, _, h⟩) ?_
 refine aS 1 rfl rfl ?_
 refine At.loud (l_alloc t80) rfl ?_
 rintro _ _ _ ⟨b2, rfl, rfl, rfl⟩
 refine aN (aT (aE (aR ?_)))
 refine At.loud (l_alloc t80) rfl ?_
 rintro _ _ _ ⟨b3, rfl, rfl, rfl⟩
 refine aN (aT (aE (aR ?_)))
 refine aS 1 rfl rfl ?_
 refine aF s77 t3 rfl rfl rfl (Rd.blk (.head _) rfl) rfl rfl ?_
 refine At.call en122 rfl (find122 _ _) (fun _ h => ⟨h.2.2.2.1, trivial⟩) (List.Perm.refl _) rfl ?_
 rintro _ _ _ ⟨rfl, rfl, rfl⟩
 refine aS 1 rfl rfl ?_
 refine aN (aT (aE (aE (aR ?_))))
 refine aS 2 rfl rfl ?_
 refine aN (aT ?_)
 refine At.if rfl (fun hge => ?_) (fun hge => ?_)
 ·
  obtain ⟨j, x, hj, hx, hp, hno⟩ := idx_get hge
  have hjl := lt_of_get hx
  have hhit : hit l.l o.key = ⟨0, true, x, 0, []⟩ := by rw [hit, find_at hx hp hno]; rfl
  refine At.say 7 (.int .i64 (j : Int)) rfl (congrArg (Value.int .i64) hj) ?_
  refine aR ?_
  refine aS 2 rfl rfl ?_
  refine aQ (q_index Try.underlying31 t50 rfl (ix 3 rfl) (by simp) rfl rfl (lt_of_get hx)) rfl ?_
  refine aQ (q_loadS t50 rfl (RdS.sl0 (ix 3 rfl) (map_get hx)) rfl) rfl ?_
  refine aQ (q_build t80 s80 rfl rfl) rfl ?_
  refine At.loudN (l_store t80 rfl rfl (i := 0) rfl rfl rfl rfl) ?_
  rintro _ _ _ ⟨rfl, rfl⟩
  refine aN (aT (aE (At.block (aE (aR ?_)))))
  refine aF s77 t3 rfl rfl rfl (Rd.blk (.head _) rfl) rfl rfl ?_
  refine aS 2 rfl rfl ?_
  refine At.splitP (d := 23) rfl (fun h1 => ?_) (fun h1 => ?_)
  ·
   have hdo : doT l.l o = (withT l.l ⟨o.key, o.v⟩, ⟨0, true, x, 0, []⟩) := by rw [do_yes hr hmo, if_pos h1, hhit]
   refine aS 9 rfl rfl ?_
   refine aN (aT ?_)
   refine At.condT rfl ?_
   refine aE ?_
   refine At.draw 9 (.q 0 (.q 1 (.q 2 (.q 3 (.q 4 (.q 5 (.q 7 (.o 6 (.q 8 (.e)))))))))) _ (List.Sublist.refl _) mixed (by kernel_rfl) rfl ?_
   refine oQ rfl (q_move rfl) rfl (cT (cI (cT cP))) ?_
   refine oQ rfl (q_fieldAddr s77 rfl rfl rfl) rfl (cT (cI (cT cP))) ?_
   refine oQ rfl (q_load t3 rfl (Rd.blk (.head _) rfl)) rfl (cT (cI (cT cP))) ?_
   refine oQ rfl (q_fieldAddr s77 rfl rfl rfl) rfl (cT (cI (cT cP))) ?_
   refine oQ rfl (q_load t3 rfl (Rd.blk (.head _) rfl)) rfl (cT (cI (cT cP))) ?_
   refine oQ rfl (q_build t50 s50 rfl rfl) rfl (cT (cI (cT cP))) ?_
   refine oQ rfl (q_loadS t80 rfl (RdS.loc (i := 0) rfl (m := 6) rfl) rfl) rfl (cT (cI (cT cP))) ?_
   refine AtO.callA rfl en123 rfl (with123 l ⟨o.key, o.v⟩ hr hl) (fun _ h => ⟨h.2.2.2.1, trivial⟩) (List.Perm.refl _) rfl r_ ?_
   rintro _ _ _ ⟨u, rfl, rfl, rfl, hul⟩
   refine oQ rfl (q_assign rfl) rfl (cT (cI (cT cP))) ?_
   refine AtO.done ?_
   refine At.loudN (l_store t80 rfl rfl (i := 1) rfl rfl rfl rfl) ?_
   rintro _ _ _ ⟨rfl, rfl⟩
   refine aN (aT (At.ret (At.inRet (At.thenRet ?_))))
   exact At.results (Γr := [_, _]) (M := []) rfl (RVals.cons (RVal.tmp rfl) (RVals.cons (RVal.cellS rfl t80 (RdS.loc (i := 1) rfl (m := 6) rfl) rfl) RVals.nil)) (ix 3 rfl) (fun _ h => ⟨h.1, h.2.2.1, trivial⟩) (d_ (d_ r_)) ⟨u, ⟨none, 0, []⟩, by rw [hdo]; first | rfl | (simp only [An.val, resVal, Sl.val]; rfl), rfl, rfl, by rw [hdo] <;> exact hul, by rw [hdo] <;> rfl⟩
  ·
   refine At.open rfl rfl ?_
   refine aQ (q_fieldAddr s77 rfl rfl rfl) rfl ?_
   refine At.open rfl rfl ?_
   refine aQ (q_load t3 rfl (Rd.blk (.head _) rfl)) rfl ?_
   refine aS 2 rfl rfl ?_
   refine At.splitP (d := 27) rfl (fun h2 => ?_) (fun h2 => ?_)
   ·
    refine aS 5 rfl rfl ?_
    refine aN (aT ?_)
    refine At.say 19 (.bool false) rfl (congrArg Value.bool (decide_eq_false (by omega))) ?_
    refine At.condF rfl ?_
    refine aE (aR ?_)
    refine aF s77 t3 rfl rfl rfl (Rd.blk (.head _) rfl) rfl rfl ?_
    refine aS 2 rfl rfl ?_
    refine At.say 44 (.bool false) rfl (congrArg Value.bool (decide_eq_false (by omega))) ?_
    refine aS 4 rfl rfl ?_
    refine aN (aT ?_)
    refine At.condF rfl ?_
    refine At.skip (At.inNormal (aT (aE ?_)))
    have hdo : doT l.l o = (l.l, ⟨0, true, x, 0, []⟩) := by rw [do_yes hr hmo, if_neg h1, if_pos h2, hhit] <;> rfl
    refine At.draw 4 (.q 0 (.q 2 (.o 1 (.q 3 (.e))))) _ (List.Sublist.refl _) mixed (by kernel_rfl) rfl ?_
    refine oQ rfl (q_move rfl) rfl (cT cP) ?_
    refine oQ rfl (q_loadS t80 rfl (RdS.loc (i := 0) rfl (m := 6) rfl) rfl) rfl (cT cP) ?_
    refine AtO.callA rfl en72 rfl (clone72w l (by omega)) (fun _ h => ⟨h.2.2.2.1, trivial⟩) (List.Perm.refl _) rfl r_ ?_
    rintro _ _ _ ⟨u, rfl, hu, rfl, rfl⟩
    refine oQ rfl (q_assign rfl) rfl (cT cP) ?_
    refine AtO.done ?_
    refine At.loudN (l_store t80 rfl rfl (i := 1) rfl rfl rfl rfl) ?_
    rintro _ _ _ ⟨rfl, rfl⟩
    refine aN (aT (At.ret ?_))
    exact At.results (Γr := [_, _]) (M := []) rfl (RVals.cons (RVal.tmp rfl) (RVals.cons (RVal.cellS rfl t80 (RdS.loc (i := 1) rfl (m := 6) rfl) rfl) RVals.nil)) (ix 3 rfl) (fun _ h => ⟨h.1, h.2.2.1, trivial⟩) (d_ (d_ r_)) ⟨u, ⟨none, 0, []⟩, by rw [hdo]; first | rfl | (simp only [An.val, resVal, Sl.val]; rfl), rfl, rfl, by rw [hdo] <;> exact hu, by rw [hdo] <;> rfl⟩
   ·
    refine aS 5 rfl rfl ?_
    refine aN (aT ?_)
    refine At.condF rfl ?_
    refine aE (aR ?_)
    refine aF s77 t3 rfl rfl rfl (Rd.blk (.head _) rfl) rfl rfl ?_
    refine aS 2 rfl rfl ?_
    refine At.splitP (d := 44) rfl (fun h3 => ?_) (fun h3 => ?_)
    ·
     refine aS 4 rfl rfl ?_
     refine aN (aT ?_)
     refine At.say 40 (.bool true) rfl (congrArg Value.bool (decide_eq_true (by omega))) ?_
     refine At.condT rfl ?_
     have hdo : doT l.l o = (without l.l o.key, ⟨0, true, x, 0, []⟩) := by rw [do_yes hr hmo, if_neg h1, if_neg h2, if_pos h3, hhit]
     refine aE ?_
     refine At.lenOf (hs := (ix 3 rfl)) fun hlen2 => ?_
     rw [List.length_map] at hlen2
     refine At.capOf (hs := (ix 3 rfl)) fun hcap => ?_
     rw [List.length_map] at hcap
     refine At.know (prsP (⟨subA l.a l.c 2 0, l.c, l.l.take j⟩ : Sl Pr)) (fun _ h => prs_take h.2.2.2.1 (by omega)) ?_
     refine At.know (prsP (⟨subA l.a l.c 2 (j + 1), l.c - (j + 1), l.l.drop (j + 1)⟩ : Sl Pr)) (fun _ h => prs_drop h.2.2.2.2.1 (by omega)) ?_
     refine At.draw 11 (.q 0 (.q 1 (.q 2 (.q 3 (.q 4 (.q 5 (.q 6 (.q 9 (.o 7 (.o 8 (.q 10 (.e)))))))))))) _ (List.Sublist.refl _) mixed (by kernel_rfl) rfl ?_
     refine oQ rfl (q_move rfl) rfl (cT (cI (cT cP))) ?_
     refine oQ rfl (q_move rfl) rfl (cT (cI (cT cP))) ?_
     refine oQ rfl (q_sliceHi Try.underlying31 t50 rfl rfl (h := j) rfl (by omega)) rfl (cT (cI (cT cP))) ?_
     refine AtO.say 50 (Sl.val (⟨subA l.a l.c 2 0, l.c, l.l.take j⟩ : Sl Pr)) rfl ((take_val (by omega)).symm) ?_
     refine oQ rfl (q_move rfl) rfl (cT (cI (cT cP))) ?_
     refine oQ rfl (q_move rfl) rfl (cT (cI (cT cP))) ?_
     refine oQ rfl (q_add rfl rfl (by omega) (by omega)) rfl (cT (cI (cT cP))) ?_
     refine oQ rfl (q_sliceLo Try.underlying31 t50 rfl rfl (l := j + 1) (by omega) (by omega)) rfl (cT (cI (cT cP))) ?_
     refine AtO.say 54 (Sl.val (⟨subA l.a l.c 2 (j + 1), l.c - (j + 1), l.l.drop (j + 1)⟩ : Sl Pr)) rfl (drop_val.symm) ?_
     refine oQ rfl (q_loadS t80 rfl (RdS.loc (i := 0) rfl (m := 6) rfl) rfl) rfl (cT (cI (cT cP))) ?_
     refine AtO.loud rfl (l_buildSlice Try.underlying134 t31 rfl rfl rfl rfl rfl) rfl (by rintro _ _ _ ⟨_, rfl, rfl, rfl⟩; exact ⟨fun _ h => h, d_ r_⟩) ?_
     rintro _ _ _ ⟨b4, rfl, rfl, rfl⟩
     refine AtO.front 0 rfl ?_
     refine AtO.callA rfl en85 rfl (concat85w2 (⟨subA l.a l.c 2 0, l.c, l.l.take j⟩ : Sl Pr) (⟨subA l.a l.c 2 (j + 1), l.c - (j + 1), l.l.drop (j + 1)⟩ : Sl Pr) _ (by simp; omega)) (fun _ h => ⟨h.2.1, h.1, trivial⟩) (List.Perm.refl _) rfl r_ ?_
     rintro _ _ _ ⟨u, rfl, rfl, rfl, hul⟩
     refine oQ rfl (q_assign rfl) rfl (cT (cI (cT cP))) ?_
     refine AtO.done ?_
     refine At.loudN (l_store t80 rfl rfl (i := 1) rfl rfl rfl rfl) ?_
     rintro _ _ _ ⟨rfl, rfl⟩
     refine aN (aT (At.ret (At.inRet (At.thenRet ?_))))
     exact At.results (Γr := [_, _]) (M := []) rfl (RVals.cons (RVal.tmp rfl) (RVals.cons (RVal.cellS rfl t80 (RdS.loc (i := 1) rfl (m := 6) rfl) rfl) RVals.nil)) (ix 5 rfl) (fun _ h => ⟨h.1, h.2.2.2.2.1, trivial⟩) (d_ (d_ r_)) ⟨u, ⟨none, 0, []⟩, by rw [hdo]; first | rfl | (simp only [An.val, resVal, Sl.val]; rfl), rfl, rfl, by rw [hdo] <;> rw [hul]; exact cut_cat hr hx hp hno, by rw [hdo] <;> rfl⟩
    ·
     refine aS 4 rfl rfl ?_
     refine aN (aT ?_)
     refine At.condF rfl ?_
     refine At.skip (At.inNormal (aT (aE ?_)))
     have hdo : doT l.l o = (l.l, ⟨0, true, x, 0, []⟩) := by rw [do_yes hr hmo, if_neg h1, if_neg h2, if_neg h3, if_neg (show ¬ o.kind = 5 by omega), if_neg (show ¬ o.kind = 6 by omega), if_neg (show ¬ o.kind = 7 by omega), if_neg (show ¬ o.kind = 8 by omega), hhit]
     refine At.draw 4 (.q 0 (.q 2 (.o 1 (.q 3 (.e))))) _ (List.Sublist.refl _) mixed (by kernel_rfl) rfl ?_
     refine oQ rfl (q_move rfl) rfl (cT cP) ?_
     refine oQ rfl (q_loadS t80 rfl (RdS.loc (i := 0) rfl (m := 6) rfl) rfl) rfl (cT cP) ?_
     refine AtO.callA rfl en72 rfl (clone72w l (by omega)) (fun _ h => ⟨h.2.2.2.1, trivial⟩) (List.Perm.refl _) rfl r_ ?_
     rintro _ _ _ ⟨u, rfl, hu, rfl, rfl⟩
     refine oQ rfl (q_assign rfl) rfl (cT cP) ?_
     refine AtO.done ?_
     refine At.loudN (l_store t80 rfl rfl (i := 1) rfl rfl rfl rfl) ?_
     rintro _ _ _ ⟨rfl, rfl⟩
     refine aN (aT (At.ret ?_))
     exact At.results (Γr := [_, _]) (M := []) rfl (RVals.cons (RVal.tmp rfl) (RVals.cons (RVal.cellS rfl t80 (RdS.loc (i := 1) rfl (m := 6) rfl) rfl) RVals.nil)) (ix 3 rfl) (fun _ h => ⟨h.1, h.2.2.1, trivial⟩) (d_ (d_ r_)) ⟨u, ⟨none, 0, []⟩, by rw [hdo]; first | rfl | (simp only [An.val, resVal, Sl.val]; rfl), rfl, rfl, by rw [hdo] <;> exact hu, by rw [hdo] <;> rfl⟩
 ·
  obtain ⟨hj, hno⟩ := idx_neg hge
  have hhit : hit l.l o.key = ⟨0, false, ⟨0, 0⟩, 0, []⟩ := by rw [hit, find_no hno]; rfl
  refine At.say 7 (.int .i64 (-1)) rfl (congrArg (Value.int .i64) hj) ?_
  refine At.skip (aT (aE (At.block (aE (aR ?_)))))
  refine aF s77 t3 rfl rfl rfl (Rd.blk (.head _) rfl) rfl rfl ?_
  refine aS 2 rfl rfl ?_
  refine At.splitP (d := 23) rfl (fun h1 => ?_) (fun h1 => ?_)
  ·
   have hdo : doT l.l o = (withT l.l ⟨o.key, o.v⟩, ⟨0, false, ⟨0, 0⟩, 0, []⟩) := by rw [do_yes hr hmo, if_pos h1, hhit]
   refine aS 9 rfl rfl ?_
   refine aN (aT ?_)
   refine At.condT rfl ?_
   refine aE ?_
   refine At.draw 9 (.q 0 (.q 1 (.q 2 (.q 3 (.q 4 (.q 5 (.q 7 (.o 6 (.q 8 (.e)))))))))) _ (List.Sublist.refl _) mixed (by kernel_rfl) rfl ?_
   refine oQ rfl (q_move rfl) rfl (cT (cI (cT cP))) ?_
   refine oQ rfl (q_fieldAddr s77 rfl rfl rfl) rfl (cT (cI (cT cP))) ?_
   refine oQ rfl (q_load t3 rfl (Rd.blk (.head _) rfl)) rfl (cT (cI (cT cP))) ?_
   refine oQ rfl (q_fieldAddr s77 rfl rfl rfl) rfl (cT (cI (cT cP))) ?_
   refine oQ rfl (q_load t3 rfl (Rd.blk (.head _) rfl)) rfl (cT (cI (cT cP))) ?_
   refine oQ rfl (q_build t50 s50 rfl rfl) rfl (cT (cI (cT cP))) ?_
   refine oQ rfl (q_loadS t80 rfl (RdS.loc (i := 0) rfl (m := 6) rfl) rfl) rfl (cT (cI (cT cP))) ?_
   refine AtO.callA rfl en123 rfl (with123 l ⟨o.key, o.v⟩ hr hl) (fun _ h => ⟨h.2.2.2.1, trivial⟩) (List.Perm.refl _) rfl r_ ?_
   rintro _ _ _ ⟨u, rfl, rfl, rfl, hul⟩
   refine oQ rfl (q_assign rfl) rfl (cT (cI (cT cP))) ?_
   refine AtO.done ?_
   refine At.loudN (l_store t80 rfl rfl (i := 1) rfl rfl rfl rfl) ?_
   rintro _ _ _ ⟨rfl, rfl⟩
   refine aN (aT (At.ret (At.inRet (At.thenRet ?_))))
   exact At.results (Γr := [_, _]) (M := []) rfl (RVals.cons (RVal.tmp rfl) (RVals.cons (RVal.cellS rfl t80 (RdS.loc (i := 1) rfl (m := 6) rfl) rfl) RVals.nil)) (ix 3 rfl) (fun _ h => ⟨h.1, h.2.2.1, trivial⟩) (d_ (d_ r_)) ⟨u, ⟨none, 0, []⟩, by rw [hdo]; first | rfl | (simp only [An.val, resVal, Sl.val]; rfl), rfl, rfl, by rw [hdo] <;> exact hul, by rw [hdo] <;> rfl⟩
  ·
   refine At.open rfl rfl ?_
   refine aQ (q_fieldAddr s77 rfl rfl rfl) rfl ?_
   refine At.open rfl rfl ?_
   refine aQ (q_load t3 rfl (Rd.blk (.head _) rfl)) rfl ?_
   refine aS 2 rfl rfl ?_
   refine At.splitP (d := 27) rfl (fun h2 => ?_) (fun h2 => ?_)
   ·
    refine aS 5 rfl rfl ?_
    refine aN (aT ?_)
    refine At.say 19 (.bool true) rfl (congrArg Value.bool (decide_eq_true (by omega))) ?_
    refine At.condT rfl ?_
    have hdo : doT l.l o = (withT l.l ⟨o.key, o.v⟩, ⟨0, false, ⟨0, 0⟩, 0, []⟩) := by rw [do_yes hr hmo, if_neg h1, if_pos h2, hhit] <;> rfl
    refine aE ?_
    refine At.draw 9 (.q 0 (.q 1 (.q 2 (.q 3 (.q 4 (.q 5 (.q 7 (.o 6 (.q 8 (.e)))))))))) _ (List.Sublist.refl _) mixed (by kernel_rfl) rfl ?_
    refine oQ rfl (q_move rfl) rfl (cT (cI (cT cP))) ?_
    refine oQ rfl (q_fieldAddr s77 rfl rfl rfl) rfl (cT (cI (cT cP))) ?_
    refine oQ rfl (q_load t3 rfl (Rd.blk (.head _) rfl)) rfl (cT (cI (cT cP))) ?_
    refine oQ rfl (q_fieldAddr s77 rfl rfl rfl) rfl (cT (cI (cT cP))) ?_
    refine oQ rfl (q_load t3 rfl (Rd.blk (.head _) rfl)) rfl (cT (cI (cT cP))) ?_
    refine oQ rfl (q_build t50 s50 rfl rfl) rfl (cT (cI (cT cP))) ?_
    refine oQ rfl (q_loadS t80 rfl (RdS.loc (i := 0) rfl (m := 6) rfl) rfl) rfl (cT (cI (cT cP))) ?_
    refine AtO.callA rfl en123 rfl (with123 l ⟨o.key, o.v⟩ hr hl) (fun _ h => ⟨h.2.2.2.1, trivial⟩) (List.Perm.refl _) rfl r_ ?_
    rintro _ _ _ ⟨u, rfl, rfl, rfl, hul⟩
    refine oQ rfl (q_assign rfl) rfl (cT (cI (cT cP))) ?_
    refine AtO.done ?_
    refine At.loudN (l_store t80 rfl rfl (i := 1) rfl rfl rfl rfl) ?_
    rintro _ _ _ ⟨rfl, rfl⟩
    refine aN (aT (At.ret (At.inRet (At.thenRet ?_))))
    exact At.results (Γr := [_, _]) (M := []) rfl (RVals.cons (RVal.tmp rfl) (RVals.cons (RVal.cellS rfl t80 (RdS.loc (i := 1) rfl (m := 6) rfl) rfl) RVals.nil)) (ix 3 rfl) (fun _ h => ⟨h.1, h.2.2.1, trivial⟩) (d_ (d_ r_)) ⟨u, ⟨none, 0, []⟩, by rw [hdo]; first | rfl | (simp only [An.val, resVal, Sl.val]; rfl), rfl, rfl, by rw [hdo] <;> exact hul, by rw [hdo] <;> rfl⟩
   ·
    refine aS 5 rfl rfl ?_
    refine aN (aT ?_)
    refine At.condF rfl ?_
    refine aE (aR ?_)
    refine aF s77 t3 rfl rfl rfl (Rd.blk (.head _) rfl) rfl rfl ?_
    refine aS 2 rfl rfl ?_
    refine At.splitP (d := 44) rfl (fun h3 => ?_) (fun h3 => ?_)
    ·
     refine aS 4 rfl rfl ?_
     refine aN (aT ?_)
     refine At.say 40 (.bool false) rfl (congrArg Value.bool (decide_eq_false (by omega))) ?_
     refine At.condF rfl ?_
     refine At.skip (At.inNormal (aT (aE ?_)))
     have hdo : doT l.l o = (l.l, ⟨0, false, ⟨0, 0⟩, 0, []⟩) := by rw [do_yes hr hmo, if_neg h1, if_neg h2, if_pos h3, hhit, cut_none hno]
     refine At.draw 4 (.q 0 (.q 2 (.o 1 (.q 3 (.e))))) _ (List.Sublist.refl _) mixed (by kernel_rfl) rfl ?_
     refine oQ rfl (q_move rfl) rfl (cT cP) ?_
     refine oQ rfl (q_loadS t80 rfl (RdS.loc (i := 0) rfl (m := 6) rfl) rfl) rfl (cT cP) ?_
     refine AtO.callA rfl en72 rfl (clone72w l (by omega)) (fun _ h => ⟨h.2.2.2.1, trivial⟩) (List.Perm.refl _) rfl r_ ?_
     rintro _ _ _ ⟨u, rfl, hu, rfl, rfl⟩
     refine oQ rfl (q_assign rfl) rfl (cT cP) ?_
     refine AtO.done ?_
     refine At.loudN (l_store t80 rfl rfl (i := 1) rfl rfl rfl rfl) ?_
     rintro _ _ _ ⟨rfl, rfl⟩
     refine aN (aT (At.ret ?_))
     exact At.results (Γr := [_, _]) (M := []) rfl (RVals.cons (RVal.tmp rfl) (RVals.cons (RVal.cellS rfl t80 (RdS.loc (i := 1) rfl (m := 6) rfl) rfl) RVals.nil)) (ix 3 rfl) (fun _ h => ⟨h.1, h.2.2.1, trivial⟩) (d_ (d_ r_)) ⟨u, ⟨none, 0, []⟩, by rw [hdo]; first | rfl | (simp only [An.val, resVal, Sl.val]; rfl), rfl, rfl, by rw [hdo] <;> exact hu, by rw [hdo] <;> rfl⟩
    ·
     refine aS 4 rfl rfl ?_
     refine aN (aT ?_)
     refine At.condF rfl ?_
     refine At.skip (At.inNormal (aT (aE ?_)))
     have hdo : doT l.l o = (l.l, ⟨0, false, ⟨0, 0⟩, 0, []⟩) := by rw [do_yes hr hmo, if_neg h1, if_neg h2, if_neg h3, if_neg (show ¬ o.kind = 5 by omega), if_neg (show ¬ o.kind = 6 by omega), if_neg (show ¬ o.kind = 7 by omega), if_neg (show ¬ o.kind = 8 by omega), hhit]
     refine At.draw 4 (.q 0 (.q 2 (.o 1 (.q 3 (.e))))) _ (List.Sublist.refl _) mixed (by kernel_rfl) rfl ?_
     refine oQ rfl (q_move rfl) rfl (cT cP) ?_
     refine oQ rfl (q_loadS t80 rfl (RdS.loc (i := 0) rfl (m := 6) rfl) rfl) rfl (cT cP) ?_
     refine AtO.callA rfl en72 rfl (clone72w l (by omega)) (fun _ h => ⟨h.2.2.2.1, trivial⟩) (List.Perm.refl _) rfl r_ ?_
     rintro _ _ _ ⟨u, rfl, hu, rfl, rfl⟩
     refine oQ rfl (q_assign rfl) rfl (cT cP) ?_
     refine AtO.done ?_
     refine At.loudN (l_store t80 rfl rfl (i := 1) rfl rfl rfl rfl) ?_
     rintro _ _ _ ⟨rfl, rfl⟩
     refine aN (aT (At.ret ?_))
     exact At.results (Γr := [_, _]) (M := []) rfl (RVals.cons (RVal.tmp rfl) (RVals.cons (RVal.cellS rfl t80 (RdS.loc (i := 1) rfl (m := 6) rfl) rfl) RVals.nil)) (ix 3 rfl) (fun _ h => ⟨h.1, h.2.2.1, trivial⟩) (d_ (d_ r_)) ⟨u, ⟨none, 0, []⟩, by rw [hdo]; first | rfl | (simp only [An.val, resVal, Sl.val]; rfl), rfl, rfl, by rw [hdo] <;> exact hu, by rw [hdo] <;> rfl⟩
set_option maxHeartbeats 1000000 in
theorem do113 (l : Sl Pr) (o : OpS) (hl : l.l.length + 1 ≤ 8796093022208) : Con Try.prog 113 [l.val, o.val] [prsP l] [] (DoEnd l.l o) := by
 refine Con.body 76 Try.func113 rfl Try.ntmps113 rfl fun X H₀ L₀ => ?_
 refine At.know (prsP ⟨none, 0, []⟩) (fun _ h => sl_nil _ _ _ (Nat.zero_le _)) ?_
 refine aE (aR ?_)
 refine At.loud (l_box rfl) rfl ?_
 rintro _ _ _ ⟨b1, rfl, rfl, rfl⟩
 refine At.freeze 0 (φ := blk b1 _) rfl (fun _ h => blk_def.2 ⟨_, _, h⟩) ?_
 refine aS 1 rfl rfl ?_
 refine At.loud (l_alloc t80) rfl ?_
 rintro _ _ _ ⟨b2, rfl, rfl, rfl⟩
 refine aN (aT (aE (aE (aR ?_))))
 refine aS 1 rfl rfl ?_
 refine At.call en71 rfl (may71 _) (fun _ h => ⟨h.2.2.2.1, trivial⟩) (List.Perm.refl _) rfl ?_
 rintro _ _ _ ⟨rfl, rfl, rfl⟩
 refine aS 2 rfl rfl ?_
 refine At.split (d := 10) rfl (fun hr0 => ?_) (fun hr0 => ?_)
 ·
  have hdo : doT l.l o = (l.l, ⟨1, false, ⟨0, 0⟩, 0, []⟩) := do_no (.inl (not_t hr0))
  refine aS 4 rfl rfl ?_
  refine aN (aT ?_)
  refine At.condT rfl ?_
  refine aE (aR ?_)
  refine aS 1 rfl rfl ?_
  refine At.call en72 rfl (clone72w l (by omega)) (fun _ h => ⟨h.2.2.2.1, trivial⟩) (List.Perm.refl _) rfl ?_
  rintro _ _ _ ⟨u, rfl, hu, rfl, rfl⟩
  refine aQ (q_build t80 s80 rfl rfl) rfl ?_
  refine aS 1 rfl rfl ?_
  refine At.loudN (l_store t80 rfl rfl (i := 0) rfl rfl rfl rfl) ?_
  rintro _ _ _ ⟨rfl, rfl⟩
  refine aN (aT (At.ret (At.thenRet ?_)))
  exact At.results (Γr := [_, _]) (M := []) rfl (RVals.cons (RVal.tmp rfl) (RVals.cons (RVal.cellS rfl t80 (RdS.loc (i := 0) rfl (m := 6) rfl) rfl) RVals.nil)) (ix 3 rfl) (fun _ h => ⟨h.1, h.2.2.1, trivial⟩) (d_ r_) ⟨u, ⟨none, 0, []⟩, by rw [hdo]; first | rfl | (simp only [An.val, resVal, Sl.val]; rfl), rfl, rfl, by rw [hdo] <;> exact hu, by rw [hdo] <;> rfl⟩
 ·
  have hr : rises l.l = true := not_f hr0
  refine At.open rfl rfl ?_
  refine aQ (q_loadS t77 rfl (RdS.blk (.head _) (m := 4) rfl) rfl) rfl ?_
  refine At.open rfl rfl ?_
  refine At.call en92 rfl (mayop92 _) (fun _ _ => trivial) (List.Perm.refl _) rfl ?_
  rintro _ _ _ ⟨rfl, rfl, rfl⟩
  refine aS 2 rfl rfl ?_
  refine aN (aT ?_)
  refine At.cond rfl (fun hm0 => ?_) (fun hm0 => ?_)
  ·
   have hdo : doT l.l o = (l.l, ⟨1, false, ⟨0, 0⟩, 0, []⟩) := do_no (.inr (not_t hm0))
   refine aE (aR ?_)
   refine aS 1 rfl rfl ?_
   refine At.call en72 rfl (clone72w l (by omega)) (fun _ h => ⟨h.2.2.2.1, trivial⟩) (List.Perm.refl _) rfl ?_
   rintro _ _ _ ⟨u, rfl, hu, rfl, rfl⟩
   refine aQ (q_build t80 s80 rfl rfl) rfl ?_
   refine aS 1 rfl rfl ?_
   refine At.loudN (l_store t80 rfl rfl (i := 0) rfl rfl rfl rfl) ?_
   rintro _ _ _ ⟨rfl, rfl⟩
   refine aN (aT (At.ret (At.thenRet ?_)))
   exact At.results (Γr := [_, _]) (M := []) rfl (RVals.cons (RVal.tmp rfl) (RVals.cons (RVal.cellS rfl t80 (RdS.loc (i := 0) rfl (m := 6) rfl) rfl) RVals.nil)) (ix 3 rfl) (fun _ h => ⟨h.1, h.2.2.1, trivial⟩) (d_ r_) ⟨u, ⟨none, 0, []⟩, by rw [hdo]; first | rfl | (simp only [An.val, resVal, Sl.val]; rfl), rfl, rfl, by rw [hdo] <;> exact hu, by rw [hdo] <;> rfl⟩
  ·
   have hmo : mayO o = true := not_f hm0
   have hmk : 1 ≤ o.kind ∧ o.kind ≤ 8 := by simpa [mayO] using hmo
   have hbl := betw_len l.l o.key o.hi
   refine At.skip (aT (aE (aR ?_)))
   refine At.loud (l_alloc t80) rfl ?_
   rintro _ _ _ ⟨b3, rfl, rfl, rfl⟩
   refine aN (aT (aE (aE (aR ?_))))
   refine aF s77 t3 rfl rfl rfl (Rd.blk (.head _) rfl) rfl rfl ?_
   refine aN (aT (At.block (aE (aR ?_))))
   refine aS 2 rfl rfl ?_
   refine aN (aT ?_)
   refine At.if rfl (fun h5 => ?_) (fun h5 => ?_)
   ·
    have h1 : ¬ o.kind = 1 := by omega
    have h2 : ¬ o.kind = 2 := by omega
    have h3 : ¬ o.kind = 3 := by omega
    refine aE (aR ?_)
    refine aS 1 rfl rfl ?_
    refine aF s77 t3 rfl rfl rfl (Rd.blk (.head _) rfl) rfl rfl ?_
    refine aF s77 t3 rfl rfl rfl (Rd.blk (.head _) rfl) rfl rfl ?_
    refine At.call en118 rfl (within118 _ _ _ (by omega)) (fun _ h => ⟨h.2.2.2.1, trivial⟩) (List.Perm.refl _) rfl ?_
    rintro _ _ _ ⟨bw, rfl, rfl, rfl, hbw⟩
    refine aQ (q_fieldAddr s80 rfl rfl rfl) rfl ?_
    refine At.loudN (l_store t31 rfl rfl (i := 0) rfl rfl rfl rfl) ?_
    rintro _ _ _ ⟨rfl, rfl⟩
    refine aN (aT (aR ?_))
    refine aF s80 t31 rfl rfl rfl (Rd.loc (i := 0) rfl rfl) rfl rfl ?_
    refine aQ (q_len Try.underlying31 rfl) rfl ?_
    refine aQ (q_fieldAddr s80 rfl rfl rfl) rfl ?_
    refine At.loudN (l_store t3 rfl rfl (i := 0) rfl rfl rfl rfl) ?_
    rintro _ _ _ ⟨rfl, rfl⟩
    refine aN (At.inNormal (aT (aE ?_)))
    have hdo : doT l.l o = (l.l, ⟨0, false, ⟨0, 0⟩, ((betw l.l o.key o.hi).length : Int), betw l.l o.key o.hi⟩) := by rw [do_yes hr hmo, if_neg h1, if_neg h2, if_neg h3, if_pos h5]
    refine At.draw 4 (.q 0 (.q 2 (.o 1 (.q 3 (.e))))) _ (List.Sublist.refl _) mixed (by kernel_rfl) rfl ?_
    refine oQ rfl (q_move rfl) rfl (cT cP) ?_
    refine oQ rfl (q_loadS t80 rfl (RdS.loc (i := 0) rfl (m := 6) rfl) rfl) rfl (cT cP) ?_
    refine AtO.callA rfl en72 rfl (clone72w l (by omega)) (fun _ h => ⟨h.2.2.2.2.1, trivial⟩) (List.Perm.refl _) rfl r_ ?_
    rintro _ _ _ ⟨u, rfl, hu, rfl, rfl⟩
    refine oQ rfl (q_assign rfl) rfl (cT cP) ?_
    refine AtO.done ?_
    refine At.loudN (l_store t80 rfl rfl (i := 1) rfl rfl rfl rfl) ?_
    rintro _ _ _ ⟨rfl, rfl⟩
    refine aN (aT (At.ret ?_))
    exact At.results (Γr := [_, _]) (M := []) rfl (RVals.cons (RVal.tmp rfl) (RVals.cons (RVal.cellS rfl t80 (RdS.loc (i := 1) rfl (m := 6) rfl) rfl) RVals.nil)) (ix 4 rfl) (fun _ h => ⟨h.1, h.2.1, trivial⟩) (d_ (d_ r_)) ⟨u, bw, by rw [hdo]; simp only [An.val, resVal]; rw [← hbw]; rfl, rfl, rfl, by rw [hdo]; exact hu, by rw [hdo]; exact hbw⟩
   ·
    refine aE (aR ?_)
    refine aS 2 rfl rfl ?_
    refine aN (aT ?_)
    refine At.if rfl (fun h6 => ?_) (fun h6 => ?_)
    ·
     have h1 : ¬ o.kind = 1 := by omega
     have h2 : ¬ o.kind = 2 := by omega
     have h3 : ¬ o.kind = 3 := by omega
     refine aR ?_
     refine aS 1 rfl rfl ?_
     refine aF s77 t3 rfl rfl rfl (Rd.blk (.head _) rfl) rfl rfl ?_
     refine aF s77 t3 rfl rfl rfl (Rd.blk (.head _) rfl) rfl rfl ?_
     refine At.call en118 rfl (within118 _ _ _ (by omega)) (fun _ h => ⟨h.2.2.2.1, trivial⟩) (List.Perm.refl _) rfl ?_
     rintro _ _ _ ⟨bw, rfl, rfl, rfl, hbw⟩
     refine aQ (q_len Try.underlying31 rfl) rfl ?_
     refine aQ (q_fieldAddr s80 rfl rfl rfl) rfl ?_
     refine At.loudN (l_store t3 rfl rfl (i := 0) rfl rfl rfl rfl) ?_
     rintro _ _ _ ⟨rfl, rfl⟩
     refine aN (At.inNormal (aT (aE ?_)))
     have hdo : doT l.l o = (l.l, ⟨0, false, ⟨0, 0⟩, ((betw l.l o.key o.hi).length : Int), []⟩) := by rw [do_yes hr hmo, if_neg h1, if_neg h2, if_neg h3, if_neg h5, if_pos h6]
     refine At.draw 4 (.q 0 (.q 2 (.o 1 (.q 3 (.e))))) _ (List.Sublist.refl _) mixed (by kernel_rfl) rfl ?_
     refine oQ rfl (q_move rfl) rfl (cT cP) ?_
     refine oQ rfl (q_loadS t80 rfl (RdS.loc (i := 0) rfl (m := 6) rfl) rfl) rfl (cT cP) ?_
     refine AtO.callA rfl en72 rfl (clone72w l (by omega)) (fun _ h => ⟨h.2.2.2.2.1, trivial⟩) (List.Perm.refl _) rfl r_ ?_
     rintro _ _ _ ⟨u, rfl, hu, rfl, rfl⟩
     refine oQ rfl (q_assign rfl) rfl (cT cP) ?_
     refine AtO.done ?_
     refine At.loudN (l_store t80 rfl rfl (i := 1) rfl rfl rfl rfl) ?_
     rintro _ _ _ ⟨rfl, rfl⟩
     refine aN (aT (At.ret ?_))
     exact At.results (Γr := [_, _]) (M := []) rfl (RVals.cons (RVal.tmp rfl) (RVals.cons (RVal.cellS rfl t80 (RdS.loc (i := 1) rfl (m := 6) rfl) rfl) RVals.nil)) (ix 4 rfl) (fun _ h => ⟨h.1, h.2.2.2.1, trivial⟩) (d_ (d_ r_)) ⟨u, ⟨none, 0, []⟩, by rw [hdo]; simp only [An.val, resVal]; rw [← hbw]; rfl, rfl, rfl, by rw [hdo]; exact hu, by rw [hdo]⟩
    ·
     refine aE (aE (aR ?_))
     refine aS 2 rfl rfl ?_
     refine aN (aT ?_)
     refine At.if rfl (fun h7 => ?_) (fun h7 => ?_)
     ·
      have h1 : ¬ o.kind = 1 := by omega
      have h2 : ¬ o.kind = 2 := by omega
      have h3 : ¬ o.kind = 3 := by omega
      refine At.skip (aT ?_)
      refine At.say 48 (.bool true) rfl (congrArg Value.bool (decide_eq_true h7)) ?_
      refine At.condT rfl ?_
      refine aE (aE (aR ?_))
      refine aS 1 rfl rfl ?_
      refine aQ (q_len Try.underlying31 rfl) rfl ?_
      refine aS 1 rfl rfl ?_
      refine aN (aT ?_)
      refine At.if rfl (fun hn => ?_) (fun hn => ?_)
      ·
       obtain ⟨x, hx⟩ := get_of_lt (l := l.l) (i := 0) (by omega)
       obtain ⟨y, hy⟩ := get_of_lt (l := l.l) (i := l.l.length - 1) (by omega)
       refine aR ?_
       refine aS 1 rfl rfl ?_
       refine aQ (q_index Try.underlying31 t50 rfl (ix 3 rfl) (by simp) rfl rfl (lt_of_get hx)) rfl ?_
       refine aQ (q_loadS t50 rfl (RdS.sl0 (ix 3 rfl) (map_get hx)) rfl) rfl ?_
       refine aQ (q_build t80 s80 rfl rfl) rfl ?_
       refine At.loudN (l_store t80 rfl rfl (i := 0) rfl rfl rfl rfl) ?_
       rintro _ _ _ ⟨rfl, rfl⟩
       refine aN (aT (aE (aR ?_)))
       refine aS 1 rfl rfl ?_
       refine aQ (q_len Try.underlying31 rfl) rfl ?_
       refine aS 2 rfl rfl ?_
       refine At.say 61 (.bool true) rfl (congrArg Value.bool (decide_eq_true hn)) ?_
       refine At.open rfl rfl ?_
       refine aQ (q_fieldAddr s77 rfl rfl rfl) rfl ?_
       refine At.open rfl rfl ?_
       refine aQ (q_load t3 rfl (Rd.blk (.head _) rfl)) rfl ?_
       refine aS 2 rfl rfl ?_
       refine aN (aT ?_)
       refine At.say 65 (.bool false) rfl (congrArg Value.bool (decide_eq_false (by omega))) ?_
       refine At.condF rfl ?_
       refine At.skip (At.inNormal (aT (aE ?_)))
       have hdo : doT l.l o = (l.l, ⟨0, true, x, 0, []⟩) := by rw [do_yes hr hmo, if_neg h1, if_neg h2, if_neg h3, if_neg h5, if_neg h6, if_pos h7, head_get, hx] <;> rfl
       refine At.draw 4 (.q 0 (.q 2 (.o 1 (.q 3 (.e))))) _ (List.Sublist.refl _) mixed (by kernel_rfl) rfl ?_
       refine oQ rfl (q_move rfl) rfl (cT cP) ?_
       refine oQ rfl (q_loadS t80 rfl (RdS.loc (i := 0) rfl (m := 6) rfl) rfl) rfl (cT cP) ?_
       refine AtO.callA rfl en72 rfl (clone72w l (by omega)) (fun _ h => ⟨h.2.2.2.1, trivial⟩) (List.Perm.refl _) rfl r_ ?_
       rintro _ _ _ ⟨u, rfl, hu, rfl, rfl⟩
       refine oQ rfl (q_assign rfl) rfl (cT cP) ?_
       refine AtO.done ?_
       refine At.loudN (l_store t80 rfl rfl (i := 1) rfl rfl rfl rfl) ?_
       rintro _ _ _ ⟨rfl, rfl⟩
       refine aN (aT (At.ret ?_))
       exact At.results (Γr := [_, _]) (M := []) rfl (RVals.cons (RVal.tmp rfl) (RVals.cons (RVal.cellS rfl t80 (RdS.loc (i := 1) rfl (m := 6) rfl) rfl) RVals.nil)) (ix 3 rfl) (fun _ h => ⟨h.1, h.2.2.1, trivial⟩) (d_ (d_ r_)) ⟨u, ⟨none, 0, []⟩, by rw [hdo]; first | rfl | (simp only [An.val, resVal, Sl.val]; rfl), rfl, rfl, by rw [hdo] <;> exact hu, by rw [hdo] <;> rfl⟩
      ·
       have hnil : l.l = [] := List.eq_nil_of_length_eq_zero (by omega)
       refine At.skip (aT (aE (aR ?_)))
       refine aS 1 rfl rfl ?_
       refine aQ (q_len Try.underlying31 rfl) rfl ?_
       refine aS 2 rfl rfl ?_
       refine At.say 61 (.bool false) rfl (congrArg Value.bool (decide_eq_false hn)) ?_
       refine aS 4 rfl rfl ?_
       refine aN (aT ?_)
       refine At.condF rfl ?_
       refine At.skip (At.inNormal (aT (aE ?_)))
       have hdo : doT l.l o = (l.l, ⟨0, false, ⟨0, 0⟩, 0, []⟩) := by rw [do_yes hr hmo, if_neg h1, if_neg h2, if_neg h3, if_neg h5, if_neg h6, if_pos h7, hnil] <;> rfl
       refine At.draw 4 (.q 0 (.q 2 (.o 1 (.q 3 (.e))))) _ (List.Sublist.refl _) mixed (by kernel_rfl) rfl ?_
       refine oQ rfl (q_move rfl) rfl (cT cP) ?_
       refine oQ rfl (q_loadS t80 rfl (RdS.loc (i := 0) rfl (m := 6) rfl) rfl) rfl (cT cP) ?_
       refine AtO.callA rfl en72 rfl (clone72w l (by omega)) (fun _ h => ⟨h.2.2.2.1, trivial⟩) (List.Perm.refl _) rfl r_ ?_
       rintro _ _ _ ⟨u, rfl, hu, rfl, rfl⟩
       refine oQ rfl (q_assign rfl) rfl (cT cP) ?_
       refine AtO.done ?_
       refine At.loudN (l_store t80 rfl rfl (i := 1) rfl rfl rfl rfl) ?_
       rintro _ _ _ ⟨rfl, rfl⟩
       refine aN (aT (At.ret ?_))
       exact At.results (Γr := [_, _]) (M := []) rfl (RVals.cons (RVal.tmp rfl) (RVals.cons (RVal.cellS rfl t80 (RdS.loc (i := 1) rfl (m := 6) rfl) rfl) RVals.nil)) (ix 3 rfl) (fun _ h => ⟨h.1, h.2.2.1, trivial⟩) (d_ (d_ r_)) ⟨u, ⟨none, 0, []⟩, by rw [hdo]; first | rfl | (simp only [An.val, resVal, Sl.val]; rfl), rfl, rfl, by rw [hdo] <;> exact hu, by rw [hdo] <;> rfl⟩
     ·
      refine aR ?_
      refine aS 2 rfl rfl ?_
      refine aN (aT ?_)
      refine At.if rfl (fun h8 => ?_) (fun h8 => ?_)
      ·
       have h1 : ¬ o.kind = 1 := by omega
       have h2 : ¬ o.kind = 2 := by omega
       have h3 : ¬ o.kind = 3 := by omega
       refine aE (aE (aR ?_))
       refine aS 1 rfl rfl ?_
       refine aQ (q_len Try.underlying31 rfl) rfl ?_
       refine aS 1 rfl rfl ?_
       refine aN (aT ?_)
       refine At.if rfl (fun hn => ?_) (fun hn => ?_)
       ·
        obtain ⟨x, hx⟩ := get_of_lt (l := l.l) (i := 0) (by omega)
        obtain ⟨y, hy⟩ := get_of_lt (l := l.l) (i := l.l.length - 1) (by omega)
        refine aR ?_
        refine aS 1 rfl rfl ?_
        refine aQ (q_index Try.underlying31 t50 rfl (ix 3 rfl) (by simp) rfl rfl (lt_of_get hx)) rfl ?_
        refine aQ (q_loadS t50 rfl (RdS.sl0 (ix 3 rfl) (map_get hx)) rfl) rfl ?_
        refine aQ (q_build t80 s80 rfl rfl) rfl ?_
        refine At.loudN (l_store t80 rfl rfl (i := 0) rfl rfl rfl rfl) ?_
        rintro _ _ _ ⟨rfl, rfl⟩
        refine aN (aT (aE (aR ?_)))
        refine aS 1 rfl rfl ?_
        refine aQ (q_len Try.underlying31 rfl) rfl ?_
        refine aS 2 rfl rfl ?_
        refine At.say 61 (.bool true) rfl (congrArg Value.bool (decide_eq_true hn)) ?_
        refine At.open rfl rfl ?_
        refine aQ (q_fieldAddr s77 rfl rfl rfl) rfl ?_
        refine At.open rfl rfl ?_
        refine aQ (q_load t3 rfl (Rd.blk (.head _) rfl)) rfl ?_
        refine aS 2 rfl rfl ?_
        refine aN (aT ?_)
        refine At.say 65 (.bool true) rfl (congrArg Value.bool (decide_eq_true h8)) ?_
        refine At.condT rfl ?_
        refine aR ?_
        refine aS 2 rfl rfl ?_
        refine aQ (q_len Try.underlying31 rfl) rfl ?_
        refine aQ (q_sub rfl rfl (by omega) (by omega)) rfl ?_
        refine aQ (q_index Try.underlying31 t50 rfl (ix 3 rfl) (by simp) rfl (by omega) (lt_of_get hy)) rfl ?_
        refine aQ (q_loadS t50 rfl (RdS.sl0 (ix 3 rfl) (map_get hy)) rfl) rfl ?_
        refine aQ (q_fieldAddr s80 rfl rfl rfl) rfl ?_
        refine At.loudN (l_store t50 rfl rfl (i := 0) rfl rfl rfl rfl) ?_
        rintro _ _ _ ⟨rfl, rfl⟩
        refine aN (At.inNormal (aT (aE ?_)))
        have hdo : doT l.l o = (l.l, ⟨0, true, y, 0, []⟩) := by rw [do_yes hr hmo, if_neg h1, if_neg h2, if_neg h3, if_neg h5, if_neg h6, if_neg h7, if_pos h8, last_get9, hy] <;> rfl
        refine At.draw 4 (.q 0 (.q 2 (.o 1 (.q 3 (.e))))) _ (List.Sublist.refl _) mixed (by kernel_rfl) rfl ?_
        refine oQ rfl (q_move rfl) rfl (cT cP) ?_
        refine oQ rfl (q_loadS t80 rfl (RdS.loc (i := 0) rfl (m := 6) rfl) rfl) rfl (cT cP) ?_
        refine AtO.callA rfl en72 rfl (clone72w l (by omega)) (fun _ h => ⟨h.2.2.2.1, trivial⟩) (List.Perm.refl _) rfl r_ ?_
        rintro _ _ _ ⟨u, rfl, hu, rfl, rfl⟩
        refine oQ rfl (q_assign rfl) rfl (cT cP) ?_
        refine AtO.done ?_
        refine At.loudN (l_store t80 rfl rfl (i := 1) rfl rfl rfl rfl) ?_
        rintro _ _ _ ⟨rfl, rfl⟩
        refine aN (aT (At.ret ?_))
        exact At.results (Γr := [_, _]) (M := []) rfl (RVals.cons (RVal.tmp rfl) (RVals.cons (RVal.cellS rfl t80 (RdS.loc (i := 1) rfl (m := 6) rfl) rfl) RVals.nil)) (ix 3 rfl) (fun _ h => ⟨h.1, h.2.2.1, trivial⟩) (d_ (d_ r_)) ⟨u, ⟨none, 0, []⟩, by rw [hdo]; first | rfl | (simp only [An.val, resVal, Sl.val]; rfl), rfl, rfl, by rw [hdo] <;> exact hu, by rw [hdo] <;> rfl⟩
       ·
        have hnil : l.l = [] := List.eq_nil_of_length_eq_zero (by omega)
        refine At.skip (aT (aE (aR ?_)))
        refine aS 1 rfl rfl ?_
        refine aQ (q_len Try.underlying31 rfl) rfl ?_
        refine aS 2 rfl rfl ?_
        refine At.say 61 (.bool false) rfl (congrArg Value.bool (decide_eq_false hn)) ?_
        refine aS 4 rfl rfl ?_
        refine aN (aT ?_)
        refine At.condF rfl ?_
        refine At.skip (At.inNormal (aT (aE ?_)))
        have hdo : doT l.l o = (l.l, ⟨0, false, ⟨0, 0⟩, 0, []⟩) := by rw [do_yes hr hmo, if_neg h1, if_neg h2, if_neg h3, if_neg h5, if_neg h6, if_neg h7, if_pos h8, hnil] <;> rfl
        refine At.draw 4 (.q 0 (.q 2 (.o 1 (.q 3 (.e))))) _ (List.Sublist.refl _) mixed (by kernel_rfl) rfl ?_
        refine oQ rfl (q_move rfl) rfl (cT cP) ?_
        refine oQ rfl (q_loadS t80 rfl (RdS.loc (i := 0) rfl (m := 6) rfl) rfl) rfl (cT cP) ?_
        refine AtO.callA rfl en72 rfl (clone72w l (by omega)) (fun _ h => ⟨h.2.2.2.1, trivial⟩) (List.Perm.refl _) rfl r_ ?_
        rintro _ _ _ ⟨u, rfl, hu, rfl, rfl⟩
        refine oQ rfl (q_assign rfl) rfl (cT cP) ?_
        refine AtO.done ?_
        refine At.loudN (l_store t80 rfl rfl (i := 1) rfl rfl rfl rfl) ?_
        rintro _ _ _ ⟨rfl, rfl⟩
        refine aN (aT (At.ret ?_))
        exact At.results (Γr := [_, _]) (M := []) rfl (RVals.cons (RVal.tmp rfl) (RVals.cons (RVal.cellS rfl t80 (RdS.loc (i := 1) rfl (m := 6) rfl) rfl) RVals.nil)) (ix 3 rfl) (fun _ h => ⟨h.1, h.2.2.1, trivial⟩) (d_ (d_ r_)) ⟨u, ⟨none, 0, []⟩, by rw [hdo]; first | rfl | (simp only [An.val, resVal, Sl.val]; rfl), rfl, rfl, by rw [hdo] <;> exact hu, by rw [hdo] <;> rfl⟩
      ·
       refine aE (aR ?_)
       refine aS 1 rfl rfl ?_
       refine aQ (q_loadS t77 rfl (RdS.blk (.head _) (m := 4) rfl) rfl) rfl ?_
       refine At.call en119 rfl (one119 l o hr hmo (by omega) hl) (fun _ h => ⟨h.2.2.2.1, trivial⟩) (List.Perm.refl _) rfl ?_
       rintro _ _ _ ⟨s, s2, rfl, rfl, rfl, hs, hs2⟩
       refine aQ (q_extract rfl rfl) rfl ?_
       refine aQ (q_extract rfl rfl) rfl ?_
       refine aS 1 rfl rfl ?_
       refine At.loudN (l_store t80 rfl rfl (i := 1) rfl rfl rfl rfl) ?_
       rintro _ _ _ ⟨rfl, rfl⟩
       refine aN (aT (At.ret (At.inRet (At.thenRet ?_))))
       exact At.results (Γr := [_, _]) (M := []) rfl (RVals.cons (RVal.tmp rfl) (RVals.cons (RVal.cellS rfl t80 (RdS.loc (i := 1) rfl (m := 6) rfl) rfl) RVals.nil)) (ix 4 rfl) (fun _ h => ⟨h.1, h.2.1, trivial⟩) (d_ (d_ r_)) ⟨s, s2, rfl, rfl, rfl, hs, hs2⟩
set_option maxHeartbeats 2000000 in
theorem do63 (l : Sl Pr) (o : OpS) (hl : l.l.length ≤ 1000000) : Con Try.prog 63 [l.val, o.val] [prsP l] [] (DoEnd l.l o) := by
 refine Con.body 116 Try.func63 rfl Try.ntmps63 rfl fun X H₀ L₀ => ?_
 refine At.know (prsP ⟨none, 0, []⟩) (fun _ h => sl_nil _ _ _ (Nat.zero_le _)) ?_
 refine aE (aR ?_)
 refine At.loud (l_box rfl) rfl ?_
 rintro _ _ _ ⟨b1, rfl, rfl, rfl⟩
 refine At.freeze 0 (φ := blk b1 _) rfl (fun _ h => blk_def.2 ⟨_, _, h⟩) ?_
 refine aS 1 rfl rfl ?_
 refine At.loud (l_alloc t80) rfl ?_
 rintro _ _ _ ⟨b2, rfl, rfl, rfl⟩
 refine aN (aT (aE (aR ?_)))
 refine aS 1 rfl rfl ?_
 refine At.loud (l_appendNew rfl Try.underlying31 t50 rfl rfl (ix 3 rfl) (by simp) rfl (by omega) (by unfold maxLen; omega) rfl) rfl ?_
 rintro _ _ _ ⟨a0, c0, rfl, rfl, rfl⟩
 refine aS 1 rfl rfl ?_
 refine aN (aT (aE (aE (aR ?_))))
 refine aS 1 rfl rfl ?_
 refine At.call en30 rfl (may30 _) (fun _ h => ⟨h.2.2.2.2.1, trivial⟩) (List.Perm.refl _) rfl ?_
 rintro _ _ _ ⟨rfl, rfl, rfl⟩
 refine aS 2 rfl rfl ?_
 refine At.split (d := 14) rfl (fun hr0 => ?_) (fun hr0 => ?_)
 ·
  have hdo : doT l.l o = (l.l, ⟨1, false, ⟨0, 0⟩, 0, []⟩) := do_no (.inl (not_t hr0))
  refine aS 4 rfl rfl ?_
  refine aN (aT ?_)
  refine At.condT rfl ?_
  refine aE (aR ?_)
  refine aS 1 rfl rfl ?_
  refine aQ (q_build t80 s80 rfl rfl) rfl ?_
  refine aS 1 rfl rfl ?_
  refine At.loudN (l_store t80 rfl rfl (i := 0) rfl rfl rfl rfl) ?_
  rintro _ _ _ ⟨rfl, rfl⟩
  refine aN (aT (At.ret (At.thenRet ?_)))
  exact At.results (Γr := [_, _]) (M := []) rfl (RVals.cons (RVal.tmp rfl) (RVals.cons (RVal.cellS rfl t80 (RdS.loc (i := 0) rfl (m := 6) rfl) rfl) RVals.nil)) (ix 3 rfl) (fun _ h => ⟨h.1, h.2.2.1, trivial⟩) (d_ r_) ⟨⟨a0, c0, l.l⟩, ⟨none, 0, []⟩, by rw [hdo]; first | rfl | (simp only [An.val, resVal, Sl.val]; rfl), rfl, rfl, by rw [hdo] <;> rfl, by rw [hdo] <;> rfl⟩
 ·
  have hr : rises l.l = true := not_f hr0
  refine At.open rfl rfl ?_
  refine aQ (q_loadS t77 rfl (RdS.blk (ix 1 rfl) (m := 4) rfl) rfl) rfl ?_
  refine At.open rfl rfl ?_
  refine At.call en64 rfl (mayop64 _) (fun _ _ => trivial) (List.Perm.refl _) rfl ?_
  rintro _ _ _ ⟨rfl, rfl, rfl⟩
  refine aS 2 rfl rfl ?_
  refine aN (aT ?_)
  refine At.cond rfl (fun hm0 => ?_) (fun hm0 => ?_)
  ·
   have hdo : doT l.l o = (l.l, ⟨1, false, ⟨0, 0⟩, 0, []⟩) := do_no (.inr (not_t hm0))
   refine aE (aR ?_)
   refine aS 1 rfl rfl ?_
   refine aQ (q_build t80 s80 rfl rfl) rfl ?_
   refine aS 1 rfl rfl ?_
   refine At.loudN (l_store t80 rfl rfl (i := 0) rfl rfl rfl rfl) ?_
   rintro _ _ _ ⟨rfl, rfl⟩
   refine aN (aT (At.ret (At.thenRet ?_)))
   exact At.results (Γr := [_, _]) (M := []) rfl (RVals.cons (RVal.tmp rfl) (RVals.cons (RVal.cellS rfl t80 (RdS.loc (i := 0) rfl (m := 6) rfl) rfl) RVals.nil)) (ix 3 rfl) (fun _ h => ⟨h.1, h.2.2.1, trivial⟩) (d_ r_) ⟨⟨a0, c0, l.l⟩, ⟨none, 0, []⟩, by rw [hdo]; first | rfl | (simp only [An.val, resVal, Sl.val]; rfl), rfl, rfl, by rw [hdo] <;> rfl, by rw [hdo] <;> rfl⟩
  ·
   have hmo : mayO o = true := not_f hm0
   have hmk : 1 ≤ o.kind ∧ o.kind ≤ 8 := by simpa [mayO] using hmo
   refine At.skip (aT (aE (aR ?_)))
   refine At.loud (l_alloc t80) rfl ?_
   rintro _ _ _ ⟨b3, rfl, rfl, rfl⟩
   refine aN (aT (aE (aE (aR ?_))))
   refine aS 1 rfl rfl ?_
   refine aF s77 t3 rfl rfl rfl (Rd.blk (ix 1 rfl) rfl) rfl rfl ?_
   refine At.call en101 rfl (find101 _ _) (fun _ h => ⟨h.2.2.2.2.1, trivial⟩) (List.Perm.refl _) rfl ?_
   rintro _ _ _ ⟨rfl, rfl, rfl⟩
   refine aS 1 rfl rfl ?_
   refine aN (aT (aE (aR ?_)))
   refine aS 3 rfl rfl ?_
   refine At.splitP (d := 27) rfl (fun hge => ?_) (fun hge => ?_)
   ·
    obtain ⟨j, x, hj, hx, hp, hno⟩ := idx_get hge
    have hjl := lt_of_get hx
    have hhit : hit l.l o.key = ⟨0, true, x, 0, []⟩ := by rw [hit, find_at hx hp hno]; rfl
    refine At.open rfl rfl ?_
    refine aQ (q_fieldAddr s77 rfl rfl rfl) rfl ?_
    refine At.open rfl rfl ?_
    refine aQ (q_load t3 rfl (Rd.blk (ix 1 rfl) rfl)) rfl ?_
    refine aS 2 rfl rfl ?_
    refine aN (aT ?_)
    refine At.if rfl (fun h4 => ?_) (fun h4 => ?_)
    ·
     refine At.say 8 (.int .i64 (j : Int)) rfl (congrArg (Value.int .i64) hj) ?_
     refine aR ?_
     refine aS 2 rfl rfl ?_
     refine aQ (q_index Try.underlying31 t50 rfl (ix 4 rfl) (by simp) rfl rfl (lt_of_get hx)) rfl ?_
     refine aQ (q_loadS t50 rfl (RdS.sl0 (ix 4 rfl) (map_get hx)) rfl) rfl ?_
     refine aQ (q_fieldAddr s80 rfl rfl rfl) rfl ?_
     refine At.loudN (l_store t50 rfl rfl (i := 0) rfl rfl rfl rfl) ?_
     rintro _ _ _ ⟨rfl, rfl⟩
     refine aQ (q_fieldAddr s80 rfl rfl rfl) rfl ?_
     refine At.loudN (l_store t4 rfl rfl (i := 0) rfl rfl rfl rfl) ?_
     rintro _ _ _ ⟨rfl, rfl⟩
     refine aN (aT (aE (aE (aR ?_))))
     refine aF s77 t3 rfl rfl rfl (Rd.blk (ix 1 rfl) rfl) rfl rfl ?_
     refine aN (aT (At.block (aE (aR ?_))))
     refine aS 2 rfl rfl ?_
     refine aN (aT ?_)
     refine At.if rfl (fun h1 => ?_) (fun h1 => ?_)
     ·
      refine aE ?_
      refine At.draw 9 (.q 0 (.q 1 (.q 2 (.q 3 (.q 4 (.q 5 (.q 7 (.o 6 (.q 8 (.e)))))))))) _ (List.Sublist.refl _) mixed (by kernel_rfl) rfl ?_
      refine oQ rfl (q_move rfl) rfl (cT (cI (cT cP))) ?_
      refine oQ rfl (q_fieldAddr s77 rfl rfl rfl) rfl (cT (cI (cT cP))) ?_
      refine oQ rfl (q_load t3 rfl (Rd.blk (ix 1 rfl) rfl)) rfl (cT (cI (cT cP))) ?_
      refine oQ rfl (q_fieldAddr s77 rfl rfl rfl) rfl (cT (cI (cT cP))) ?_
      refine oQ rfl (q_load t3 rfl (Rd.blk (ix 1 rfl) rfl)) rfl (cT (cI (cT cP))) ?_
      refine oQ rfl (q_build t50 s50 rfl rfl) rfl (cT (cI (cT cP))) ?_
      refine oQ rfl (q_loadS t80 rfl (RdS.loc (i := 0) rfl (m := 6) rfl) rfl) rfl (cT (cI (cT cP))) ?_
      refine AtO.callA rfl en35 rfl (with35f l ⟨o.key, o.v⟩ hl) (fun _ h => ⟨h.2.2.2.2.1, trivial⟩) (List.Perm.refl _) rfl r_ ?_
      rintro _ _ _ ⟨u, rfl, rfl, rfl, hul⟩
      have hdo : doT l.l o = (withT l.l ⟨o.key, o.v⟩, ⟨0, true, x, 0, []⟩) := by rw [do_yes hr hmo, if_pos h1, hhit]
      refine oQ rfl (q_assign rfl) rfl (cT (cI (cT cP))) ?_
      refine AtO.done ?_
      refine At.loudN (l_store t80 rfl rfl (i := 1) rfl rfl rfl rfl) ?_
      rintro _ _ _ ⟨rfl, rfl⟩
      refine aN (aT (At.ret (At.inRet (At.thenRet ?_))))
      exact At.results (Γr := [_, _]) (M := []) rfl (RVals.cons (RVal.tmp rfl) (RVals.cons (RVal.cellS rfl t80 (RdS.loc (i := 1) rfl (m := 6) rfl) rfl) RVals.nil)) (ix 4 rfl) (fun _ h => ⟨h.1, h.2.2.2.1, trivial⟩) (d_ (d_ r_)) ⟨u, ⟨none, 0, []⟩, by rw [hdo]; first | rfl | (simp only [An.val, resVal, Sl.val]; rfl), rfl, rfl, by rw [hdo] <;> exact hul, by rw [hdo] <;> rfl⟩
     ·
      refine aE (aR ?_)
      refine aS 2 rfl rfl ?_
      refine aN (aT ?_)
      refine At.if rfl (fun h2 => ?_) (fun h2 => ?_)
      ·
       refine aE (aR ?_)
       refine aF s80 t4 rfl rfl rfl (Rd.loc (i := 0) rfl rfl) rfl rfl ?_
       refine aS 1 rfl rfl ?_
       refine aN (aT ?_)
       refine At.condF rfl ?_
       refine At.skip (At.inNormal (aT (aE ?_)))
       have hdo : doT l.l o = (l.l, ⟨0, true, x, 0, []⟩) := by rw [do_yes hr hmo, if_neg h1, if_pos h2, hhit] <;> rfl
       refine At.draw 3 (.q 0 (.q 1 (.q 2 (.e)))) _ (List.Sublist.refl _) mixed (by kernel_rfl) rfl ?_
       refine oQ rfl (q_move rfl) rfl (cT cP) ?_
       refine oQ rfl (q_loadS t80 rfl (RdS.loc (i := 0) rfl (m := 6) rfl) rfl) rfl (cT cP) ?_
       refine oQ rfl (q_assign rfl) rfl (cT cP) ?_
       refine AtO.done ?_
       refine At.loudN (l_store t80 rfl rfl (i := 1) rfl rfl rfl rfl) ?_
       rintro _ _ _ ⟨rfl, rfl⟩
       refine aN (aT (At.ret ?_))
       exact At.results (Γr := [_, _]) (M := []) rfl (RVals.cons (RVal.tmp rfl) (RVals.cons (RVal.cellS rfl t80 (RdS.loc (i := 1) rfl (m := 6) rfl) rfl) RVals.nil)) (ix 3 rfl) (fun _ h => ⟨h.1, h.2.2.1, trivial⟩) (d_ (d_ r_)) ⟨⟨a0, c0, l.l⟩, ⟨none, 0, []⟩, by rw [hdo]; first | rfl | (simp only [An.val, resVal, Sl.val]; rfl), rfl, rfl, by rw [hdo] <;> rfl, by rw [hdo] <;> rfl⟩
      ·
       refine aE (aR ?_)
       refine aS 2 rfl rfl ?_
       refine aN (aT ?_)
       refine At.if rfl (fun h3 => ?_) (fun h3 => ?_)
       ·
        refine aR ?_
        refine aS 1 rfl rfl ?_
        refine aF s77 t3 rfl rfl rfl (Rd.blk (ix 1 rfl) rfl) rfl rfl ?_
        refine At.call en66 rfl (without66 _ _ (by omega)) (fun _ h => ⟨h.2.2.2.2.1, trivial⟩) (List.Perm.refl _) rfl ?_
        rintro _ _ _ ⟨u, rfl, rfl, rfl, hul⟩
        refine aS 1 rfl rfl ?_
        refine aN (At.inNormal (aT (aE ?_)))
        have hdo : doT l.l o = (without l.l o.key, ⟨0, true, x, 0, []⟩) := by rw [do_yes hr hmo, if_neg h1, if_neg h2, if_pos h3, hhit]
        refine At.draw 3 (.q 0 (.q 1 (.q 2 (.e)))) _ (List.Sublist.refl _) mixed (by kernel_rfl) rfl ?_
        refine oQ rfl (q_move rfl) rfl (cT cP) ?_
        refine oQ rfl (q_loadS t80 rfl (RdS.loc (i := 0) rfl (m := 6) rfl) rfl) rfl (cT cP) ?_
        refine oQ rfl (q_assign rfl) rfl (cT cP) ?_
        refine AtO.done ?_
        refine At.loudN (l_store t80 rfl rfl (i := 1) rfl rfl rfl rfl) ?_
        rintro _ _ _ ⟨rfl, rfl⟩
        refine aN (aT (At.ret ?_))
        exact At.results (Γr := [_, _]) (M := []) rfl (RVals.cons (RVal.tmp rfl) (RVals.cons (RVal.cellS rfl t80 (RdS.loc (i := 1) rfl (m := 6) rfl) rfl) RVals.nil)) (ix 4 rfl) (fun _ h => ⟨h.1, h.2.2.2.1, trivial⟩) (d_ (d_ r_)) ⟨u, ⟨none, 0, []⟩, by rw [hdo]; first | rfl | (simp only [An.val, resVal, Sl.val]; rfl), rfl, rfl, by rw [hdo] <;> exact hul, by rw [hdo] <;> rfl⟩
       ·
        refine aE (aR ?_)
        refine aS 2 rfl rfl ?_
        refine aN (aT ?_)
        refine At.say 68 (.bool false) rfl (congrArg Value.bool (decide_eq_false (by omega))) ?_
        refine At.condF rfl ?_
        refine aE (aR ?_)
        refine aS 2 rfl rfl ?_
        refine aN (aT ?_)
        refine At.say 81 (.bool false) rfl (congrArg Value.bool (decide_eq_false (by omega))) ?_
        refine At.condF rfl ?_
        refine aE (aR ?_)
        refine aS 2 rfl rfl ?_
        refine aN (aT ?_)
        refine At.say 91 (.bool false) rfl (congrArg Value.bool (decide_eq_false (by omega))) ?_
        refine At.condF rfl ?_
        refine aE (aR ?_)
        refine aS 2 rfl rfl ?_
        refine aN (aT ?_)
        refine At.say 101 (.bool false) rfl (congrArg Value.bool (decide_eq_false (by omega))) ?_
        refine At.condF rfl ?_
        refine At.skip (At.inNormal (aT (aE ?_)))
        have hdo : doT l.l o = (l.l, ⟨0, true, x, 0, []⟩) := by rw [do_yes hr hmo, if_neg h1, if_neg h2, if_neg h3, if_neg (show ¬ o.kind = 5 by omega), if_neg (show ¬ o.kind = 6 by omega), if_neg (show ¬ o.kind = 7 by omega), if_neg (show ¬ o.kind = 8 by omega), hhit]
        refine At.draw 3 (.q 0 (.q 1 (.q 2 (.e)))) _ (List.Sublist.refl _) mixed (by kernel_rfl) rfl ?_
        refine oQ rfl (q_move rfl) rfl (cT cP) ?_
        refine oQ rfl (q_loadS t80 rfl (RdS.loc (i := 0) rfl (m := 6) rfl) rfl) rfl (cT cP) ?_
        refine oQ rfl (q_assign rfl) rfl (cT cP) ?_
        refine AtO.done ?_
        refine At.loudN (l_store t80 rfl rfl (i := 1) rfl rfl rfl rfl) ?_
        rintro _ _ _ ⟨rfl, rfl⟩
        refine aN (aT (At.ret ?_))
        exact At.results (Γr := [_, _]) (M := []) rfl (RVals.cons (RVal.tmp rfl) (RVals.cons (RVal.cellS rfl t80 (RdS.loc (i := 1) rfl (m := 6) rfl) rfl) RVals.nil)) (ix 3 rfl) (fun _ h => ⟨h.1, h.2.2.1, trivial⟩) (d_ (d_ r_)) ⟨⟨a0, c0, l.l⟩, ⟨none, 0, []⟩, by rw [hdo]; first | rfl | (simp only [An.val, resVal, Sl.val]; rfl), rfl, rfl, by rw [hdo] <;> rfl, by rw [hdo] <;> rfl⟩
    ·
     refine At.skip (aT (aE (aE (aR ?_))))
     refine aF s77 t3 rfl rfl rfl (Rd.blk (ix 1 rfl) rfl) rfl rfl ?_
     refine aN (aT (At.block (aE (aR ?_))))
     refine aS 2 rfl rfl ?_
     refine aN (aT ?_)
     refine At.say 40 (.bool false) rfl (congrArg Value.bool (decide_eq_false (by omega))) ?_
     refine At.condF rfl ?_
     refine aE (aR ?_)
     refine aS 2 rfl rfl ?_
     refine aN (aT ?_)
     refine At.say 50 (.bool false) rfl (congrArg Value.bool (decide_eq_false (by omega))) ?_
     refine At.condF rfl ?_
     refine aE (aR ?_)
     refine aS 2 rfl rfl ?_
     refine aN (aT ?_)
     refine At.say 62 (.bool false) rfl (congrArg Value.bool (decide_eq_false (by omega))) ?_
     refine At.condF rfl ?_
     have h1 : ¬ o.kind = 1 := by omega
     refine aE (aR ?_)
     refine aS 2 rfl rfl ?_
     refine aN (aT ?_)
     refine At.if rfl (fun h5 => ?_) (fun h5 => ?_)
     ·
      refine aE (aR ?_)
      refine aS 1 rfl rfl ?_
      refine aF s77 t3 rfl rfl rfl (Rd.blk (ix 1 rfl) rfl) rfl rfl ?_
      refine aF s77 t3 rfl rfl rfl (Rd.blk (ix 1 rfl) rfl) rfl rfl ?_
      refine At.call en102 rfl (betw102 _ _ _ (by omega)) (fun _ h => ⟨h.2.2.2.2.1, trivial⟩) (List.Perm.refl _) rfl ?_
      rintro _ _ _ ⟨bw, rfl, rfl, rfl, hbw0⟩
      have hbw : bw.l = betw l.l o.key o.hi := hbw0
      refine aQ (q_fieldAddr s80 rfl rfl rfl) rfl ?_
      refine At.loudN (l_store t31 rfl rfl (i := 0) rfl rfl rfl rfl) ?_
      rintro _ _ _ ⟨rfl, rfl⟩
      refine aN (aT (aR ?_))
      refine aF s80 t31 rfl rfl rfl (Rd.loc (i := 0) rfl rfl) rfl rfl ?_
      refine aQ (q_len Try.underlying31 rfl) rfl ?_
      refine aQ (q_fieldAddr s80 rfl rfl rfl) rfl ?_
      refine At.loudN (l_store t3 rfl rfl (i := 0) rfl rfl rfl rfl) ?_
      rintro _ _ _ ⟨rfl, rfl⟩
      refine aN (At.inNormal (aT (aE ?_)))
      have hdo : doT l.l o = (l.l, ⟨0, false, ⟨0, 0⟩, ((betw l.l o.key o.hi).length : Int), betw l.l o.key o.hi⟩) := by rw [do_yes hr hmo, if_neg (show ¬ o.kind = 1 by omega), if_neg (show ¬ o.kind = 2 by omega), if_neg (show ¬ o.kind = 3 by omega), if_pos h5]
      refine At.draw 3 (.q 0 (.q 1 (.q 2 (.e)))) _ (List.Sublist.refl _) mixed (by kernel_rfl) rfl ?_
      refine oQ rfl (q_move rfl) rfl (cT cP) ?_
      refine oQ rfl (q_loadS t80 rfl (RdS.loc (i := 0) rfl (m := 6) rfl) rfl) rfl (cT cP) ?_
      refine oQ rfl (q_assign rfl) rfl (cT cP) ?_
      refine AtO.done ?_
      refine At.loudN (l_store t80 rfl rfl (i := 1) rfl rfl rfl rfl) ?_
      rintro _ _ _ ⟨rfl, rfl⟩
      refine aN (aT (At.ret ?_))
      exact At.results (Γr := [_, _]) (M := []) rfl (RVals.cons (RVal.tmp rfl) (RVals.cons (RVal.cellS rfl t80 (RdS.loc (i := 1) rfl (m := 6) rfl) rfl) RVals.nil)) (ix 4 rfl) (fun _ h => ⟨h.2.1, h.1, trivial⟩) (d_ (d_ r_)) ⟨⟨a0, c0, l.l⟩, bw, by rw [hdo]; simp only [An.val, resVal]; rw [← hbw]; rfl, rfl, rfl, by rw [hdo], by rw [hdo]; exact hbw⟩
     ·
      refine aE (aR ?_)
      refine aS 2 rfl rfl ?_
      refine aN (aT ?_)
      refine At.if rfl (fun h6 => ?_) (fun h6 => ?_)
      ·
       refine aR ?_
       refine aS 1 rfl rfl ?_
       refine aF s77 t3 rfl rfl rfl (Rd.blk (ix 1 rfl) rfl) rfl rfl ?_
       refine aF s77 t3 rfl rfl rfl (Rd.blk (ix 1 rfl) rfl) rfl rfl ?_
       refine At.call en102 rfl (betw102 _ _ _ (by omega)) (fun _ h => ⟨h.2.2.2.2.1, trivial⟩) (List.Perm.refl _) rfl ?_
       rintro _ _ _ ⟨bw, rfl, rfl, rfl, hbw0⟩
       have hbw : bw.l = betw l.l o.key o.hi := hbw0
       refine aQ (q_len Try.underlying31 rfl) rfl ?_
       refine aQ (q_fieldAddr s80 rfl rfl rfl) rfl ?_
       refine At.loudN (l_store t3 rfl rfl (i := 0) rfl rfl rfl rfl) ?_
       rintro _ _ _ ⟨rfl, rfl⟩
       refine aN (At.inNormal (aT (aE ?_)))
       have hdo : doT l.l o = (l.l, ⟨0, false, ⟨0, 0⟩, ((betw l.l o.key o.hi).length : Int), []⟩) := by rw [do_yes hr hmo, if_neg (show ¬ o.kind = 1 by omega), if_neg (show ¬ o.kind = 2 by omega), if_neg (show ¬ o.kind = 3 by omega), if_neg h5, if_pos h6]
       refine At.draw 3 (.q 0 (.q 1 (.q 2 (.e)))) _ (List.Sublist.refl _) mixed (by kernel_rfl) rfl ?_
       refine oQ rfl (q_move rfl) rfl (cT cP) ?_
       refine oQ rfl (q_loadS t80 rfl (RdS.loc (i := 0) rfl (m := 6) rfl) rfl) rfl (cT cP) ?_
       refine oQ rfl (q_assign rfl) rfl (cT cP) ?_
       refine AtO.done ?_
       refine At.loudN (l_store t80 rfl rfl (i := 1) rfl rfl rfl rfl) ?_
       rintro _ _ _ ⟨rfl, rfl⟩
       refine aN (aT (At.ret ?_))
       exact At.results (Γr := [_, _]) (M := []) rfl (RVals.cons (RVal.tmp rfl) (RVals.cons (RVal.cellS rfl t80 (RdS.loc (i := 1) rfl (m := 6) rfl) rfl) RVals.nil)) (ix 4 rfl) (fun _ h => ⟨h.2.1, h.2.2.2.1, trivial⟩) (d_ (d_ r_)) ⟨⟨a0, c0, l.l⟩, ⟨none, 0, []⟩, by rw [hdo]; simp only [An.val, resVal]; rw [← hbw]; rfl, rfl, rfl, by rw [hdo], by rw [hdo]⟩
      ·
       refine aE (aR ?_)
       refine aS 2 rfl rfl ?_
       refine aN (aT ?_)
       refine At.if rfl (fun h7 => ?_) (fun h7 => ?_)
       ·
        refine aE (aR ?_)
        refine aS 1 rfl rfl ?_
        refine aQ (q_len Try.underlying31 rfl) rfl ?_
        refine aS 1 rfl rfl ?_
        refine aN (aT ?_)
        refine At.if rfl (fun hn => ?_) (fun hn => ?_)
        ·
         obtain ⟨x, hx⟩ := get_of_lt (l := l.l) (i := 0) (by omega)
         refine aR ?_
         refine aS 1 rfl rfl ?_
         refine aQ (q_index Try.underlying31 t50 rfl (ix 4 rfl) (by simp) rfl rfl (lt_of_get hx)) rfl ?_
         refine aQ (q_loadS t50 rfl (RdS.sl0 (ix 4 rfl) (map_get hx)) rfl) rfl ?_
         refine aQ (q_fieldAddr s80 rfl rfl rfl) rfl ?_
         refine At.loudN (l_store t50 rfl rfl (i := 0) rfl rfl rfl rfl) ?_
         rintro _ _ _ ⟨rfl, rfl⟩
         refine aQ (q_fieldAddr s80 rfl rfl rfl) rfl ?_
         refine At.loudN (l_store t4 rfl rfl (i := 0) rfl rfl rfl rfl) ?_
         rintro _ _ _ ⟨rfl, rfl⟩
         refine aN (At.inNormal (aT (aE ?_)))
         have hdo : doT l.l o = (l.l, ⟨0, true, x, 0, []⟩) := by rw [do_yes hr hmo, if_neg (show ¬ o.kind = 1 by omega), if_neg (show ¬ o.kind = 2 by omega), if_neg (show ¬ o.kind = 3 by omega), if_neg h5, if_neg h6, if_pos h7, head_get, hx] <;> rfl
         refine At.draw 3 (.q 0 (.q 1 (.q 2 (.e)))) _ (List.Sublist.refl _) mixed (by kernel_rfl) rfl ?_
         refine oQ rfl (q_move rfl) rfl (cT cP) ?_
         refine oQ rfl (q_loadS t80 rfl (RdS.loc (i := 0) rfl (m := 6) rfl) rfl) rfl (cT cP) ?_
         refine oQ rfl (q_assign rfl) rfl (cT cP) ?_
         refine AtO.done ?_
         refine At.loudN (l_store t80 rfl rfl (i := 1) rfl rfl rfl rfl) ?_
         rintro _ _ _ ⟨rfl, rfl⟩
         refine aN (aT (At.ret ?_))
         exact At.results (Γr := [_, _]) (M := []) rfl (RVals.cons (RVal.tmp rfl) (RVals.cons (RVal.cellS rfl t80 (RdS.loc (i := 1) rfl (m := 6) rfl) rfl) RVals.nil)) (ix 3 rfl) (fun _ h => ⟨h.1, h.2.2.1, trivial⟩) (d_ (d_ r_)) ⟨⟨a0, c0, l.l⟩, ⟨none, 0, []⟩, by rw [hdo]; first | rfl | (simp only [An.val, resVal, Sl.val]; rfl), rfl, rfl, by rw [hdo] <;> rfl, by rw [hdo] <;> rfl⟩
        ·
         have hnil : l.l = [] := List.eq_nil_of_length_eq_zero (by omega)
         refine At.skip (At.inNormal (aT (aE ?_)))
         have hdo : doT l.l o = (l.l, ⟨0, false, ⟨0, 0⟩, 0, []⟩) := by rw [do_yes hr hmo, if_neg (show ¬ o.kind = 1 by omega), if_neg (show ¬ o.kind = 2 by omega), if_neg (show ¬ o.kind = 3 by omega), if_neg h5, if_neg h6, if_pos h7, hnil] <;> rfl
         refine At.draw 3 (.q 0 (.q 1 (.q 2 (.e)))) _ (List.Sublist.refl _) mixed (by kernel_rfl) rfl ?_
         refine oQ rfl (q_move rfl) rfl (cT cP) ?_
         refine oQ rfl (q_loadS t80 rfl (RdS.loc (i := 0) rfl (m := 6) rfl) rfl) rfl (cT cP) ?_
         refine oQ rfl (q_assign rfl) rfl (cT cP) ?_
         refine AtO.done ?_
         refine At.loudN (l_store t80 rfl rfl (i := 1) rfl rfl rfl rfl) ?_
         rintro _ _ _ ⟨rfl, rfl⟩
         refine aN (aT (At.ret ?_))
         exact At.results (Γr := [_, _]) (M := []) rfl (RVals.cons (RVal.tmp rfl) (RVals.cons (RVal.cellS rfl t80 (RdS.loc (i := 1) rfl (m := 6) rfl) rfl) RVals.nil)) (ix 3 rfl) (fun _ h => ⟨h.1, h.2.2.1, trivial⟩) (d_ (d_ r_)) ⟨⟨a0, c0, l.l⟩, ⟨none, 0, []⟩, by rw [hdo]; first | rfl | (simp only [An.val, resVal, Sl.val]; rfl), rfl, rfl, by rw [hdo] <;> rfl, by rw [hdo] <;> rfl⟩
       ·
        refine aE (aR ?_)
        refine aS 2 rfl rfl ?_
        refine aN (aT ?_)
        refine At.if rfl (fun h8 => ?_) (fun h8 => ?_)
        ·
         refine aE (aR ?_)
         refine aS 1 rfl rfl ?_
         refine aQ (q_len Try.underlying31 rfl) rfl ?_
         refine aS 1 rfl rfl ?_
         refine aN (aT ?_)
         refine At.if rfl (fun hn => ?_) (fun hn => ?_)
         ·
          obtain ⟨y, hy⟩ := get_of_lt (l := l.l) (i := l.l.length - 1) (by omega)
          refine aR ?_
          refine aS 2 rfl rfl ?_
          refine aQ (q_len Try.underlying31 rfl) rfl ?_
          refine aQ (q_sub rfl rfl (by omega) (by omega)) rfl ?_
          refine aQ (q_index Try.underlying31 t50 rfl (ix 4 rfl) (by simp) rfl (by omega) (lt_of_get hy)) rfl ?_
          refine aQ (q_loadS t50 rfl (RdS.sl0 (ix 4 rfl) (map_get hy)) rfl) rfl ?_
          refine aQ (q_fieldAddr s80 rfl rfl rfl) rfl ?_
          refine At.loudN (l_store t50 rfl rfl (i := 0) rfl rfl rfl rfl) ?_
          rintro _ _ _ ⟨rfl, rfl⟩
          refine aQ (q_fieldAddr s80 rfl rfl rfl) rfl ?_
          refine At.loudN (l_store t4 rfl rfl (i := 0) rfl rfl rfl rfl) ?_
          rintro _ _ _ ⟨rfl, rfl⟩
          refine aN (At.inNormal (aT (aE ?_)))
          have hdo : doT l.l o = (l.l, ⟨0, true, y, 0, []⟩) := by rw [do_yes hr hmo, if_neg (show ¬ o.kind = 1 by omega), if_neg (show ¬ o.kind = 2 by omega), if_neg (show ¬ o.kind = 3 by omega), if_neg h5, if_neg h6, if_neg h7, if_pos h8, last_get9, hy] <;> rfl
          refine At.draw 3 (.q 0 (.q 1 (.q 2 (.e)))) _ (List.Sublist.refl _) mixed (by kernel_rfl) rfl ?_
          refine oQ rfl (q_move rfl) rfl (cT cP) ?_
          refine oQ rfl (q_loadS t80 rfl (RdS.loc (i := 0) rfl (m := 6) rfl) rfl) rfl (cT cP) ?_
          refine oQ rfl (q_assign rfl) rfl (cT cP) ?_
          refine AtO.done ?_
          refine At.loudN (l_store t80 rfl rfl (i := 1) rfl rfl rfl rfl) ?_
          rintro _ _ _ ⟨rfl, rfl⟩
          refine aN (aT (At.ret ?_))
          exact At.results (Γr := [_, _]) (M := []) rfl (RVals.cons (RVal.tmp rfl) (RVals.cons (RVal.cellS rfl t80 (RdS.loc (i := 1) rfl (m := 6) rfl) rfl) RVals.nil)) (ix 3 rfl) (fun _ h => ⟨h.1, h.2.2.1, trivial⟩) (d_ (d_ r_)) ⟨⟨a0, c0, l.l⟩, ⟨none, 0, []⟩, by rw [hdo]; first | rfl | (simp only [An.val, resVal, Sl.val]; rfl), rfl, rfl, by rw [hdo] <;> rfl, by rw [hdo] <;> rfl⟩
         ·
          have hnil : l.l = [] := List.eq_nil_of_length_eq_zero (by omega)
          refine At.skip (At.inNormal (aT (aE ?_)))
          have hdo : doT l.l o = (l.l, ⟨0, false, ⟨0, 0⟩, 0, []⟩) := by rw [do_yes hr hmo, if_neg (show ¬ o.kind = 1 by omega), if_neg (show ¬ o.kind = 2 by omega), if_neg (show ¬ o.kind = 3 by omega), if_neg h5, if_neg h6, if_neg h7, if_pos h8, hnil] <;> rfl
          refine At.draw 3 (.q 0 (.q 1 (.q 2 (.e)))) _ (List.Sublist.refl _) mixed (by kernel_rfl) rfl ?_
          refine oQ rfl (q_move rfl) rfl (cT cP) ?_
          refine oQ rfl (q_loadS t80 rfl (RdS.loc (i := 0) rfl (m := 6) rfl) rfl) rfl (cT cP) ?_
          refine oQ rfl (q_assign rfl) rfl (cT cP) ?_
          refine AtO.done ?_
          refine At.loudN (l_store t80 rfl rfl (i := 1) rfl rfl rfl rfl) ?_
          rintro _ _ _ ⟨rfl, rfl⟩
          refine aN (aT (At.ret ?_))
          exact At.results (Γr := [_, _]) (M := []) rfl (RVals.cons (RVal.tmp rfl) (RVals.cons (RVal.cellS rfl t80 (RdS.loc (i := 1) rfl (m := 6) rfl) rfl) RVals.nil)) (ix 3 rfl) (fun _ h => ⟨h.1, h.2.2.1, trivial⟩) (d_ (d_ r_)) ⟨⟨a0, c0, l.l⟩, ⟨none, 0, []⟩, by rw [hdo]; first | rfl | (simp only [An.val, resVal, Sl.val]; rfl), rfl, rfl, by rw [hdo] <;> rfl, by rw [hdo] <;> rfl⟩
        ·
         exfalso; omega
   ·
    obtain ⟨hj, hno⟩ := idx_neg hge
    have hhit : hit l.l o.key = ⟨0, false, ⟨0, 0⟩, 0, []⟩ := by rw [hit, find_no hno]; rfl
    refine aS 4 rfl rfl ?_
    refine aN (aT ?_)
    refine At.condF rfl ?_
    refine At.skip (aT (aE (aE (aR ?_))))
    refine aF s77 t3 rfl rfl rfl (Rd.blk (ix 1 rfl) rfl) rfl rfl ?_
    refine aN (aT (At.block (aE (aR ?_))))
    refine aS 2 rfl rfl ?_
    refine aN (aT ?_)
    refine At.if rfl (fun h1 => ?_) (fun h1 => ?_)
    ·
     refine aE ?_
     refine At.draw 9 (.q 0 (.q 1 (.q 2 (.q 3 (.q 4 (.q 5 (.q 7 (.o 6 (.q 8 (.e)))))))))) _ (List.Sublist.refl _) mixed (by kernel_rfl) rfl ?_
     refine oQ rfl (q_move rfl) rfl (cT (cI (cT cP))) ?_
     refine oQ rfl (q_fieldAddr s77 rfl rfl rfl) rfl (cT (cI (cT cP))) ?_
     refine oQ rfl (q_load t3 rfl (Rd.blk (ix 1 rfl) rfl)) rfl (cT (cI (cT cP))) ?_
     refine oQ rfl (q_fieldAddr s77 rfl rfl rfl) rfl (cT (cI (cT cP))) ?_
     refine oQ rfl (q_load t3 rfl (Rd.blk (ix 1 rfl) rfl)) rfl (cT (cI (cT cP))) ?_
     refine oQ rfl (q_build t50 s50 rfl rfl) rfl (cT (cI (cT cP))) ?_
     refine oQ rfl (q_loadS t80 rfl (RdS.loc (i := 0) rfl (m := 6) rfl) rfl) rfl (cT (cI (cT cP))) ?_
     refine AtO.callA rfl en35 rfl (with35f l ⟨o.key, o.v⟩ hl) (fun _ h => ⟨h.2.2.2.2.1, trivial⟩) (List.Perm.refl _) rfl r_ ?_
     rintro _ _ _ ⟨u, rfl, rfl, rfl, hul⟩
     have hdo : doT l.l o = (withT l.l ⟨o.key, o.v⟩, ⟨0, false, ⟨0, 0⟩, 0, []⟩) := by rw [do_yes hr hmo, if_pos h1, hhit]
     refine oQ rfl (q_assign rfl) rfl (cT (cI (cT cP))) ?_
     refine AtO.done ?_
     refine At.loudN (l_store t80 rfl rfl (i := 1) rfl rfl rfl rfl) ?_
     rintro _ _ _ ⟨rfl, rfl⟩
     refine aN (aT (At.ret (At.inRet (At.thenRet ?_))))
     exact At.results (Γr := [_, _]) (M := []) rfl (RVals.cons (RVal.tmp rfl) (RVals.cons (RVal.cellS rfl t80 (RdS.loc (i := 1) rfl (m := 6) rfl) rfl) RVals.nil)) (ix 4 rfl) (fun _ h => ⟨h.1, h.2.2.2.1, trivial⟩) (d_ (d_ r_)) ⟨u, ⟨none, 0, []⟩, by rw [hdo]; first | rfl | (simp only [An.val, resVal, Sl.val]; rfl), rfl, rfl, by rw [hdo] <;> exact hul, by rw [hdo] <;> rfl⟩
    ·
     refine aE (aR ?_)
     refine aS 2 rfl rfl ?_
     refine aN (aT ?_)
     refine At.if rfl (fun h2 => ?_) (fun h2 => ?_)
     ·
      refine aE (aR ?_)
      refine aF s80 t4 rfl rfl rfl (Rd.loc (i := 0) rfl rfl) rfl rfl ?_
      refine aS 1 rfl rfl ?_
      refine aN (aT ?_)
      refine At.condT rfl ?_
      refine aR ?_
      refine aS 1 rfl rfl ?_
      refine aF s77 t3 rfl rfl rfl (Rd.blk (ix 1 rfl) rfl) rfl rfl ?_
      refine aF s77 t3 rfl rfl rfl (Rd.blk (ix 1 rfl) rfl) rfl rfl ?_
      refine aQ (q_build t50 s50 rfl rfl) rfl ?_
      refine At.call en35 rfl (with35f l ⟨o.key, o.v⟩ hl) (fun _ h => ⟨h.2.2.2.2.1, trivial⟩) (List.Perm.refl _) rfl ?_
      rintro _ _ _ ⟨u, rfl, rfl, rfl, hul⟩
      refine aS 1 rfl rfl ?_
      refine aN (At.inNormal (aT (aE ?_)))
      have hdo : doT l.l o = (withT l.l ⟨o.key, o.v⟩, ⟨0, false, ⟨0, 0⟩, 0, []⟩) := by rw [do_yes hr hmo, if_neg h1, if_pos h2, hhit] <;> rfl
      refine At.draw 3 (.q 0 (.q 1 (.q 2 (.e)))) _ (List.Sublist.refl _) mixed (by kernel_rfl) rfl ?_
      refine oQ rfl (q_move rfl) rfl (cT cP) ?_
      refine oQ rfl (q_loadS t80 rfl (RdS.loc (i := 0) rfl (m := 6) rfl) rfl) rfl (cT cP) ?_
      refine oQ rfl (q_assign rfl) rfl (cT cP) ?_
      refine AtO.done ?_
      refine At.loudN (l_store t80 rfl rfl (i := 1) rfl rfl rfl rfl) ?_
      rintro _ _ _ ⟨rfl, rfl⟩
      refine aN (aT (At.ret ?_))
      exact At.results (Γr := [_, _]) (M := []) rfl (RVals.cons (RVal.tmp rfl) (RVals.cons (RVal.cellS rfl t80 (RdS.loc (i := 1) rfl (m := 6) rfl) rfl) RVals.nil)) (ix 4 rfl) (fun _ h => ⟨h.1, h.2.2.2.1, trivial⟩) (d_ (d_ r_)) ⟨u, ⟨none, 0, []⟩, by rw [hdo]; first | rfl | (simp only [An.val, resVal, Sl.val]; rfl), rfl, rfl, by rw [hdo] <;> exact hul, by rw [hdo] <;> rfl⟩
     ·
      refine aE (aR ?_)
      refine aS 2 rfl rfl ?_
      refine aN (aT ?_)
      refine At.if rfl (fun h3 => ?_) (fun h3 => ?_)
      ·
       refine aR ?_
       refine aS 1 rfl rfl ?_
       refine aF s77 t3 rfl rfl rfl (Rd.blk (ix 1 rfl) rfl) rfl rfl ?_
       refine At.call en66 rfl (without66 _ _ (by omega)) (fun _ h => ⟨h.2.2.2.2.1, trivial⟩) (List.Perm.refl _) rfl ?_
       rintro _ _ _ ⟨u, rfl, rfl, rfl, hul⟩
       refine aS 1 rfl rfl ?_
       refine aN (At.inNormal (aT (aE ?_)))
       have hdo : doT l.l o = (without l.l o.key, ⟨0, false, ⟨0, 0⟩, 0, []⟩) := by rw [do_yes hr hmo, if_neg h1, if_neg h2, if_pos h3, hhit]
       refine At.draw 3 (.q 0 (.q 1 (.q 2 (.e)))) _ (List.Sublist.refl _) mixed (by kernel_rfl) rfl ?_
       refine oQ rfl (q_move rfl) rfl (cT cP) ?_
       refine oQ rfl (q_loadS t80 rfl (RdS.loc (i := 0) rfl (m := 6) rfl) rfl) rfl (cT cP) ?_
       refine oQ rfl (q_assign rfl) rfl (cT cP) ?_
       refine AtO.done ?_
       refine At.loudN (l_store t80 rfl rfl (i := 1) rfl rfl rfl rfl) ?_
       rintro _ _ _ ⟨rfl, rfl⟩
       refine aN (aT (At.ret ?_))
       exact At.results (Γr := [_, _]) (M := []) rfl (RVals.cons (RVal.tmp rfl) (RVals.cons (RVal.cellS rfl t80 (RdS.loc (i := 1) rfl (m := 6) rfl) rfl) RVals.nil)) (ix 4 rfl) (fun _ h => ⟨h.1, h.2.2.2.1, trivial⟩) (d_ (d_ r_)) ⟨u, ⟨none, 0, []⟩, by rw [hdo]; first | rfl | (simp only [An.val, resVal, Sl.val]; rfl), rfl, rfl, by rw [hdo] <;> exact hul, by rw [hdo] <;> rfl⟩
      ·
       refine aE (aR ?_)
       refine aS 2 rfl rfl ?_
       refine aN (aT ?_)
       refine At.if rfl (fun h5 => ?_) (fun h5 => ?_)
       ·
        refine aE (aR ?_)
        refine aS 1 rfl rfl ?_
        refine aF s77 t3 rfl rfl rfl (Rd.blk (ix 1 rfl) rfl) rfl rfl ?_
        refine aF s77 t3 rfl rfl rfl (Rd.blk (ix 1 rfl) rfl) rfl rfl ?_
        refine At.call en102 rfl (betw102 _ _ _ (by omega)) (fun _ h => ⟨h.2.2.2.2.1, trivial⟩) (List.Perm.refl _) rfl ?_
        rintro _ _ _ ⟨bw, rfl, rfl, rfl, hbw0⟩
        have hbw : bw.l = betw l.l o.key o.hi := hbw0
        refine aQ (q_fieldAddr s80 rfl rfl rfl) rfl ?_
        refine At.loudN (l_store t31 rfl rfl (i := 0) rfl rfl rfl rfl) ?_
        rintro _ _ _ ⟨rfl, rfl⟩
        refine aN (aT (aR ?_))
        refine aF s80 t31 rfl rfl rfl (Rd.loc (i := 0) rfl rfl) rfl rfl ?_
        refine aQ (q_len Try.underlying31 rfl) rfl ?_
        refine aQ (q_fieldAddr s80 rfl rfl rfl) rfl ?_
        refine At.loudN (l_store t3 rfl rfl (i := 0) rfl rfl rfl rfl) ?_
        rintro _ _ _ ⟨rfl, rfl⟩
        refine aN (At.inNormal (aT (aE ?_)))
        have hdo : doT l.l o = (l.l, ⟨0, false, ⟨0, 0⟩, ((betw l.l o.key o.hi).length : Int), betw l.l o.key o.hi⟩) := by rw [do_yes hr hmo, if_neg (show ¬ o.kind = 1 by omega), if_neg (show ¬ o.kind = 2 by omega), if_neg (show ¬ o.kind = 3 by omega), if_pos h5]
        refine At.draw 3 (.q 0 (.q 1 (.q 2 (.e)))) _ (List.Sublist.refl _) mixed (by kernel_rfl) rfl ?_
        refine oQ rfl (q_move rfl) rfl (cT cP) ?_
        refine oQ rfl (q_loadS t80 rfl (RdS.loc (i := 0) rfl (m := 6) rfl) rfl) rfl (cT cP) ?_
        refine oQ rfl (q_assign rfl) rfl (cT cP) ?_
        refine AtO.done ?_
        refine At.loudN (l_store t80 rfl rfl (i := 1) rfl rfl rfl rfl) ?_
        rintro _ _ _ ⟨rfl, rfl⟩
        refine aN (aT (At.ret ?_))
        exact At.results (Γr := [_, _]) (M := []) rfl (RVals.cons (RVal.tmp rfl) (RVals.cons (RVal.cellS rfl t80 (RdS.loc (i := 1) rfl (m := 6) rfl) rfl) RVals.nil)) (ix 4 rfl) (fun _ h => ⟨h.2.1, h.1, trivial⟩) (d_ (d_ r_)) ⟨⟨a0, c0, l.l⟩, bw, by rw [hdo]; simp only [An.val, resVal]; rw [← hbw]; rfl, rfl, rfl, by rw [hdo], by rw [hdo]; exact hbw⟩
       ·
        refine aE (aR ?_)
        refine aS 2 rfl rfl ?_
        refine aN (aT ?_)
        refine At.if rfl (fun h6 => ?_) (fun h6 => ?_)
        ·
         refine aR ?_
         refine aS 1 rfl rfl ?_
         refine aF s77 t3 rfl rfl rfl (Rd.blk (ix 1 rfl) rfl) rfl rfl ?_
         refine aF s77 t3 rfl rfl rfl (Rd.blk (ix 1 rfl) rfl) rfl rfl ?_
         refine At.call en102 rfl (betw102 _ _ _ (by omega)) (fun _ h => ⟨h.2.2.2.2.1, trivial⟩) (List.Perm.refl _) rfl ?_
         rintro _ _ _ ⟨bw, rfl, rfl, rfl, hbw0⟩
         have hbw : bw.l = betw l.l o.key o.hi := hbw0
         refine aQ (q_len Try.underlying31 rfl) rfl ?_
         refine aQ (q_fieldAddr s80 rfl rfl rfl) rfl ?_
         refine At.loudN (l_store t3 rfl rfl (i := 0) rfl rfl rfl rfl) ?_
         rintro _ _ _ ⟨rfl, rfl⟩
         refine aN (At.inNormal (aT (aE ?_)))
         have hdo : doT l.l o = (l.l, ⟨0, false, ⟨0, 0⟩, ((betw l.l o.key o.hi).length : Int), []⟩) := by rw [do_yes hr hmo, if_neg (show ¬ o.kind = 1 by omega), if_neg (show ¬ o.kind = 2 by omega), if_neg (show ¬ o.kind = 3 by omega), if_neg h5, if_pos h6]
         refine At.draw 3 (.q 0 (.q 1 (.q 2 (.e)))) _ (List.Sublist.refl _) mixed (by kernel_rfl) rfl ?_
         refine oQ rfl (q_move rfl) rfl (cT cP) ?_
         refine oQ rfl (q_loadS t80 rfl (RdS.loc (i := 0) rfl (m := 6) rfl) rfl) rfl (cT cP) ?_
         refine oQ rfl (q_assign rfl) rfl (cT cP) ?_
         refine AtO.done ?_
         refine At.loudN (l_store t80 rfl rfl (i := 1) rfl rfl rfl rfl) ?_
         rintro _ _ _ ⟨rfl, rfl⟩
         refine aN (aT (At.ret ?_))
         exact At.results (Γr := [_, _]) (M := []) rfl (RVals.cons (RVal.tmp rfl) (RVals.cons (RVal.cellS rfl t80 (RdS.loc (i := 1) rfl (m := 6) rfl) rfl) RVals.nil)) (ix 4 rfl) (fun _ h => ⟨h.2.1, h.2.2.2.1, trivial⟩) (d_ (d_ r_)) ⟨⟨a0, c0, l.l⟩, ⟨none, 0, []⟩, by rw [hdo]; simp only [An.val, resVal]; rw [← hbw]; rfl, rfl, rfl, by rw [hdo], by rw [hdo]⟩
        ·
         refine aE (aR ?_)
         refine aS 2 rfl rfl ?_
         refine aN (aT ?_)
         refine At.if rfl (fun h7 => ?_) (fun h7 => ?_)
         ·
          refine aE (aR ?_)
          refine aS 1 rfl rfl ?_
          refine aQ (q_len Try.underlying31 rfl) rfl ?_
          refine aS 1 rfl rfl ?_
          refine aN (aT ?_)
          refine At.if rfl (fun hn => ?_) (fun hn => ?_)
          ·
           obtain ⟨x, hx⟩ := get_of_lt (l := l.l) (i := 0) (by omega)
           refine aR ?_
           refine aS 1 rfl rfl ?_
           refine aQ (q_index Try.underlying31 t50 rfl (ix 4 rfl) (by simp) rfl rfl (lt_of_get hx)) rfl ?_
           refine aQ (q_loadS t50 rfl (RdS.sl0 (ix 4 rfl) (map_get hx)) rfl) rfl ?_
           refine aQ (q_fieldAddr s80 rfl rfl rfl) rfl ?_
           refine At.loudN (l_store t50 rfl rfl (i := 0) rfl rfl rfl rfl) ?_
           rintro _ _ _ ⟨rfl, rfl⟩
           refine aQ (q_fieldAddr s80 rfl rfl rfl) rfl ?_
           refine At.loudN (l_store t4 rfl rfl (i := 0) rfl rfl rfl rfl) ?_
           rintro _ _ _ ⟨rfl, rfl⟩
           refine aN (At.inNormal (aT (aE ?_)))
           have hdo : doT l.l o = (l.l, ⟨0, true, x, 0, []⟩) := by rw [do_yes hr hmo, if_neg (show ¬ o.kind = 1 by omega), if_neg (show ¬ o.kind = 2 by omega), if_neg (show ¬ o.kind = 3 by omega), if_neg h5, if_neg h6, if_pos h7, head_get, hx] <;> rfl
           refine At.draw 3 (.q 0 (.q 1 (.q 2 (.e)))) _ (List.Sublist.refl _) mixed (by kernel_rfl) rfl ?_
           refine oQ rfl (q_move rfl) rfl (cT cP) ?_
           refine oQ rfl (q_loadS t80 rfl (RdS.loc (i := 0) rfl (m := 6) rfl) rfl) rfl (cT cP) ?_
           refine oQ rfl (q_assign rfl) rfl (cT cP) ?_
           refine AtO.done ?_
           refine At.loudN (l_store t80 rfl rfl (i := 1) rfl rfl rfl rfl) ?_
           rintro _ _ _ ⟨rfl, rfl⟩
           refine aN (aT (At.ret ?_))
           exact At.results (Γr := [_, _]) (M := []) rfl (RVals.cons (RVal.tmp rfl) (RVals.cons (RVal.cellS rfl t80 (RdS.loc (i := 1) rfl (m := 6) rfl) rfl) RVals.nil)) (ix 3 rfl) (fun _ h => ⟨h.1, h.2.2.1, trivial⟩) (d_ (d_ r_)) ⟨⟨a0, c0, l.l⟩, ⟨none, 0, []⟩, by rw [hdo]; first | rfl | (simp only [An.val, resVal, Sl.val]; rfl), rfl, rfl, by rw [hdo] <;> rfl, by rw [hdo] <;> rfl⟩
          ·
           have hnil : l.l = [] := List.eq_nil_of_length_eq_zero (by omega)
           refine At.skip (At.inNormal (aT (aE ?_)))
           have hdo : doT l.l o = (l.l, ⟨0, false, ⟨0, 0⟩, 0, []⟩) := by rw [do_yes hr hmo, if_neg (show ¬ o.kind = 1 by omega), if_neg (show ¬ o.kind = 2 by omega), if_neg (show ¬ o.kind = 3 by omega), if_neg h5, if_neg h6, if_pos h7, hnil] <;> rfl
           refine At.draw 3 (.q 0 (.q 1 (.q 2 (.e)))) _ (List.Sublist.refl _) mixed (by kernel_rfl) rfl ?_
           refine oQ rfl (q_move rfl) rfl (cT cP) ?_
           refine oQ rfl (q_loadS t80 rfl (RdS.loc (i := 0) rfl (m := 6) rfl) rfl) rfl (cT cP) ?_
           refine oQ rfl (q_assign rfl) rfl (cT cP) ?_
           refine AtO.done ?_
           refine At.loudN (l_store t80 rfl rfl (i := 1) rfl rfl rfl rfl) ?_
           rintro _ _ _ ⟨rfl, rfl⟩
           refine aN (aT (At.ret ?_))
           exact At.results (Γr := [_, _]) (M := []) rfl (RVals.cons (RVal.tmp rfl) (RVals.cons (RVal.cellS rfl t80 (RdS.loc (i := 1) rfl (m := 6) rfl) rfl) RVals.nil)) (ix 3 rfl) (fun _ h => ⟨h.1, h.2.2.1, trivial⟩) (d_ (d_ r_)) ⟨⟨a0, c0, l.l⟩, ⟨none, 0, []⟩, by rw [hdo]; first | rfl | (simp only [An.val, resVal, Sl.val]; rfl), rfl, rfl, by rw [hdo] <;> rfl, by rw [hdo] <;> rfl⟩
         ·
          refine aE (aR ?_)
          refine aS 2 rfl rfl ?_
          refine aN (aT ?_)
          refine At.if rfl (fun h8 => ?_) (fun h8 => ?_)
          ·
           refine aE (aR ?_)
           refine aS 1 rfl rfl ?_
           refine aQ (q_len Try.underlying31 rfl) rfl ?_
           refine aS 1 rfl rfl ?_
           refine aN (aT ?_)
           refine At.if rfl (fun hn => ?_) (fun hn => ?_)
           ·
            obtain ⟨y, hy⟩ := get_of_lt (l := l.l) (i := l.l.length - 1) (by omega)
            refine aR ?_
            refine aS 2 rfl rfl ?_
            refine aQ (q_len Try.underlying31 rfl) rfl ?_
            refine aQ (q_sub rfl rfl (by omega) (by omega)) rfl ?_
            refine aQ (q_index Try.underlying31 t50 rfl (ix 4 rfl) (by simp) rfl (by omega) (lt_of_get hy)) rfl ?_
            refine aQ (q_loadS t50 rfl (RdS.sl0 (ix 4 rfl) (map_get hy)) rfl) rfl ?_
            refine aQ (q_fieldAddr s80 rfl rfl rfl) rfl ?_
            refine At.loudN (l_store t50 rfl rfl (i := 0) rfl rfl rfl rfl) ?_
            rintro _ _ _ ⟨rfl, rfl⟩
            refine aQ (q_fieldAddr s80 rfl rfl rfl) rfl ?_
            refine At.loudN (l_store t4 rfl rfl (i := 0) rfl rfl rfl rfl) ?_
            rintro _ _ _ ⟨rfl, rfl⟩
            refine aN (At.inNormal (aT (aE ?_)))
            have hdo : doT l.l o = (l.l, ⟨0, true, y, 0, []⟩) := by rw [do_yes hr hmo, if_neg (show ¬ o.kind = 1 by omega), if_neg (show ¬ o.kind = 2 by omega), if_neg (show ¬ o.kind = 3 by omega), if_neg h5, if_neg h6, if_neg h7, if_pos h8, last_get9, hy] <;> rfl
            refine At.draw 3 (.q 0 (.q 1 (.q 2 (.e)))) _ (List.Sublist.refl _) mixed (by kernel_rfl) rfl ?_
            refine oQ rfl (q_move rfl) rfl (cT cP) ?_
            refine oQ rfl (q_loadS t80 rfl (RdS.loc (i := 0) rfl (m := 6) rfl) rfl) rfl (cT cP) ?_
            refine oQ rfl (q_assign rfl) rfl (cT cP) ?_
            refine AtO.done ?_
            refine At.loudN (l_store t80 rfl rfl (i := 1) rfl rfl rfl rfl) ?_
            rintro _ _ _ ⟨rfl, rfl⟩
            refine aN (aT (At.ret ?_))
            exact At.results (Γr := [_, _]) (M := []) rfl (RVals.cons (RVal.tmp rfl) (RVals.cons (RVal.cellS rfl t80 (RdS.loc (i := 1) rfl (m := 6) rfl) rfl) RVals.nil)) (ix 3 rfl) (fun _ h => ⟨h.1, h.2.2.1, trivial⟩) (d_ (d_ r_)) ⟨⟨a0, c0, l.l⟩, ⟨none, 0, []⟩, by rw [hdo]; first | rfl | (simp only [An.val, resVal, Sl.val]; rfl), rfl, rfl, by rw [hdo] <;> rfl, by rw [hdo] <;> rfl⟩
           ·
            have hnil : l.l = [] := List.eq_nil_of_length_eq_zero (by omega)
            refine At.skip (At.inNormal (aT (aE ?_)))
            have hdo : doT l.l o = (l.l, ⟨0, false, ⟨0, 0⟩, 0, []⟩) := by rw [do_yes hr hmo, if_neg (show ¬ o.kind = 1 by omega), if_neg (show ¬ o.kind = 2 by omega), if_neg (show ¬ o.kind = 3 by omega), if_neg h5, if_neg h6, if_neg h7, if_pos h8, hnil] <;> rfl
            refine At.draw 3 (.q 0 (.q 1 (.q 2 (.e)))) _ (List.Sublist.refl _) mixed (by kernel_rfl) rfl ?_
            refine oQ rfl (q_move rfl) rfl (cT cP) ?_
            refine oQ rfl (q_loadS t80 rfl (RdS.loc (i := 0) rfl (m := 6) rfl) rfl) rfl (cT cP) ?_
            refine oQ rfl (q_assign rfl) rfl (cT cP) ?_
            refine AtO.done ?_
            refine At.loudN (l_store t80 rfl rfl (i := 1) rfl rfl rfl rfl) ?_
            rintro _ _ _ ⟨rfl, rfl⟩
            refine aN (aT (At.ret ?_))
            exact At.results (Γr := [_, _]) (M := []) rfl (RVals.cons (RVal.tmp rfl) (RVals.cons (RVal.cellS rfl t80 (RdS.loc (i := 1) rfl (m := 6) rfl) rfl) RVals.nil)) (ix 3 rfl) (fun _ h => ⟨h.1, h.2.2.1, trivial⟩) (d_ (d_ r_)) ⟨⟨a0, c0, l.l⟩, ⟨none, 0, []⟩, by rw [hdo]; first | rfl | (simp only [An.val, resVal, Sl.val]; rfl), rfl, rfl, by rw [hdo] <;> rfl, by rw [hdo] <;> rfl⟩
          ·
           refine At.skip (At.inNormal (aT (aE ?_)))
           have hdo : doT l.l o = (l.l, ⟨0, false, ⟨0, 0⟩, 0, []⟩) := by rw [do_yes hr hmo, if_neg h1, if_neg h2, if_neg h3, if_neg h5, if_neg h6, if_neg h7, if_neg h8, hhit]
           refine At.draw 3 (.q 0 (.q 1 (.q 2 (.e)))) _ (List.Sublist.refl _) mixed (by kernel_rfl) rfl ?_
           refine oQ rfl (q_move rfl) rfl (cT cP) ?_
           refine oQ rfl (q_loadS t80 rfl (RdS.loc (i := 0) rfl (m := 6) rfl) rfl) rfl (cT cP) ?_
           refine oQ rfl (q_assign rfl) rfl (cT cP) ?_
           refine AtO.done ?_
           refine At.loudN (l_store t80 rfl rfl (i := 1) rfl rfl rfl rfl) ?_
           rintro _ _ _ ⟨rfl, rfl⟩
           refine aN (aT (At.ret ?_))
           exact At.results (Γr := [_, _]) (M := []) rfl (RVals.cons (RVal.tmp rfl) (RVals.cons (RVal.cellS rfl t80 (RdS.loc (i := 1) rfl (m := 6) rfl) rfl) RVals.nil)) (ix 3 rfl) (fun _ h => ⟨h.1, h.2.2.1, trivial⟩) (d_ (d_ r_)) ⟨⟨a0, c0, l.l⟩, ⟨none, 0, []⟩, by rw [hdo]; first | rfl | (simp only [An.val, resVal, Sl.val]; rfl), rfl, rfl, by rw [hdo] <;> rfl, by rw [hdo] <;> rfl⟩
end Go.Proofs.Ytmkodknmknfdkaa
set_option linter.unusedVariables false
set_option linter.unusedSimpArgs false
namespace Go.Proofs.Ytmkodknmknfdkaa
open E
/-- Pairs put into a map, one by one. -/
def putAll (m : List Pr) (l : List Pr) : List Pr := l.foldl (fun m p => (doT m ⟨1, p.k, 0, p.v⟩).1) m
theorem put_step {l : List Pr} {k : Nat} {x : Pr} (h : l[k]? = some x) : putAll [] (l.take (k + 1)) = (doT (putAll [] (l.take k)) ⟨1, x.k, 0, x.v⟩).1 := by
 rw [List.take_succ_eq_append_getElem (lt_of_get h), putAll, List.foldl_append, (List.getElem?_eq_some_iff.1 h).2]
 rfl
theorem put_len (l : List Pr) (k : Nat) : (putAll [] (l.take k)).length ≤ k := by
 induction k with
 | zero => simp [putAll]
 | succ k ih =>
  cases h : l[k]? with
  | none =>
   have h1 : l.length ≤ k := List.getElem?_eq_none_iff.1 h
   rw [List.take_of_length_le (by omega)]
   rw [List.take_of_length_le h1] at ih
   omega
  | some x =>
   have h2 := do_len (putAll [] (l.take k)) ⟨1, x.k, 0, x.v⟩
   rw [put_step h]
   omega
def MapEnd (l : List Pr) (o : OpS) (b : Nat) (v : Value) (Γ : List SProp) (M : E.Loc) : Prop := ∃ s s2 : Sl Pr, v = (doT l o).2.val s2 ∧ Γ = [prsP s, prsP s2] ∧ M = [[(b, .cells #[s.val] 139 (0, 0))]] ∧ s.l = (doT l o).1 ∧ s2.l = (doT l o).2.l
def NewEnd (l : List Pr) (v : Value) (Γ : List SProp) (M : E.Loc) : Prop := ∃ (b : Nat) (s : Sl Pr), v = .pointer (some ⟨b, 0, none⟩) ∧ Γ = [prsP s] ∧ M = [[(b, .cells #[s.val] 139 (0, 0))]] ∧ s.l = putAll [] l
def ixL (l : List Nat) (a : Nat) : Nat := l.findIdx fun x => decide (x = a)
def touchT (t : PT) (o : OpS) : List Nat :=
 if (mayT t).isSome && (mayO o && decide (o.kind < 7)) then
  (if o.kind ≤ 4 then [(findD t o.key).leaf] else if o.hi < o.key then [] else
   ((leavesT t).take (ixL (leavesT t) (findD t o.hi).leaf + 1)).drop (ixL (leavesT t) (findD t o.key).leaf))
 else []
theorem touch_no {t : PT} {o : OpS} (h : (mayT t).isSome = false ∨ mayO o = false ∨ 7 ≤ o.kind) : touchT t o = [] := by
 unfold touchT
 rw [if_neg]
 rcases h with h | h | h
 ·simp [h]
 ·simp [h]
 ·simp; intro _ _; omega
theorem touch_one {t : PT} {o : OpS} (h1 : (mayT t).isSome = true) (h2 : mayO o = true) (h3 : o.kind ≤ 4) : touchT t o = [(findD t o.key).leaf] := by
 unfold touchT
 rw [if_pos (by simp [h1, h2]; omega), if_pos h3]
theorem touch_wrong {t : PT} {o : OpS} (h3 : ¬ o.kind ≤ 4) (h4 : o.hi < o.key) : touchT t o = [] := by
 unfold touchT
 split <;> simp [h3, h4]
theorem touch_many {t : PT} {o : OpS} (h1 : (mayT t).isSome = true) (h2 : mayO o = true) (h3 : ¬ o.kind ≤ 4) (h5 : o.kind < 7) (h4 : ¬ o.hi < o.key) :
  touchT t o = ((leavesT t).take (ixL (leavesT t) (findD t o.hi).leaf + 1)).drop (ixL (leavesT t) (findD t o.key).leaf) := by
 unfold touchT
 rw [if_pos (by simp [h1, h2]; omega), if_neg h3, if_neg h4]
theorem ix_lt {l : List Nat} {a : Nat} (h : a ∈ l) : ixL l a < l.length := List.findIdx_lt_length_of_exists ⟨a, h, by simp⟩
theorem ix_get {l : List Nat} {a : Nat} (h : a ∈ l) : l[ixL l a]? = some a := by
 have hl := ix_lt h
 have h1 := List.findIdx_getElem (p := fun x => decide (x = a)) (xs := l) (w := hl)
 rw [List.getElem?_eq_getElem hl]
 exact congrArg some (of_decide_eq_true h1)
theorem ix_before {l : List Nat} {a : Nat} : ∀ y ∈ l.take (ixL l a), y ≠ a := fun y hy e => by
 obtain ⟨i, hi, e2⟩ := List.mem_take_iff_getElem.1 hy
 have hi' : i < ixL l a := by omega
 have := List.not_of_lt_findIdx (p := fun x => decide (x = a)) (xs := l) (i := i) hi'
 simp [e2, e] at this
theorem ix_idxI {l : List Nat} {a : Nat} (h : a ∈ l) : idxI (fun x => decide (x = (a : Int))) (toI l) = (ixL l a : Int) := by
 refine idx_at (x := (a : Int)) (toI_get (ix_get h)) (by simp) fun y hy => ?_
 unfold toI at hy
 rw [← List.map_take] at hy
 obtain ⟨z, hz, rfl⟩ := List.mem_map.1 hy
 have := ix_before z hz
 exact decide_eq_false (by omega)
theorem ix_app_l {a b : List Nat} {x : Nat} (h : x ∈ a) : ixL (a ++ b) x = ixL a x := by
 unfold ixL
 rw [List.findIdx_append, if_pos (show a.findIdx _ < a.length from ix_lt h)]
theorem ix_app_r {a b : List Nat} {x : Nat} (h : x ∉ a) : ixL (a ++ b) x = a.length + ixL b x := by
 unfold ixL
 rw [List.findIdx_append, if_neg]
 ·omega
 ·rw [List.findIdx_eq_length_of_false]
  ·omega
  ·intro y hy
   exact decide_eq_false (fun e => h (e ▸ hy))
/-- A greater key's leaf stands no further left. -/
theorem find_mono {ns : List Nod} {s : Sh} {a b : Int} (hn : s.places.Nodup) (h : a ≤ b) : ixL s.leaves (s.find ns a).leaf ≤ ixL s.leaves (s.find ns b).leaf := by
 induction s with
 | leaf i => exact Nat.le_refl _
 | node i l r h1 h2 =>
  obtain ⟨c1, c2, d1, d2, d3⟩ := nodup_node hn
  have hl : ∀ k, (l.find ns k).leaf ∈ l.leaves := fun k => find_leaf
  have hr : ∀ k, (r.find ns k).leaf ∈ r.leaves := fun k => find_leaf
  have hrl : ∀ k, (r.find ns k).leaf ∉ l.leaves := fun k hk => d3 _ (leaves_places _ hk) (leaves_places _ (hr k))
  simp only [Sh.find, Sh.leaves]
  by_cases ha : a < (ns.getD i default).key
  ·rw [if_pos ha]
   by_cases hb : b < (ns.getD i default).key
   ·rw [if_pos hb]
    show ixL _ (l.find ns a).leaf ≤ ixL _ (l.find ns b).leaf
    rw [ix_app_l (hl a), ix_app_l (hl b)]
    exact h1 d1
   ·rw [if_neg hb]
    show ixL _ (l.find ns a).leaf ≤ ixL _ (r.find ns b).leaf
    rw [ix_app_l (hl a), ix_app_r (hrl b)]
    have := ix_lt (hl a)
    omega
  ·rw [if_neg ha, if_neg (show ¬ b < (ns.getD i default).key by omega)]
   show ixL _ (r.find ns a).leaf ≤ ixL _ (r.find ns b).leaf
   rw [ix_app_r (hrl a), ix_app_r (hrl b)]
   have := h2 d2
   omega
theorem findD_mono {t : PT} {s : Sh} {a b : Int} (hs : mayT t = some s) (h : a ≤ b) : ixL (leavesT t) (findD t a).leaf ≤ ixL (leavesT t) (findD t b).leaf := by
 rw [leavesT_eq hs, findD_eq hs, findD_eq hs]
 exact find_mono (good_of hs).nodup h
/-- What the reference has gathered, behind k leaves. -/
def gath (l : List Nat) (a : Nat) (k : Nat) : List Nat := if a ∈ l.take k then (l.take k).drop (ixL l a) else []
theorem gath_step {l : List Nat} {a k x : Nat} (hx : l[k]? = some x) (ha : a ∈ l) : gath l a (k + 1) = if a ∈ l.take (k + 1) then gath l a k ++ [x] else gath l a k := by
 have hk := lt_of_get hx
 have e : l.take (k + 1) = l.take k ++ [x] := by rw [List.take_succ_eq_append_getElem hk, (List.getElem?_eq_some_iff.1 hx).2]
 unfold gath
 by_cases h : a ∈ l.take k
 ·rw [if_pos h, if_pos (by rw [e]; simp [h]), if_pos (by rw [e]; simp [h]), e, List.drop_append_of_le_length]
  have h1 : ixL (l.take k) a < (l.take k).length := ix_lt h
  have h2 : ixL l a = ixL (l.take k) a := by
   conv => lhs; rw [← List.take_append_drop k l]
   exact ix_app_l h
  omega
 ·rw [if_neg h]
  by_cases hxa : a = x
  ·subst hxa
   have h9 : a ∈ l.take (k + 1) := by rw [e]; simp
   rw [if_pos h9, if_pos h9, e]
   have h2 : ixL l a = k := by
    conv => lhs; rw [← List.take_append_drop k l]
    rw [ix_app_r h, List.length_take, List.drop_eq_getElem_cons hk, (List.getElem?_eq_some_iff.1 hx).2]
    have : ixL (a :: List.drop (k + 1) l) a = 0 := by simp [ixL, List.findIdx_cons]
    omega
   rw [h2, List.drop_append, List.drop_of_length_le (by rw [List.length_take]; omega), List.length_take]
   have : k - min k l.length = 0 := by omega
   rw [this]
   rfl
  ·have h9 : a ∉ l.take (k + 1) := by rw [e]; simp [h, hxa]
   rw [if_neg h9, if_neg h9]
theorem gath_len (l : List Nat) (a k : Nat) : (gath l a k).length ≤ k := by
 unfold gath
 split
 ·simp; omega
 ·simp
theorem gath_done {l : List Nat} {a b : Nat} (ha : a ∈ l) (hab : ixL l a ≤ ixL l b) : gath l a (ixL l b + 1) = (l.take (ixL l b + 1)).drop (ixL l a) := by
 unfold gath
 rw [if_pos]
 have h1 := ix_get ha
 have h2 := ix_lt ha
 rw [List.mem_take_iff_getElem]
 exact ⟨ixL l a, by omega, (List.getElem?_eq_some_iff.1 h1).2⟩
theorem take_mem_step {l : List Nat} {k x a : Nat} (hx : l[k]? = some x) : decide (a ∈ l.take (k + 1)) = (decide (a ∈ l.take k) || decide (x = a)) := by
 rw [List.take_succ_eq_append_getElem (lt_of_get hx), (List.getElem?_eq_some_iff.1 hx).2]
 by_cases h1 : a ∈ l.take k
 ·simp [h1]
 ·by_cases h2 : x = a
  ·simp [h2]
  ·have : ¬ a = x := fun e => h2 e.symm
   simp [h1, h2, this]
end Go.Proofs.Ytmkodknmknfdkaa
set_option linter.unusedVariables false
set_option linter.unusedSimpArgs false
namespace Go.Proofs.Ytmkodknmknfdkaa
open E
set_option maxRecDepth 4000
theorem t139 : tRow Try.prog 139 = some (false, 1, 24, .agg #[.slice none 0 0]) := by kernel_rfl
theorem s139 : sRow Try.prog 139 = some [(0, 1, true)] := by kernel_rfl
theorem en94 : Enters Try.prog 94 := Enters.mk' Try.func94 rfl rfl
theorem en113 : Enters Try.prog 113 := Enters.mk' Try.func113 rfl rfl
set_option maxHeartbeats 1000000 in
theorem next114 (p : Pol) (s w : Int) : Con Try.prog 114 [p.val, .int .i64 s, .int .i64 w] [] [] (fun v Γ M => v = .int .i64 (nextS p s w) ∧ Γ = [] ∧ M = []) := by
 refine Con.body 32 Try.func114 rfl Try.ntmps114 rfl fun X H₀ L₀ => ?_
 refine aE (aR ?_)
 refine At.loud (l_box rfl) rfl ?_
 rintro _ _ _ ⟨b1, rfl, rfl, rfl⟩
 refine aS 1 rfl rfl ?_
 refine aN (aT (aE (aR ?_)))
 refine aQ (q_loadS t64 rfl (RdS.loc (i := 0) rfl (m := 5) rfl) rfl) rfl ?_
 refine At.call en111 rfl (clamp111 p) (fun _ _ => trivial) (List.Perm.refl _) rfl ?_
 rintro _ _ _ ⟨rfl, rfl, rfl⟩
 refine aS 1 rfl rfl ?_
 refine At.call en112 rfl (held112 s) (fun _ _ => trivial) (List.Perm.refl _) rfl ?_
 rintro _ _ _ ⟨rfl, rfl, rfl⟩
 have hcb := p.clamp_bd
 have hsb := heldS_bd s
 refine At.loudN (l_store t64 rfl rfl (i := 0) rfl rfl rfl rfl) ?_
 rintro _ _ _ ⟨rfl, rfl⟩
 refine aS 1 rfl rfl ?_
 refine aN (aT (aE (aE (aR ?_))))
 refine aS 1 rfl rfl ?_
 refine aN (aT (At.block (aE (aR ?_))))
 refine aS 2 rfl rfl ?_
 refine aN (aT ?_)
 refine At.if rfl (fun h1 => ?_) (fun h1 => ?_)
 ·
  refine aR ?_
  refine aS 1 rfl rfl ?_
  refine aF s64 t3 rfl rfl rfl (Rd.loc (i := 0) rfl rfl) rfl rfl ?_
  refine aQ (q_add rfl rfl (by omega) (by omega)) rfl ?_
  refine aS 1 rfl rfl ?_
  refine aN (At.inNormal (aT (aE (aR ?_))))
  refine aS 1 rfl rfl ?_
  refine At.call en112 rfl (held112 _) (fun _ _ => trivial) (List.Perm.refl _) rfl ?_
  rintro _ _ _ ⟨rfl, rfl, rfl⟩
  refine aS 1 rfl rfl ?_
  refine aN (aT (At.ret ?_))
  exact At.results (Γr := []) (M := []) rfl (RVals.cons (RVal.tmp rfl) RVals.nil) (.head _) (fun _ _ => trivial) (d_ r_) ⟨by rw [nextS, pushed, if_pos h1]; rfl, rfl, rfl⟩
 ·
  refine aE (aR ?_)
  refine aS 2 rfl rfl ?_
  refine aN (aT ?_)
  refine At.if rfl (fun h2 => ?_) (fun h2 => ?_)
  ·
   refine aR ?_
   refine aS 1 rfl rfl ?_
   refine aF s64 t3 rfl rfl rfl (Rd.loc (i := 0) rfl rfl) rfl rfl ?_
   refine aQ (q_sub rfl rfl (by omega) (by omega)) rfl ?_
   refine aS 1 rfl rfl ?_
   refine aN (At.inNormal (aT (aE (aR ?_))))
   refine aS 1 rfl rfl ?_
   refine At.call en112 rfl (held112 _) (fun _ _ => trivial) (List.Perm.refl _) rfl ?_
   rintro _ _ _ ⟨rfl, rfl, rfl⟩
   refine aS 1 rfl rfl ?_
   refine aN (aT (At.ret ?_))
   exact At.results (Γr := []) (M := []) rfl (RVals.cons (RVal.tmp rfl) RVals.nil) (.head _) (fun _ _ => trivial) (d_ r_) ⟨by rw [nextS, pushed, if_neg h1, if_pos h2]; rfl, rfl, rfl⟩
  ·
   refine aE (aR ?_)
   refine aS 2 rfl rfl ?_
   refine aN (aT ?_)
   refine At.if rfl (fun h3 => ?_) (fun h3 => ?_)
   ·
    refine aR ?_
    refine aS 1 rfl rfl ?_
    refine aF s64 t3 rfl rfl rfl (Rd.loc (i := 0) rfl rfl) rfl rfl ?_
    refine aQ (q_sub rfl rfl (by omega) (by omega)) rfl ?_
    refine aS 1 rfl rfl ?_
    refine aN (At.inNormal (aT (aE (aR ?_))))
    refine aS 1 rfl rfl ?_
    refine At.call en112 rfl (held112 _) (fun _ _ => trivial) (List.Perm.refl _) rfl ?_
    rintro _ _ _ ⟨rfl, rfl, rfl⟩
    refine aS 1 rfl rfl ?_
    refine aN (aT (At.ret ?_))
    exact At.results (Γr := []) (M := []) rfl (RVals.cons (RVal.tmp rfl) RVals.nil) (.head _) (fun _ _ => trivial) (d_ r_) ⟨by rw [nextS, pushed, if_neg h1, if_neg h2, if_pos h3]; rfl, rfl, rfl⟩
   ·
    refine At.skip (At.inNormal (aT (aE (aR ?_))))
    refine aS 1 rfl rfl ?_
    refine At.call en112 rfl (held112 _) (fun _ _ => trivial) (List.Perm.refl _) rfl ?_
    rintro _ _ _ ⟨rfl, rfl, rfl⟩
    refine aS 1 rfl rfl ?_
    refine aN (aT (At.ret ?_))
    exact At.results (Γr := []) (M := []) rfl (RVals.cons (RVal.tmp rfl) RVals.nil) (.head _) (fun _ _ => trivial) (d_ r_) ⟨by rw [nextS, pushed, if_neg h1, if_neg h2, if_neg h3]; rfl, rfl, rfl⟩
set_option maxHeartbeats 1000000 in
theorem next98 (p : Pol) (s w : Int) : Con Try.prog 98 [p.val, .int .i64 s, .int .i64 w] [] [] (fun v Γ M => v = .int .i64 (nextS p s w) ∧ Γ = [] ∧ M = []) := by
 refine Con.body 32 Try.func98 rfl Try.ntmps98 rfl fun X H₀ L₀ => ?_
 refine aE (aR ?_)
 refine At.loud (l_box rfl) rfl ?_
 rintro _ _ _ ⟨b1, rfl, rfl, rfl⟩
 refine aS 1 rfl rfl ?_
 refine aN (aT (aE (aR ?_)))
 refine aQ (q_loadS t64 rfl (RdS.loc (i := 0) rfl (m := 5) rfl) rfl) rfl ?_
 refine At.call en90 rfl (clamp90 p) (fun _ _ => trivial) (List.Perm.refl _) rfl ?_
 rintro _ _ _ ⟨rfl, rfl, rfl⟩
 refine At.loudN (l_store t64 rfl rfl (i := 0) rfl rfl rfl rfl) ?_
 rintro _ _ _ ⟨rfl, rfl⟩
 refine aN (aT (aE (aR ?_)))
 refine aS 1 rfl rfl ?_
 refine At.call en91 rfl (hold91 s _ _ (by omega)) (fun _ _ => trivial) (List.Perm.refl _) rfl ?_
 rintro _ _ _ ⟨rfl, rfl, rfl⟩
 refine aS 1 rfl rfl ?_
 refine aN (aT (aE (aE (aR ?_))))
 have hcb := p.clamp_bd
 have hsb := heldS_bd s
 refine At.say 1 (.int .i64 (heldS s)) rfl rfl ?_
 refine aS 1 rfl rfl ?_
 refine aN (aT (At.block (aE (aR ?_))))
 refine aS 2 rfl rfl ?_
 refine aN (aT ?_)
 refine At.if rfl (fun h1 => ?_) (fun h1 => ?_)
 ·
  refine aR ?_
  refine aS 1 rfl rfl ?_
  refine aF s64 t3 rfl rfl rfl (Rd.loc (i := 0) rfl rfl) rfl rfl ?_
  refine aQ (q_add rfl rfl (by omega) (by omega)) rfl ?_
  refine aS 1 rfl rfl ?_
  refine aN (At.inNormal (aT (aE (aR ?_))))
  refine aS 1 rfl rfl ?_
  refine At.call en91 rfl (hold91 _ _ _ (by omega)) (fun _ _ => trivial) (List.Perm.refl _) rfl ?_
  rintro _ _ _ ⟨rfl, rfl, rfl⟩
  refine aS 1 rfl rfl ?_
  refine aN (aT (At.ret ?_))
  exact At.results (Γr := []) (M := []) rfl (RVals.cons (RVal.tmp rfl) RVals.nil) (.head _) (fun _ _ => trivial) (d_ r_) ⟨by rw [nextS, pushed, if_pos h1]; rfl, rfl, rfl⟩
 ·
  refine aE (aR ?_)
  refine aS 2 rfl rfl ?_
  refine aN (aT ?_)
  refine At.if rfl (fun h2 => ?_) (fun h2 => ?_)
  ·
   refine aR ?_
   refine aS 1 rfl rfl ?_
   refine aF s64 t3 rfl rfl rfl (Rd.loc (i := 0) rfl rfl) rfl rfl ?_
   refine aQ (q_sub rfl rfl (by omega) (by omega)) rfl ?_
   refine aS 1 rfl rfl ?_
   refine aN (At.inNormal (aT (aE (aR ?_))))
   refine aS 1 rfl rfl ?_
   refine At.call en91 rfl (hold91 _ _ _ (by omega)) (fun _ _ => trivial) (List.Perm.refl _) rfl ?_
   rintro _ _ _ ⟨rfl, rfl, rfl⟩
   refine aS 1 rfl rfl ?_
   refine aN (aT (At.ret ?_))
   exact At.results (Γr := []) (M := []) rfl (RVals.cons (RVal.tmp rfl) RVals.nil) (.head _) (fun _ _ => trivial) (d_ r_) ⟨by rw [nextS, pushed, if_neg h1, if_pos h2]; rfl, rfl, rfl⟩
  ·
   refine aE (aR ?_)
   refine aS 2 rfl rfl ?_
   refine aN (aT ?_)
   refine At.if rfl (fun h3 => ?_) (fun h3 => ?_)
   ·
    refine aR ?_
    refine aS 1 rfl rfl ?_
    refine aF s64 t3 rfl rfl rfl (Rd.loc (i := 0) rfl rfl) rfl rfl ?_
    refine aQ (q_sub rfl rfl (by omega) (by omega)) rfl ?_
    refine aS 1 rfl rfl ?_
    refine aN (At.inNormal (aT (aE (aR ?_))))
    refine aS 1 rfl rfl ?_
    refine At.call en91 rfl (hold91 _ _ _ (by omega)) (fun _ _ => trivial) (List.Perm.refl _) rfl ?_
    rintro _ _ _ ⟨rfl, rfl, rfl⟩
    refine aS 1 rfl rfl ?_
    refine aN (aT (At.ret ?_))
    exact At.results (Γr := []) (M := []) rfl (RVals.cons (RVal.tmp rfl) RVals.nil) (.head _) (fun _ _ => trivial) (d_ r_) ⟨by rw [nextS, pushed, if_neg h1, if_neg h2, if_pos h3]; rfl, rfl, rfl⟩
   ·
    refine At.skip (At.inNormal (aT (aE (aR ?_))))
    refine aS 1 rfl rfl ?_
    refine At.call en91 rfl (hold91 _ _ _ (by omega)) (fun _ _ => trivial) (List.Perm.refl _) rfl ?_
    rintro _ _ _ ⟨rfl, rfl, rfl⟩
    refine aS 1 rfl rfl ?_
    refine aN (aT (At.ret ?_))
    exact At.results (Γr := []) (M := []) rfl (RVals.cons (RVal.tmp rfl) RVals.nil) (.head _) (fun _ _ => trivial) (d_ r_) ⟨by rw [nextS, pushed, if_neg h1, if_neg h2, if_neg h3]; rfl, rfl, rfl⟩
theorem map94 (l : Sl Pr) (o : OpS) (b : Nat) (hl : l.l.length + 1 ≤ 8796093022208) : Con Try.prog 94 [.pointer (some ⟨b, 0, none⟩), o.val] [prsP l] [[(b, .cells #[l.val] 139 (0, 0))]] (MapEnd l.l o b) := by
 refine Con.body 22 Try.func94 rfl Try.ntmps94 rfl fun X H₀ L₀ => ?_
 refine aE (aR ?_)
 refine At.loud (l_box rfl) rfl ?_
 rintro _ _ _ ⟨b1, rfl, rfl, rfl⟩
 refine At.freeze 0 (φ := blk b1 _) rfl (fun _ h => blk_def.2 ⟨_, _, h⟩) ?_
 refine At.loud (l_alloc t80) rfl ?_
 rintro _ _ _ ⟨b2, rfl, rfl, rfl⟩
 refine aN (aT (aE (aE (aR ?_))))
 refine aS 1 rfl rfl ?_
 refine aQ (q_eqPtr Try.underlying119 rfl rfl) rfl ?_
 refine aN (aT ?_)
 refine At.condF rfl ?_
 refine At.skip (aT (aE (aR ?_)))
 refine At.loud (l_alloc t80) rfl ?_
 rintro _ _ _ ⟨b3, rfl, rfl, rfl⟩
 refine aN (aT (aE ?_))
 refine At.draw 13 (.q 0 (.q 1 (.q 2 (.q 3 (.q 5 (.o 4 (.o 6 (.q 7 (.q 8 (.q 9 (.q 10 (.q 11 (.o 12 (.e)))))))))))))) (_ :: _ :: L₀) (k_ (k_ (d_ r_))) mixed (by kernel_rfl) rfl ?_
 refine oQ rfl (q_move rfl) rfl (cT cP) ?_
 refine oQ rfl (q_move rfl) rfl (cT cP) ?_
 refine oQ rfl (q_nilCheck rfl) rfl (cT cP) ?_
 refine oQ rfl (q_fieldAddr s139 rfl rfl rfl) rfl (cT cP) ?_
 refine oQ rfl (q_loadS t77 rfl (RdS.blk (.head _) (m := 4) rfl) rfl) rfl (cT cP) ?_
 refine AtO.loud rfl (Quiet.loud (q_load t31 rfl (Rd.loc (i := 2) rfl rfl))) rfl (by rintro _ _ _ ⟨rfl, rfl, rfl⟩; exact ⟨fun _ h => h, (k_ (k_ (d_ r_)))⟩) ?_
 rintro _ _ _ ⟨rfl, rfl, rfl⟩
 refine AtO.call rfl en113 rfl (do113 l o hl) (fun _ h => ⟨h.2.2.1, trivial⟩) (List.Perm.refl _) rfl (k_ (k_ (d_ r_))) ?_
 rintro _ _ _ ⟨s, s2, rfl, rfl, rfl, hs, hs2⟩
 refine oQ rfl (q_move rfl) rfl (cT cP) ?_
 refine oQ rfl (q_extract rfl rfl) rfl (cT cP) ?_
 refine oQ rfl (q_extract rfl rfl) rfl (cT cP) ?_
 refine oQ rfl (q_nilCheck rfl) rfl (cT cP) ?_
 refine oQ rfl (q_fieldAddr s139 rfl rfl rfl) rfl (cT cP) ?_
 refine AtO.loudNA rfl (l_store t31 rfl rfl (i := 2) rfl rfl rfl rfl) (by rintro _ _ _ ⟨rfl, rfl⟩; exact ⟨fun _ h => h, (k_ (k_ (d_ r_)))⟩) ?_
 rintro _ _ _ ⟨rfl, rfl⟩
 refine AtO.done ?_
 refine At.loudN (l_store t80 rfl rfl (i := 0) rfl rfl rfl rfl) ?_
 rintro _ _ _ ⟨rfl, rfl⟩
 refine aN (aT (aE (aR ?_)))
 refine aQ (q_loadS t80 rfl (RdS.loc (i := 0) rfl (m := 6) rfl) rfl) rfl ?_
 refine At.loudN (l_store t80 rfl rfl (i := 1) rfl rfl rfl rfl) ?_
 rintro _ _ _ ⟨rfl, rfl⟩
 refine aN (aT (At.ret ?_))
 exact At.results (Γr := [_, _]) (M := [[(b, .cells #[s.val] 139 (0, 0))]]) rfl (RVals.cons (RVal.cellS rfl t80 (RdS.loc (i := 1) rfl (m := 6) rfl) rfl) RVals.nil) (ix 3 rfl) (fun _ h => ⟨h.1, h.2.1, trivial⟩) (d_ (d_ (k_ r_))) ⟨s, s2, rfl, rfl, rfl, hs, hs2⟩
theorem new93 (l : Sl Pr) (hl : l.l.length + 1 ≤ 8796093022208) : Con Try.prog 93 [l.val] [prsP l] [] (NewEnd l.l) := by
 refine Con.body 23 Try.func93 rfl Try.ntmps93 rfl fun X H₀ L₀ => ?_
 refine At.lenOf (hs := (ix 1 rfl)) fun hlen => ?_
 rw [List.length_map] at hlen
 refine At.know (prsP ⟨none, 0, []⟩) (fun _ h => sl_nil _ _ _ (Nat.zero_le _)) ?_
 refine aE (aR ?_)
 refine aS 1 rfl rfl ?_
 refine aN (aT (aE (aR ?_)))
 refine aQ (q_build t139 s139 rfl rfl) rfl ?_
 refine At.loud (l_box rfl) rfl ?_
 rintro _ _ _ ⟨b1, rfl, rfl, rfl⟩
 refine aS 1 rfl rfl ?_
 refine aN (aT (aE (aE (aR ?_))))
 refine aS 1 rfl rfl ?_
 refine aQ (q_len Try.underlying31 rfl) rfl ?_
 refine aS 1 rfl rfl ?_
 refine aN (aT (At.block ?_))
 refine At.loopK (ι := Nat × Sl Pr) [5, 10, 11, 12, 13, 14, 15, 16, 17, 18, 19, 20, 21] (fun ⟨k, s⟩ => [(10, .int .i64 (k : Int))]) (fun ⟨k, s⟩ => [prsP s]) (fun ⟨k, s⟩ => [[(b1, .cells #[s.val] 139 (0, 0))]]) _ (fun ⟨k, s⟩ => k ≤ l.l.length ∧ s.l = putAll [] (l.l.take k)) (fun ⟨k, s⟩ => l.l.length - k) (0, ⟨none, 0, []⟩) ⟨Nat.zero_le _, rfl⟩ ⟨rfl, trivial⟩ (fun _ h => ⟨h.1, trivial⟩) (k_ r_) ?_
 intro i0 hI0
 obtain ⟨k, s⟩ := i0
 obtain ⟨hkl, hs⟩ := hI0
 refine aE (aR ?_)
 refine aS 1 rfl rfl ?_
 refine aN (aT (aE ?_))
 refine At.if rfl (fun hk => ?_) (fun hk => ?_)
 ·
  obtain ⟨x, hx⟩ := get_of_lt (l := l.l) (i := k) (by omega)
  have hk1 := lt_of_get hx
  have hpl := put_len l.l k
  refine At.skip (aT (aE (At.block (aE (aR ?_)))))
  refine aQ (q_index Try.underlying31 t50 rfl (ix 3 rfl) (by simp) rfl rfl (lt_of_get hx)) rfl ?_
  refine aQ (q_loadS t50 rfl (RdS.sl0 (ix 3 rfl) (map_get hx)) rfl) rfl ?_
  refine At.loud (l_alloc t50) rfl ?_
  rintro _ _ _ ⟨b2, rfl, rfl, rfl⟩
  refine At.loudN (l_store t50 rfl rfl (i := 0) rfl rfl rfl rfl) ?_
  rintro _ _ _ ⟨rfl, rfl⟩
  refine aN (aT (aR ?_))
  refine aS 1 rfl rfl ?_
  refine aF s50 t3 rfl rfl rfl (Rd.loc (i := 0) rfl rfl) rfl rfl ?_
  refine aF s50 t3 rfl rfl rfl (Rd.loc (i := 0) rfl rfl) rfl rfl ?_
  refine aQ (q_build t77 s77 rfl rfl) rfl ?_
  refine At.front 1 rfl ?_
  refine At.call en94 rfl (map94 s ⟨1, x.k, 0, x.v⟩ b1 (by rw [hs]; omega)) (fun _ h => ⟨h.1, trivial⟩) (List.Perm.refl _) rfl ?_
  rintro _ _ _ ⟨s3, s4, rfl, rfl, rfl, hs3, hs4⟩
  refine aN (At.inNormal (aT (aR ?_)))
  refine aQ (q_add rfl rfl (by omega) (by omega)) rfl ?_
  refine aS 1 rfl rfl ?_
  refine aN (aT ?_)
  exact At.againK (k + 1, s3) ⟨hk1, by rw [hs3, hs, put_step hx]⟩ (by (try dsimp only); omega) (Tells.end 14 ⟨rfl, trivial⟩ rfl rfl) (fun _ h => ⟨h.1, h.2.2.2⟩) (k_ (d_ r_))
 ·
  refine At.exit (At.thenExit (At.thenExit (At.inHere rfl (aT (aE (aR ?_))))))
  refine aS 2 rfl rfl ?_
  refine aN (aT (At.ret ?_))
  exact At.results (Γr := [_]) (M := [_]) rfl (RVals.cons (RVal.tmp rfl) RVals.nil) (ix 2 rfl) (fun _ h => ⟨h.1, trivial⟩) (k_ r_) ⟨b1, s, rfl, rfl, rfl, by rw [hs, List.take_of_length_le (by omega)]⟩
theorem clone99 (l : Sl Int) (hl : l.l.length ≤ 8796093022208) : Con Try.prog 99 [l.val] [intsP l] [] (fun v Γ M => ∃ s : Sl Int, v = s.val ∧ s.l = l.l ∧ Γ = [intsP s] ∧ M = []) := by
 refine Con.body 8 Try.func99 rfl Try.ntmps99 rfl fun X H₀ L₀ => ?_
 refine aE (aR ?_)
 refine aS 1 rfl rfl ?_
 refine aN (aT (aE (aE (aR ?_))))
 refine aS 1 rfl rfl ?_
 refine aQ (q_eqSliceNil Try.underlying37 rfl rfl) rfl ?_
 refine aN (aT ?_)
 refine At.cond rfl (fun hn => ?_) (fun hn => ?_)
 ·
  refine At.nilOf (hs := (ix 1 rfl)) (by simpa using hn) fun hnil => ?_
  refine At.know (intsP ⟨none, 0, []⟩) (fun _ _ => sl_nil _ _ _ (Nat.zero_le _)) ?_
  refine aE (aR ?_)
  refine aS 1 rfl rfl ?_
  refine aN (aT (At.ret (At.thenRet ?_)))
  exact At.results (Γr := [intsP ⟨none, 0, []⟩]) (M := []) rfl (RVals.cons (RVal.tmp rfl) RVals.nil) (ix 1 rfl) (fun _ h => ⟨h.1, trivial⟩) r_ ⟨⟨none, 0, []⟩, rfl, hnil.symm, rfl, rfl⟩
 ·
  refine At.skip (aT (aE (aR ?_)))
  refine At.loud (l_buildSlice0 Try.underlying37 t3) rfl ?_
  rintro _ _ _ ⟨e1, rfl, rfl, rfl⟩
  refine aS 1 rfl rfl ?_
  refine At.loud (l_appendNew rfl Try.underlying37 t3 rfl rfl (ix 1 rfl) (by simp) rfl (by omega) (by unfold maxLen; omega) rfl) rfl ?_
  rintro _ _ _ ⟨a2, c2, rfl, rfl, rfl⟩
  refine aS 1 rfl rfl ?_
  refine aN (aT (At.ret ?_))
  exact At.results (Γr := [intsP ⟨a2, c2, l.l⟩]) (M := []) rfl (RVals.cons (RVal.tmp rfl) RVals.nil) (ix 1 rfl) (fun _ h => ⟨h.1, trivial⟩) r_ ⟨⟨a2, c2, l.l⟩, rfl, rfl, rfl, rfl⟩
theorem index100 (l : Sl Int) (x : Int) : Con Try.prog 100 [l.val, .int .i64 x] [intsP l] [] (fun v Γ M => v = .int .i64 (idxI (fun y => decide (y = x)) l.l) ∧ Γ = [] ∧ M = []) := by
 refine Con.body 19 Try.func100 rfl Try.ntmps100 rfl fun X H₀ L₀ => ?_
 refine At.lenOf (hs := (ix 1 rfl)) fun hlen => ?_
 rw [List.length_map] at hlen
 refine aE (aR ?_)
 refine aS 1 rfl rfl ?_
 refine aN (aT (aE (aE (aR ?_))))
 refine aS 1 rfl rfl ?_
 refine aQ (q_len Try.underlying37 rfl) rfl ?_
 refine aS 1 rfl rfl ?_
 refine aN (aT (At.block ?_))
 refine At.loopK (ι := Nat) [4, 5, 8, 9, 10, 11, 12, 13, 14, 15, 16, 17, 18] (fun k => [(8, .int .i64 (k : Int))]) (fun k => []) (fun k => []) _ (fun k => k ≤ l.l.length ∧ ∀ y ∈ l.l.take k, decide (y = x) = false) (fun k => l.l.length - k) 0 ⟨Nat.zero_le _, by simp⟩ ⟨rfl, trivial⟩ (fun _ _ => trivial) r_ ?_
 intro k hI
 refine aE (aR ?_)
 refine aS 1 rfl rfl ?_
 refine aN (aT (aE ?_))
 refine At.if rfl (fun hk => ?_) (fun hk => ?_)
 ·
  obtain ⟨y, hy⟩ := get_of_lt (l := l.l) (i := k) (by omega)
  have hk1 := lt_of_get hy
  refine At.skip (aT (aE (At.block (aE (aR ?_)))))
  refine aS 2 rfl rfl ?_
  refine aN (aT (aE (aR ?_)))
  refine aS 3 rfl rfl ?_
  refine aQ (q_index Try.underlying37 t3 rfl (ix 1 rfl) (by simp) rfl rfl (lt_of_get hy)) rfl ?_
  refine aQ (q_load t3 rfl (Rd.sl0 (ix 1 rfl) (map_get hy) rfl)) rfl ?_
  refine aS 1 rfl rfl ?_
  refine aN (aT ?_)
  refine At.if rfl (fun hp => ?_) (fun hp => ?_)
  ·
   refine aE (aR ?_)
   refine aS 2 rfl rfl ?_
   refine aN (aT (At.ret (At.inRet (At.thenRet (At.thenRet (At.inRet (At.thenRet ?_)))))))
   exact At.results (Γr := []) (M := []) rfl (RVals.cons (RVal.tmp rfl) RVals.nil) (.head _) (fun _ _ => trivial) r_ ⟨congrArg (Value.int .i64) (idx_at hy (decide_eq_true (by omega)) hI.2).symm, rfl, rfl⟩
  ·
   refine At.skip (At.inNormal (aT (aR ?_)))
   refine aQ (q_add rfl rfl (by omega) (by omega)) rfl ?_
   refine aS 1 rfl rfl ?_
   refine aN (aT ?_)
   exact At.againK (k + 1) ⟨hk1, idx_step hy (decide_eq_false (by omega)) hI.2⟩ (by (try dsimp only); omega) (Tells.end 12 ⟨rfl, trivial⟩ rfl rfl) (fun _ h => h) r_
 ·
  refine At.exit (At.thenExit (At.thenExit (At.inHere rfl (aT (aE (aR ?_))))))
  refine aS 1 rfl rfl ?_
  refine aN (aT (At.ret ?_))
  exact At.results (Γr := []) (M := []) rfl (RVals.cons (RVal.tmp rfl) RVals.nil) (.head _) (fun _ _ => trivial) r_ ⟨congrArg (Value.int .i64) (idx_no (by have h := hI.2; rwa [List.take_of_length_le (by omega)] at h)).symm, rfl, rfl⟩
end Go.Proofs.Ytmkodknmknfdkaa
set_option linter.unusedVariables false
set_option linter.unusedSimpArgs false
namespace Go.Proofs.Ytmkodknmknfdkaa
open E
theorem ints_sub {H : Hp} {s : Sl Int} {lo hi : Nat} (h : (intsP s).holds H) (hl : lo ≤ hi) (hh : hi ≤ s.l.length) : (intsP ⟨subA s.a s.c 1 lo, s.c - lo, (s.l.take hi).drop lo⟩).holds H := by
 have h1 := sl_sub (l := lo) (h := hi) h hl (by simpa using hh)
 have e : ((s.l.take hi).drop lo).map rowI = ((s.l.map rowI).drop lo).take (hi - lo) := by
  rw [List.drop_take, List.map_take, List.map_drop]
 simp only [intsP]
 rw [e]
 exact h1
theorem ints_sub_val {s : Sl Int} {lo hi : Nat} (hl : lo ≤ hi) (hh : hi ≤ s.l.length) : Sl.val (⟨subA s.a s.c 1 lo, s.c - lo, (s.l.take hi).drop lo⟩ : Sl Int) = .slice (subA s.a s.c 1 lo) (hi - lo) (s.c - lo) := by
 simp only [Sl.val, List.length_drop, List.length_take]
 rw [Nat.min_eq_left hh]
theorem toI_take (l : List Nat) (k : Nat) : toI (l.take k) = (toI l).take k := List.map_take
theorem toI_drop (l : List Nat) (k : Nat) : toI (l.drop k) = (toI l).drop k := List.map_drop
theorem gath_yes {l : List Nat} {a k x : Nat} (hx : l[k]? = some x) (ha : a ∈ l) (h : a ∈ l.take k ∨ x = a) : toI (gath l a (k + 1)) = toI (gath l a k) ++ [(x : Int)] := by
 have h9 : a ∈ l.take (k + 1) := by
  have := take_mem_step (a := a) hx
  exact of_decide_eq_true (by rw [this]; rcases h with h | h <;> simp [h])
 rw [gath_step hx ha, if_pos h9, toI_app]
 rfl
theorem gath_no {l : List Nat} {a k x : Nat} (hx : l[k]? = some x) (ha : a ∈ l) (h : a ∉ l.take k) (h2 : x ≠ a) : gath l a (k + 1) = gath l a k ∧ a ∉ l.take (k + 1) := by
 have h9 : a ∉ l.take (k + 1) := by
  have := take_mem_step (a := a) hx
  exact of_decide_eq_false (by rw [this]; simp [h, h2])
 exact ⟨by rw [gath_step hx ha, if_neg h9], h9⟩
theorem at_ix {l : List Nat} {b k : Nat} (hx : l[k]? = some b) (hno : ∀ y ∈ l.take k, y ≠ b) : k = ixL l b := by
 have hb := List.mem_of_getElem? hx
 have h1 := ix_get hb
 rcases Nat.lt_trichotomy k (ixL l b) with h | h | h
 ·have hk := lt_of_get hx
  exact absurd rfl (ix_before b (List.mem_take_iff_getElem.2 ⟨k, by omega, (List.getElem?_eq_some_iff.1 hx).2⟩))
 ·exact h
 ·have hl := ix_lt hb
  exact absurd rfl (hno b (List.mem_take_iff_getElem.2 ⟨ixL l b, by omega, (List.getElem?_eq_some_iff.1 h1).2⟩))
theorem not_in {l : List Nat} {a b k : Nat} (ha : a ∈ l) (hk : k = ixL l b) (hab : ixL l a ≤ ixL l b) (hb : k < l.length) : a ∈ l.take (k + 1) := by
 have h1 := ix_get ha
 have h2 := ix_lt ha
 exact List.mem_take_iff_getElem.2 ⟨ixL l a, by omega, (List.getElem?_eq_some_iff.1 h1).2⟩
theorem no_step {l : List Nat} {k x b : Nat} (hx : l[k]? = some x) (h : x ≠ b) (hno : ∀ y ∈ l.take k, y ≠ b) : ∀ y ∈ l.take (k + 1), y ≠ b := fun y hy => by
 rw [List.take_succ_eq_append_getElem (lt_of_get hx), List.mem_append, (List.getElem?_eq_some_iff.1 hx).2] at hy
 rcases hy with hy | hy
 ·exact hno y hy
 ·rw [List.mem_singleton.1 hy]; exact h
theorem no_end {l : List Nat} {k b : Nat} (hk : l.length ≤ k) (hb : b ∈ l) (hno : ∀ y ∈ l.take k, y ≠ b) : False := hno b (by rw [List.take_of_length_le hk]; exact hb) rfl
end Go.Proofs.Ytmkodknmknfdkaa
set_option linter.unusedVariables false
set_option linter.unusedSimpArgs false
namespace Go.Proofs.Ytmkodknmknfdkaa
open E
set_option maxRecDepth 4000
theorem en99 : Enters Try.prog 99 := Enters.mk' Try.func99 rfl rfl
theorem en100 : Enters Try.prog 100 := Enters.mk' Try.func100 rfl rfl
set_option maxHeartbeats 1000000 in
theorem touched61 (t : Tr) (o : OpS) : Con Try.prog 61 [t.val, o.val] [ndsP t.ns, psP t.ns.l] [] (IntsEndF (toI (touchT t.p o))) := by
 refine Con.body 74 Try.func61 rfl Try.ntmps61 rfl fun X H₀ L₀ => ?_
 refine At.know (intsP ⟨none, 0, []⟩) (fun _ h => sl_nil _ _ _ (Nat.zero_le _)) ?_
 refine At.lenOf (hs := (ix 2 rfl)) fun hlen => ?_
 rw [List.length_map] at hlen
 refine aE (aR ?_)
 refine At.loud (l_box rfl) rfl ?_
 rintro _ _ _ ⟨b1, rfl, rfl, rfl⟩
 refine At.freeze 0 (φ := blk b1 _) rfl (fun _ h => blk_def.2 ⟨_, _, h⟩) ?_
 refine At.loud (l_box rfl) rfl ?_
 rintro _ _ _ ⟨b2, rfl, rfl, rfl⟩
 refine At.freeze 0 (φ := blk b2 _) rfl (fun _ h => blk_def.2 ⟨_, _, h⟩) ?_
 refine aS 1 rfl rfl ?_
 refine aN (aT (aE (aR ?_)))
 refine aQ (q_loadS t24 rfl (RdS.blk (ix 1 rfl) (m := 2) rfl) rfl) rfl ?_
 refine aF s77 t3 rfl rfl rfl (Rd.blk (.head _) rfl) rfl rfl ?_
 refine At.call en26 rfl (find26 _ _) (fun _ h => ⟨h.2.2.2.2.1, h.2.2.2.2.2.1, trivial⟩) (List.Perm.refl _) rfl ?_
 rintro _ _ _ ⟨us8, rs8, rfl, rfl, rfl, hus8, hrs8⟩
 refine aS 1 rfl rfl ?_
 refine aQ (q_extract rfl rfl) rfl ?_
 refine aQ (q_extract rfl rfl) rfl ?_
 refine At.loud (l_alloc t40) rfl ?_
 rintro _ _ _ ⟨b3, rfl, rfl, rfl⟩
 refine At.loudN (l_store t40 rfl rfl (i := 0) rfl rfl rfl rfl) ?_
 rintro _ _ _ ⟨rfl, rfl⟩
 refine aS 1 rfl rfl ?_
 refine aN (aT (aE (At.block (aE (aR ?_)))))
 refine aS 3 rfl rfl ?_
 refine At.split (d := 20) rfl (fun hm => ?_) (fun hm => ?_)
 ·
  refine aS 15 rfl rfl ?_
  refine aN (aT ?_)
  refine At.condT rfl ?_
  refine aE (aR ?_)
  refine aS 1 rfl rfl ?_
  refine aN (aT (At.ret (At.inRet (At.thenRet ?_))))
  exact At.results (Γr := [_]) (M := []) rfl (RVals.cons (RVal.tmp rfl) RVals.nil) (ix 5 rfl) (fun _ h => ⟨h.2.2.2.2.1, trivial⟩) (d_ r_) ⟨⟨none, 0, []⟩, rfl, rfl, rfl, by rw [touch_no (.inl (not_t hm))]; rfl⟩
 ·
  have hmt : (mayT t.p).isSome = true := not_f hm
  obtain ⟨s, hs⟩ := Option.isSome_iff_exists.1 hmt
  have hfa := find_mem hs o.key
  have hfb := find_mem hs o.hi
  refine At.open rfl rfl ?_
  refine aQ (q_loadS t77 rfl (RdS.blk (ix 2 rfl) (m := 4) rfl) rfl) rfl ?_
  refine At.open rfl rfl ?_
  refine At.call en92 rfl (mayop92 _) (fun _ _ => trivial) (List.Perm.refl _) rfl ?_
  rintro _ _ _ ⟨rfl, rfl, rfl⟩
  refine aS 3 rfl rfl ?_
  refine At.split (d := 25) rfl (fun ho => ?_) (fun ho => ?_)
  ·
   refine aS 10 rfl rfl ?_
   refine aN (aT ?_)
   refine At.condT rfl ?_
   refine aE (aR ?_)
   refine aS 1 rfl rfl ?_
   refine aN (aT (At.ret (At.inRet (At.thenRet ?_))))
   exact At.results (Γr := [_]) (M := []) rfl (RVals.cons (RVal.tmp rfl) RVals.nil) (ix 5 rfl) (fun _ h => ⟨h.2.2.2.2.1, trivial⟩) (d_ r_) ⟨⟨none, 0, []⟩, rfl, rfl, rfl, by rw [touch_no (.inr (.inl (not_t ho)))]; rfl⟩
  ·
   have hmo : mayO o = true := not_f ho
   have hmk : 1 ≤ o.kind ∧ o.kind ≤ 8 := by simpa [mayO] using hmo
   refine At.open rfl rfl ?_
   refine aQ (q_fieldAddr s77 rfl rfl rfl) rfl ?_
   refine At.open rfl rfl ?_
   refine aQ (q_load t3 rfl (Rd.blk (ix 2 rfl) rfl)) rfl ?_
   refine aS 3 rfl rfl ?_
   refine At.splitP (d := 30) rfl (fun h7 => ?_) (fun h7 => ?_)
   ·
    refine aS 5 rfl rfl ?_
    refine aN (aT ?_)
    refine At.condT rfl ?_
    refine aE (aR ?_)
    refine aS 1 rfl rfl ?_
    refine aN (aT (At.ret (At.inRet (At.thenRet ?_))))
    exact At.results (Γr := [_]) (M := []) rfl (RVals.cons (RVal.tmp rfl) RVals.nil) (ix 5 rfl) (fun _ h => ⟨h.2.2.2.2.1, trivial⟩) (d_ r_) ⟨⟨none, 0, []⟩, rfl, rfl, rfl, by rw [touch_no (.inr (.inr (by omega)))]; rfl⟩
   ·
    refine At.open rfl rfl ?_
    refine aQ (q_fieldAddr s77 rfl rfl rfl) rfl ?_
    refine At.open rfl rfl ?_
    refine aQ (q_load t3 rfl (Rd.blk (ix 2 rfl) rfl)) rfl ?_
    refine aS 3 rfl rfl ?_
    refine aN (aT ?_)
    refine At.if rfl (fun h8 => ?_) (fun h8 => ?_)
    ·
     refine aE (aR ?_)
     refine aS 1 rfl rfl ?_
     refine aN (aT (At.ret (At.inRet (At.thenRet ?_))))
     exact At.results (Γr := [_]) (M := []) rfl (RVals.cons (RVal.tmp rfl) RVals.nil) (ix 5 rfl) (fun _ h => ⟨h.2.2.2.2.1, trivial⟩) (d_ r_) ⟨⟨none, 0, []⟩, rfl, rfl, rfl, by rw [touch_no (.inr (.inr (by omega)))]; rfl⟩
    ·
     refine aE (aR ?_)
     refine aF s77 t3 rfl rfl rfl (Rd.blk (ix 2 rfl) rfl) rfl rfl ?_
     refine aS 2 rfl rfl ?_
     refine At.splitP (d := 39) rfl (fun h5 => ?_) (fun h5 => ?_)
     ·
      refine At.open rfl rfl ?_
      refine aQ (q_fieldAddr s77 rfl rfl rfl) rfl ?_
      refine At.open rfl rfl ?_
      refine aQ (q_load t3 rfl (Rd.blk (ix 2 rfl) rfl)) rfl ?_
      refine aS 3 rfl rfl ?_
      refine aN (aT ?_)
      refine At.if rfl (fun h6 => ?_) (fun h6 => ?_)
      ·
       refine aE (aR ?_)
       refine aF s40 t3 rfl rfl rfl (Rd.loc (i := 0) rfl rfl) rfl rfl ?_
       refine At.loud (l_buildSlice Try.underlying37 t3 rfl rfl rfl rfl rfl) rfl ?_
       rintro _ _ _ ⟨b4, rfl, rfl, rfl⟩
       refine At.freeze 0 (φ := intsP ⟨some ⟨b4, 0, none⟩, 1, [((findD t.p o.key).leaf : Int)]⟩) rfl (fun _ h => sl_of_block h rfl (by simp [rowI]) rfl (show (1 : Nat) ≤ maxLen from by decide)) ?_
       refine aS 1 rfl rfl ?_
       refine aN (aT (At.ret (At.inRet (At.thenRet ?_))))
       exact At.results (Γr := [_]) (M := []) rfl (RVals.cons (RVal.tmp rfl) RVals.nil) (ix 6 rfl) (fun _ h => ⟨h.1, trivial⟩) (d_ r_) ⟨⟨some ⟨_, 0, none⟩, 1, [((findD t.p o.key).leaf : Int)]⟩, rfl, rfl, rfl, by rw [touch_one hmt hmo (by omega)]; rfl⟩
      ·
       refine aE (aR ?_)
       refine aF s77 t3 rfl rfl rfl (Rd.blk (ix 2 rfl) rfl) rfl rfl ?_
       refine aF s77 t3 rfl rfl rfl (Rd.blk (ix 2 rfl) rfl) rfl rfl ?_
       refine aS 2 rfl rfl ?_
       refine aN (aT ?_)
       refine At.if rfl (fun hhk => ?_) (fun hhk => ?_)
       ·
        refine aE (aR ?_)
        refine aS 1 rfl rfl ?_
        refine aN (aT (At.ret (At.inRet (At.thenRet ?_))))
        exact At.results (Γr := [_]) (M := []) rfl (RVals.cons (RVal.tmp rfl) RVals.nil) (ix 5 rfl) (fun _ h => ⟨h.2.2.2.2.1, trivial⟩) (d_ r_) ⟨⟨none, 0, []⟩, rfl, rfl, rfl, by rw [touch_wrong (by omega) hhk]; rfl⟩
       ·
        refine At.skip (At.inNormal (aT (aE (aR ?_))))
        refine aQ (q_loadS t24 rfl (RdS.blk (ix 3 rfl) (m := 2) rfl) rfl) rfl ?_
        refine aF s77 t3 rfl rfl rfl (Rd.blk (ix 2 rfl) rfl) rfl rfl ?_
        refine At.call en26 rfl (find26 _ _) (fun _ h => ⟨h.2.2.2.2.2.2.1, h.2.2.2.2.2.2.2.1, trivial⟩) (List.Perm.refl _) rfl ?_
        rintro _ _ _ ⟨us9, rs9, rfl, rfl, rfl, hus9, hrs9⟩
        refine aS 1 rfl rfl ?_
        refine aQ (q_extract rfl rfl) rfl ?_
        refine aQ (q_extract rfl rfl) rfl ?_
        refine At.loud (l_alloc t40) rfl ?_
        rintro _ _ _ ⟨b5, rfl, rfl, rfl⟩
        refine At.loudN (l_store t40 rfl rfl (i := 0) rfl rfl rfl rfl) ?_
        rintro _ _ _ ⟨rfl, rfl⟩
        refine aS 1 rfl rfl ?_
        refine aN (aT (aE (aR ?_)))
        refine aQ (q_loadS t24 rfl (RdS.blk (ix 5 rfl) (m := 2) rfl) rfl) rfl ?_
        refine At.call en28 rfl (leaves28f _) (fun _ h => ⟨h.2.2.2.2.2.2.2.2.1, h.2.2.2.2.2.2.2.2.2.1, trivial⟩) (List.Perm.refl _) rfl ?_
        rintro _ _ _ ⟨lv, rfl, rfl, rfl, hplv⟩
        refine aS 1 rfl rfl ?_
        refine aN (aT (aE ?_))
        have hab := findD_mono hs (show o.key ≤ o.hi by omega)
        have hll : lv.l.length = (leavesT t.p).length := by rw [hplv, toI_length]
        have hia := ix_lt hfa
        have hib := ix_lt hfb
        have hle := leavesT_len t.p
        have hfew := (good_of hs).few
        refine At.capOf (hs := (.head _)) fun hcap => ?_
        rw [List.length_map] at hcap
        refine At.know (intsP (⟨subA lv.a lv.c 1 (ixL (leavesT t.p) (findD t.p o.key).leaf), lv.c - ixL (leavesT t.p) (findD t.p o.key).leaf, (lv.l.take (ixL (leavesT t.p) (findD t.p o.hi).leaf + 1)).drop (ixL (leavesT t.p) (findD t.p o.key).leaf)⟩ : Sl Int)) (fun _ h => ints_sub h.1 (by omega) (by omega)) ?_
        refine At.draw 10 (.q 0 (.q 1 (.q 2 (.q 3 (.q 5 (.q 6 (.q 7 (.o 4 (.o 8 (.q 9 (.e))))))))))) _ (List.Sublist.refl _) mixed (by kernel_rfl) rfl ?_
        refine oQ rfl (q_move rfl) rfl (cT cP) ?_
        refine oQ rfl (q_move rfl) rfl (cT cP) ?_
        refine oQ rfl (q_fieldAddr s40 rfl rfl rfl) rfl (cT cP) ?_
        refine oQ rfl (q_load t3 rfl (Rd.loc (i := 1) rfl rfl)) rfl (cT cP) ?_
        refine oQ rfl (q_move rfl) rfl (cT cP) ?_
        refine oQ rfl (q_fieldAddr s40 rfl rfl rfl) rfl (cT cP) ?_
        refine oQ rfl (q_load t3 rfl (Rd.loc (i := 0) rfl rfl)) rfl (cT cP) ?_
        refine AtO.callA rfl en100 rfl (index100 lv _) (fun _ h => ⟨h.2.1, trivial⟩) (List.Perm.refl _) rfl r_ ?_
        rintro _ _ _ ⟨rfl, rfl, rfl⟩
        refine AtO.say 66 (.int .i64 ((ixL (leavesT t.p) (findD t.p o.key).leaf : Nat) : Int)) rfl (congrArg (Value.int .i64) (by rw [hplv]; exact ix_idxI hfa)) ?_
        refine AtO.callA rfl en100 rfl (index100 lv _) (fun _ h => ⟨h.2.1, trivial⟩) (List.Perm.refl _) rfl r_ ?_
        rintro _ _ _ ⟨rfl, rfl, rfl⟩
        refine AtO.say 70 (.int .i64 ((ixL (leavesT t.p) (findD t.p o.hi).leaf : Nat) : Int)) rfl (congrArg (Value.int .i64) (by rw [hplv]; exact ix_idxI hfb)) ?_
        refine oQ rfl (q_add rfl rfl (by omega) (by omega)) rfl (cT cP) ?_
        refine AtO.done ?_
        refine aQ (q_slice Try.underlying37 t3 rfl rfl rfl (l := (ixL (leavesT t.p) (findD t.p o.key).leaf : Nat)) (h := (ixL (leavesT t.p) (findD t.p o.hi).leaf : Nat) + 1) rfl rfl (by omega) (by omega)) rfl ?_
        refine At.say 72 (Sl.val (⟨subA lv.a lv.c 1 (ixL (leavesT t.p) (findD t.p o.key).leaf), lv.c - ixL (leavesT t.p) (findD t.p o.key).leaf, (lv.l.take (ixL (leavesT t.p) (findD t.p o.hi).leaf + 1)).drop (ixL (leavesT t.p) (findD t.p o.key).leaf)⟩ : Sl Int)) rfl ((ints_sub_val (by omega) (by omega)).symm) ?_
        refine At.call en99 rfl (clone99 (⟨subA lv.a lv.c 1 (ixL (leavesT t.p) (findD t.p o.key).leaf), lv.c - ixL (leavesT t.p) (findD t.p o.key).leaf, (lv.l.take (ixL (leavesT t.p) (findD t.p o.hi).leaf + 1)).drop (ixL (leavesT t.p) (findD t.p o.key).leaf)⟩ : Sl Int) (by simp; omega)) (fun _ h => ⟨h.1, trivial⟩) (List.Perm.refl _) rfl ?_
        rintro _ _ _ ⟨u, rfl, hu, rfl, rfl⟩
        refine aS 1 rfl rfl ?_
        refine aN (aT (At.ret ?_))
        exact At.results (Γr := [_]) (M := []) rfl (RVals.cons (RVal.tmp rfl) RVals.nil) (ix 10 rfl) (fun _ h => ⟨h.1, trivial⟩) (d_ (d_ r_)) ⟨u, rfl, rfl, rfl, by rw [hu, touch_many hmt hmo (by omega) (by omega) hhk, toI_drop, toI_take, ← hplv]⟩
     ·
      refine aS 5 rfl rfl ?_
      refine aN (aT ?_)
      refine At.condF rfl ?_
      refine aE (aR ?_)
      refine aF s77 t3 rfl rfl rfl (Rd.blk (ix 2 rfl) rfl) rfl rfl ?_
      refine aF s77 t3 rfl rfl rfl (Rd.blk (ix 2 rfl) rfl) rfl rfl ?_
      refine aS 2 rfl rfl ?_
      refine aN (aT ?_)
      refine At.if rfl (fun hhk => ?_) (fun hhk => ?_)
      ·
       refine aE (aR ?_)
       refine aS 1 rfl rfl ?_
       refine aN (aT (At.ret (At.inRet (At.thenRet ?_))))
       exact At.results (Γr := [_]) (M := []) rfl (RVals.cons (RVal.tmp rfl) RVals.nil) (ix 5 rfl) (fun _ h => ⟨h.2.2.2.2.1, trivial⟩) (d_ r_) ⟨⟨none, 0, []⟩, rfl, rfl, rfl, by rw [touch_wrong (by omega) hhk]; rfl⟩
      ·
       refine At.skip (At.inNormal (aT (aE (aR ?_))))
       refine aQ (q_loadS t24 rfl (RdS.blk (ix 3 rfl) (m := 2) rfl) rfl) rfl ?_
       refine aF s77 t3 rfl rfl rfl (Rd.blk (ix 2 rfl) rfl) rfl rfl ?_
       refine At.call en26 rfl (find26 _ _) (fun _ h => ⟨h.2.2.2.2.2.2.1, h.2.2.2.2.2.2.2.1, trivial⟩) (List.Perm.refl _) rfl ?_
       rintro _ _ _ ⟨us9, rs9, rfl, rfl, rfl, hus9, hrs9⟩
       refine aS 1 rfl rfl ?_
       refine aQ (q_extract rfl rfl) rfl ?_
       refine aQ (q_extract rfl rfl) rfl ?_
       refine At.loud (l_alloc t40) rfl ?_
       rintro _ _ _ ⟨b6, rfl, rfl, rfl⟩
       refine At.loudN (l_store t40 rfl rfl (i := 0) rfl rfl rfl rfl) ?_
       rintro _ _ _ ⟨rfl, rfl⟩
       refine aS 1 rfl rfl ?_
       refine aN (aT (aE (aR ?_)))
       refine aQ (q_loadS t24 rfl (RdS.blk (ix 5 rfl) (m := 2) rfl) rfl) rfl ?_
       refine At.call en28 rfl (leaves28f _) (fun _ h => ⟨h.2.2.2.2.2.2.2.2.1, h.2.2.2.2.2.2.2.2.2.1, trivial⟩) (List.Perm.refl _) rfl ?_
       rintro _ _ _ ⟨lv, rfl, rfl, rfl, hplv⟩
       refine aS 1 rfl rfl ?_
       refine aN (aT (aE ?_))
       have hab := findD_mono hs (show o.key ≤ o.hi by omega)
       have hll : lv.l.length = (leavesT t.p).length := by rw [hplv, toI_length]
       have hia := ix_lt hfa
       have hib := ix_lt hfb
       have hle := leavesT_len t.p
       have hfew := (good_of hs).few
       refine At.capOf (hs := (.head _)) fun hcap => ?_
       rw [List.length_map] at hcap
       refine At.know (intsP (⟨subA lv.a lv.c 1 (ixL (leavesT t.p) (findD t.p o.key).leaf), lv.c - ixL (leavesT t.p) (findD t.p o.key).leaf, (lv.l.take (ixL (leavesT t.p) (findD t.p o.hi).leaf + 1)).drop (ixL (leavesT t.p) (findD t.p o.key).leaf)⟩ : Sl Int)) (fun _ h => ints_sub h.1 (by omega) (by omega)) ?_
       refine At.draw 10 (.q 0 (.q 1 (.q 2 (.q 3 (.q 5 (.q 6 (.q 7 (.o 4 (.o 8 (.q 9 (.e))))))))))) _ (List.Sublist.refl _) mixed (by kernel_rfl) rfl ?_
       refine oQ rfl (q_move rfl) rfl (cT cP) ?_
       refine oQ rfl (q_move rfl) rfl (cT cP) ?_
       refine oQ rfl (q_fieldAddr s40 rfl rfl rfl) rfl (cT cP) ?_
       refine oQ rfl (q_load t3 rfl (Rd.loc (i := 1) rfl rfl)) rfl (cT cP) ?_
       refine oQ rfl (q_move rfl) rfl (cT cP) ?_
       refine oQ rfl (q_fieldAddr s40 rfl rfl rfl) rfl (cT cP) ?_
       refine oQ rfl (q_load t3 rfl (Rd.loc (i := 0) rfl rfl)) rfl (cT cP) ?_
       refine AtO.callA rfl en100 rfl (index100 lv _) (fun _ h => ⟨h.2.1, trivial⟩) (List.Perm.refl _) rfl r_ ?_
       rintro _ _ _ ⟨rfl, rfl, rfl⟩
       refine AtO.say 66 (.int .i64 ((ixL (leavesT t.p) (findD t.p o.key).leaf : Nat) : Int)) rfl (congrArg (Value.int .i64) (by rw [hplv]; exact ix_idxI hfa)) ?_
       refine AtO.callA rfl en100 rfl (index100 lv _) (fun _ h => ⟨h.2.1, trivial⟩) (List.Perm.refl _) rfl r_ ?_
       rintro _ _ _ ⟨rfl, rfl, rfl⟩
       refine AtO.say 70 (.int .i64 ((ixL (leavesT t.p) (findD t.p o.hi).leaf : Nat) : Int)) rfl (congrArg (Value.int .i64) (by rw [hplv]; exact ix_idxI hfb)) ?_
       refine oQ rfl (q_add rfl rfl (by omega) (by omega)) rfl (cT cP) ?_
       refine AtO.done ?_
       refine aQ (q_slice Try.underlying37 t3 rfl rfl rfl (l := (ixL (leavesT t.p) (findD t.p o.key).leaf : Nat)) (h := (ixL (leavesT t.p) (findD t.p o.hi).leaf : Nat) + 1) rfl rfl (by omega) (by omega)) rfl ?_
       refine At.say 72 (Sl.val (⟨subA lv.a lv.c 1 (ixL (leavesT t.p) (findD t.p o.key).leaf), lv.c - ixL (leavesT t.p) (findD t.p o.key).leaf, (lv.l.take (ixL (leavesT t.p) (findD t.p o.hi).leaf + 1)).drop (ixL (leavesT t.p) (findD t.p o.key).leaf)⟩ : Sl Int)) rfl ((ints_sub_val (by omega) (by omega)).symm) ?_
       refine At.call en99 rfl (clone99 (⟨subA lv.a lv.c 1 (ixL (leavesT t.p) (findD t.p o.key).leaf), lv.c - ixL (leavesT t.p) (findD t.p o.key).leaf, (lv.l.take (ixL (leavesT t.p) (findD t.p o.hi).leaf + 1)).drop (ixL (leavesT t.p) (findD t.p o.key).leaf)⟩ : Sl Int) (by simp; omega)) (fun _ h => ⟨h.1, trivial⟩) (List.Perm.refl _) rfl ?_
       rintro _ _ _ ⟨u, rfl, hu, rfl, rfl⟩
       refine aS 1 rfl rfl ?_
       refine aN (aT (At.ret ?_))
       exact At.results (Γr := [_]) (M := []) rfl (RVals.cons (RVal.tmp rfl) RVals.nil) (ix 10 rfl) (fun _ h => ⟨h.1, trivial⟩) (d_ (d_ r_)) ⟨u, rfl, rfl, rfl, by rw [hu, touch_many hmt hmo (by omega) (by omega) hhk, toI_drop, toI_take, ← hplv]⟩
set_option maxHeartbeats 1000000 in
theorem touched62 (t : Tr) (hsm : smallP t.ns.l) (o : OpS) : Con Try.prog 62 [t.val, o.val] [ndsP t.ns, psP t.ns.l] [] (IntsEndF (toI (touchT t.p o))) := by
 refine Con.body 85 Try.func62 rfl Try.ntmps62 rfl fun X H₀ L₀ => ?_
 refine At.know (intsP ⟨none, 0, []⟩) (fun _ h => sl_nil _ _ _ (Nat.zero_le _)) ?_
 refine At.lenOf (hs := (ix 2 rfl)) fun hlen => ?_
 rw [List.length_map] at hlen
 refine aE (aR ?_)
 refine At.loud (l_box rfl) rfl ?_
 rintro _ _ _ ⟨b1, rfl, rfl, rfl⟩
 refine At.freeze 0 (φ := blk b1 _) rfl (fun _ h => blk_def.2 ⟨_, _, h⟩) ?_
 refine At.loud (l_box rfl) rfl ?_
 rintro _ _ _ ⟨b2, rfl, rfl, rfl⟩
 refine At.freeze 0 (φ := blk b2 _) rfl (fun _ h => blk_def.2 ⟨_, _, h⟩) ?_
 refine aS 1 rfl rfl ?_
 refine aN (aT (aE (aE (aR ?_))))
 refine aQ (q_loadS t24 rfl (RdS.blk (ix 1 rfl) (m := 2) rfl) rfl) rfl ?_
 refine At.call en38 rfl (plain38 _ (by assumption)) (fun _ h => ⟨h.2.2.2.2.1, h.2.2.2.2.2.1, trivial⟩) (List.Perm.refl _) rfl ?_
 rintro _ _ _ ⟨w, Mw, rfl, rfl, rfl, hw, hpw⟩
 refine aS 1 rfl rfl ?_
 refine aQ (q_extract rfl rfl) rfl ?_
 refine aQ (q_extract rfl rfl) rfl ?_
 refine At.loud (l_alloc t24) rfl ?_
 rintro _ _ _ ⟨b3, rfl, rfl, rfl⟩
 refine At.loudN (l_store t24 rfl rfl (i := 0) rfl rfl rfl rfl) ?_
 rintro _ _ _ ⟨rfl, rfl⟩
 refine aS 1 rfl rfl ?_
 refine aN (aT (aE (aR ?_)))
 refine aS 3 rfl rfl ?_
 refine At.split (d := 24) rfl (fun hm => ?_) (fun hm => ?_)
 ·
  refine aS 9 rfl rfl ?_
  refine aN (aT ?_)
  refine At.condT rfl ?_
  refine aE (aR ?_)
  refine aS 1 rfl rfl ?_
  refine aN (aT (At.ret (At.thenRet ?_)))
  exact At.results (Γr := [_]) (M := []) rfl (RVals.cons (RVal.tmp rfl) RVals.nil) (ix 4 rfl) (fun _ h => ⟨h.2.2.2.1, trivial⟩) (d_ (d_ r_)) ⟨⟨none, 0, []⟩, rfl, rfl, rfl, by rw [touch_no (.inl (not_t hm))]; rfl⟩
 ·
  have hmt : (mayT t.p).isSome = true := not_f hm
  obtain ⟨s, hs⟩ := Option.isSome_iff_exists.1 hmt
  have hfa := find_mem hs o.key
  have hfb := find_mem hs o.hi
  rw [leavesT_eq hs] at hfa hfb
  refine At.open rfl rfl ?_
  refine aQ (q_loadS t77 rfl (RdS.blk (ix 1 rfl) (m := 4) rfl) rfl) rfl ?_
  refine At.open rfl rfl ?_
  refine At.call en64 rfl (mayop64 _) (fun _ _ => trivial) (List.Perm.refl _) rfl ?_
  rintro _ _ _ ⟨rfl, rfl, rfl⟩
  refine aS 3 rfl rfl ?_
  refine At.split (d := 29) rfl (fun ho => ?_) (fun ho => ?_)
  ·
   refine aS 4 rfl rfl ?_
   refine aN (aT ?_)
   refine At.condT rfl ?_
   refine aE (aR ?_)
   refine aS 1 rfl rfl ?_
   refine aN (aT (At.ret (At.thenRet ?_)))
   exact At.results (Γr := [_]) (M := []) rfl (RVals.cons (RVal.tmp rfl) RVals.nil) (ix 4 rfl) (fun _ h => ⟨h.2.2.2.1, trivial⟩) (d_ (d_ r_)) ⟨⟨none, 0, []⟩, rfl, rfl, rfl, by rw [touch_no (.inr (.inl (not_t ho)))]; rfl⟩
  ·
   have hmo : mayO o = true := not_f ho
   have hmk : 1 ≤ o.kind ∧ o.kind ≤ 8 := by simpa [mayO] using hmo
   refine At.open rfl rfl ?_
   refine aQ (q_fieldAddr s77 rfl rfl rfl) rfl ?_
   refine At.open rfl rfl ?_
   refine aQ (q_load t3 rfl (Rd.blk (ix 1 rfl) rfl)) rfl ?_
   refine aS 2 rfl rfl ?_
   refine aN (aT ?_)
   refine At.if rfl (fun h7 => ?_) (fun h7 => ?_)
   ·
    refine aE (aR ?_)
    refine aS 1 rfl rfl ?_
    refine aN (aT (At.ret (At.thenRet ?_)))
    exact At.results (Γr := [_]) (M := []) rfl (RVals.cons (RVal.tmp rfl) RVals.nil) (ix 4 rfl) (fun _ h => ⟨h.2.2.2.1, trivial⟩) (d_ (d_ r_)) ⟨⟨none, 0, []⟩, rfl, rfl, rfl, by rw [touch_no (.inr (.inr (by omega)))]; rfl⟩
   ·
    refine At.skip (aT (aE (aR ?_)))
    refine aQ (q_loadS t24 rfl (RdS.blk (ix 2 rfl) (m := 2) rfl) rfl) rfl ?_
    refine aF s77 t3 rfl rfl rfl (Rd.blk (ix 1 rfl) rfl) rfl rfl ?_
    refine At.call en44 rfl (path44 _ _ _ (by assumption)) (fun _ h => ⟨h.2.2.2.2.2.1, h.2.2.2.2.2.2.1, trivial⟩) (List.Perm.refl _) rfl ?_
    rintro _ _ _ ⟨us8, rs8, rfl, rfl, rfl, hus8, hrs8⟩
    refine aS 1 rfl rfl ?_
    refine aQ (q_extract rfl rfl) rfl ?_
    refine aQ (q_extract rfl rfl) rfl ?_
    refine aQ (q_extract rfl rfl) rfl ?_
    refine aS 3 rfl rfl ?_
    refine aN (aT (aE (aE (aR ?_))))
    refine aF s77 t3 rfl rfl rfl (Rd.blk (ix 3 rfl) rfl) rfl rfl ?_
    refine aS 1 rfl rfl ?_
    refine aN (aT ?_)
    refine At.if rfl (fun h4 => ?_) (fun h4 => ?_)
    ·
     refine aE (aR ?_)
     refine aS 1 rfl rfl ?_
     refine At.loud (l_buildSlice Try.underlying37 t3 rfl rfl rfl rfl rfl) rfl ?_
     rintro _ _ _ ⟨b4, rfl, rfl, rfl⟩
     refine At.freeze 0 (φ := intsP ⟨some ⟨b4, 0, none⟩, 1, [((findD t.p o.key).leaf : Int)]⟩) rfl (fun _ h => sl_of_block h rfl (by simp [rowI]) rfl (show (1 : Nat) ≤ maxLen from by decide)) ?_
     refine aS 1 rfl rfl ?_
     refine aN (aT (At.ret (At.thenRet ?_)))
     exact At.results (Γr := [_]) (M := []) rfl (RVals.cons (RVal.tmp rfl) RVals.nil) (ix 7 rfl) (fun _ h => ⟨h.1, trivial⟩) (d_ (d_ r_)) ⟨⟨some ⟨_, 0, none⟩, 1, [((findD t.p o.key).leaf : Int)]⟩, rfl, rfl, rfl, by rw [touch_one hmt hmo (by omega)]; rfl⟩
    ·
     refine At.skip (aT (aE (aE (aR ?_))))
     refine aF s77 t3 rfl rfl rfl (Rd.blk (ix 3 rfl) rfl) rfl rfl ?_
     refine aF s77 t3 rfl rfl rfl (Rd.blk (ix 3 rfl) rfl) rfl rfl ?_
     refine aS 1 rfl rfl ?_
     refine aN (aT ?_)
     refine At.if rfl (fun hhk => ?_) (fun hhk => ?_)
     ·
      refine aE (aR ?_)
      refine aS 1 rfl rfl ?_
      refine aN (aT (At.ret (At.thenRet ?_)))
      exact At.results (Γr := [_]) (M := []) rfl (RVals.cons (RVal.tmp rfl) RVals.nil) (ix 6 rfl) (fun _ h => ⟨h.2.2.2.2.2.1, trivial⟩) (d_ (d_ r_)) ⟨⟨none, 0, []⟩, rfl, rfl, rfl, by rw [touch_wrong (by omega) hhk]; rfl⟩
     ·
      refine At.skip (aT (aE (aR ?_)))
      refine aQ (q_loadS t24 rfl (RdS.blk (ix 4 rfl) (m := 2) rfl) rfl) rfl ?_
      refine aF s77 t3 rfl rfl rfl (Rd.blk (ix 3 rfl) rfl) rfl rfl ?_
      refine At.call en44 rfl (path44 _ _ _ (by assumption)) (fun _ h => ⟨h.2.2.2.2.2.2.2.1, h.2.2.2.2.2.2.2.2.1, trivial⟩) (List.Perm.refl _) rfl ?_
      rintro _ _ _ ⟨us9, rs9, rfl, rfl, rfl, hus9, hrs9⟩
      refine aS 1 rfl rfl ?_
      refine aQ (q_extract rfl rfl) rfl ?_
      refine aQ (q_extract rfl rfl) rfl ?_
      refine aQ (q_extract rfl rfl) rfl ?_
      refine aS 3 rfl rfl ?_
      refine aN (aT (aE (aR ?_)))
      refine aS 1 rfl rfl ?_
      refine aN (aT (aE (aR ?_)))
      refine aS 1 rfl rfl ?_
      refine aN (aT (aE (aE (aR ?_))))
      have hg := good_of hs
      have hsz : s.size ≤ 2000 := by have h1 := hg.size; have h2 := hg.few; omega
      have hab := findD_mono hs (show o.key ≤ o.hi by omega)
      rw [leavesT_eq hs] at hab
      have hlz := leaves_len s
      refine At.nilSeg ?_
      refine aQ (q_loadS t24 rfl (RdS.blk (ix 6 rfl) (m := 2) rfl) rfl) rfl ?_
      refine aF s24 t3 rfl rfl rfl (Rd.blk (ix 6 rfl) rfl) rfl rfl ?_
      refine At.call en79 rfl (leaves79 t s t.root hg.hangs [] none 0 [] (Own.nil _ _) (by simp; omega)) (fun _ h => ⟨h.2.2.2.2.2.2.2.2.2.1, h.2.2.2.2.2.2.2.2.2.2.1, trivial⟩) (List.Perm.refl _) rfl ?_
      rintro _ _ _ ⟨a1, c1, M1, rfl, rfl, rfl, hO⟩
      refine At.freezeOwn 0 (show Own 3 1 ((toI s.leaves).map rowI) a1 c1 M1 by simpa using hO) rfl ?_
      refine At.say 63 (.slice a1 (toI s.leaves).length c1) rfl (by simp) ?_
      refine At.nilSeg ?_
      refine aQ (q_len Try.underlying37 rfl) rfl ?_
      refine aS 1 rfl rfl ?_
      refine aN (aT (At.block ?_))
      refine At.say 14 (.bool (decide ((findD t.p o.key).leaf ∈ s.leaves.take 0))) rfl (by simp) ?_
      refine At.say 13 (.slice none (toI (gath s.leaves (findD t.p o.key).leaf 0)).length 0) rfl (by simp [gath, toI]) ?_
      refine At.loopK (ι := Nat × Option Addr × Nat × Seg) [13, 14, 16, 65, 66, 67, 68, 69, 70, 71, 72, 73, 74, 75, 76, 77, 78, 79, 80, 81, 82, 83] (fun ⟨k, a, c, M⟩ => [(65, .int .i64 (k : Int)), (14, .bool (decide ((findD t.p o.key).leaf ∈ s.leaves.take k))), (13, .slice a (toI (gath s.leaves (findD t.p o.key).leaf k)).length c)]) (fun ⟨k, a, c, M⟩ => []) (fun ⟨k, a, c, M⟩ => [M]) _ (fun ⟨k, a, c, M⟩ => k ≤ s.leaves.length ∧ Own 3 1 ((toI (gath s.leaves (findD t.p o.key).leaf k)).map rowI) a c M ∧ ∀ y ∈ s.leaves.take k, y ≠ (findD t.p o.hi).leaf) (fun ⟨k, a, c, M⟩ => s.leaves.length - k) (0, none, 0, []) ⟨Nat.zero_le _, by simp [gath, toI]; exact Own.nil _ _, by simp⟩ ⟨rfl, rfl, rfl, trivial⟩ (fun _ _ => trivial) (k_ r_) ?_
      intro i0 hI0
      obtain ⟨k, a, c, M⟩ := i0
      obtain ⟨hkl, hO, hno⟩ := hI0
      have hgl := gath_len s.leaves (findD t.p o.key).leaf k
      have hgl2 : (toI (gath s.leaves (findD t.p o.key).leaf k)).length ≤ k := by rw [toI_length]; exact hgl
      refine aE (aR ?_)
      refine aS 1 rfl rfl ?_
      refine aN (aT (aE ?_))
      refine At.if rfl (fun hk => ?_) (fun hk => ?_)
      ·
       obtain ⟨i, hi⟩ := get_of_lt (l := s.leaves) (i := k) (by rw [toI_length] at hk; omega)
       have hui : (toI s.leaves)[k]? = some (i : Int) := toI_get hi
       have hk1 := lt_of_get hi
       refine At.skip (aT (aE (At.block (aE (aR ?_)))))
       refine aQ (q_index Try.underlying37 t3 rfl (.head _) (by simp) rfl rfl (lt_of_get hui)) rfl ?_
       refine aQ (q_load t3 rfl (Rd.sl0 (.head _) (map_get hui) rfl)) rfl ?_
       refine aS 1 rfl rfl ?_
       refine aN (aT (aE (aR ?_)))
       refine aS 2 rfl rfl ?_
       refine At.split (d := 70) rfl (fun hon => ?_) (fun hon => ?_)
       ·
        have hon2 : (findD t.p o.key).leaf ∈ s.leaves.take k := of_decide_eq_true hon
        refine aS 5 rfl rfl ?_
        refine aN (aT (aE (aE (aR ?_))))
        refine aS 1 rfl rfl ?_
        refine aN (aT ?_)
        refine At.condT rfl ?_
        refine aR ?_
        refine aS 2 rfl rfl ?_
        refine At.loud (l_buildSlice Try.underlying37 t3 rfl rfl rfl rfl rfl) rfl ?_
        rintro _ _ _ ⟨b5, rfl, rfl, rfl⟩
        refine At.loud (l_append rfl Try.underlying37 t3 rfl rfl hO (by simp) (i := 1) rfl rfl (news := [rowI (i : Int)]) (by simp [rowI]) (RdS.loc (i := 0) rfl (m := 1) rfl) rfl rfl rfl (by omega) (by unfold maxLen; omega)) rfl ?_
        rintro _ _ _ ⟨a2, c2, M2, rfl, ow, rfl, rfl⟩
        refine aS 1 rfl rfl ?_
        refine aN (aT (aE (aR ?_)))
        have hO2 : Own 3 1 ((toI (gath s.leaves (findD t.p o.key).leaf (k + 1))).map rowI) a2 c2 M2 := by rw [gath_yes hi hfa (.inl hon2)]; simpa using ow
        refine aS 3 rfl rfl ?_
        refine aN (aT ?_)
        refine At.if rfl (fun hxb => ?_) (fun hxb => ?_)
        ·
         have hkb : k = ixL s.leaves (findD t.p o.hi).leaf := at_ix (b := (findD t.p o.hi).leaf) (by rw [hi]; exact congrArg some (by omega)) hno
         refine At.exit (At.inOther rfl (At.thenExit (At.thenExit (At.inHere rfl (aT (aE (aR ?_)))))))
         refine At.freezeOwn 1 hO2 rfl ?_
         refine aS 2 rfl rfl ?_
         refine aN (aT (At.ret ?_))
         exact At.results (Γr := [intsP ⟨a2, c2, toI (gath s.leaves (findD t.p o.key).leaf (k + 1))⟩]) (M := []) rfl (RVals.cons (RVal.tmp rfl) RVals.nil) (ix 10 rfl) (fun _ h => ⟨h.1, trivial⟩) (d_ (d_ (d_ r_))) ⟨⟨a2, c2, toI (gath s.leaves (findD t.p o.key).leaf (k + 1))⟩, by simp only [Sl.val, resVal]; rw [gath_yes hi hfa (.inl hon2)]; simp, rfl, rfl, by rw [touch_many hmt hmo (by omega) (by omega) hhk, leavesT_eq hs, ← gath_done hfa hab, ← hkb]⟩
        ·
         refine At.skip (At.inNormal (aT (aR ?_)))
         refine aQ (q_add rfl rfl (by omega) (by omega)) rfl ?_
         refine aS 1 rfl rfl ?_
         refine aN ?_
         refine At.say 14 (.bool (decide ((findD t.p o.key).leaf ∈ s.leaves.take (k + 1)))) rfl (congrArg Value.bool (by rw [take_mem_step hi]; simp [hon2])) ?_
         refine At.say 13 (.slice a2 (toI (gath s.leaves (findD t.p o.key).leaf (k + 1))).length c2) rfl (by rw [gath_yes hi hfa (.inl hon2)]; simp) ?_
         refine At.front 1 rfl ?_
         refine aT ?_
         exact At.againK (k + 1, a2, c2, M2) ⟨lt_of_get hi, hO2, no_step hi (show i ≠ (findD t.p o.hi).leaf by omega) hno⟩ (by (try dsimp only); omega) (Tells.end 28 ⟨rfl, rfl, rfl, trivial⟩ rfl rfl) (fun _ h => h) (k_ (d_ r_))
       ·
        have hon2 : (findD t.p o.key).leaf ∉ s.leaves.take k := of_decide_eq_false hon
        refine aS 5 rfl rfl ?_
        refine aN (aT (aE (aE (aR ?_))))
        refine aS 1 rfl rfl ?_
        refine aN (aT ?_)
        refine At.if rfl (fun hxa => ?_) (fun hxa => ?_)
        ·
         have hxa2 : i = (findD t.p o.key).leaf := by omega
         refine aR ?_
         refine aS 2 rfl rfl ?_
         refine At.loud (l_buildSlice Try.underlying37 t3 rfl rfl rfl rfl rfl) rfl ?_
         rintro _ _ _ ⟨b6, rfl, rfl, rfl⟩
         refine At.loud (l_append rfl Try.underlying37 t3 rfl rfl hO (by simp) (i := 1) rfl rfl (news := [rowI (i : Int)]) (by simp [rowI]) (RdS.loc (i := 0) rfl (m := 1) rfl) rfl rfl rfl (by omega) (by unfold maxLen; omega)) rfl ?_
         rintro _ _ _ ⟨a2, c2, M2, rfl, ow, rfl, rfl⟩
         refine aS 1 rfl rfl ?_
         refine aN (aT (aE (aR ?_)))
         have hO2 : Own 3 1 ((toI (gath s.leaves (findD t.p o.key).leaf (k + 1))).map rowI) a2 c2 M2 := by rw [gath_yes hi hfa (.inr hxa2)]; simpa using ow
         refine aS 3 rfl rfl ?_
         refine aN (aT ?_)
         refine At.if rfl (fun hxb => ?_) (fun hxb => ?_)
         ·
          have hkb : k = ixL s.leaves (findD t.p o.hi).leaf := at_ix (b := (findD t.p o.hi).leaf) (by rw [hi]; exact congrArg some (by omega)) hno
          refine At.exit (At.inOther rfl (At.thenExit (At.thenExit (At.inHere rfl (aT (aE (aR ?_)))))))
          refine At.freezeOwn 1 hO2 rfl ?_
          refine aS 2 rfl rfl ?_
          refine aN (aT (At.ret ?_))
          exact At.results (Γr := [intsP ⟨a2, c2, toI (gath s.leaves (findD t.p o.key).leaf (k + 1))⟩]) (M := []) rfl (RVals.cons (RVal.tmp rfl) RVals.nil) (ix 10 rfl) (fun _ h => ⟨h.1, trivial⟩) (d_ (d_ (d_ r_))) ⟨⟨a2, c2, toI (gath s.leaves (findD t.p o.key).leaf (k + 1))⟩, by simp only [Sl.val, resVal]; rw [gath_yes hi hfa (.inr hxa2)]; simp, rfl, rfl, by rw [touch_many hmt hmo (by omega) (by omega) hhk, leavesT_eq hs, ← gath_done hfa hab, ← hkb]⟩
         ·
          refine At.skip (At.inNormal (aT (aR ?_)))
          refine aQ (q_add rfl rfl (by omega) (by omega)) rfl ?_
          refine aS 1 rfl rfl ?_
          refine aN ?_
          refine At.say 14 (.bool (decide ((findD t.p o.key).leaf ∈ s.leaves.take (k + 1)))) rfl (congrArg Value.bool (by rw [take_mem_step hi]; simp [hxa2])) ?_
          refine At.say 13 (.slice a2 (toI (gath s.leaves (findD t.p o.key).leaf (k + 1))).length c2) rfl (by rw [gath_yes hi hfa (.inr hxa2)]; simp) ?_
          refine At.front 1 rfl ?_
          refine aT ?_
          exact At.againK (k + 1, a2, c2, M2) ⟨lt_of_get hi, hO2, no_step hi (show i ≠ (findD t.p o.hi).leaf by omega) hno⟩ (by (try dsimp only); omega) (Tells.end 28 ⟨rfl, rfl, rfl, trivial⟩ rfl rfl) (fun _ h => h) (k_ (d_ r_))
        ·
         refine At.skip (aT (aE (aR ?_)))
         refine aS 3 rfl rfl ?_
         refine aN (aT ?_)
         refine At.if rfl (fun hxb => ?_) (fun hxb => ?_)
         ·
          have hkb : k = ixL s.leaves (findD t.p o.hi).leaf := at_ix (b := (findD t.p o.hi).leaf) (by rw [hi]; exact congrArg some (by omega)) hno
          exact absurd (not_in hfa hkb hab (lt_of_get hi)) (gath_no hi hfa hon2 (show i ≠ (findD t.p o.key).leaf by omega)).2
          skip
         ·
          refine At.skip (At.inNormal (aT (aR ?_)))
          refine aQ (q_add rfl rfl (by omega) (by omega)) rfl ?_
          refine aS 1 rfl rfl ?_
          refine aN ?_
          refine At.say 14 (.bool (decide ((findD t.p o.key).leaf ∈ s.leaves.take (k + 1)))) rfl (congrArg Value.bool (by rw [decide_eq_false (gath_no hi hfa hon2 (show i ≠ (findD t.p o.key).leaf by omega)).2]; exact decide_eq_false (by omega))) ?_
          refine At.say 13 (.slice a (toI (gath s.leaves (findD t.p o.key).leaf (k + 1))).length c) rfl (by rw [(gath_no hi hfa hon2 (show i ≠ (findD t.p o.key).leaf by omega)).1]) ?_
          refine aT ?_
          exact At.againK (k + 1, a, c, M) ⟨lt_of_get hi, by rw [(gath_no hi hfa hon2 (show i ≠ (findD t.p o.key).leaf by omega)).1]; exact hO, no_step hi (show i ≠ (findD t.p o.hi).leaf by omega) hno⟩ (by (try dsimp only); omega) (Tells.end 23 ⟨rfl, rfl, rfl, trivial⟩ rfl rfl) (fun _ h => h) (k_ r_)
      ·
       exact (no_end (by rw [toI_length] at hk; omega) hfb hno).elim
       skip
end Go.Proofs.Ytmkodknmknfdkaa
set_option linter.unusedVariables false
set_option linter.unusedSimpArgs false
namespace Go.Proofs.Ytmkodknmknfdkaa
open E
theorem with_left {A B : List Pr} {p : Pr} (hB : ∀ b ∈ B, p.k < b.k) : withT (A ++ B) p = withT A p ++ B := by
 induction A with
 | nil =>
  cases B with
  | nil => simp
  | cons b B =>
   have hb := hB b (by simp)
   have hf : (B.filter fun x => decide (x.k ≠ p.k)) = B := List.filter_eq_self.2 fun x hx => decide_eq_true (by have := hB x (by simp [hx]); omega)
   show withGo p (b :: B) false = withGo p [] false ++ (b :: B)
   simp only [withGo, Bool.not_false, Bool.true_and, decide_eq_true (show p.k ≤ b.k by omega), if_true, Bool.false_or, withGo_done, hf, if_neg (show ¬ b.k = p.k by omega)]
   rfl
 | cons a A ih =>
  unfold withT at ih ⊢
  simp only [List.cons_append, withGo, Bool.not_false, Bool.true_and, Bool.false_or]
  by_cases h : p.k ≤ a.k
  ·have hf : (B.filter fun x => decide (x.k ≠ p.k)) = B := List.filter_eq_self.2 fun x hx => decide_eq_true (by have := hB x hx; omega)
   simp only [decide_eq_true h, withGo_done, List.filter_append, hf, List.append_assoc]
  ·simp only [decide_eq_false h, ih, List.append_assoc]
theorem with_right {A B : List Pr} {p : Pr} (hA : ∀ a ∈ A, a.k < p.k) : withT (A ++ B) p = A ++ withT B p := by
 induction A with
 | nil => rfl
 | cons a A ih =>
  rw [List.cons_append, with_skip (hA a (by simp)), ih fun x hx => hA x (by simp [hx])]
  rfl
theorem with_mid {A B C : List Pr} {p : Pr} (hA : ∀ a ∈ A, a.k < p.k) (hB : ∀ b ∈ B, p.k < b.k) : withT (A ++ (C ++ B)) p = A ++ (withT C p ++ B) := by
 rw [with_right hA, with_left hB]
theorem without_mid {A B C : List Pr} {k : Int} (hA : ∀ a ∈ A, a.k < k) (hB : ∀ b ∈ B, k < b.k) : without (A ++ (C ++ B)) k = A ++ (without C k ++ B) := by
 unfold without
 rw [List.filter_append, List.filter_append]
 congr 1
 ·exact List.filter_eq_self.2 fun x hx => by have := hA x hx; rw [isK, decide_eq_false (by omega)]; rfl
 ·congr 1
  exact List.filter_eq_self.2 fun x hx => by have := hB x hx; rw [isK, decide_eq_false (by omega)]; rfl
theorem hit_mid {A B C : List Pr} {k : Int} (hA : ∀ a ∈ A, a.k < k) (hB : ∀ b ∈ B, k < b.k) : hit (A ++ (C ++ B)) k = hit C k := by
 unfold hit
 rw [List.find?_append, List.find?_append, find_no fun y hy => by have := hA y hy; exact decide_eq_false (by omega), find_no (l := B) fun y hy => by have := hB y hy; exact decide_eq_false (by omega)]
 simp
theorem do_upd {l : List Pr} {o : OpS} (hr : rises l = true) (hm : mayO o = true) (hu : updO o = true) : doT l o = (if o.kind = 1 then withT l ⟨o.key, o.v⟩ else if o.kind = 2 then (if (hit l o.key).ok then l else withT l ⟨o.key, o.v⟩) else without l o.key, hit l o.key) := by
 rw [do_yes hr hm]
 simp only [updO, Bool.or_eq_true, decide_eq_true_eq] at hu
 rcases hu with h | h | h
 ·simp [h]
 ·simp [h]
 ·simp [h]
theorem do_read {l : List Pr} {o : OpS} (hu : updO o = false) : (doT l o).1 = l := by
 simp only [updO, Bool.or_eq_false_iff, decide_eq_false_iff_not] at hu
 obtain ⟨h1, h2, h3⟩ := hu
 unfold doT
 rw [if_neg h1, if_neg h2, if_neg h3]
 repeat' split
 all_goals rfl
theorem do_mid {A B C : List Pr} {o : OpS} (hr : rises (A ++ (C ++ B)) = true) (hrC : rises C = true) (hm : mayO o = true) (hu : updO o = true) (hA : ∀ a ∈ A, a.k < o.key) (hB : ∀ b ∈ B, o.key < b.k) :
  (doT (A ++ (C ++ B)) o).1 = A ++ ((doT C o).1 ++ B) ∧ (doT (A ++ (C ++ B)) o).2 = (doT C o).2 := by
 rw [do_upd hr hm hu, do_upd hrC hm hu, hit_mid hA hB, with_mid (p := ⟨o.key, o.v⟩) hA hB, without_mid hA hB]
 refine ⟨?_, rfl⟩
 simp only []
 repeat' split
 all_goals rfl
theorem do_rises {l : List Pr} {o : OpS} (hr : rises l = true) : rises (doT l o).1 = true := by
 unfold doT
 have hw := rises_pw.2 (with_pw (p := ⟨o.key, o.v⟩) (rises_pw.1 hr))
 have hc : rises (without l o.key) = true := rises_pw.2 ((rises_pw.1 hr).filter _)
 repeat' split
 all_goals first | exact hr | exact hw | exact hc | skip
 all_goals (simp only []; split <;> assumption)
theorem do_keys {l : List Pr} {o : OpS} {x : Pr} (hx : x ∈ (doT l o).1) : x.k = o.key ∨ x ∈ l := by
 have hw : ∀ x ∈ withT l ⟨o.key, o.v⟩, x.k = o.key ∨ x ∈ l := fun x hx => by
  rcases mem_with.1 hx with rfl | ⟨h, _⟩
  ·exact .inl rfl
  ·exact .inr h
 have hc : ∀ x ∈ without l o.key, x.k = o.key ∨ x ∈ l := fun x hx => .inr (List.mem_filter.1 hx).1
 have key : ∀ q, (doT l o).1 = q → (q = withT l ⟨o.key, o.v⟩ ∨ q = without l o.key ∨ q = l) := by
  intro q hq
  subst hq
  unfold doT
  repeat' split
  all_goals first | exact .inl rfl | exact .inr (.inl rfl) | exact .inr (.inr rfl) | skip
  all_goals (simp only []; split <;> first | exact .inl rfl | exact .inr (.inr rfl))
 rcases key _ rfl with e | e | e
 ·rw [e] at hx; exact hw x hx
 ·rw [e] at hx; exact hc x hx
 ·rw [e] at hx; exact .inr hx
/-- Pairs whose keys rise, put into a map one by one. -/
theorem put_all {l : List Pr} (h : rises l = true) : putAll [] l = l := by
 have hp := rises_pw.1 h
 have : ∀ (l m : List Pr), (m ++ l).Pairwise (fun a b => a.k < b.k) → putAll m l = m ++ l := by
  intro l
  induction l with
  | nil => intro m _; simp [putAll]
  | cons x l ih =>
   intro m hm
   have hm2 : (m ++ [x] ++ l).Pairwise (fun a b => a.k < b.k) := by simpa using hm
   have hmm : m.Pairwise (fun a b => a.k < b.k) := (List.pairwise_append.1 hm).1
   have hlt : ∀ a ∈ m, a.k < x.k := fun a ha => (List.pairwise_append.1 hm).2.2 a ha x (by simp)
   have e : (doT m ⟨1, x.k, 0, x.v⟩).1 = m ++ [x] := by
    rw [do_yes (rises_pw.2 hmm) rfl, if_pos rfl]
    have := with_right (A := m) (B := []) (p := ⟨x.k, x.v⟩) hlt
    rw [List.append_nil] at this
    exact this
   show putAll (doT m ⟨1, x.k, 0, x.v⟩).1 l = _
   rw [e, ih _ hm2]
   simp
 exact this l [] hp
def flatS (ns : List Nod) (s : Sh) : List Pr := s.leaves.flatMap fun i => (ns.getD i default).l
theorem flat_out {ns : List Nod} {s : Sh} {i : Nat} {n : Nod} (h : i ∉ s.leaves) : flatS (ns.set i n) s = flatS ns s := flat_congr fun p hp => by
 rw [List.getD_eq_getElem?_getD, List.getD_eq_getElem?_getD, List.getElem?_set_ne (fun e => h (by rw [e]; exact hp))]
theorem flat_mid {ns : List Nod} {s : Sh} {a : Int} {k : Kb} (key : Int) (h : Fits ns s a k) (hn : s.places.Nodup) : ∃ A B : List Pr, flatS ns s = A ++ ((ns.getD (s.find ns key).leaf default).l ++ B) ∧ (∀ x ∈ A, x.k < key) ∧ (∀ x ∈ B, key < x.k) ∧
  ∀ n', flatS (ns.set (s.find ns key).leaf n') s = A ++ (n'.l ++ B) := by
 induction s generalizing a k with
 | leaf i =>
  refine ⟨[], [], by simp [flatS, Sh.leaves, Sh.find], by simp, by simp, fun n' => ?_⟩
  obtain ⟨_, x, hx, _⟩ := h
  have e : (ns.set i n').getD i default = n' := getD_of (List.getElem?_set_self (lt_of_get hx))
  simp only [flatS, Sh.leaves, Sh.find, List.flatMap_cons, List.flatMap_nil, e, List.nil_append]
 | node i l r h1 h2 =>
  obtain ⟨rfl, x, hx, hxr, hk, hl, hr⟩ := h
  obtain ⟨c1, c2, d1, d2, d3⟩ := nodup_node hn
  obtain ⟨_, _, hh, _⟩ := routeOk_parts hk
  have bl := (fits_rise hl).2
  have br := (fits_rise hr).2
  have hfl : ∀ ns', flatS ns' (Sh.node i l r) = flatS ns' l ++ flatS ns' r := fun ns' => by simp [flatS, Sh.leaves]
  simp only [Sh.find, getD_of hx]
  by_cases hlt : key < x.key
  ·rw [if_pos hlt]
   obtain ⟨A, B, e1, e2, e3, e4⟩ := h1 hl d1
   refine ⟨A, B ++ flatS ns r, ?_, e2, fun y hy => ?_, fun n' => ?_⟩
   ·rw [hfl, e1]; simp
   ·rcases List.mem_append.1 hy with hy | hy
    ·exact e3 y hy
    ·have h9 := ((has_rights hh).1 (br y hy)).2; omega
   ·rw [hfl]
    show flatS (ns.set (l.find ns key).leaf n') l ++ flatS (ns.set (l.find ns key).leaf n') r = _
    rw [e4, flat_out fun h9 => d3 _ (leaves_places _ find_leaf) (leaves_places _ h9)]
    simp
  ·rw [if_neg hlt]
   obtain ⟨A, B, e1, e2, e3, e4⟩ := h2 hr d2
   refine ⟨flatS ns l ++ A, B, ?_, fun y hy => ?_, e3, fun n' => ?_⟩
   ·rw [hfl, e1]; simp
   ·rcases List.mem_append.1 hy with hy | hy
    ·have h9 := ((has_lefts hh).1 (bl y hy)).2; omega
    ·exact e2 y hy
   ·rw [hfl]
    show flatS (ns.set (r.find ns key).leaf n') l ++ flatS (ns.set (r.find ns key).leaf n') r = _
    rw [e4, flat_out fun h9 => d3 _ (leaves_places _ h9) (leaves_places _ find_leaf)]
    simp
def updT (t : PT) (p : Pol) (o : OpS) : PT := (bendT (setD t ((findD t o.key).leaf : Int) (doT (t.ns.getD (findD t o.key).leaf default).l o).1 (nextS p (t.ns.getD (findD t o.key).leaf default).stat 2)) p ((findD t o.key).leaf : Int)).1
def setSt (p : Pol) (t : PT) (a : Nat) : PT := setD t (a : Int) (t.ns.getD a default).l (nextS p (t.ns.getD a default).stat 3)
def sevT (t : PT) (p : Pol) (l : List Nat) : PT := (bendT (l.foldl (setSt p) t) p ((l.headD 0 : Nat) : Int)).1
def treeT (t : PT) (p : Pol) (o : OpS) : PT := if updO o then updT t p o else if 1 < (touchT t o).length then sevT t p (touchT t o) else t
def soloT (t : PT) (p : Pol) (o : OpS) : PT × An :=
 if (mayT t).isSome then (if mayO o then (treeT (plainD t) p o, (doT (allT t) o).2) else (plainD t, .bad)) else (⟨0, []⟩, .bad)
theorem next_bd (p : Pol) (s w : Int) : -1000000 ≤ nextS p s w ∧ nextS p s w ≤ 1000000 := heldS_bd _
theorem upd_set {t : PT} {s : Sh} {o : OpS} {i : Nat} {n : Nod} {st : Int} (hs : mayT t = some s) (hm : mayO o = true) (hu : updO o = true) (hi : i = (findD t o.key).leaf) (hn : t.ns[i]? = some n) (h1 : -1000000 ≤ st) (h2 : st ≤ 1000000) :
  setT t (i : Int) (doT n.l o).1 st = some ⟨t.root, t.ns.set i { n with l := (doT n.l o).1, stat := st }⟩ ∧ mayT ⟨t.root, t.ns.set i { n with l := (doT n.l o).1, stat := st }⟩ = some s ∧
  leavesT ⟨t.root, t.ns.set i { n with l := (doT n.l o).1, stat := st }⟩ = leavesT t ∧ allT ⟨t.root, t.ns.set i { n with l := (doT n.l o).1, stat := st }⟩ = (doT (allT t) o).1 ∧ (doT (allT t) o).2 = (doT n.l o).2 ∧ n.route = false ∧ i ∈ leavesT t := by
 have hi0 : i ∈ leavesT t := by rw [hi]; exact find_mem hs o.key
 have hi1 := hi0
 rw [leavesT_eq hs] at hi1
 obtain ⟨m, hmn, hr, hok⟩ := fits_leaf (may_fits hs) (good_of hs).nodup hi1
 rw [hn] at hmn
 cases hmn
 obtain ⟨a1, a2, a3, a4, a5, a6, a7⟩ := leafOk_parts.1 hok
 have hk : (s.bd t.ns Kb.all i).has o.key = true := (find_iff (may_fits hs) (good_of hs).nodup hi1 rfl).1 (by rw [hi, findD_eq hs])
 have hok2 : leafOk { n with l := (doT n.l o).1, stat := st } (s.bd t.ns Kb.all i) = true := leafOk_parts.2 ⟨a1, a2, a3, do_rises a4, h1, h2, fun x hx => by
  rcases do_keys hx with e | e
  ·rw [e]; exact hk
  ·exact a7 x e⟩
 have hms : mayT ⟨t.root, t.ns.set i { n with l := (doT n.l o).1, stat := st }⟩ = some s := by
  rw [may_set (n' := { n with l := (doT n.l o).1, stat := st }) hs hi0 hr, hok2]; rfl
 obtain ⟨A, B, e1, e2, e3, e4⟩ := flat_mid o.key (may_fits hs) (good_of hs).nodup
 have hfi : (s.find t.ns o.key).leaf = i := by rw [hi, findD_eq hs]
 rw [hfi] at e1 e4
 rw [getD_of hn] at e1
 have hall : allT t = A ++ (n.l ++ B) := by rw [← e1]; simp only [allT, leavesT_eq hs, flatS]
 have hall2 : allT ⟨t.root, t.ns.set i { n with l := (doT n.l o).1, stat := st }⟩ = A ++ ((doT n.l o).1 ++ B) := by rw [← e4 { n with l := (doT n.l o).1, stat := st }]; simp only [allT, leavesT_eq hms, flatS]
 have hrs := all_rise t
 rw [hall] at hrs
 obtain ⟨q1, q2⟩ := do_mid hrs a4 hm hu e2 e3
 exact ⟨by rw [setT_leaf hs hi0 hn, hok2]; rfl, hms, by rw [leavesT_eq hms, leavesT_eq hs], by rw [hall2, hall, q1], by rw [hall, q2], hr, hi0⟩
theorem sev_step {t : PT} {s : Sh} {p : Pol} {a : Nat} (hs : mayT t = some s) (ha : a ∈ leavesT t) : ∃ n, t.ns[a]? = some n ∧ n.route = false ∧ setT t (a : Int) n.l (nextS p n.stat 3) = some (setSt p t a) ∧ setSt p t a = ⟨t.root, t.ns.set a { n with stat := nextS p n.stat 3 }⟩ ∧ mayT (setSt p t a) = some s ∧ leavesT (setSt p t a) = leavesT t ∧ allT (setSt p t a) = allT t := by
 have ha1 := ha
 rw [leavesT_eq hs] at ha1
 obtain ⟨n, hn, hr, _⟩ := fits_leaf (may_fits hs) (good_of hs).nodup ha1
 obtain ⟨h1, h2, h3, h4⟩ := set_stat hs ha hn (next_bd p n.stat 3).1 (next_bd p n.stat 3).2
 have e : setSt p t a = ⟨t.root, t.ns.set a { n with l := n.l, stat := nextS p n.stat 3 }⟩ := by
  unfold setSt setD
  rw [getD_of hn, h1]; rfl
 exact ⟨n, hn, hr, by rw [e, h1], e, by rw [e]; exact h2, by rw [e]; exact h3, by rw [e]; exact h4⟩
theorem sev_fold {t : PT} {s : Sh} {p : Pol} {l : List Nat} (hs : mayT t = some s) (hl : ∀ a ∈ l, a ∈ leavesT t) : mayT (l.foldl (setSt p) t) = some s ∧ leavesT (l.foldl (setSt p) t) = leavesT t ∧ allT (l.foldl (setSt p) t) = allT t := by
 induction l generalizing t with
 | nil => exact ⟨hs, rfl, rfl⟩
 | cons a l ih =>
  obtain ⟨n, _, _, _, _, h1, h2, h3⟩ := sev_step (p := p) hs (hl a (by simp))
  obtain ⟨k1, k2, k3⟩ := ih h1 fun b hb => by rw [h2]; exact hl b (by simp [hb])
  exact ⟨k1, k2.trans h2, k3.trans h3⟩
theorem touch_sub {t : PT} {o : OpS} {s : Sh} (hs : mayT t = some s) : ∀ a ∈ touchT t o, a ∈ leavesT t := fun a ha => by
 unfold touchT at ha
 split at ha
 ·split at ha
  ·rw [List.mem_singleton.1 ha]; exact find_mem hs _
  ·split at ha
   ·cases ha
   ·exact List.mem_of_mem_take (List.mem_of_mem_drop ha)
 ·cases ha
theorem sev_keeps {t : PT} {s : Sh} {p : Pol} {l : List Nat} (hs : mayT t = some s) (hl : ∀ a ∈ l, a ∈ leavesT t) (h0 : l ≠ []) : (mayT (sevT t p l)).isSome = true ∧ allT (sevT t p l) = allT t := by
 obtain ⟨h1, h2, h3⟩ := sev_fold (p := p) hs hl
 have hm : l.headD 0 ∈ leavesT (l.foldl (setSt p) t) := by
  rw [h2]
  cases l with
  | nil => exact absurd rfl h0
  | cons a l => exact hl a (by simp)
 obtain ⟨n, hn⟩ := get_of_lt (leavesT_lt hm)
 obtain ⟨k1, _, k3⟩ := bend_keeps (p := p) h1 hm hn
 exact ⟨k1, k3.trans h3⟩
theorem upd_keeps {t : PT} {s : Sh} {p : Pol} {o : OpS} (hs : mayT t = some s) (hm : mayO o = true) (hu : updO o = true) : (mayT (updT t p o)).isSome = true ∧ allT (updT t p o) = (doT (allT t) o).1 := by
 obtain ⟨n, hn⟩ := get_of_lt (find_lt hs o.key)
 obtain ⟨h1, h2, h3, h4, h5, h6, h7⟩ := upd_set (st := nextS p n.stat 2) hs hm hu rfl hn (next_bd p n.stat 2).1 (next_bd p n.stat 2).2
 unfold updT setD
 rw [getD_of hn, h1]
 have e : (⟨t.root, t.ns.set (findD t o.key).leaf { n with l := (doT n.l o).1, stat := nextS p n.stat 2 }⟩ : PT).ns[(findD t o.key).leaf]? = some { n with l := (doT n.l o).1, stat := nextS p n.stat 2 } := List.getElem?_set_self (lt_of_get hn)
 obtain ⟨k1, _, k3⟩ := bend_keeps (p := p) h2 (by rw [h3]; exact h7) e
 exact ⟨k1, k3.trans h4⟩
theorem tree_keeps {t : PT} {s : Sh} {p : Pol} {o : OpS} (hs : mayT t = some s) (hm : mayO o = true) : (mayT (treeT t p o)).isSome = true ∧ allT (treeT t p o) = (doT (allT t) o).1 := by
 unfold treeT
 split
 ·exact upd_keeps hs hm (by assumption)
 ·rename_i hu
  have hr := do_read (l := allT t) (o := o) (by simpa using hu)
  split
  ·rename_i h1
   obtain ⟨k1, k2⟩ := sev_keeps (p := p) hs (touch_sub hs) (fun e => by rw [e] at h1; simp at h1)
   exact ⟨k1, by rw [k2, hr]⟩
  ·exact ⟨by rw [hs]; rfl, hr.symm⟩
/-- What a call leaves, and tells. -/
theorem solo_keeps {t : PT} {p : Pol} {o : OpS} (h : (mayT t).isSome = true) : (mayT (soloT t p o).1).isSome = true ∧ allT (soloT t p o).1 = (doT (allT t) o).1 ∧ (soloT t p o).2 = (doT (allT t) o).2 := by
 obtain ⟨p1, _, p3, _⟩ := plain_keeps h
 obtain ⟨s, hs⟩ := Option.isSome_iff_exists.1 p1
 unfold soloT
 rw [if_pos h]
 cases hm : mayO o
 ·rw [if_neg (by simp)]
  have e := do_no (l := allT t) (o := o) (.inr hm)
  exact ⟨p1, by rw [e, p3], by rw [e]⟩
 ·rw [if_pos rfl]
  obtain ⟨k1, k2⟩ := tree_keeps (p := p) hs hm
  exact ⟨k1, by rw [k2, p3], rfl⟩
theorem solo_no {t : PT} {p : Pol} {o : OpS} (h : (mayT t).isSome = false) : soloT t p o = (⟨0, []⟩, .bad) := by
 unfold soloT
 rw [if_neg (by simp [h])]
end Go.Proofs.Ytmkodknmknfdkaa
set_option linter.unusedVariables false
set_option linter.unusedSimpArgs false
namespace Go.Proofs.Ytmkodknmknfdkaa
open E
def TreeEnd (X : PT) (v : Value) (Γ : List SProp) (M : E.Loc) : Prop := ∃ u : Tr, v = u.val ∧ Γ = [ndsP u.ns, psP u.ns.l] ∧ M = [] ∧ u.p = X
theorem leaf_le {t : Tr} {s : Sh} {i : Nat} {x : Nd} (hs : mayT t.p = some s) (hm : (mayT t.p).isSome = true) (hx : t.ns.l[i]? = some x) : x.ps.l.length ≤ (allT t.p).length := by
 have h1 := all_pairs hs
 have h2 : x.p ∈ t.p.ns := List.mem_map.2 ⟨x, List.mem_of_getElem? hx, rfl⟩
 have h3 : x.p.l.length ≤ (t.p.ns.map fun n => n.l.length).sum := le_sum (List.mem_map.2 ⟨x.p, h2, rfl⟩)
 have h4 : x.p.l.length = x.ps.l.length := rfl
 rw [h1]
 simp only [pairsUpto] at *
 rw [List.take_of_length_le (by simp)]
 omega
structure AnS where
 err : Int
 ok : Bool
 p : Pr
 n : Int
 ps : Sl Pr
def AnS.a (a : AnS) : An := ⟨a.err, a.ok, a.p, a.n, a.ps.l⟩
def AnS.of (a : An) (s : Sl Pr) : AnS := ⟨a.err, a.ok, a.p, a.n, s⟩
theorem AnS.of_a {a : An} {s : Sl Pr} (h : s.l = a.l) : (AnS.of a s).a = a := by simp [AnS.of, AnS.a, h]
def rowA (a : AnS) : List Value := [.int .i64 a.err, .bool a.ok, .int .i64 a.p.k, .int .i64 a.p.v, .int .i64 a.n, a.ps.val]
def rowO (o : OpS) : List Value := [.int .i64 o.kind, .int .i64 o.key, .int .i64 o.hi, .int .i64 o.v]
def opsP (s : Sl OpS) : SProp := sl s.a s.c 4 (s.l.map rowO)
def ansP (s : Sl AnS) : SProp := sl s.a s.c 6 (s.l.map rowA)
def apsP (l : List AnS) : SProp := ⟨fun H => ∀ n ∈ l, (prsP n.ps).holds H, fun _ _ h k n hn => (prsP n.ps).mono _ _ h (k n hn)⟩
theorem apsP_nil {H : Hp} : (apsP []).holds H := fun n hn => by cases hn
theorem apsP_snoc {H : Hp} {l : List AnS} {n : AnS} (h : (apsP l).holds H) (hn : (prsP n.ps).holds H) : (apsP (l ++ [n])).holds H := fun m hm => by
 rcases List.mem_append.1 hm with h' | h'
 ·exact h m h'
 ·rw [List.mem_singleton.1 h']; exact hn
theorem apsP_get {H : Hp} {l : List AnS} {i : Nat} {n : AnS} (h : (apsP l).holds H) (hn : l[i]? = some n) : (prsP n.ps).holds H := h n (List.mem_of_getElem? hn)
def SoloEnd (t : PT) (p : Pol) (o : OpS) (v : Value) (Γ : List SProp) (M : E.Loc) : Prop := ∃ (u : Tr) (s2 : Sl Pr), v = .tuple #[u.val, (soloT t p o).2.val s2] ∧ Γ = [ndsP u.ns, psP u.ns.l, prsP s2] ∧ M = [] ∧ u.p = (soloT t p o).1 ∧ s2.l = (soloT t p o).2.l
def run2 (p : Pol) (t : PT) (l : List OpS) : PT × List An := l.foldl (fun q o => ((soloT q.1 p o).1, q.2 ++ [(soloT q.1 p o).2])) (t, [])
def runT (t : PT) (p : Pol) (l : List OpS) : PT × List An := if (mayT t).isSome then run2 p (plainD t) l else (⟨0, []⟩, [])
theorem run_step {p : Pol} {t : PT} {l : List OpS} {k : Nat} {o : OpS} (h : l[k]? = some o) : run2 p t (l.take (k + 1)) = ((soloT (run2 p t (l.take k)).1 p o).1, (run2 p t (l.take k)).2 ++ [(soloT (run2 p t (l.take k)).1 p o).2]) := by
 unfold run2
 rw [List.take_succ_eq_append_getElem (lt_of_get h), List.foldl_append, (List.getElem?_eq_some_iff.1 h).2]
 rfl
theorem run_keeps {p : Pol} {t : PT} {l : List OpS} (h : (mayT t).isSome = true) (k : Nat) : (mayT (run2 p t (l.take k)).1).isSome = true ∧ (allT (run2 p t (l.take k)).1).length ≤ (allT t).length + k ∧ (run2 p t (l.take k)).2.length = min k l.length := by
 induction k with
 | zero => simp [run2, h]
 | succ k ih =>
  obtain ⟨h1, h2, h3⟩ := ih
  cases ho : l[k]? with
  | none =>
   have h4 : l.length ≤ k := List.getElem?_eq_none_iff.1 ho
   rw [List.take_of_length_le h4] at h1 h2 h3
   rw [List.take_of_length_le (by omega)]
   exact ⟨h1, by omega, by omega⟩
  | some o =>
   have h5 := lt_of_get ho
   obtain ⟨k1, k2, k3⟩ := solo_keeps (p := p) (o := o) h1
   have h6 := do_len (allT (run2 p t (l.take k)).1) o
   rw [run_step ho]
   refine ⟨k1, ?_, ?_⟩
   ·show (allT (soloT _ p o).1).length ≤ _
    rw [k2]; omega
   ·simp only [List.length_append, List.length_singleton]; omega
def RunEnd (t : PT) (p : Pol) (l : List OpS) (v : Value) (Γ : List SProp) (M : E.Loc) : Prop :=
 ∃ (u : Tr) (r : Sl AnS), v = .tuple #[u.val, r.val] ∧ Γ = [ndsP u.ns, psP u.ns.l, ansP r, apsP r.l] ∧ M = [] ∧ u.p = (runT t p l).1 ∧ r.l.map AnS.a = (runT t p l).2
theorem solo_plain {t : PT} {p : Pol} {o : OpS} (h : (mayT t).isSome = true) (hm : mayO o = true) : soloT t p o = (treeT (plainD t) p o, (doT (allT t) o).2) := by
 unfold soloT
 rw [if_pos h, if_pos hm]
theorem solo_badop {t : PT} {p : Pol} {o : OpS} (h : (mayT t).isSome = true) (hm : mayO o = false) : soloT t p o = (plainD t, .bad) := by
 unfold soloT
 rw [if_pos h, if_neg (by simp [hm])]
theorem tree_upd {t : PT} {p : Pol} {o : OpS} (h : updO o = true) : treeT t p o = updT t p o := by unfold treeT; rw [if_pos h]
theorem tree_sev {t : PT} {p : Pol} {o : OpS} (h : updO o = false) (h1 : 1 < (touchT t o).length) : treeT t p o = sevT t p (touchT t o) := by unfold treeT; rw [if_neg (by simp [h]), if_pos h1]
theorem tree_same {t : PT} {p : Pol} {o : OpS} (h : updO o = false) (h1 : ¬ 1 < (touchT t o).length) : treeT t p o = t := by unfold treeT; rw [if_neg (by simp [h]), if_neg h1]
theorem touch_get {t : PT} {o : OpS} (h : o.kind = 4) : ¬ 1 < (touchT t o).length := by
 unfold touchT
 split
 ·rw [if_pos (by omega)]; simp
 ·simp
end Go.Proofs.Ytmkodknmknfdkaa
set_option linter.unusedVariables false
set_option linter.unusedSimpArgs false
namespace Go.Proofs.Ytmkodknmknfdkaa
open E
set_option maxRecDepth 4000
theorem en61 : Enters Try.prog 61 := Enters.mk' Try.func61 rfl rfl
theorem en114 : Enters Try.prog 114 := Enters.mk' Try.func114 rfl rfl
theorem set34f (t : Tr) (hsm : smallP t.ns.l) (at_ : Int) (l : Sl Pr) (hl : l.l.length ≤ 1000000) (stat : Int) : Con Try.prog 34 [t.val, .int .i64 at_, l.val, .int .i64 stat] [ndsP t.ns, psP t.ns.l, prsP l] [] (SetEndF t at_ l stat) := by
 refine Con.body 67 Try.func34 rfl Try.ntmps34 rfl fun X H₀ L₀ => ?_
 refine At.lenOf (hs := (ix 1 rfl)) fun hlen => ?_
 rw [List.length_map] at hlen
 refine aE (aR ?_)
 refine At.loud (l_box rfl) rfl ?_
 rintro _ _ _ ⟨b1, rfl, rfl, rfl⟩
 refine At.freeze 0 (φ := blk b1 _) rfl (fun _ h => blk_def.2 ⟨_, _, h⟩) ?_
 refine At.loud (l_alloc t24) rfl ?_
 rintro _ _ _ ⟨b2, rfl, rfl, rfl⟩
 refine aS 1 rfl rfl ?_
 refine aN (aT (aE (aE (aR ?_))))
 refine aQ (q_loadS t24 rfl (RdS.blk (.head _) (m := 2) rfl) rfl) rfl ?_
 refine At.call en21 rfl (may21 _) (fun _ h => ⟨h.2.2.1, h.2.2.2.1, trivial⟩) (List.Perm.refl _) rfl ?_
 rintro _ _ _ ⟨rfl, rfl, rfl⟩
 refine aS 2 rfl rfl ?_
 refine At.split (d := 16) rfl (fun hm => ?_) (fun hm => ?_)
 ·
  refine At.know (ndsP ⟨none, 0, []⟩) (fun _ h => sl_nil _ _ _ (Nat.zero_le _)) ?_
  refine At.know (psP []) (fun _ h => psP_nil) ?_
  refine aS 18 rfl rfl ?_
  refine aN (aT ?_)
  refine At.condT rfl ?_
  refine aE (aR ?_)
  refine aQ (q_build t24 s24 rfl rfl) rfl ?_
  refine At.loudN (l_store t24 rfl rfl (i := 0) rfl rfl rfl rfl) ?_
  rintro _ _ _ ⟨rfl, rfl⟩
  refine aS 1 rfl rfl ?_
  refine aN (aT (At.ret (At.thenRet ?_)))
  exact At.results (Γr := [_, _]) (M := []) rfl (RVals.cons (RVal.cellS rfl t24 (RdS.loc (i := 0) rfl (m := 2) rfl) rfl) (RVals.cons (RVal.tmp rfl) RVals.nil)) (ix 3 rfl) (fun _ h => ⟨h.2.1, h.1, trivial⟩) (d_ r_) ⟨⟨0, ⟨none, 0, []⟩⟩, by rw [set_no1 (not_t hm)]; rfl, rfl, rfl, by rw [setD, set_no1 (not_t hm)]; rfl⟩
 ·
  refine aS 4 rfl rfl ?_
  refine At.splitP (d := 20) rfl (fun hneg => ?_) (fun hneg => ?_)
  ·
   refine At.know (ndsP ⟨none, 0, []⟩) (fun _ h => sl_nil _ _ _ (Nat.zero_le _)) ?_
   refine At.know (psP []) (fun _ h => psP_nil) ?_
   refine aS 14 rfl rfl ?_
   refine aN (aT ?_)
   refine At.condT rfl ?_
   refine aE (aR ?_)
   refine aQ (q_build t24 s24 rfl rfl) rfl ?_
   refine At.loudN (l_store t24 rfl rfl (i := 0) rfl rfl rfl rfl) ?_
   rintro _ _ _ ⟨rfl, rfl⟩
   refine aS 1 rfl rfl ?_
   refine aN (aT (At.ret (At.thenRet ?_)))
   exact At.results (Γr := [_, _]) (M := []) rfl (RVals.cons (RVal.cellS rfl t24 (RdS.loc (i := 0) rfl (m := 2) rfl) rfl) (RVals.cons (RVal.tmp rfl) RVals.nil)) (ix 3 rfl) (fun _ h => ⟨h.2.1, h.1, trivial⟩) (d_ r_) ⟨⟨0, ⟨none, 0, []⟩⟩, by rw [set_no2 hneg]; rfl, rfl, rfl, by rw [setD, set_no2 hneg]; rfl⟩
  ·
   obtain ⟨i, rfl⟩ := Int.eq_ofNat_of_zero_le (show 0 ≤ at_ by omega)
   refine aS 1 rfl rfl ?_
   refine At.open rfl rfl ?_
   refine aQ (q_fieldAddr s24 rfl rfl rfl) rfl ?_
   refine At.open rfl rfl ?_
   refine aQ (q_load t22 rfl (Rd.blk (.head _) rfl)) rfl ?_
   refine At.open rfl rfl ?_
   refine aQ (q_len Try.underlying22 rfl) rfl ?_
   refine aS 3 rfl rfl ?_
   refine At.splitP (d := 27) rfl (fun hout => ?_) (fun hout => ?_)
   ·
    refine At.know (ndsP ⟨none, 0, []⟩) (fun _ h => sl_nil _ _ _ (Nat.zero_le _)) ?_
    refine At.know (psP []) (fun _ h => psP_nil) ?_
    refine aS 7 rfl rfl ?_
    refine aN (aT ?_)
    refine At.condT rfl ?_
    refine aE (aR ?_)
    refine aQ (q_build t24 s24 rfl rfl) rfl ?_
    refine At.loudN (l_store t24 rfl rfl (i := 0) rfl rfl rfl rfl) ?_
    rintro _ _ _ ⟨rfl, rfl⟩
    refine aS 1 rfl rfl ?_
    refine aN (aT (At.ret (At.thenRet ?_)))
    exact At.results (Γr := [_, _]) (M := []) rfl (RVals.cons (RVal.cellS rfl t24 (RdS.loc (i := 0) rfl (m := 2) rfl) rfl) (RVals.cons (RVal.tmp rfl) RVals.nil)) (ix 3 rfl) (fun _ h => ⟨h.2.1, h.1, trivial⟩) (d_ r_) ⟨⟨0, ⟨none, 0, []⟩⟩, by rw [set_no3 (by simp [Tr.p]; omega)]; rfl, rfl, rfl, by rw [setD, set_no3 (by simp [Tr.p]; omega)]; rfl⟩
   ·
    have hi : i < t.ns.l.length := by omega
    obtain ⟨x, hx⟩ := get_of_lt hi
    have hxp : t.p.ns[i]? = some x.p := map_get hx
    refine At.know (prsP x.ps) (fun _ h => psP_get h.2.2.2.1 hx) ?_
    refine At.open rfl rfl ?_
    refine aQ (q_fieldAddr s24 rfl rfl rfl) rfl ?_
    refine At.open rfl rfl ?_
    refine aQ (q_load t22 rfl (Rd.blk (ix 1 rfl) rfl)) rfl ?_
    refine aS 1 rfl rfl ?_
    refine At.open rfl rfl ?_
    refine aQ (q_index Try.underlying22 t33 rfl (ix 3 rfl) (by simp) rfl rfl (lt_of_get hx)) rfl ?_
    refine At.open rfl rfl ?_
    refine aQ (q_fieldAddr s33 rfl rfl rfl) rfl ?_
    refine At.open rfl rfl ?_
    refine aQ (q_load t4 rfl (Rd.sl (ix 3 rfl) (map_get hx) rfl)) rfl ?_
    refine aS 1 rfl rfl ?_
    refine aN (aT ?_)
    refine At.cond rfl (fun hr => ?_) (fun hr => ?_)
    ·
     refine At.know (ndsP ⟨none, 0, []⟩) (fun _ h => sl_nil _ _ _ (Nat.zero_le _)) ?_
     refine At.know (psP []) (fun _ h => psP_nil) ?_
     refine aE (aR ?_)
     refine aQ (q_build t24 s24 rfl rfl) rfl ?_
     refine At.loudN (l_store t24 rfl rfl (i := 0) rfl rfl rfl rfl) ?_
     rintro _ _ _ ⟨rfl, rfl⟩
     refine aS 1 rfl rfl ?_
     refine aN (aT (At.ret (At.thenRet ?_)))
     exact At.results (Γr := [_, _]) (M := []) rfl (RVals.cons (RVal.cellS rfl t24 (RdS.loc (i := 0) rfl (m := 2) rfl) rfl) (RVals.cons (RVal.tmp rfl) RVals.nil)) (ix 4 rfl) (fun _ h => ⟨h.2.1, h.1, trivial⟩) (d_ r_) ⟨⟨0, ⟨none, 0, []⟩⟩, by rw [set_no4 hxp hr]; rfl, rfl, rfl, by rw [setD, set_no4 hxp hr]; rfl⟩
    ·
     obtain ⟨s, hs⟩ := Option.isSome_iff_exists.1 (not_f hm)
     have hfew : t.ns.l.length ≤ 2000 := by have := (good_of hs).few; simpa [Tr.p] using this
     refine At.nilSeg ?_
     refine At.know (psP []) (fun _ h => psP_nil) ?_
     refine At.skip (aT (aE (aR ?_)))
     refine aF s24 t3 rfl rfl rfl (Rd.blk (ix 2 rfl) rfl) rfl rfl ?_
     refine aQ (q_build t24 s24 rfl rfl) rfl ?_
     refine At.loud (l_alloc t24) rfl ?_
     rintro _ _ _ ⟨b3, rfl, rfl, rfl⟩
     refine At.loudN (l_store t24 rfl rfl (i := 0) rfl rfl rfl rfl) ?_
     rintro _ _ _ ⟨rfl, rfl⟩
     refine aN (aT (aE (aE (aR ?_))))
     refine aF s24 t22 rfl rfl rfl (Rd.blk (ix 2 rfl) rfl) rfl rfl ?_
     refine aQ (q_len Try.underlying22 rfl) rfl ?_
     refine aS 1 rfl rfl ?_
     refine aN (aT (At.block ?_))
     refine At.front 1 rfl ?_
     refine At.front 1 rfl ?_
     refine At.loopK (ι := Nat × List Nd × Option Addr × Nat × Seg) [11, 12, 42, 43, 44, 45, 46, 47, 48, 49, 50, 51, 52, 53, 54, 55, 56, 57, 58, 59, 60, 61] (fun ⟨k, o, a, c, M⟩ => [(42, .int .i64 (k : Int))]) (fun ⟨k, o, a, c, M⟩ => [psP o]) (fun ⟨k, o, a, c, M⟩ => [[(b3, .cells #[.int .i64 t.root, .slice a k c] 24 (0, 0))], M]) _ (fun ⟨k, o, a, c, M⟩ => k ≤ t.ns.l.length ∧ Own 33 6 (o.map rowN) a c M ∧ o.length = k ∧ o.map Nd.p = (t.p.ns.set i { x.p with l := l.l, stat := stat }).take k) (fun ⟨k, o, a, c, M⟩ => t.ns.l.length - k) (0, [], none, 0, []) ⟨Nat.zero_le _, Own.nil _ _, rfl, by simp⟩ ⟨rfl, trivial⟩ (fun _ _ => ⟨psP_nil, trivial⟩) (k_ (k_ r_)) ?_
     intro i0 hI0
     obtain ⟨k, o, a, c, M⟩ := i0
     obtain ⟨hkl, hO, hok, hoe⟩ := hI0
     refine aE (aR ?_)
     refine aS 1 rfl rfl ?_
     refine aN (aT (aE ?_))
     refine At.if rfl (fun hk => ?_) (fun hk => ?_)
     ·
      obtain ⟨y, hy⟩ := get_of_lt (l := t.ns.l) (i := k) (by omega)
      have hk1 := lt_of_get hy
      refine At.know (prsP y.ps) (fun _ h => psP_get h.2.2.2.2.2.2.1 hy) ?_
      refine At.skip (aT (aE (At.block (aE (aR ?_)))))
      refine aS 1 rfl rfl ?_
      refine aQ (q_index Try.underlying22 t33 rfl (ix 6 rfl) (by simp) rfl rfl (lt_of_get hy)) rfl ?_
      refine aQ (q_loadS t33 rfl (RdS.sl0 (ix 6 rfl) (map_get hy)) rfl) rfl ?_
      refine At.loud (l_alloc t33) rfl ?_
      rintro _ _ _ ⟨b4, rfl, rfl, rfl⟩
      refine aS 1 rfl rfl ?_
      refine At.loudN (l_store t33 rfl rfl (i := 0) rfl rfl rfl rfl) ?_
      rintro _ _ _ ⟨rfl, rfl⟩
      refine aN (aT (aE (aE (aR ?_))))
      refine aS 3 rfl rfl ?_
      refine aN (aT ?_)
      refine At.if rfl (fun hki => ?_) (fun hki => ?_)
      ·
       obtain rfl : k = i := by omega
       obtain rfl : x = y := by rw [hx] at hy; exact Option.some.inj hy
       refine aR ?_
       refine aS 2 rfl rfl ?_
       refine aQ (q_fieldAddr s33 rfl rfl rfl) rfl ?_
       refine At.loudN (l_store t31 rfl rfl (i := 0) rfl rfl rfl rfl) ?_
       rintro _ _ _ ⟨rfl, rfl⟩
       refine aQ (q_fieldAddr s33 rfl rfl rfl) rfl ?_
       refine At.loudN (l_store t3 rfl rfl (i := 0) rfl rfl rfl rfl) ?_
       rintro _ _ _ ⟨rfl, rfl⟩
       refine aN (aT ?_)
       refine At.draw 5 (.q 0 (.q 1 (.q 2 (.o 3 (.o 4 (.e)))))) _ (List.Sublist.refl _) mixed (by kernel_rfl) rfl ?_
       refine oQ rfl (q_fieldAddr s24 rfl rfl rfl) rfl (cI (cT (cT (cI (cT cP))))) ?_
       refine oQ rfl (q_load t22 rfl (Rd.loc (i := 1) rfl rfl)) rfl (cI (cT (cT (cI (cT cP))))) ?_
       refine oQ rfl (q_loadS t33 rfl (RdS.loc (i := 0) rfl (m := 6) rfl) rfl) rfl (cI (cT (cT (cI (cT cP))))) ?_
       refine AtO.callA rfl en73 rfl (copy73 { x with ps := l, stat := stat } (by simpa using hl)) (fun _ h => ⟨h.2.2.2.2.2.2.2.2.1, trivial⟩) (List.Perm.refl _) rfl r_ ?_
       rintro _ _ _ ⟨s0, rfl, hs0, rfl, rfl⟩
       refine AtO.loudA rfl (l_buildSlice Try.underlying22 t33 rfl rfl rfl rfl rfl) rfl (by rintro _ _ _ ⟨_, rfl, rfl, rfl⟩; exact ⟨fun _ h => h, d_ r_⟩) ?_
       rintro _ _ _ ⟨b5, rfl, rfl, rfl⟩
       refine AtO.done ?_
       refine At.loud (l_append rfl Try.underlying22 t33 rfl rfl hO (by simp; omega) (i := 3) rfl rfl (news := [rowN { { x with ps := l, stat := stat } with ps := s0 }]) (by simp [rowN]) (RdS.loc (i := 0) rfl (m := 6) rfl) rfl rfl rfl (by omega) (by unfold maxLen; omega)) rfl ?_
       rintro _ _ _ ⟨a2, c2, M2, rfl, ow, rfl, rfl⟩
       refine aQ (q_fieldAddr s24 rfl rfl rfl) rfl ?_
       refine At.loudN (l_store t22 rfl rfl (i := 2) rfl rfl rfl rfl) ?_
       rintro _ _ _ ⟨rfl, rfl⟩
       refine aN (At.inNormal (aT (aR ?_)))
       refine At.know (psP (o ++ [{ { x with ps := l, stat := stat } with ps := s0 }])) (fun _ h => psP_snoc (n := { { x with ps := l, stat := stat } with ps := s0 }) h.2.2.1 h.1) ?_
       refine aQ (q_add rfl rfl (by omega) (by omega)) rfl ?_
       refine aS 1 rfl rfl ?_
       refine aN ?_
       refine At.front 3 rfl ?_
       refine At.front 3 rfl ?_
       refine aT ?_
       exact At.againK (k + 1, o ++ [{ { x with ps := l, stat := stat } with ps := s0 }], a2, c2, M2) ⟨hk1, by simpa using ow, by simp; omega, set_step_at hoe hs0 hxp⟩ (by (try dsimp only); omega) (Tells.end 23 ⟨rfl, trivial⟩ rfl rfl) (fun _ h => ⟨h.1, h.2.2.2.2⟩) (k_ (k_ (d_ (d_ r_))))
      ·
       refine At.skip (aT ?_)
       refine At.draw 5 (.q 0 (.q 1 (.q 2 (.o 3 (.o 4 (.e)))))) _ (List.Sublist.refl _) mixed (by kernel_rfl) rfl ?_
       refine oQ rfl (q_fieldAddr s24 rfl rfl rfl) rfl (cI (cT (cT (cI (cT cP))))) ?_
       refine oQ rfl (q_load t22 rfl (Rd.loc (i := 1) rfl rfl)) rfl (cI (cT (cT (cI (cT cP))))) ?_
       refine oQ rfl (q_loadS t33 rfl (RdS.loc (i := 0) rfl (m := 6) rfl) rfl) rfl (cI (cT (cT (cI (cT cP))))) ?_
       refine AtO.callA rfl en73 rfl (copy73 y (hsm y (List.mem_of_getElem? hy))) (fun _ h => ⟨h.1, trivial⟩) (List.Perm.refl _) rfl r_ ?_
       rintro _ _ _ ⟨s0, rfl, hs0, rfl, rfl⟩
       refine AtO.loudA rfl (l_buildSlice Try.underlying22 t33 rfl rfl rfl rfl rfl) rfl (by rintro _ _ _ ⟨_, rfl, rfl, rfl⟩; exact ⟨fun _ h => h, d_ r_⟩) ?_
       rintro _ _ _ ⟨b6, rfl, rfl, rfl⟩
       refine AtO.done ?_
       refine At.loud (l_append rfl Try.underlying22 t33 rfl rfl hO (by simp; omega) (i := 3) rfl rfl (news := [rowN { y with ps := s0 }]) (by simp [rowN]) (RdS.loc (i := 0) rfl (m := 6) rfl) rfl rfl rfl (by omega) (by unfold maxLen; omega)) rfl ?_
       rintro _ _ _ ⟨a2, c2, M2, rfl, ow, rfl, rfl⟩
       refine aQ (q_fieldAddr s24 rfl rfl rfl) rfl ?_
       refine At.loudN (l_store t22 rfl rfl (i := 2) rfl rfl rfl rfl) ?_
       rintro _ _ _ ⟨rfl, rfl⟩
       refine aN (At.inNormal (aT (aR ?_)))
       refine At.know (psP (o ++ [{ y with ps := s0 }])) (fun _ h => psP_snoc (n := { y with ps := s0 }) h.2.2.1 h.1) ?_
       refine aQ (q_add rfl rfl (by omega) (by omega)) rfl ?_
       refine aS 1 rfl rfl ?_
       refine aN ?_
       refine At.front 3 rfl ?_
       refine At.front 3 rfl ?_
       refine aT ?_
       exact At.againK (k + 1, o ++ [{ y with ps := s0 }], a2, c2, M2) ⟨hk1, by simpa using ow, by simp; omega, set_step_ne hoe hs0 (map_get hy) (by omega)⟩ (by (try dsimp only); omega) (Tells.end 19 ⟨rfl, trivial⟩ rfl rfl) (fun _ h => ⟨h.1, h.2.2.2.2⟩) (k_ (k_ (d_ (d_ r_))))
     ·
      have hoe2 : o.map Nd.p = (t.p.ns.set i { x.p with l := l.l, stat := stat }) := by rw [hoe, List.take_of_length_le (by simp [Tr.p]; omega)]
      have hu : (⟨t.root, ⟨a, c, o⟩⟩ : Tr).p = ⟨t.p.root, (t.p.ns.set i { x.p with l := l.l, stat := stat })⟩ := by simp only [Tr.p]; exact congrArg (PT.mk t.root) hoe2
      subst hok
      refine At.exit (At.thenExit (At.thenExit (At.inHere rfl (aT (aE (aE (aR ?_)))))))
      refine aQ (q_loadS t24 rfl (RdS.loc (i := 0) rfl (m := 2) rfl) rfl) rfl ?_
      refine At.callB en21 rfl (may21 ⟨t.root, ⟨a, c, o⟩⟩) hO (i := 1) rfl (fun _ h => ⟨h.1, h.2.1, trivial⟩) (List.Perm.refl _) rfl ?_
      rintro _ _ _ ⟨rfl, rfl, rfl⟩
      refine aS 1 rfl rfl ?_
      refine aN (aT ?_)
      refine At.cond rfl (fun hm2 => ?_) (fun hm2 => ?_)
      ·
       refine At.know (ndsP ⟨none, 0, []⟩) (fun _ h => sl_nil _ _ _ (Nat.zero_le _)) ?_
       refine At.know (psP []) (fun _ h => psP_nil) ?_
       refine aE (aR ?_)
       refine aQ (q_build t24 s24 rfl rfl) rfl ?_
       refine At.loudN (l_store t24 rfl rfl (i := 2) rfl rfl rfl rfl) ?_
       rintro _ _ _ ⟨rfl, rfl⟩
       refine aS 1 rfl rfl ?_
       refine aN (aT (At.ret (At.thenRet ?_)))
       exact At.results (Γr := [_, _]) (M := []) rfl (RVals.cons (RVal.cellS rfl t24 (RdS.loc (i := 2) rfl (m := 2) rfl) rfl) (RVals.cons (RVal.tmp rfl) RVals.nil)) (ix 6 rfl) (fun _ h => ⟨h.2.1, h.1, trivial⟩) (d_ (d_ (d_ r_))) ⟨⟨0, ⟨none, 0, []⟩⟩, by rw [set_no5 hxp hr (by rw [← hu]; exact not_t hm2)]; rfl, rfl, rfl, by rw [setD, set_no5 hxp hr (by rw [← hu]; exact not_t hm2)]; rfl⟩
      ·
       refine At.freezeOwn 0 hO rfl ?_
       refine At.skip (aT (aE (aR ?_)))
       refine aQ (q_loadS t24 rfl (RdS.loc (i := 0) rfl (m := 2) rfl) rfl) rfl ?_
       refine At.loudN (l_store t24 rfl rfl (i := 1) rfl rfl rfl rfl) ?_
       rintro _ _ _ ⟨rfl, rfl⟩
       refine aS 1 rfl rfl ?_
       refine aN (aT (At.ret ?_))
       exact At.results (Γr := [_, psP o]) (M := []) rfl (RVals.cons (RVal.cellS rfl t24 (RdS.loc (i := 1) rfl (m := 2) rfl) rfl) (RVals.cons (RVal.tmp rfl) RVals.nil)) (ix 5 rfl) (fun _ h => ⟨h.1, h.2.1, trivial⟩) (d_ (d_ r_)) ⟨⟨t.root, ⟨a, c, o⟩⟩, by rw [set_ok hs hxp hr (by rw [← hu]; exact not_f hm2)]; rfl, rfl, rfl, by rw [setD, set_ok hs hxp hr (by rw [← hu]; exact not_f hm2), hu]; rfl⟩
set_option maxHeartbeats 2000000 in
theorem update96 (t : Tr) (p : Pol) (o : OpS) (s : Sh) (hs : mayT t.p = some s) (hmo : mayO o = true) (hu : updO o = true) (hal : (allT t.p).length ≤ 600000) : Con Try.prog 96 [t.val, p.val, o.val] [ndsP t.ns, psP t.ns.l] [] (TreeEnd (updT t.p p o)) := by
 refine Con.body 51 Try.func96 rfl Try.ntmps96 rfl fun X H₀ L₀ => ?_
 obtain ⟨n, hn⟩ := get_of_lt (find_lt hs o.key)
 obtain ⟨x, hx, hxp⟩ := p_get (u := t) rfl hn
 have hmt : (mayT t.p).isSome = true := by rw [hs]; rfl
 have hsm : smallP t.ns.l := small_all hmt hal (by omega)
 have hxs := hsm x (List.mem_of_getElem? hx)
 have hgd : t.p.ns.getD (findD t.p o.key).leaf default = x.p := (getD_of hn).trans hxp.symm
 have hk3 : o.kind ≤ 3 ∧ 1 ≤ o.kind := by simp only [updO, Bool.or_eq_true, decide_eq_true_eq] at hu; omega
 refine At.know (prsP x.ps) (fun _ h => psP_get h.2.2.1 hx) ?_
 refine aE (aR ?_)
 refine At.loud (l_box rfl) rfl ?_
 rintro _ _ _ ⟨b1, rfl, rfl, rfl⟩
 refine At.freeze 0 (φ := blk b1 _) rfl (fun _ h => blk_def.2 ⟨_, _, h⟩) ?_
 refine At.loud (l_box rfl) rfl ?_
 rintro _ _ _ ⟨b2, rfl, rfl, rfl⟩
 refine At.freeze 0 (φ := blk b2 _) rfl (fun _ h => blk_def.2 ⟨_, _, h⟩) ?_
 refine At.loud (l_box rfl) rfl ?_
 rintro _ _ _ ⟨b3, rfl, rfl, rfl⟩
 refine At.freeze 0 (φ := blk b3 _) rfl (fun _ h => blk_def.2 ⟨_, _, h⟩) ?_
 refine At.loud (l_alloc t24) rfl ?_
 rintro _ _ _ ⟨b4, rfl, rfl, rfl⟩
 refine aN (aT (aE (aR ?_)))
 refine aQ (q_loadS t24 rfl (RdS.blk (ix 2 rfl) (m := 2) rfl) rfl) rfl ?_
 refine aQ (q_loadS t77 rfl (RdS.blk (.head _) (m := 4) rfl) rfl) rfl ?_
 refine At.call en61 rfl (touched61 _ _) (fun _ h => ⟨h.2.2.2.2.2.1, h.2.2.2.2.2.2.1, trivial⟩) (List.Perm.refl _) rfl ?_
 rintro _ _ _ ⟨tl, rfl, rfl, rfl, htl⟩
 have ht0 : tl.l[0]? = some ((findD t.p o.key).leaf : Int) := by rw [htl, touch_one hmt hmo (by omega)]; rfl
 refine aQ (q_index Try.underlying37 t3 rfl (.head _) (by simp) rfl rfl (lt_of_get ht0)) rfl ?_
 refine aQ (q_load t3 rfl (Rd.sl0 (.head _) (map_get ht0) rfl)) rfl ?_
 refine aS 1 rfl rfl ?_
 refine aN (aT ?_)
 refine At.cutD (ι := Sl Pr) .z [8, 9, 17, 18, 19, 20, 21, 22, 23, 24, 25, 26, 27] (fun s9 => [(8, s9.val)]) (fun s9 => [prsP s9]) (fun s9 => []) (fun s9 => s9.l = (doT x.ps.l o).1) ?_ ?_
 ·
  refine At.draw 13 (.q 0 (.q 1 (.q 2 (.q 3 (.q 4 (.q 5 (.q 6 (.t 7 (.q 8 (.q 9 (.q 10 (.o 11 (.q 12 (.e)))))) 11 (.o 7 (.q 8 (.q 9 (.q 10 (.q 12 (.e)))))))))))))) _ (List.Sublist.refl _) mixed (by kernel_rfl) rfl ?_
  refine oQ rfl (q_fieldAddr s24 rfl rfl rfl) rfl (cT cP) ?_
  refine oQ rfl (q_load t22 rfl (Rd.blk (ix 3 rfl) rfl)) rfl (cT cP) ?_
  refine oQ rfl (q_move rfl) rfl (cT cP) ?_
  refine oQ rfl (q_index Try.underlying22 t33 rfl (ix 6 rfl) (by simp) rfl rfl (lt_of_get hx)) rfl (cT cP) ?_
  refine oQ rfl (q_fieldAddr s33 rfl rfl rfl) rfl (cT cP) ?_
  refine oQ rfl (q_load t31 rfl (Rd.sl (ix 6 rfl) (map_get hx) rfl)) rfl (cT cP) ?_
  refine oQ rfl (q_loadS t77 rfl (RdS.blk (ix 1 rfl) (m := 4) rfl) rfl) rfl (cT cP) ?_
  refine AtO.two ?_ ?_
  ·
   refine AtO.callA rfl en113 rfl (do113 x.ps o (by omega)) (fun _ h => ⟨h.2.2.2.2.1, trivial⟩) (List.Perm.refl _) rfl r_ ?_
   rintro _ _ _ ⟨s1, s2, rfl, rfl, rfl, hs1, hs2⟩
   refine oQ rfl (q_move rfl) rfl (cT cP) ?_
   refine oQ rfl (q_extract rfl rfl) rfl (cT cP) ?_
   refine oQ rfl (q_extract rfl rfl) rfl (cT cP) ?_
   refine AtO.loudA rfl (l_alloc t80) rfl (by rintro _ _ _ ⟨_, rfl, rfl, rfl⟩; exact ⟨fun _ h => h, d_ r_⟩) ?_
   rintro _ _ _ ⟨b5, rfl, rfl, rfl⟩
   refine oQ rfl (q_assign rfl) rfl (cT cP) ?_
   refine AtO.done ?_
   refine At.loudN (l_store t80 rfl rfl (i := 0) rfl rfl rfl rfl) ?_
   rintro _ _ _ ⟨rfl, rfl⟩
   refine aN (aT ?_)
   exact At.meetK s1 hs1 (Tells.meet 13 ⟨rfl, trivial⟩ rfl rfl) (fun _ h => ⟨h.1, h.2.2⟩) (d_ r_)
  ·
   refine AtO.loudA rfl (l_alloc t80) rfl (by rintro _ _ _ ⟨_, rfl, rfl, rfl⟩; exact ⟨fun _ h => h, d_ r_⟩) ?_
   rintro _ _ _ ⟨b6, rfl, rfl, rfl⟩
   refine AtO.callA rfl en113 rfl (do113 x.ps o (by omega)) (fun _ h => ⟨h.2.2.2.2.1, trivial⟩) (List.Perm.refl _) rfl r_ ?_
   rintro _ _ _ ⟨s1, s2, rfl, rfl, rfl, hs1, hs2⟩
   refine oQ rfl (q_move rfl) rfl (cT cP) ?_
   refine oQ rfl (q_extract rfl rfl) rfl (cT cP) ?_
   refine oQ rfl (q_extract rfl rfl) rfl (cT cP) ?_
   refine oQ rfl (q_assign rfl) rfl (cT cP) ?_
   refine AtO.done ?_
   refine At.loudN (l_store t80 rfl rfl (i := 0) rfl rfl rfl rfl) ?_
   rintro _ _ _ ⟨rfl, rfl⟩
   refine aN (aT ?_)
   exact At.meetK s1 hs1 (Tells.meet 13 ⟨rfl, trivial⟩ rfl rfl) (fun _ h => ⟨h.1, h.2.2⟩) (d_ r_)
 intro s9 hs9
 have hsl9 : s9.l.length ≤ 1000000 := by have h1 := do_len x.ps.l o; rw [hs9]; have h2 := leaf_le hs hmt hx; omega
 refine At.cutD (ι := Nat × Tr) .z [10, 11, 28, 29, 30, 31, 32, 33, 34, 35, 36, 37, 38, 39, 40, 41, 42] (fun ⟨b9, u⟩ => [(10, .pointer (some ⟨b9, 0, none⟩))]) (fun ⟨b9, u⟩ => [ndsP u.ns, psP u.ns.l]) (fun ⟨b9, u⟩ => [[(b9, .cells #[.int .i64 u.root, u.ns.val] 24 (0, 0))]]) (fun ⟨b9, u⟩ => u.p = setD t.p ((findD t.p o.key).leaf : Int) (doT x.ps.l o).1 (nextS p x.stat 2)) ?_ ?_
 ·
  refine At.draw 17 (.q 0 (.q 1 (.q 2 (.q 3 (.q 4 (.q 5 (.q 6 (.q 7 (.q 8 (.q 9 (.t 10 (.t 11 (.q 12 (.q 13 (.q 14 (.o 15 (.o 16 (.e)))))) 15 (.o 11 (.q 12 (.q 13 (.q 14 (.o 16 (.e))))))) 15 (.o 10 (.o 11 (.q 12 (.q 13 (.q 14 (.o 16 (.e)))))))))))))))))) _ (List.Sublist.refl _) mixed (by kernel_rfl) rfl ?_
  refine oQ rfl (q_loadS t24 rfl (RdS.blk (ix 4 rfl) (m := 2) rfl) rfl) rfl (cT cP) ?_
  refine oQ rfl (q_move rfl) rfl (cT cP) ?_
  refine oQ rfl (q_move rfl) rfl (cT cP) ?_
  refine oQ rfl (q_loadS t64 rfl (RdS.blk (ix 3 rfl) (m := 5) rfl) rfl) rfl (cT cP) ?_
  refine oQ rfl (q_fieldAddr s24 rfl rfl rfl) rfl (cT cP) ?_
  refine oQ rfl (q_load t22 rfl (Rd.blk (ix 4 rfl) rfl)) rfl (cT cP) ?_
  refine oQ rfl (q_move rfl) rfl (cT cP) ?_
  refine oQ rfl (q_index Try.underlying22 t33 rfl (ix 7 rfl) (by simp) rfl rfl (lt_of_get hx)) rfl (cT cP) ?_
  refine oQ rfl (q_fieldAddr s33 rfl rfl rfl) rfl (cT cP) ?_
  refine oQ rfl (q_load t3 rfl (Rd.sl (ix 7 rfl) (map_get hx) rfl)) rfl (cT cP) ?_
  refine AtO.two ?_ ?_
  ·
   refine AtO.call rfl en114 rfl (next114 p x.stat 2) (fun _ _ => trivial) (List.Perm.refl _) rfl r_ ?_
   rintro _ _ _ ⟨rfl, rfl, rfl⟩
   refine AtO.two ?_ ?_
   ·
    refine AtO.call rfl en34 rfl (set34f t hsm ((findD t.p o.key).leaf : Int) s9 hsl9 (nextS p x.stat 2)) (fun _ h => ⟨h.2.2.2.2.2.2.2.1, h.2.2.2.2.2.2.2.2.1, h.1, trivial⟩) (List.Perm.refl _) rfl r_ ?_
    rintro _ _ _ ⟨u, rfl, rfl, rfl, hpu⟩
    refine oQ rfl (q_move rfl) rfl (cT cP) ?_
    refine oQ rfl (q_extract rfl rfl) rfl (cT cP) ?_
    refine oQ rfl (q_extract rfl rfl) rfl (cT cP) ?_
    refine AtO.loud rfl (l_alloc t24) rfl (by rintro _ _ _ ⟨_, rfl, rfl, rfl⟩; exact ⟨fun _ h => h, d_ r_⟩) ?_
    rintro _ _ _ ⟨b7, rfl, rfl, rfl⟩
    refine AtO.loudNA rfl (l_store t24 rfl rfl (i := 0) rfl rfl rfl rfl) (by rintro _ _ _ ⟨rfl, rfl⟩; exact ⟨fun _ h => h, (d_ (k_ r_))⟩) ?_
    rintro _ _ _ ⟨rfl, rfl⟩
    refine AtO.done ?_
    refine aS 1 rfl rfl ?_
    refine aN (aT ?_)
    exact At.meetK (b7, u) (by rw [← hs9]; exact hpu) (Tells.meet 17 ⟨rfl, trivial⟩ rfl rfl) (fun _ h => ⟨h.1, ⟨h.2.1, h.2.2⟩⟩) (k_ r_)
   ·
    refine AtO.loud rfl (l_alloc t24) rfl (by rintro _ _ _ ⟨_, rfl, rfl, rfl⟩; exact ⟨fun _ h => h, d_ r_⟩) ?_
    rintro _ _ _ ⟨b8, rfl, rfl, rfl⟩
    refine AtO.call rfl en34 rfl (set34f t hsm ((findD t.p o.key).leaf : Int) s9 hsl9 (nextS p x.stat 2)) (fun _ h => ⟨h.2.2.2.2.2.2.2.1, h.2.2.2.2.2.2.2.2.1, h.1, trivial⟩) (List.Perm.refl _) rfl (d_ (k_ r_)) ?_
    rintro _ _ _ ⟨u, rfl, rfl, rfl, hpu⟩
    refine oQ rfl (q_move rfl) rfl (cT cP) ?_
    refine oQ rfl (q_extract rfl rfl) rfl (cT cP) ?_
    refine oQ rfl (q_extract rfl rfl) rfl (cT cP) ?_
    refine AtO.loudNA rfl (l_store t24 rfl rfl (i := 0) rfl rfl rfl rfl) (by rintro _ _ _ ⟨rfl, rfl⟩; exact ⟨fun _ h => h, (d_ (k_ r_))⟩) ?_
    rintro _ _ _ ⟨rfl, rfl⟩
    refine AtO.done ?_
    refine aS 1 rfl rfl ?_
    refine aN (aT ?_)
    exact At.meetK (b8, u) (by rw [← hs9]; exact hpu) (Tells.meet 17 ⟨rfl, trivial⟩ rfl rfl) (fun _ h => ⟨h.1, ⟨h.2.1, h.2.2⟩⟩) (k_ r_)
  ·
   refine AtO.loud rfl (l_alloc t24) rfl (by rintro _ _ _ ⟨_, rfl, rfl, rfl⟩; exact ⟨fun _ h => h, d_ r_⟩) ?_
   rintro _ _ _ ⟨b9, rfl, rfl, rfl⟩
   refine AtO.call rfl en114 rfl (next114 p x.stat 2) (fun _ _ => trivial) (List.Perm.refl _) rfl (d_ (k_ r_)) ?_
   rintro _ _ _ ⟨rfl, rfl, rfl⟩
   refine AtO.call rfl en34 rfl (set34f t hsm ((findD t.p o.key).leaf : Int) s9 hsl9 (nextS p x.stat 2)) (fun _ h => ⟨h.2.2.2.2.2.2.2.1, h.2.2.2.2.2.2.2.2.1, h.1, trivial⟩) (List.Perm.refl _) rfl (d_ (k_ r_)) ?_
   rintro _ _ _ ⟨u, rfl, rfl, rfl, hpu⟩
   refine oQ rfl (q_move rfl) rfl (cT cP) ?_
   refine oQ rfl (q_extract rfl rfl) rfl (cT cP) ?_
   refine oQ rfl (q_extract rfl rfl) rfl (cT cP) ?_
   refine AtO.loudNA rfl (l_store t24 rfl rfl (i := 0) rfl rfl rfl rfl) (by rintro _ _ _ ⟨rfl, rfl⟩; exact ⟨fun _ h => h, (d_ (k_ r_))⟩) ?_
   rintro _ _ _ ⟨rfl, rfl⟩
   refine AtO.done ?_
   refine aS 1 rfl rfl ?_
   refine aN (aT ?_)
   exact At.meetK (b9, u) (by rw [← hs9]; exact hpu) (Tells.meet 17 ⟨rfl, trivial⟩ rfl rfl) (fun _ h => ⟨h.1, ⟨h.2.1, h.2.2⟩⟩) (k_ r_)
 intro j0 hpu
 obtain ⟨b9, u⟩ := j0
 obtain ⟨hq1, hq2, hq3, hq4, hq5, hq6, hq7⟩ := upd_set (st := nextS p x.stat 2) hs hmo hu rfl (hn.trans (congrArg some hxp.symm)) (next_bd p x.stat 2).1 (next_bd p x.stat 2).2
 have hdl := do_len (allT t.p) o
 have hpu2 : u.p = (⟨t.p.root, t.p.ns.set (findD t.p o.key).leaf { x.p with l := (doT x.p.l o).1, stat := nextS p x.stat 2 }⟩ : PT) := by rw [hpu, setD]; exact congrArg (fun q => Option.getD q _) hq1
 have hus : smallP u.ns.l := small_all (b := 600001) (by rw [hpu2]; exact congrArg Option.isSome hq2) (by rw [hpu2]; show (allT ⟨_, _⟩).length ≤ _; rw [hq4]; omega) (by omega)
 refine aE (aR ?_)
 refine aQ (q_loadS t24 rfl (RdS.loc (i := 0) rfl (m := 2) rfl) rfl) rfl ?_
 refine aQ (q_loadS t64 rfl (RdS.blk (ix 5 rfl) (m := 5) rfl) rfl) rfl ?_
 refine aS 1 rfl rfl ?_
 refine At.call en51 rfl (bend51 u hus p ((findD t.p o.key).leaf : Int)) (fun _ h => ⟨h.1, h.2.1, trivial⟩) (List.Perm.refl _) rfl ?_
 rintro _ _ _ ⟨v, rfl, rfl, rfl, hpv⟩
 refine aS 1 rfl rfl ?_
 refine aQ (q_extract rfl rfl) rfl ?_
 refine aQ (q_extract rfl rfl) rfl ?_
 refine At.loudN (l_store t24 rfl rfl (i := 0) rfl rfl rfl rfl) ?_
 rintro _ _ _ ⟨rfl, rfl⟩
 refine aN (aT (aE (aR ?_)))
 refine aQ (q_loadS t24 rfl (RdS.loc (i := 0) rfl (m := 2) rfl) rfl) rfl ?_
 refine At.loudN (l_store t24 rfl rfl (i := 1) rfl rfl rfl rfl) ?_
 rintro _ _ _ ⟨rfl, rfl⟩
 refine aN (aT (At.ret ?_))
 exact At.results (Γr := [_, _]) (M := []) rfl (RVals.cons (RVal.cellS rfl t24 (RdS.loc (i := 1) rfl (m := 2) rfl) rfl) RVals.nil) (ix 10 rfl) (fun _ h => ⟨h.1, h.2.1, trivial⟩) (d_ (d_ r_)) ⟨v, rfl, rfl, rfl, by rw [hpv, hpu]; unfold updT; rw [hgd]; rfl⟩
set_option maxHeartbeats 1000000 in
theorem several97 (t : Tr) (p : Pol) (s : Sh) (hs : mayT t.p = some s) (l : Sl Int) (L : List Nat) (hL : l.l = toI L) (hin : ∀ a ∈ L, a ∈ leavesT t.p) (h0 : L ≠ []) (hal : (allT t.p).length ≤ 600000) : Con Try.prog 97 [t.val, p.val, l.val] [ndsP t.ns, psP t.ns.l, intsP l] [] (TreeEnd (sevT t.p p L)) := by
 refine Con.body 46 Try.func97 rfl Try.ntmps97 rfl fun X H₀ L₀ => ?_
 refine At.lenOf (hs := (ix 3 rfl)) fun hlen => ?_
 rw [List.length_map] at hlen
 have hll : l.l.length = L.length := by rw [hL, toI_length]
 have h00 : l.l[0]? = some ((L.headD 0 : Nat) : Int) := by
  rw [hL]
  cases L with
  | nil => exact absurd rfl h0
  | cons a L => rfl
 refine aE (aR ?_)
 refine At.loud (l_box rfl) rfl ?_
 rintro _ _ _ ⟨b1, rfl, rfl, rfl⟩
 refine At.loud (l_box rfl) rfl ?_
 rintro _ _ _ ⟨b2, rfl, rfl, rfl⟩
 refine At.freeze 0 (φ := blk b2 _) rfl (fun _ h => blk_def.2 ⟨_, _, h⟩) ?_
 refine At.loud (l_alloc t24) rfl ?_
 rintro _ _ _ ⟨b3, rfl, rfl, rfl⟩
 refine aN (aT (aE (aE (aR ?_))))
 refine aS 1 rfl rfl ?_
 refine aQ (q_len Try.underlying37 rfl) rfl ?_
 refine aS 1 rfl rfl ?_
 refine aN (aT (At.block ?_))
 refine At.front 1 rfl ?_
 refine At.loopK (ι := Nat × Tr) [8, 11, 12, 13, 14, 15, 16, 17, 18, 19, 20, 21, 22, 23, 24, 25, 26, 27, 28, 29, 30, 31, 32, 33, 34, 35] (fun ⟨k, v⟩ => [(11, .int .i64 (k : Int))]) (fun ⟨k, v⟩ => [ndsP v.ns, psP v.ns.l]) (fun ⟨k, v⟩ => [[(b1, .cells #[.int .i64 v.root, v.ns.val] 24 (0, 0))]]) _ (fun ⟨k, v⟩ => k ≤ L.length ∧ v.p = (L.take k).foldl (setSt p) t.p) (fun ⟨k, v⟩ => L.length - k) (0, t) ⟨Nat.zero_le _, rfl⟩ ⟨rfl, trivial⟩ (fun _ h => ⟨h.2.2.1, h.2.2.2.1, trivial⟩) (k_ r_) ?_
 intro i0 hI0
 obtain ⟨k, v⟩ := i0
 obtain ⟨hkl, hv⟩ := hI0
 obtain ⟨f1, f2, f3⟩ := sev_fold (p := p) (l := L.take k) hs (fun a ha => hin a (List.mem_of_mem_take ha))
 rw [← hv] at f1 f2 f3
 have hvs : smallP v.ns.l := small_all (b := 600000) (by rw [f1]; rfl) (by rw [f3]; exact hal) (by omega)
 refine aE (aR ?_)
 refine aS 1 rfl rfl ?_
 refine aN (aT (aE ?_))
 refine At.if rfl (fun hk => ?_) (fun hk => ?_)
 ·
  obtain ⟨a, ha⟩ := get_of_lt (l := L) (i := k) (by omega)
  have hk1 := lt_of_get ha
  have hui : l.l[k]? = some (a : Int) := by rw [hL]; exact toI_get ha
  obtain ⟨n, hn, hnr, e1, e2, e3, e4, e5⟩ := sev_step (p := p) f1 (by rw [f2]; exact hin a (List.mem_of_getElem? ha))
  obtain ⟨x, hx, hxp⟩ := p_get (u := v) rfl hn
  have hxs := hvs x (List.mem_of_getElem? hx)
  have hst : setSt p v.p a = setD v.p (a : Int) x.ps.l (nextS p x.stat 3) := by
   unfold setSt
   rw [getD_of hn, ← hxp]; rfl
  refine At.skip (aT (aE (At.block (aE (aR ?_)))))
  refine aQ (q_index Try.underlying37 t3 rfl (ix 6 rfl) (by simp) rfl rfl (lt_of_get hui)) rfl ?_
  refine At.know (prsP x.ps) (fun _ h => psP_get h.2.1 hx) ?_
  refine aQ (q_load t3 rfl (Rd.sl0 (ix 7 rfl) (map_get hui) rfl)) rfl ?_
  refine aS 1 rfl rfl ?_
  refine aN (aT ?_)
  refine At.draw 21 (.q 1 (.q 2 (.q 4 (.q 8 (.q 9 (.q 11 (.u 0 (.t 3 (.q 5 (.q 6 (.q 7 (.o 10 (.q 12 (.q 13 (.q 14 (.o 15 (.o 16 (.q 17 (.q 18 (.q 19 (.o 20 (.e)))))))))))))) 10 (.q 12 (.q 13 (.q 14 (.t 3 (.q 5 (.q 6 (.q 7 (.o 15 (.o 16 (.q 17 (.q 18 (.q 19 (.o 20 (.e)))))))))) 15 (.o 3 (.q 5 (.q 6 (.q 7 (.o 16 (.q 17 (.q 18 (.q 19 (.o 20 (.e))))))))))))))) 3 (.q 5 (.q 6 (.q 7 (.t 0 (.o 10 (.q 12 (.q 13 (.q 14 (.o 15 (.o 16 (.q 17 (.q 18 (.q 19 (.o 20 (.e))))))))))) 10 (.q 12 (.q 13 (.q 14 (.t 0 (.o 15 (.o 16 (.q 17 (.q 18 (.q 19 (.o 20 (.e))))))) 15 (.o 0 (.o 16 (.q 17 (.q 18 (.q 19 (.o 20 (.e))))))))))))))) 10 (.q 12 (.q 13 (.q 14 (.u 0 (.t 3 (.q 5 (.q 6 (.q 7 (.o 15 (.o 16 (.q 17 (.q 18 (.q 19 (.o 20 (.e)))))))))) 15 (.o 3 (.q 5 (.q 6 (.q 7 (.o 16 (.q 17 (.q 18 (.q 19 (.o 20 (.e))))))))))) 3 (.q 5 (.q 6 (.q 7 (.t 0 (.o 15 (.o 16 (.q 17 (.q 18 (.q 19 (.o 20 (.e))))))) 15 (.o 0 (.o 16 (.q 17 (.q 18 (.q 19 (.o 20 (.e))))))))))) 15 (.t 0 (.o 3 (.q 5 (.q 6 (.q 7 (.o 16 (.q 17 (.q 18 (.q 19 (.o 20 (.e)))))))))) 3 (.q 5 (.q 6 (.q 7 (.o 0 (.o 16 (.q 17 (.q 18 (.q 19 (.o 20 (.e)))))))))))))))))))))) (_ :: L₀) (d_ (k_ r_)) mixed (by kernel_rfl) rfl ?_
  refine oQ rfl (q_move rfl) rfl (cI (cT (cT (cI (cT cP))))) ?_
  refine oQ rfl (q_fieldAddr s24 rfl rfl rfl) rfl (cI (cT (cT (cI (cT cP))))) ?_
  refine oQ rfl (q_move rfl) rfl (cI (cT (cT (cI (cT cP))))) ?_
  refine oQ rfl (q_loadS t64 rfl (RdS.blk (ix 3 rfl) (m := 5) rfl) rfl) rfl (cI (cT (cT (cI (cT cP))))) ?_
  refine oQ rfl (q_fieldAddr s24 rfl rfl rfl) rfl (cI (cT (cT (cI (cT cP))))) ?_
  refine oQ rfl (q_move rfl) rfl (cI (cT (cT (cI (cT cP))))) ?_
  refine AtO.three ?_ ?_ ?_
  ·
   refine AtO.loud rfl (Quiet.loud (q_loadS t24 rfl (RdS.loc (i := 0) rfl (m := 2) rfl) rfl)) rfl (by rintro _ _ _ ⟨rfl, rfl, rfl⟩; exact ⟨fun _ h => h, (d_ (k_ r_))⟩) ?_
   rintro _ _ _ ⟨rfl, rfl, rfl⟩
   refine AtO.two ?_ ?_
   ·
    refine AtO.loud rfl (Quiet.loud (q_load t22 rfl (Rd.loc (i := 0) rfl rfl))) rfl (by rintro _ _ _ ⟨rfl, rfl, rfl⟩; exact ⟨fun _ h => h, (d_ (k_ r_))⟩) ?_
    rintro _ _ _ ⟨rfl, rfl, rfl⟩
    refine oQ rfl (q_index Try.underlying22 t33 rfl (ix 1 rfl) (by simp) rfl rfl (lt_of_get hx)) rfl (cI (cT (cT (cI (cT cP))))) ?_
    refine oQ rfl (q_fieldAddr s33 rfl rfl rfl) rfl (cI (cT (cT (cI (cT cP))))) ?_
    refine oQ rfl (q_load t31 rfl (Rd.sl (ix 1 rfl) (map_get hx) rfl)) rfl (cI (cT (cT (cI (cT cP))))) ?_
    refine AtO.loud rfl (Quiet.loud (q_load t22 rfl (Rd.loc (i := 0) rfl rfl))) rfl (by rintro _ _ _ ⟨rfl, rfl, rfl⟩; exact ⟨fun _ h => h, (d_ (k_ r_))⟩) ?_
    rintro _ _ _ ⟨rfl, rfl, rfl⟩
    refine oQ rfl (q_index Try.underlying22 t33 rfl (ix 1 rfl) (by simp) rfl rfl (lt_of_get hx)) rfl (cI (cT (cT (cI (cT cP))))) ?_
    refine oQ rfl (q_fieldAddr s33 rfl rfl rfl) rfl (cI (cT (cT (cI (cT cP))))) ?_
    refine oQ rfl (q_load t3 rfl (Rd.sl (ix 1 rfl) (map_get hx) rfl)) rfl (cI (cT (cT (cI (cT cP))))) ?_
    refine AtO.call rfl en114 rfl (next114 _ _ _) (fun _ _ => trivial) (List.Perm.refl _) rfl (d_ (k_ r_)) ?_
    rintro _ _ _ ⟨rfl, rfl, rfl⟩
    refine AtO.call rfl en34 rfl (set34f v hvs (a : Int) x.ps hxs (nextS p x.stat 3)) (fun _ h => ⟨h.2.1, h.2.2.1, h.1, trivial⟩) (List.Perm.refl _) rfl (d_ (k_ r_)) ?_
    rintro _ _ _ ⟨u, rfl, rfl, rfl, hpu⟩
    refine oQ rfl (q_move rfl) rfl (cI (cT (cT (cI (cT cP))))) ?_
    refine oQ rfl (q_extract rfl rfl) rfl (cI (cT (cT (cI (cT cP))))) ?_
    refine oQ rfl (q_extract rfl rfl) rfl (cI (cT (cT (cI (cT cP))))) ?_
    refine AtO.loudNA rfl (l_store t24 rfl rfl (i := 0) rfl rfl rfl rfl) (by rintro _ _ _ ⟨rfl, rfl⟩; exact ⟨fun _ h => h, (d_ (k_ r_))⟩) ?_
    rintro _ _ _ ⟨rfl, rfl⟩
    refine AtO.done ?_
    refine aN (At.inNormal (aT (aR ?_)))
    refine aQ (q_add rfl rfl (by omega) (by omega)) rfl ?_
    refine aS 1 rfl rfl ?_
    refine aN (aT ?_)
    exact At.againK (k + 1, u) ⟨hk1, by rw [hpu, ← hst, hv, List.take_succ_eq_append_getElem hk1, List.foldl_append, (List.getElem?_eq_some_iff.1 ha).2]; rfl⟩ (by (try dsimp only); omega) (Tells.end 27 ⟨rfl, trivial⟩ rfl rfl) (fun _ h => ⟨h.1, ⟨h.2.1, h.2.2.2.2.2⟩⟩) (k_ r_)
   ·
    refine AtO.loud rfl (Quiet.loud (q_load t22 rfl (Rd.loc (i := 0) rfl rfl))) rfl (by rintro _ _ _ ⟨rfl, rfl, rfl⟩; exact ⟨fun _ h => h, (d_ (k_ r_))⟩) ?_
    rintro _ _ _ ⟨rfl, rfl, rfl⟩
    refine oQ rfl (q_index Try.underlying22 t33 rfl (ix 1 rfl) (by simp) rfl rfl (lt_of_get hx)) rfl (cI (cT (cT (cI (cT cP))))) ?_
    refine oQ rfl (q_fieldAddr s33 rfl rfl rfl) rfl (cI (cT (cT (cI (cT cP))))) ?_
    refine oQ rfl (q_load t3 rfl (Rd.sl (ix 1 rfl) (map_get hx) rfl)) rfl (cI (cT (cT (cI (cT cP))))) ?_
    refine AtO.two ?_ ?_
    ·
     refine AtO.loud rfl (Quiet.loud (q_load t22 rfl (Rd.loc (i := 0) rfl rfl))) rfl (by rintro _ _ _ ⟨rfl, rfl, rfl⟩; exact ⟨fun _ h => h, (d_ (k_ r_))⟩) ?_
     rintro _ _ _ ⟨rfl, rfl, rfl⟩
     refine oQ rfl (q_index Try.underlying22 t33 rfl (ix 1 rfl) (by simp) rfl rfl (lt_of_get hx)) rfl (cI (cT (cT (cI (cT cP))))) ?_
     refine oQ rfl (q_fieldAddr s33 rfl rfl rfl) rfl (cI (cT (cT (cI (cT cP))))) ?_
     refine oQ rfl (q_load t31 rfl (Rd.sl (ix 1 rfl) (map_get hx) rfl)) rfl (cI (cT (cT (cI (cT cP))))) ?_
     refine AtO.call rfl en114 rfl (next114 _ _ _) (fun _ _ => trivial) (List.Perm.refl _) rfl (d_ (k_ r_)) ?_
     rintro _ _ _ ⟨rfl, rfl, rfl⟩
     refine AtO.call rfl en34 rfl (set34f v hvs (a : Int) x.ps hxs (nextS p x.stat 3)) (fun _ h => ⟨h.2.1, h.2.2.1, h.1, trivial⟩) (List.Perm.refl _) rfl (d_ (k_ r_)) ?_
     rintro _ _ _ ⟨u, rfl, rfl, rfl, hpu⟩
     refine oQ rfl (q_move rfl) rfl (cI (cT (cT (cI (cT cP))))) ?_
     refine oQ rfl (q_extract rfl rfl) rfl (cI (cT (cT (cI (cT cP))))) ?_
     refine oQ rfl (q_extract rfl rfl) rfl (cI (cT (cT (cI (cT cP))))) ?_
     refine AtO.loudNA rfl (l_store t24 rfl rfl (i := 0) rfl rfl rfl rfl) (by rintro _ _ _ ⟨rfl, rfl⟩; exact ⟨fun _ h => h, (d_ (k_ r_))⟩) ?_
     rintro _ _ _ ⟨rfl, rfl⟩
     refine AtO.done ?_
     refine aN (At.inNormal (aT (aR ?_)))
     refine aQ (q_add rfl rfl (by omega) (by omega)) rfl ?_
     refine aS 1 rfl rfl ?_
     refine aN (aT ?_)
     exact At.againK (k + 1, u) ⟨hk1, by rw [hpu, ← hst, hv, List.take_succ_eq_append_getElem hk1, List.foldl_append, (List.getElem?_eq_some_iff.1 ha).2]; rfl⟩ (by (try dsimp only); omega) (Tells.end 27 ⟨rfl, trivial⟩ rfl rfl) (fun _ h => ⟨h.1, ⟨h.2.1, h.2.2.2.2.2⟩⟩) (k_ r_)
    ·
     refine AtO.call rfl en114 rfl (next114 _ _ _) (fun _ _ => trivial) (List.Perm.refl _) rfl (d_ (k_ r_)) ?_
     rintro _ _ _ ⟨rfl, rfl, rfl⟩
     refine AtO.loud rfl (Quiet.loud (q_load t22 rfl (Rd.loc (i := 0) rfl rfl))) rfl (by rintro _ _ _ ⟨rfl, rfl, rfl⟩; exact ⟨fun _ h => h, (d_ (k_ r_))⟩) ?_
     rintro _ _ _ ⟨rfl, rfl, rfl⟩
     refine oQ rfl (q_index Try.underlying22 t33 rfl (ix 1 rfl) (by simp) rfl rfl (lt_of_get hx)) rfl (cI (cT (cT (cI (cT cP))))) ?_
     refine oQ rfl (q_fieldAddr s33 rfl rfl rfl) rfl (cI (cT (cT (cI (cT cP))))) ?_
     refine oQ rfl (q_load t31 rfl (Rd.sl (ix 1 rfl) (map_get hx) rfl)) rfl (cI (cT (cT (cI (cT cP))))) ?_
     refine AtO.call rfl en34 rfl (set34f v hvs (a : Int) x.ps hxs (nextS p x.stat 3)) (fun _ h => ⟨h.2.1, h.2.2.1, h.1, trivial⟩) (List.Perm.refl _) rfl (d_ (k_ r_)) ?_
     rintro _ _ _ ⟨u, rfl, rfl, rfl, hpu⟩
     refine oQ rfl (q_move rfl) rfl (cI (cT (cT (cI (cT cP))))) ?_
     refine oQ rfl (q_extract rfl rfl) rfl (cI (cT (cT (cI (cT cP))))) ?_
     refine oQ rfl (q_extract rfl rfl) rfl (cI (cT (cT (cI (cT cP))))) ?_
     refine AtO.loudNA rfl (l_store t24 rfl rfl (i := 0) rfl rfl rfl rfl) (by rintro _ _ _ ⟨rfl, rfl⟩; exact ⟨fun _ h => h, (d_ (k_ r_))⟩) ?_
     rintro _ _ _ ⟨rfl, rfl⟩
     refine AtO.done ?_
     refine aN (At.inNormal (aT (aR ?_)))
     refine aQ (q_add rfl rfl (by omega) (by omega)) rfl ?_
     refine aS 1 rfl rfl ?_
     refine aN (aT ?_)
     exact At.againK (k + 1, u) ⟨hk1, by rw [hpu, ← hst, hv, List.take_succ_eq_append_getElem hk1, List.foldl_append, (List.getElem?_eq_some_iff.1 ha).2]; rfl⟩ (by (try dsimp only); omega) (Tells.end 27 ⟨rfl, trivial⟩ rfl rfl) (fun _ h => ⟨h.1, ⟨h.2.1, h.2.2.2.2.2⟩⟩) (k_ r_)
  ·
   refine AtO.loud rfl (Quiet.loud (q_load t22 rfl (Rd.loc (i := 0) rfl rfl))) rfl (by rintro _ _ _ ⟨rfl, rfl, rfl⟩; exact ⟨fun _ h => h, (d_ (k_ r_))⟩) ?_
   rintro _ _ _ ⟨rfl, rfl, rfl⟩
   refine oQ rfl (q_index Try.underlying22 t33 rfl (ix 1 rfl) (by simp) rfl rfl (lt_of_get hx)) rfl (cI (cT (cT (cI (cT cP))))) ?_
   refine oQ rfl (q_fieldAddr s33 rfl rfl rfl) rfl (cI (cT (cT (cI (cT cP))))) ?_
   refine oQ rfl (q_load t31 rfl (Rd.sl (ix 1 rfl) (map_get hx) rfl)) rfl (cI (cT (cT (cI (cT cP))))) ?_
   refine AtO.two ?_ ?_
   ·
    refine AtO.loud rfl (Quiet.loud (q_loadS t24 rfl (RdS.loc (i := 0) rfl (m := 2) rfl) rfl)) rfl (by rintro _ _ _ ⟨rfl, rfl, rfl⟩; exact ⟨fun _ h => h, (d_ (k_ r_))⟩) ?_
    rintro _ _ _ ⟨rfl, rfl, rfl⟩
    refine AtO.loud rfl (Quiet.loud (q_load t22 rfl (Rd.loc (i := 0) rfl rfl))) rfl (by rintro _ _ _ ⟨rfl, rfl, rfl⟩; exact ⟨fun _ h => h, (d_ (k_ r_))⟩) ?_
    rintro _ _ _ ⟨rfl, rfl, rfl⟩
    refine oQ rfl (q_index Try.underlying22 t33 rfl (ix 1 rfl) (by simp) rfl rfl (lt_of_get hx)) rfl (cI (cT (cT (cI (cT cP))))) ?_
    refine oQ rfl (q_fieldAddr s33 rfl rfl rfl) rfl (cI (cT (cT (cI (cT cP))))) ?_
    refine oQ rfl (q_load t3 rfl (Rd.sl (ix 1 rfl) (map_get hx) rfl)) rfl (cI (cT (cT (cI (cT cP))))) ?_
    refine AtO.call rfl en114 rfl (next114 _ _ _) (fun _ _ => trivial) (List.Perm.refl _) rfl (d_ (k_ r_)) ?_
    rintro _ _ _ ⟨rfl, rfl, rfl⟩
    refine AtO.call rfl en34 rfl (set34f v hvs (a : Int) x.ps hxs (nextS p x.stat 3)) (fun _ h => ⟨h.2.1, h.2.2.1, h.1, trivial⟩) (List.Perm.refl _) rfl (d_ (k_ r_)) ?_
    rintro _ _ _ ⟨u, rfl, rfl, rfl, hpu⟩
    refine oQ rfl (q_move rfl) rfl (cI (cT (cT (cI (cT cP))))) ?_
    refine oQ rfl (q_extract rfl rfl) rfl (cI (cT (cT (cI (cT cP))))) ?_
    refine oQ rfl (q_extract rfl rfl) rfl (cI (cT (cT (cI (cT cP))))) ?_
    refine AtO.loudNA rfl (l_store t24 rfl rfl (i := 0) rfl rfl rfl rfl) (by rintro _ _ _ ⟨rfl, rfl⟩; exact ⟨fun _ h => h, (d_ (k_ r_))⟩) ?_
    rintro _ _ _ ⟨rfl, rfl⟩
    refine AtO.done ?_
    refine aN (At.inNormal (aT (aR ?_)))
    refine aQ (q_add rfl rfl (by omega) (by omega)) rfl ?_
    refine aS 1 rfl rfl ?_
    refine aN (aT ?_)
    exact At.againK (k + 1, u) ⟨hk1, by rw [hpu, ← hst, hv, List.take_succ_eq_append_getElem hk1, List.foldl_append, (List.getElem?_eq_some_iff.1 ha).2]; rfl⟩ (by (try dsimp only); omega) (Tells.end 27 ⟨rfl, trivial⟩ rfl rfl) (fun _ h => ⟨h.1, ⟨h.2.1, h.2.2.2.2.2⟩⟩) (k_ r_)
   ·
    refine AtO.loud rfl (Quiet.loud (q_load t22 rfl (Rd.loc (i := 0) rfl rfl))) rfl (by rintro _ _ _ ⟨rfl, rfl, rfl⟩; exact ⟨fun _ h => h, (d_ (k_ r_))⟩) ?_
    rintro _ _ _ ⟨rfl, rfl, rfl⟩
    refine oQ rfl (q_index Try.underlying22 t33 rfl (ix 1 rfl) (by simp) rfl rfl (lt_of_get hx)) rfl (cI (cT (cT (cI (cT cP))))) ?_
    refine oQ rfl (q_fieldAddr s33 rfl rfl rfl) rfl (cI (cT (cT (cI (cT cP))))) ?_
    refine oQ rfl (q_load t3 rfl (Rd.sl (ix 1 rfl) (map_get hx) rfl)) rfl (cI (cT (cT (cI (cT cP))))) ?_
    refine AtO.two ?_ ?_
    ·
     refine AtO.loud rfl (Quiet.loud (q_loadS t24 rfl (RdS.loc (i := 0) rfl (m := 2) rfl) rfl)) rfl (by rintro _ _ _ ⟨rfl, rfl, rfl⟩; exact ⟨fun _ h => h, (d_ (k_ r_))⟩) ?_
     rintro _ _ _ ⟨rfl, rfl, rfl⟩
     refine AtO.call rfl en114 rfl (next114 _ _ _) (fun _ _ => trivial) (List.Perm.refl _) rfl (d_ (k_ r_)) ?_
     rintro _ _ _ ⟨rfl, rfl, rfl⟩
     refine AtO.call rfl en34 rfl (set34f v hvs (a : Int) x.ps hxs (nextS p x.stat 3)) (fun _ h => ⟨h.2.1, h.2.2.1, h.1, trivial⟩) (List.Perm.refl _) rfl (d_ (k_ r_)) ?_
     rintro _ _ _ ⟨u, rfl, rfl, rfl, hpu⟩
     refine oQ rfl (q_move rfl) rfl (cI (cT (cT (cI (cT cP))))) ?_
     refine oQ rfl (q_extract rfl rfl) rfl (cI (cT (cT (cI (cT cP))))) ?_
     refine oQ rfl (q_extract rfl rfl) rfl (cI (cT (cT (cI (cT cP))))) ?_
     refine AtO.loudNA rfl (l_store t24 rfl rfl (i := 0) rfl rfl rfl rfl) (by rintro _ _ _ ⟨rfl, rfl⟩; exact ⟨fun _ h => h, (d_ (k_ r_))⟩) ?_
     rintro _ _ _ ⟨rfl, rfl⟩
     refine AtO.done ?_
     refine aN (At.inNormal (aT (aR ?_)))
     refine aQ (q_add rfl rfl (by omega) (by omega)) rfl ?_
     refine aS 1 rfl rfl ?_
     refine aN (aT ?_)
     exact At.againK (k + 1, u) ⟨hk1, by rw [hpu, ← hst, hv, List.take_succ_eq_append_getElem hk1, List.foldl_append, (List.getElem?_eq_some_iff.1 ha).2]; rfl⟩ (by (try dsimp only); omega) (Tells.end 27 ⟨rfl, trivial⟩ rfl rfl) (fun _ h => ⟨h.1, ⟨h.2.1, h.2.2.2.2.2⟩⟩) (k_ r_)
    ·
     refine AtO.call rfl en114 rfl (next114 _ _ _) (fun _ _ => trivial) (List.Perm.refl _) rfl (d_ (k_ r_)) ?_
     rintro _ _ _ ⟨rfl, rfl, rfl⟩
     refine AtO.loud rfl (Quiet.loud (q_loadS t24 rfl (RdS.loc (i := 0) rfl (m := 2) rfl) rfl)) rfl (by rintro _ _ _ ⟨rfl, rfl, rfl⟩; exact ⟨fun _ h => h, (d_ (k_ r_))⟩) ?_
     rintro _ _ _ ⟨rfl, rfl, rfl⟩
     refine AtO.call rfl en34 rfl (set34f v hvs (a : Int) x.ps hxs (nextS p x.stat 3)) (fun _ h => ⟨h.2.1, h.2.2.1, h.1, trivial⟩) (List.Perm.refl _) rfl (d_ (k_ r_)) ?_
     rintro _ _ _ ⟨u, rfl, rfl, rfl, hpu⟩
     refine oQ rfl (q_move rfl) rfl (cI (cT (cT (cI (cT cP))))) ?_
     refine oQ rfl (q_extract rfl rfl) rfl (cI (cT (cT (cI (cT cP))))) ?_
     refine oQ rfl (q_extract rfl rfl) rfl (cI (cT (cT (cI (cT cP))))) ?_
     refine AtO.loudNA rfl (l_store t24 rfl rfl (i := 0) rfl rfl rfl rfl) (by rintro _ _ _ ⟨rfl, rfl⟩; exact ⟨fun _ h => h, (d_ (k_ r_))⟩) ?_
     rintro _ _ _ ⟨rfl, rfl⟩
     refine AtO.done ?_
     refine aN (At.inNormal (aT (aR ?_)))
     refine aQ (q_add rfl rfl (by omega) (by omega)) rfl ?_
     refine aS 1 rfl rfl ?_
     refine aN (aT ?_)
     exact At.againK (k + 1, u) ⟨hk1, by rw [hpu, ← hst, hv, List.take_succ_eq_append_getElem hk1, List.foldl_append, (List.getElem?_eq_some_iff.1 ha).2]; rfl⟩ (by (try dsimp only); omega) (Tells.end 27 ⟨rfl, trivial⟩ rfl rfl) (fun _ h => ⟨h.1, ⟨h.2.1, h.2.2.2.2.2⟩⟩) (k_ r_)
  ·
   refine AtO.loud rfl (Quiet.loud (q_load t22 rfl (Rd.loc (i := 0) rfl rfl))) rfl (by rintro _ _ _ ⟨rfl, rfl, rfl⟩; exact ⟨fun _ h => h, (d_ (k_ r_))⟩) ?_
   rintro _ _ _ ⟨rfl, rfl, rfl⟩
   refine oQ rfl (q_index Try.underlying22 t33 rfl (ix 1 rfl) (by simp) rfl rfl (lt_of_get hx)) rfl (cI (cT (cT (cI (cT cP))))) ?_
   refine oQ rfl (q_fieldAddr s33 rfl rfl rfl) rfl (cI (cT (cT (cI (cT cP))))) ?_
   refine oQ rfl (q_load t3 rfl (Rd.sl (ix 1 rfl) (map_get hx) rfl)) rfl (cI (cT (cT (cI (cT cP))))) ?_
   refine AtO.three ?_ ?_ ?_
   ·
    refine AtO.loud rfl (Quiet.loud (q_loadS t24 rfl (RdS.loc (i := 0) rfl (m := 2) rfl) rfl)) rfl (by rintro _ _ _ ⟨rfl, rfl, rfl⟩; exact ⟨fun _ h => h, (d_ (k_ r_))⟩) ?_
    rintro _ _ _ ⟨rfl, rfl, rfl⟩
    refine AtO.two ?_ ?_
    ·
     refine AtO.loud rfl (Quiet.loud (q_load t22 rfl (Rd.loc (i := 0) rfl rfl))) rfl (by rintro _ _ _ ⟨rfl, rfl, rfl⟩; exact ⟨fun _ h => h, (d_ (k_ r_))⟩) ?_
     rintro _ _ _ ⟨rfl, rfl, rfl⟩
     refine oQ rfl (q_index Try.underlying22 t33 rfl (ix 1 rfl) (by simp) rfl rfl (lt_of_get hx)) rfl (cI (cT (cT (cI (cT cP))))) ?_
     refine oQ rfl (q_fieldAddr s33 rfl rfl rfl) rfl (cI (cT (cT (cI (cT cP))))) ?_
     refine oQ rfl (q_load t31 rfl (Rd.sl (ix 1 rfl) (map_get hx) rfl)) rfl (cI (cT (cT (cI (cT cP))))) ?_
     refine AtO.call rfl en114 rfl (next114 _ _ _) (fun _ _ => trivial) (List.Perm.refl _) rfl (d_ (k_ r_)) ?_
     rintro _ _ _ ⟨rfl, rfl, rfl⟩
     refine AtO.call rfl en34 rfl (set34f v hvs (a : Int) x.ps hxs (nextS p x.stat 3)) (fun _ h => ⟨h.2.1, h.2.2.1, h.1, trivial⟩) (List.Perm.refl _) rfl (d_ (k_ r_)) ?_
     rintro _ _ _ ⟨u, rfl, rfl, rfl, hpu⟩
     refine oQ rfl (q_move rfl) rfl (cI (cT (cT (cI (cT cP))))) ?_
     refine oQ rfl (q_extract rfl rfl) rfl (cI (cT (cT (cI (cT cP))))) ?_
     refine oQ rfl (q_extract rfl rfl) rfl (cI (cT (cT (cI (cT cP))))) ?_
     refine AtO.loudNA rfl (l_store t24 rfl rfl (i := 0) rfl rfl rfl rfl) (by rintro _ _ _ ⟨rfl, rfl⟩; exact ⟨fun _ h => h, (d_ (k_ r_))⟩) ?_
     rintro _ _ _ ⟨rfl, rfl⟩
     refine AtO.done ?_
     refine aN (At.inNormal (aT (aR ?_)))
     refine aQ (q_add rfl rfl (by omega) (by omega)) rfl ?_
     refine aS 1 rfl rfl ?_
     refine aN (aT ?_)
     exact At.againK (k + 1, u) ⟨hk1, by rw [hpu, ← hst, hv, List.take_succ_eq_append_getElem hk1, List.foldl_append, (List.getElem?_eq_some_iff.1 ha).2]; rfl⟩ (by (try dsimp only); omega) (Tells.end 27 ⟨rfl, trivial⟩ rfl rfl) (fun _ h => ⟨h.1, ⟨h.2.1, h.2.2.2.2.2⟩⟩) (k_ r_)
    ·
     refine AtO.call rfl en114 rfl (next114 _ _ _) (fun _ _ => trivial) (List.Perm.refl _) rfl (d_ (k_ r_)) ?_
     rintro _ _ _ ⟨rfl, rfl, rfl⟩
     refine AtO.loud rfl (Quiet.loud (q_load t22 rfl (Rd.loc (i := 0) rfl rfl))) rfl (by rintro _ _ _ ⟨rfl, rfl, rfl⟩; exact ⟨fun _ h => h, (d_ (k_ r_))⟩) ?_
     rintro _ _ _ ⟨rfl, rfl, rfl⟩
     refine oQ rfl (q_index Try.underlying22 t33 rfl (ix 1 rfl) (by simp) rfl rfl (lt_of_get hx)) rfl (cI (cT (cT (cI (cT cP))))) ?_
     refine oQ rfl (q_fieldAddr s33 rfl rfl rfl) rfl (cI (cT (cT (cI (cT cP))))) ?_
     refine oQ rfl (q_load t31 rfl (Rd.sl (ix 1 rfl) (map_get hx) rfl)) rfl (cI (cT (cT (cI (cT cP))))) ?_
     refine AtO.call rfl en34 rfl (set34f v hvs (a : Int) x.ps hxs (nextS p x.stat 3)) (fun _ h => ⟨h.2.1, h.2.2.1, h.1, trivial⟩) (List.Perm.refl _) rfl (d_ (k_ r_)) ?_
     rintro _ _ _ ⟨u, rfl, rfl, rfl, hpu⟩
     refine oQ rfl (q_move rfl) rfl (cI (cT (cT (cI (cT cP))))) ?_
     refine oQ rfl (q_extract rfl rfl) rfl (cI (cT (cT (cI (cT cP))))) ?_
     refine oQ rfl (q_extract rfl rfl) rfl (cI (cT (cT (cI (cT cP))))) ?_
     refine AtO.loudNA rfl (l_store t24 rfl rfl (i := 0) rfl rfl rfl rfl) (by rintro _ _ _ ⟨rfl, rfl⟩; exact ⟨fun _ h => h, (d_ (k_ r_))⟩) ?_
     rintro _ _ _ ⟨rfl, rfl⟩
     refine AtO.done ?_
     refine aN (At.inNormal (aT (aR ?_)))
     refine aQ (q_add rfl rfl (by omega) (by omega)) rfl ?_
     refine aS 1 rfl rfl ?_
     refine aN (aT ?_)
     exact At.againK (k + 1, u) ⟨hk1, by rw [hpu, ← hst, hv, List.take_succ_eq_append_getElem hk1, List.foldl_append, (List.getElem?_eq_some_iff.1 ha).2]; rfl⟩ (by (try dsimp only); omega) (Tells.end 27 ⟨rfl, trivial⟩ rfl rfl) (fun _ h => ⟨h.1, ⟨h.2.1, h.2.2.2.2.2⟩⟩) (k_ r_)
   ·
    refine AtO.loud rfl (Quiet.loud (q_load t22 rfl (Rd.loc (i := 0) rfl rfl))) rfl (by rintro _ _ _ ⟨rfl, rfl, rfl⟩; exact ⟨fun _ h => h, (d_ (k_ r_))⟩) ?_
    rintro _ _ _ ⟨rfl, rfl, rfl⟩
    refine oQ rfl (q_index Try.underlying22 t33 rfl (ix 1 rfl) (by simp) rfl rfl (lt_of_get hx)) rfl (cI (cT (cT (cI (cT cP))))) ?_
    refine oQ rfl (q_fieldAddr s33 rfl rfl rfl) rfl (cI (cT (cT (cI (cT cP))))) ?_
    refine oQ rfl (q_load t31 rfl (Rd.sl (ix 1 rfl) (map_get hx) rfl)) rfl (cI (cT (cT (cI (cT cP))))) ?_
    refine AtO.two ?_ ?_
    ·
     refine AtO.loud rfl (Quiet.loud (q_loadS t24 rfl (RdS.loc (i := 0) rfl (m := 2) rfl) rfl)) rfl (by rintro _ _ _ ⟨rfl, rfl, rfl⟩; exact ⟨fun _ h => h, (d_ (k_ r_))⟩) ?_
     rintro _ _ _ ⟨rfl, rfl, rfl⟩
     refine AtO.call rfl en114 rfl (next114 _ _ _) (fun _ _ => trivial) (List.Perm.refl _) rfl (d_ (k_ r_)) ?_
     rintro _ _ _ ⟨rfl, rfl, rfl⟩
     refine AtO.call rfl en34 rfl (set34f v hvs (a : Int) x.ps hxs (nextS p x.stat 3)) (fun _ h => ⟨h.2.1, h.2.2.1, h.1, trivial⟩) (List.Perm.refl _) rfl (d_ (k_ r_)) ?_
     rintro _ _ _ ⟨u, rfl, rfl, rfl, hpu⟩
     refine oQ rfl (q_move rfl) rfl (cI (cT (cT (cI (cT cP))))) ?_
     refine oQ rfl (q_extract rfl rfl) rfl (cI (cT (cT (cI (cT cP))))) ?_
     refine oQ rfl (q_extract rfl rfl) rfl (cI (cT (cT (cI (cT cP))))) ?_
     refine AtO.loudNA rfl (l_store t24 rfl rfl (i := 0) rfl rfl rfl rfl) (by rintro _ _ _ ⟨rfl, rfl⟩; exact ⟨fun _ h => h, (d_ (k_ r_))⟩) ?_
     rintro _ _ _ ⟨rfl, rfl⟩
     refine AtO.done ?_
     refine aN (At.inNormal (aT (aR ?_)))
     refine aQ (q_add rfl rfl (by omega) (by omega)) rfl ?_
     refine aS 1 rfl rfl ?_
     refine aN (aT ?_)
     exact At.againK (k + 1, u) ⟨hk1, by rw [hpu, ← hst, hv, List.take_succ_eq_append_getElem hk1, List.foldl_append, (List.getElem?_eq_some_iff.1 ha).2]; rfl⟩ (by (try dsimp only); omega) (Tells.end 27 ⟨rfl, trivial⟩ rfl rfl) (fun _ h => ⟨h.1, ⟨h.2.1, h.2.2.2.2.2⟩⟩) (k_ r_)
    ·
     refine AtO.call rfl en114 rfl (next114 _ _ _) (fun _ _ => trivial) (List.Perm.refl _) rfl (d_ (k_ r_)) ?_
     rintro _ _ _ ⟨rfl, rfl, rfl⟩
     refine AtO.loud rfl (Quiet.loud (q_loadS t24 rfl (RdS.loc (i := 0) rfl (m := 2) rfl) rfl)) rfl (by rintro _ _ _ ⟨rfl, rfl, rfl⟩; exact ⟨fun _ h => h, (d_ (k_ r_))⟩) ?_
     rintro _ _ _ ⟨rfl, rfl, rfl⟩
     refine AtO.call rfl en34 rfl (set34f v hvs (a : Int) x.ps hxs (nextS p x.stat 3)) (fun _ h => ⟨h.2.1, h.2.2.1, h.1, trivial⟩) (List.Perm.refl _) rfl (d_ (k_ r_)) ?_
     rintro _ _ _ ⟨u, rfl, rfl, rfl, hpu⟩
     refine oQ rfl (q_move rfl) rfl (cI (cT (cT (cI (cT cP))))) ?_
     refine oQ rfl (q_extract rfl rfl) rfl (cI (cT (cT (cI (cT cP))))) ?_
     refine oQ rfl (q_extract rfl rfl) rfl (cI (cT (cT (cI (cT cP))))) ?_
     refine AtO.loudNA rfl (l_store t24 rfl rfl (i := 0) rfl rfl rfl rfl) (by rintro _ _ _ ⟨rfl, rfl⟩; exact ⟨fun _ h => h, (d_ (k_ r_))⟩) ?_
     rintro _ _ _ ⟨rfl, rfl⟩
     refine AtO.done ?_
     refine aN (At.inNormal (aT (aR ?_)))
     refine aQ (q_add rfl rfl (by omega) (by omega)) rfl ?_
     refine aS 1 rfl rfl ?_
     refine aN (aT ?_)
     exact At.againK (k + 1, u) ⟨hk1, by rw [hpu, ← hst, hv, List.take_succ_eq_append_getElem hk1, List.foldl_append, (List.getElem?_eq_some_iff.1 ha).2]; rfl⟩ (by (try dsimp only); omega) (Tells.end 27 ⟨rfl, trivial⟩ rfl rfl) (fun _ h => ⟨h.1, ⟨h.2.1, h.2.2.2.2.2⟩⟩) (k_ r_)
   ·
    refine AtO.call rfl en114 rfl (next114 _ _ _) (fun _ _ => trivial) (List.Perm.refl _) rfl (d_ (k_ r_)) ?_
    rintro _ _ _ ⟨rfl, rfl, rfl⟩
    refine AtO.two ?_ ?_
    ·
     refine AtO.loud rfl (Quiet.loud (q_loadS t24 rfl (RdS.loc (i := 0) rfl (m := 2) rfl) rfl)) rfl (by rintro _ _ _ ⟨rfl, rfl, rfl⟩; exact ⟨fun _ h => h, (d_ (k_ r_))⟩) ?_
     rintro _ _ _ ⟨rfl, rfl, rfl⟩
     refine AtO.loud rfl (Quiet.loud (q_load t22 rfl (Rd.loc (i := 0) rfl rfl))) rfl (by rintro _ _ _ ⟨rfl, rfl, rfl⟩; exact ⟨fun _ h => h, (d_ (k_ r_))⟩) ?_
     rintro _ _ _ ⟨rfl, rfl, rfl⟩
     refine oQ rfl (q_index Try.underlying22 t33 rfl (ix 1 rfl) (by simp) rfl rfl (lt_of_get hx)) rfl (cI (cT (cT (cI (cT cP))))) ?_
     refine oQ rfl (q_fieldAddr s33 rfl rfl rfl) rfl (cI (cT (cT (cI (cT cP))))) ?_
     refine oQ rfl (q_load t31 rfl (Rd.sl (ix 1 rfl) (map_get hx) rfl)) rfl (cI (cT (cT (cI (cT cP))))) ?_
     refine AtO.call rfl en34 rfl (set34f v hvs (a : Int) x.ps hxs (nextS p x.stat 3)) (fun _ h => ⟨h.2.1, h.2.2.1, h.1, trivial⟩) (List.Perm.refl _) rfl (d_ (k_ r_)) ?_
     rintro _ _ _ ⟨u, rfl, rfl, rfl, hpu⟩
     refine oQ rfl (q_move rfl) rfl (cI (cT (cT (cI (cT cP))))) ?_
     refine oQ rfl (q_extract rfl rfl) rfl (cI (cT (cT (cI (cT cP))))) ?_
     refine oQ rfl (q_extract rfl rfl) rfl (cI (cT (cT (cI (cT cP))))) ?_
     refine AtO.loudNA rfl (l_store t24 rfl rfl (i := 0) rfl rfl rfl rfl) (by rintro _ _ _ ⟨rfl, rfl⟩; exact ⟨fun _ h => h, (d_ (k_ r_))⟩) ?_
     rintro _ _ _ ⟨rfl, rfl⟩
     refine AtO.done ?_
     refine aN (At.inNormal (aT (aR ?_)))
     refine aQ (q_add rfl rfl (by omega) (by omega)) rfl ?_
     refine aS 1 rfl rfl ?_
     refine aN (aT ?_)
     exact At.againK (k + 1, u) ⟨hk1, by rw [hpu, ← hst, hv, List.take_succ_eq_append_getElem hk1, List.foldl_append, (List.getElem?_eq_some_iff.1 ha).2]; rfl⟩ (by (try dsimp only); omega) (Tells.end 27 ⟨rfl, trivial⟩ rfl rfl) (fun _ h => ⟨h.1, ⟨h.2.1, h.2.2.2.2.2⟩⟩) (k_ r_)
    ·
     refine AtO.loud rfl (Quiet.loud (q_load t22 rfl (Rd.loc (i := 0) rfl rfl))) rfl (by rintro _ _ _ ⟨rfl, rfl, rfl⟩; exact ⟨fun _ h => h, (d_ (k_ r_))⟩) ?_
     rintro _ _ _ ⟨rfl, rfl, rfl⟩
     refine oQ rfl (q_index Try.underlying22 t33 rfl (ix 1 rfl) (by simp) rfl rfl (lt_of_get hx)) rfl (cI (cT (cT (cI (cT cP))))) ?_
     refine oQ rfl (q_fieldAddr s33 rfl rfl rfl) rfl (cI (cT (cT (cI (cT cP))))) ?_
     refine oQ rfl (q_load t31 rfl (Rd.sl (ix 1 rfl) (map_get hx) rfl)) rfl (cI (cT (cT (cI (cT cP))))) ?_
     refine AtO.loud rfl (Quiet.loud (q_loadS t24 rfl (RdS.loc (i := 0) rfl (m := 2) rfl) rfl)) rfl (by rintro _ _ _ ⟨rfl, rfl, rfl⟩; exact ⟨fun _ h => h, (d_ (k_ r_))⟩) ?_
     rintro _ _ _ ⟨rfl, rfl, rfl⟩
     refine AtO.call rfl en34 rfl (set34f v hvs (a : Int) x.ps hxs (nextS p x.stat 3)) (fun _ h => ⟨h.2.1, h.2.2.1, h.1, trivial⟩) (List.Perm.refl _) rfl (d_ (k_ r_)) ?_
     rintro _ _ _ ⟨u, rfl, rfl, rfl, hpu⟩
     refine oQ rfl (q_move rfl) rfl (cI (cT (cT (cI (cT cP))))) ?_
     refine oQ rfl (q_extract rfl rfl) rfl (cI (cT (cT (cI (cT cP))))) ?_
     refine oQ rfl (q_extract rfl rfl) rfl (cI (cT (cT (cI (cT cP))))) ?_
     refine AtO.loudNA rfl (l_store t24 rfl rfl (i := 0) rfl rfl rfl rfl) (by rintro _ _ _ ⟨rfl, rfl⟩; exact ⟨fun _ h => h, (d_ (k_ r_))⟩) ?_
     rintro _ _ _ ⟨rfl, rfl⟩
     refine AtO.done ?_
     refine aN (At.inNormal (aT (aR ?_)))
     refine aQ (q_add rfl rfl (by omega) (by omega)) rfl ?_
     refine aS 1 rfl rfl ?_
     refine aN (aT ?_)
     exact At.againK (k + 1, u) ⟨hk1, by rw [hpu, ← hst, hv, List.take_succ_eq_append_getElem hk1, List.foldl_append, (List.getElem?_eq_some_iff.1 ha).2]; rfl⟩ (by (try dsimp only); omega) (Tells.end 27 ⟨rfl, trivial⟩ rfl rfl) (fun _ h => ⟨h.1, ⟨h.2.1, h.2.2.2.2.2⟩⟩) (k_ r_)
 ·
  have hvp : v.p = L.foldl (setSt p) t.p := by rw [hv, List.take_of_length_le (by omega)]
  refine At.exit (At.thenExit (At.thenExit (At.inHere rfl (aT (aE ?_)))))
  refine At.draw 10 (.q 1 (.q 2 (.q 3 (.q 4 (.o 0 (.o 5 (.q 6 (.q 7 (.q 8 (.o 9 (.e))))))))))) (_ :: L₀) (d_ (k_ r_)) mixed (by kernel_rfl) rfl ?_
  refine oQ rfl (q_loadS t64 rfl (RdS.blk (ix 2 rfl) (m := 5) rfl) rfl) rfl (cT cP) ?_
  refine oQ rfl (q_move rfl) rfl (cT cP) ?_
  refine oQ rfl (q_index Try.underlying37 t3 rfl (ix 6 rfl) (by simp) rfl rfl (lt_of_get h00)) rfl (cT cP) ?_
  refine oQ rfl (q_load t3 rfl (Rd.sl0 (ix 6 rfl) (map_get h00) rfl)) rfl (cT cP) ?_
  refine AtO.loud rfl (Quiet.loud (q_loadS t24 rfl (RdS.loc (i := 0) rfl (m := 2) rfl) rfl)) rfl (by rintro _ _ _ ⟨rfl, rfl, rfl⟩; exact ⟨fun _ h => h, (d_ (k_ r_))⟩) ?_
  rintro _ _ _ ⟨rfl, rfl, rfl⟩
  refine AtO.call rfl en51 rfl (bend51 v hvs p _) (fun _ h => ⟨h.1, h.2.1, trivial⟩) (List.Perm.refl _) rfl (d_ (k_ r_)) ?_
  rintro _ _ _ ⟨w, rfl, rfl, rfl, hpw⟩
  refine oQ rfl (q_move rfl) rfl (cT cP) ?_
  refine oQ rfl (q_extract rfl rfl) rfl (cT cP) ?_
  refine oQ rfl (q_extract rfl rfl) rfl (cT cP) ?_
  refine AtO.loudNA rfl (l_store t24 rfl rfl (i := 0) rfl rfl rfl rfl) (by rintro _ _ _ ⟨rfl, rfl⟩; exact ⟨fun _ h => h, (d_ (k_ r_))⟩) ?_
  rintro _ _ _ ⟨rfl, rfl⟩
  refine AtO.done ?_
  refine aN (aT (aE (aR ?_)))
  refine aQ (q_loadS t24 rfl (RdS.loc (i := 0) rfl (m := 2) rfl) rfl) rfl ?_
  refine At.loudN (l_store t24 rfl rfl (i := 1) rfl rfl rfl rfl) ?_
  rintro _ _ _ ⟨rfl, rfl⟩
  refine aN (aT (At.ret ?_))
  exact At.results (Γr := [_, _]) (M := []) rfl (RVals.cons (RVal.cellS rfl t24 (RdS.loc (i := 1) rfl (m := 2) rfl) rfl) RVals.nil) (ix 5 rfl) (fun _ h => ⟨h.1, h.2.1, trivial⟩) (d_ (d_ r_)) ⟨w, rfl, rfl, rfl, by rw [hpw, hvp]; rfl⟩
end Go.Proofs.Ytmkodknmknfdkaa
set_option linter.unusedVariables false
set_option linter.unusedSimpArgs false
namespace Go.Proofs.Ytmkodknmknfdkaa
open E
set_option maxRecDepth 4000
theorem en57 : Enters Try.prog 57 := Enters.mk' Try.func57 rfl rfl
theorem en93 : Enters Try.prog 93 := Enters.mk' Try.func93 rfl rfl
theorem en95 : Enters Try.prog 95 := Enters.mk' Try.func95 rfl rfl
theorem en96 : Enters Try.prog 96 := Enters.mk' Try.func96 rfl rfl
theorem en97 : Enters Try.prog 97 := Enters.mk' Try.func97 rfl rfl
set_option maxHeartbeats 2000000 in
theorem solo57 (t : Tr) (hsm : smallP t.ns.l) (p : Pol) (o : OpS) (hal : (allT t.p).length ≤ 600000) : Con Try.prog 57 [t.val, p.val, o.val] [ndsP t.ns, psP t.ns.l] [] (SoloEnd t.p p o) := by
 refine Con.body 58 Try.func57 rfl Try.ntmps57 rfl fun X H₀ L₀ => ?_
 refine At.know (ndsP ⟨none, 0, []⟩) (fun _ h => sl_nil _ _ _ (Nat.zero_le _)) ?_
 refine At.know (psP []) (fun _ h => psP_nil) ?_
 refine At.know (prsP ⟨none, 0, []⟩) (fun _ h => sl_nil _ _ _ (Nat.zero_le _)) ?_
 refine aE (aR ?_)
 refine At.loud (l_box rfl) rfl ?_
 rintro _ _ _ ⟨b1, rfl, rfl, rfl⟩
 refine At.freeze 0 (φ := blk b1 _) rfl (fun _ h => blk_def.2 ⟨_, _, h⟩) ?_
 refine At.loud (l_box rfl) rfl ?_
 rintro _ _ _ ⟨b2, rfl, rfl, rfl⟩
 refine At.freeze 0 (φ := blk b2 _) rfl (fun _ h => blk_def.2 ⟨_, _, h⟩) ?_
 refine At.loud (l_box rfl) rfl ?_
 rintro _ _ _ ⟨b3, rfl, rfl, rfl⟩
 refine At.freeze 0 (φ := blk b3 _) rfl (fun _ h => blk_def.2 ⟨_, _, h⟩) ?_
 refine At.loud (l_alloc t24) rfl ?_
 rintro _ _ _ ⟨b4, rfl, rfl, rfl⟩
 refine At.loud (l_alloc t80) rfl ?_
 rintro _ _ _ ⟨b5, rfl, rfl, rfl⟩
 refine aN (aT (aE (aR ?_)))
 refine aQ (q_loadS t24 rfl (RdS.blk (ix 2 rfl) (m := 2) rfl) rfl) rfl ?_
 refine At.call en25 rfl (plain25 _ (by assumption)) (fun _ h => ⟨h.2.2.2.2.2.2.2.1, h.2.2.2.2.2.2.2.2.1, trivial⟩) (List.Perm.refl _) rfl ?_
 rintro _ _ _ ⟨w, Mw, rfl, rfl, rfl, hw, hpw⟩
 refine aS 1 rfl rfl ?_
 refine aQ (q_extract rfl rfl) rfl ?_
 refine aQ (q_extract rfl rfl) rfl ?_
 refine At.loud (l_alloc t24) rfl ?_
 rintro _ _ _ ⟨b6, rfl, rfl, rfl⟩
 refine At.loudN (l_store t24 rfl rfl (i := 0) rfl rfl rfl rfl) ?_
 rintro _ _ _ ⟨rfl, rfl⟩
 refine aS 1 rfl rfl ?_
 refine aN (aT (aE (aE (aR ?_))))
 refine aS 2 rfl rfl ?_
 refine aN (aT ?_)
 refine At.cond rfl (fun hm => ?_) (fun hm => ?_)
 ·
  refine aE (aR ?_)
  refine aQ (q_build t24 s24 rfl rfl) rfl ?_
  refine aQ (q_build t80 s80 rfl rfl) rfl ?_
  refine At.loudN (l_store t24 rfl rfl (i := 3) rfl rfl rfl rfl) ?_
  rintro _ _ _ ⟨rfl, rfl⟩
  refine At.loudN (l_store t80 rfl rfl (i := 2) rfl rfl rfl rfl) ?_
  rintro _ _ _ ⟨rfl, rfl⟩
  refine aN (aT (At.ret (At.thenRet ?_)))
  exact At.results (Γr := [_, psP [], _]) (M := []) rfl (RVals.cons (RVal.cellS rfl t24 (RdS.loc (i := 3) rfl (m := 2) rfl) rfl) (RVals.cons (RVal.cellS rfl t80 (RdS.loc (i := 2) rfl (m := 6) rfl) rfl) RVals.nil)) (ix 7 rfl) (fun _ h => ⟨h.2.2.2.2.2.2.1, h.2.2.2.2.2.1, h.2.2.2.2.1, trivial⟩) (d_ (d_ (d_ (d_ r_)))) ⟨⟨0, ⟨none, 0, []⟩⟩, ⟨none, 0, []⟩, by rw [solo_no (not_t hm)]; rfl, rfl, rfl, by rw [solo_no (not_t hm)]; rfl, by rw [solo_no (not_t hm)]; rfl⟩
 ·
  have hmt : (mayT t.p).isSome = true := not_f hm
  refine At.skip (aT (aE (aE (aR ?_))))
  refine At.freezeOwn 1 hw rfl ?_
  obtain ⟨hk1, _, hk3, _⟩ := plain_keeps hmt
  rw [← hpw] at hk1 hk3
  obtain ⟨s, hs⟩ := Option.isSome_iff_exists.1 hk1
  have halw : (allT w.p).length ≤ 600000 := by rw [hk3]; exact hal
  refine aQ (q_loadS t77 rfl (RdS.blk (ix 2 rfl) (m := 4) rfl) rfl) rfl ?_
  refine At.call en92 rfl (mayop92 _) (fun _ _ => trivial) (List.Perm.refl _) rfl ?_
  rintro _ _ _ ⟨rfl, rfl, rfl⟩
  refine aS 1 rfl rfl ?_
  refine aN (aT ?_)
  refine At.cond rfl (fun ho => ?_) (fun ho => ?_)
  ·
   refine aE (aR ?_)
   refine aQ (q_loadS t24 rfl (RdS.loc (i := 0) rfl (m := 2) rfl) rfl) rfl ?_
   refine aQ (q_build t80 s80 rfl rfl) rfl ?_
   refine At.loudN (l_store t24 rfl rfl (i := 2) rfl rfl rfl rfl) ?_
   rintro _ _ _ ⟨rfl, rfl⟩
   refine At.loudN (l_store t80 rfl rfl (i := 1) rfl rfl rfl rfl) ?_
   rintro _ _ _ ⟨rfl, rfl⟩
   refine aN (aT (At.ret (At.thenRet ?_)))
   exact At.results (Γr := [_, _, _]) (M := []) rfl (RVals.cons (RVal.cellS rfl t24 (RdS.loc (i := 2) rfl (m := 2) rfl) rfl) (RVals.cons (RVal.cellS rfl t80 (RdS.loc (i := 1) rfl (m := 6) rfl) rfl) RVals.nil)) (ix 8 rfl) (fun _ h => ⟨h.1, h.2.1, h.2.2.2.2.2.1, trivial⟩) (d_ (d_ (d_ r_))) ⟨w, ⟨none, 0, []⟩, by rw [solo_badop hmt (not_t ho)]; rfl, rfl, rfl, by rw [solo_badop hmt (not_t ho)]; exact hpw, by rw [solo_badop hmt (not_t ho)]; rfl⟩
  ·
   have hmo : mayO o = true := not_f ho
   refine At.skip (aT ?_)
   refine At.cutD (ι := Nat × Sl Pr × An) .z [10, 26, 27, 28, 29, 30] (fun ⟨b9, s2, A⟩ => [(10, .pointer (some ⟨b9, 0, none⟩))]) (fun ⟨b9, s2, A⟩ => [prsP s2]) (fun ⟨b9, s2, A⟩ => [[(b9, .cells #[.int .i64 A.err, .bool A.ok, .int .i64 A.p.k, .int .i64 A.p.v, .int .i64 A.n, s2.val] 80 (0, 0))]]) (fun ⟨b9, s2, A⟩ => A = (doT (allT t.p) o).2 ∧ s2.l = A.l) ?_ ?_
   ·
    refine At.draw 6 (.q 0 (.q 3 (.t 1 (.t 2 (.t 4 (.o 5 (.e)) 5 (.o 4 (.e))) 5 (.o 2 (.o 4 (.e)))) 5 (.o 1 (.o 2 (.o 4 (.e))))))) _ (List.Sublist.refl _) mixed (by kernel_rfl) rfl ?_
    refine oQ rfl (q_loadS t24 rfl (RdS.blk (ix 4 rfl) (m := 2) rfl) rfl) rfl (cT cP) ?_
    refine oQ rfl (q_loadS t77 rfl (RdS.blk (ix 2 rfl) (m := 4) rfl) rfl) rfl (cT cP) ?_
    refine AtO.two ?_ ?_
    ·
     refine AtO.call rfl en29 rfl (all29f t hsm) (fun _ h => ⟨h.2.2.2.2.2.2.2.2.2.1, h.2.2.2.2.2.2.2.2.2.2.1, trivial⟩) (List.Perm.refl _) rfl r_ ?_
     rintro _ _ _ ⟨al, rfl, rfl, rfl, hpal⟩
     refine AtO.two ?_ ?_
     ·
      refine AtO.call rfl en93 rfl (new93 al (by rw [hpal]; omega)) (fun _ h => ⟨h.1, trivial⟩) (List.Perm.refl _) rfl r_ ?_
      rintro _ _ _ ⟨bm, sm, rfl, rfl, rfl, hsm9⟩
      have hsm8 : sm.l = allT t.p := by rw [hsm9, hpal, put_all (all_rise _)]
      refine AtO.two ?_ ?_
      ·
       refine AtO.front 0 rfl ?_
       refine AtO.call rfl en94 rfl (map94 sm o bm (by rw [hsm8]; omega)) (fun _ h => ⟨h.1, trivial⟩) (List.Perm.refl _) rfl r_ ?_
       rintro _ _ _ ⟨s3, s2, rfl, rfl, rfl, hs3, hs2⟩
       refine AtO.loudA rfl (l_alloc t80) rfl (by rintro _ _ _ ⟨_, rfl, rfl, rfl⟩; exact ⟨fun _ h => h, d_ (d_ (k_ (k_ (k_ r_))))⟩) ?_
       rintro _ _ _ ⟨b7, rfl, rfl, rfl⟩
       refine AtO.done ?_
       refine At.loudN (l_store t80 rfl rfl (i := 0) rfl rfl rfl rfl) ?_
       rintro _ _ _ ⟨rfl, rfl⟩
       refine aN (aT ?_)
       exact At.meetK (b7, s2, (doT sm.l o).2) ⟨by rw [hsm8], hs2⟩ (Tells.meet 6 ⟨rfl, trivial⟩ rfl rfl) (fun _ h => ⟨h.2.1, h.2.2.2.2⟩) (k_ (d_ r_))
      ·
       refine AtO.loud rfl (l_alloc t80) rfl (by rintro _ _ _ ⟨_, rfl, rfl, rfl⟩; exact ⟨fun _ h => h, d_ (d_ (k_ (k_ (k_ r_))))⟩) ?_
       rintro _ _ _ ⟨b8, rfl, rfl, rfl⟩
       refine AtO.front 1 rfl ?_
       refine AtO.callA rfl en94 rfl (map94 sm o bm (by rw [hsm8]; omega)) (fun _ h => ⟨h.1, trivial⟩) (List.Perm.refl _) rfl (d_ (k_ (k_ (k_ r_)))) ?_
       rintro _ _ _ ⟨s3, s2, rfl, rfl, rfl, hs3, hs2⟩
       refine AtO.done ?_
       refine At.loudN (l_store t80 rfl rfl (i := 1) rfl rfl rfl rfl) ?_
       rintro _ _ _ ⟨rfl, rfl⟩
       refine aN ?_
       refine At.front 1 rfl ?_
       refine aT ?_
       exact At.meetK (b8, s2, (doT sm.l o).2) ⟨by rw [hsm8], hs2⟩ (Tells.meet 6 ⟨rfl, trivial⟩ rfl rfl) (fun _ h => ⟨h.2.1, h.2.2.2.2⟩) (k_ (d_ r_))
     ·
      refine AtO.loud rfl (l_alloc t80) rfl (by rintro _ _ _ ⟨_, rfl, rfl, rfl⟩; exact ⟨fun _ h => h, d_ r_⟩) ?_
      rintro _ _ _ ⟨b9, rfl, rfl, rfl⟩
      refine AtO.call rfl en93 rfl (new93 al (by rw [hpal]; omega)) (fun _ h => ⟨h.1, trivial⟩) (List.Perm.refl _) rfl (d_ (k_ (k_ (k_ r_)))) ?_
      rintro _ _ _ ⟨bm, sm, rfl, rfl, rfl, hsm9⟩
      have hsm8 : sm.l = allT t.p := by rw [hsm9, hpal, put_all (all_rise _)]
      refine AtO.front 0 rfl ?_
      refine AtO.callA rfl en94 rfl (map94 sm o bm (by rw [hsm8]; omega)) (fun _ h => ⟨h.1, trivial⟩) (List.Perm.refl _) rfl (d_ (k_ (k_ (k_ r_)))) ?_
      rintro _ _ _ ⟨s3, s2, rfl, rfl, rfl, hs3, hs2⟩
      refine AtO.done ?_
      refine At.loudN (l_store t80 rfl rfl (i := 1) rfl rfl rfl rfl) ?_
      rintro _ _ _ ⟨rfl, rfl⟩
      refine aN ?_
      refine At.front 1 rfl ?_
      refine aT ?_
      exact At.meetK (b9, s2, (doT sm.l o).2) ⟨by rw [hsm8], hs2⟩ (Tells.meet 6 ⟨rfl, trivial⟩ rfl rfl) (fun _ h => ⟨h.2.1, h.2.2.2.2⟩) (k_ (d_ r_))
    ·
     refine AtO.loud rfl (l_alloc t80) rfl (by rintro _ _ _ ⟨_, rfl, rfl, rfl⟩; exact ⟨fun _ h => h, d_ r_⟩) ?_
     rintro _ _ _ ⟨b10, rfl, rfl, rfl⟩
     refine AtO.call rfl en29 rfl (all29f t hsm) (fun _ h => ⟨h.2.2.2.2.2.2.2.2.2.1, h.2.2.2.2.2.2.2.2.2.2.1, trivial⟩) (List.Perm.refl _) rfl (d_ (k_ (k_ (k_ r_)))) ?_
     rintro _ _ _ ⟨al, rfl, rfl, rfl, hpal⟩
     refine AtO.call rfl en93 rfl (new93 al (by rw [hpal]; omega)) (fun _ h => ⟨h.1, trivial⟩) (List.Perm.refl _) rfl (d_ (k_ (k_ (k_ r_)))) ?_
     rintro _ _ _ ⟨bm, sm, rfl, rfl, rfl, hsm9⟩
     have hsm8 : sm.l = allT t.p := by rw [hsm9, hpal, put_all (all_rise _)]
     refine AtO.front 0 rfl ?_
     refine AtO.callA rfl en94 rfl (map94 sm o bm (by rw [hsm8]; omega)) (fun _ h => ⟨h.1, trivial⟩) (List.Perm.refl _) rfl (d_ (k_ (k_ (k_ r_)))) ?_
     rintro _ _ _ ⟨s3, s2, rfl, rfl, rfl, hs3, hs2⟩
     refine AtO.done ?_
     refine At.loudN (l_store t80 rfl rfl (i := 1) rfl rfl rfl rfl) ?_
     rintro _ _ _ ⟨rfl, rfl⟩
     refine aN ?_
     refine At.front 1 rfl ?_
     refine aT ?_
     exact At.meetK (b10, s2, (doT sm.l o).2) ⟨by rw [hsm8], hs2⟩ (Tells.meet 6 ⟨rfl, trivial⟩ rfl rfl) (fun _ h => ⟨h.2.1, h.2.2.2.2⟩) (k_ (d_ r_))
   intro j0 hMt
   obtain ⟨b9, s2, A⟩ := j0
   obtain ⟨rfl, hs2⟩ := hMt
   refine aE (aR ?_)
   refine aQ (q_loadS t24 rfl (RdS.loc (i := 1) rfl (m := 2) rfl) rfl) rfl ?_
   refine aQ (q_loadS t77 rfl (RdS.blk (ix 3 rfl) (m := 4) rfl) rfl) rfl ?_
   refine At.call en61 rfl (touched61 w o) (fun _ h => ⟨h.2.1, h.2.2.1, trivial⟩) (List.Perm.refl _) rfl ?_
   rintro _ _ _ ⟨tl, rfl, rfl, rfl, htl⟩
   have htll : tl.l.length = (touchT w.p o).length := by rw [htl, toI_length]
   refine aS 1 rfl rfl ?_
   refine aN (aT (aE (At.block (aE (aR ?_)))))
   refine aQ (q_loadS t77 rfl (RdS.blk (ix 4 rfl) (m := 4) rfl) rfl) rfl ?_
   refine At.call en95 rfl (upd95 _) (fun _ _ => trivial) (List.Perm.refl _) rfl ?_
   rintro _ _ _ ⟨rfl, rfl, rfl⟩
   refine aS 1 rfl rfl ?_
   refine aN (aT ?_)
   refine At.cond rfl (fun hu => ?_) (fun hu => ?_)
   ·
    refine aE ?_
    refine At.draw 6 (.q 0 (.q 1 (.q 2 (.q 4 (.o 3 (.o 5 (.e))))))) (_ :: _ :: _ :: L₀) (k_ (k_ (k_ (d_ r_)))) mixed (by kernel_rfl) rfl ?_
    refine oQ rfl (q_loadS t24 rfl (RdS.loc (i := 1) rfl (m := 2) rfl) rfl) rfl (cT (cI (cT cP))) ?_
    refine oQ rfl (q_loadS t64 rfl (RdS.blk (ix 5 rfl) (m := 5) rfl) rfl) rfl (cT (cI (cT cP))) ?_
    refine oQ rfl (q_loadS t77 rfl (RdS.blk (ix 4 rfl) (m := 4) rfl) rfl) rfl (cT (cI (cT cP))) ?_
    refine oQ rfl (q_loadS t80 rfl (RdS.loc (i := 0) rfl (m := 6) rfl) rfl) rfl (cT (cI (cT cP))) ?_
    refine AtO.call rfl en96 rfl (update96 w p o s hs hmo hu halw) (fun _ h => ⟨h.2.2.1, h.2.2.2.1, trivial⟩) (List.Perm.refl _) rfl (k_ (k_ (k_ (d_ r_)))) ?_
    rintro _ _ _ ⟨v, rfl, rfl, rfl, hpv⟩
    have hso : soloT t.p p o = (updT w.p p o, (doT (allT t.p) o).2) := by rw [solo_plain hmt hmo, ← hpw, tree_upd hu]
    refine AtO.loudNA rfl (l_store t24 rfl rfl (i := 3) rfl rfl rfl rfl) (by rintro _ _ _ ⟨rfl, rfl⟩; exact ⟨fun _ h => h, (k_ (k_ (k_ (d_ r_))))⟩) ?_
    rintro _ _ _ ⟨rfl, rfl⟩
    refine AtO.done ?_
    refine At.loudN (l_store t80 rfl rfl (i := 2) rfl rfl rfl rfl) ?_
    rintro _ _ _ ⟨rfl, rfl⟩
    refine aN (aT (At.ret (At.inRet (At.thenRet ?_))))
    exact At.results (Γr := [_, _, _]) (M := []) rfl (RVals.cons (RVal.cellS rfl t24 (RdS.loc (i := 3) rfl (m := 2) rfl) rfl) (RVals.cons (RVal.cellS rfl t80 (RdS.loc (i := 2) rfl (m := 6) rfl) rfl) RVals.nil)) (ix 12 rfl) (fun _ h => ⟨h.1, h.2.1, h.2.2.2.1, trivial⟩) (d_ (d_ (d_ (d_ r_)))) ⟨v, s2, by rw [hso]; rfl, rfl, rfl, by rw [hso] <;> exact hpv, by rw [hso] <;> exact hs2⟩
   ·
    refine aE (aR ?_)
    refine aF s77 t3 rfl rfl rfl (Rd.blk (ix 4 rfl) rfl) rfl rfl ?_
    refine aS 2 rfl rfl ?_
    refine At.splitP (d := 46) rfl (fun h4 => ?_) (fun h4 => ?_)
    ·
     refine aS 1 rfl rfl ?_
     refine At.open rfl rfl ?_
     refine aQ (q_len Try.underlying37 rfl) rfl ?_
     refine aS 3 rfl rfl ?_
     refine aN (aT ?_)
     refine At.if rfl (fun hl1 => ?_) (fun hl1 => ?_)
     ·
      refine aE ?_
      refine At.draw 6 (.q 0 (.q 1 (.q 2 (.q 4 (.o 3 (.o 5 (.e))))))) (_ :: _ :: _ :: L₀) (k_ (k_ (k_ (d_ r_)))) mixed (by kernel_rfl) rfl ?_
      refine oQ rfl (q_loadS t24 rfl (RdS.loc (i := 1) rfl (m := 2) rfl) rfl) rfl (cT (cI (cT cP))) ?_
      refine oQ rfl (q_loadS t64 rfl (RdS.blk (ix 5 rfl) (m := 5) rfl) rfl) rfl (cT (cI (cT cP))) ?_
      refine oQ rfl (q_move rfl) rfl (cT (cI (cT cP))) ?_
      refine oQ rfl (q_loadS t80 rfl (RdS.loc (i := 0) rfl (m := 6) rfl) rfl) rfl (cT (cI (cT cP))) ?_
      refine AtO.call rfl en97 rfl (several97 w p s hs tl (touchT w.p o) htl (touch_sub hs) (fun e => by rw [e, List.length_nil] at htll; omega) halw) (fun _ h => ⟨h.2.2.1, h.2.2.2.1, h.1, trivial⟩) (List.Perm.refl _) rfl (k_ (k_ (k_ (d_ r_)))) ?_
      rintro _ _ _ ⟨v, rfl, rfl, rfl, hpv⟩
      have hso : soloT t.p p o = (sevT w.p p (touchT w.p o), (doT (allT t.p) o).2) := by rw [solo_plain hmt hmo, ← hpw, tree_sev hu (by omega)]
      refine AtO.loudNA rfl (l_store t24 rfl rfl (i := 3) rfl rfl rfl rfl) (by rintro _ _ _ ⟨rfl, rfl⟩; exact ⟨fun _ h => h, (k_ (k_ (k_ (d_ r_))))⟩) ?_
      rintro _ _ _ ⟨rfl, rfl⟩
      refine AtO.done ?_
      refine At.loudN (l_store t80 rfl rfl (i := 2) rfl rfl rfl rfl) ?_
      rintro _ _ _ ⟨rfl, rfl⟩
      refine aN (aT (At.ret (At.inRet (At.thenRet ?_))))
      exact At.results (Γr := [_, _, _]) (M := []) rfl (RVals.cons (RVal.cellS rfl t24 (RdS.loc (i := 3) rfl (m := 2) rfl) rfl) (RVals.cons (RVal.cellS rfl t80 (RdS.loc (i := 2) rfl (m := 6) rfl) rfl) RVals.nil)) (ix 12 rfl) (fun _ h => ⟨h.1, h.2.1, h.2.2.2.1, trivial⟩) (d_ (d_ (d_ (d_ r_)))) ⟨v, s2, by rw [hso]; rfl, rfl, rfl, by rw [hso] <;> exact hpv, by rw [hso] <;> exact hs2⟩
     ·
      have hso : soloT t.p p o = (w.p, (doT (allT t.p) o).2) := by rw [solo_plain hmt hmo, ← hpw, tree_same hu (by omega)]
      refine At.skip (At.inNormal (aT (aE ?_)))
      refine At.draw 3 (.q 0 (.q 1 (.o 2 (.e)))) (_ :: _ :: _ :: L₀) (k_ (k_ (k_ (d_ r_)))) mixed (by kernel_rfl) rfl ?_
      refine oQ rfl (q_loadS t24 rfl (RdS.loc (i := 1) rfl (m := 2) rfl) rfl) rfl (cT cP) ?_
      refine oQ rfl (q_loadS t80 rfl (RdS.loc (i := 0) rfl (m := 6) rfl) rfl) rfl (cT cP) ?_
      refine AtO.loudNA rfl (l_store t24 rfl rfl (i := 3) rfl rfl rfl rfl) (by rintro _ _ _ ⟨rfl, rfl⟩; exact ⟨fun _ h => h, (k_ (k_ (k_ (d_ r_))))⟩) ?_
      rintro _ _ _ ⟨rfl, rfl⟩
      refine AtO.done ?_
      refine At.loudN (l_store t80 rfl rfl (i := 2) rfl rfl rfl rfl) ?_
      rintro _ _ _ ⟨rfl, rfl⟩
      refine aN (aT (At.ret ?_))
      exact At.results (Γr := [_, _, _]) (M := []) rfl (RVals.cons (RVal.cellS rfl t24 (RdS.loc (i := 3) rfl (m := 2) rfl) rfl) (RVals.cons (RVal.cellS rfl t80 (RdS.loc (i := 2) rfl (m := 6) rfl) rfl) RVals.nil)) (ix 10 rfl) (fun _ h => ⟨h.2.2.1, h.2.2.2.1, h.2.1, trivial⟩) (d_ (d_ (d_ (d_ r_)))) ⟨w, s2, by rw [hso]; rfl, rfl, rfl, by rw [hso] <;> exact rfl, by rw [hso] <;> exact hs2⟩
    ·
     have hso : soloT t.p p o = (w.p, (doT (allT t.p) o).2) := by rw [solo_plain hmt hmo, ← hpw, tree_same hu (touch_get (by omega))]
     refine aS 5 rfl rfl ?_
     refine aN (aT ?_)
     refine At.condF rfl ?_
     refine At.skip (At.inNormal (aT (aE ?_)))
     refine At.draw 3 (.q 0 (.q 1 (.o 2 (.e)))) (_ :: _ :: _ :: L₀) (k_ (k_ (k_ (d_ r_)))) mixed (by kernel_rfl) rfl ?_
     refine oQ rfl (q_loadS t24 rfl (RdS.loc (i := 1) rfl (m := 2) rfl) rfl) rfl (cT cP) ?_
     refine oQ rfl (q_loadS t80 rfl (RdS.loc (i := 0) rfl (m := 6) rfl) rfl) rfl (cT cP) ?_
     refine AtO.loudNA rfl (l_store t24 rfl rfl (i := 3) rfl rfl rfl rfl) (by rintro _ _ _ ⟨rfl, rfl⟩; exact ⟨fun _ h => h, (k_ (k_ (k_ (d_ r_))))⟩) ?_
     rintro _ _ _ ⟨rfl, rfl⟩
     refine AtO.done ?_
     refine At.loudN (l_store t80 rfl rfl (i := 2) rfl rfl rfl rfl) ?_
     rintro _ _ _ ⟨rfl, rfl⟩
     refine aN (aT (At.ret ?_))
     exact At.results (Γr := [_, _, _]) (M := []) rfl (RVals.cons (RVal.cellS rfl t24 (RdS.loc (i := 3) rfl (m := 2) rfl) rfl) (RVals.cons (RVal.cellS rfl t80 (RdS.loc (i := 2) rfl (m := 6) rfl) rfl) RVals.nil)) (ix 10 rfl) (fun _ h => ⟨h.2.2.1, h.2.2.2.1, h.2.1, trivial⟩) (d_ (d_ (d_ (d_ r_)))) ⟨w, s2, by rw [hso]; rfl, rfl, rfl, by rw [hso] <;> exact rfl, by rw [hso] <;> exact hs2⟩
set_option maxHeartbeats 2000000 in
theorem run56 (t : Tr) (hsm : smallP t.ns.l) (p : Pol) (l : Sl OpS) (hal : (allT t.p).length ≤ 10000) (hll : l.l.length ≤ 1000) : Con Try.prog 56 [t.val, p.val, l.val] [ndsP t.ns, psP t.ns.l, opsP l] [] (RunEnd t.p p l.l) := by
 refine Con.body 41 Try.func56 rfl Try.ntmps56 rfl fun X H₀ L₀ => ?_
 refine At.know (ndsP ⟨none, 0, []⟩) (fun _ h => sl_nil _ _ _ (Nat.zero_le _)) ?_
 refine At.know (psP []) (fun _ h => psP_nil) ?_
 refine At.know (ansP ⟨none, 0, []⟩) (fun _ h => sl_nil _ _ _ (Nat.zero_le _)) ?_
 refine At.know (apsP []) (fun _ h => apsP_nil) ?_
 refine aE (aR ?_)
 refine At.loud (l_box rfl) rfl ?_
 rintro _ _ _ ⟨b1, rfl, rfl, rfl⟩
 refine At.loud (l_box rfl) rfl ?_
 rintro _ _ _ ⟨b2, rfl, rfl, rfl⟩
 refine At.freeze 0 (φ := blk b2 _) rfl (fun _ h => blk_def.2 ⟨_, _, h⟩) ?_
 refine At.loud (l_alloc t24) rfl ?_
 rintro _ _ _ ⟨b3, rfl, rfl, rfl⟩
 refine aS 1 rfl rfl ?_
 refine aN (aT (aE (aR ?_)))
 refine aQ (q_loadS t24 rfl (RdS.loc (i := 1) rfl (m := 2) rfl) rfl) rfl ?_
 refine At.call en25 rfl (plain25 _ (by assumption)) (fun _ h => ⟨h.2.2.2.2.2.2.1, h.2.2.2.2.2.2.2.1, trivial⟩) (List.Perm.refl _) rfl ?_
 rintro _ _ _ ⟨w, Mw, rfl, rfl, rfl, hw, hpw⟩
 refine aS 1 rfl rfl ?_
 refine aQ (q_extract rfl rfl) rfl ?_
 refine aQ (q_extract rfl rfl) rfl ?_
 refine At.loudN (l_store t24 rfl rfl (i := 2) rfl rfl rfl rfl) ?_
 rintro _ _ _ ⟨rfl, rfl⟩
 refine aS 1 rfl rfl ?_
 refine aN (aT (aE (aE (aR ?_))))
 refine aS 2 rfl rfl ?_
 refine aN (aT ?_)
 refine At.cond rfl (fun hm => ?_) (fun hm => ?_)
 ·
  refine aE (aR ?_)
  refine aQ (q_build t24 s24 rfl rfl) rfl ?_
  refine At.loudN (l_store t24 rfl rfl (i := 1) rfl rfl rfl rfl) ?_
  rintro _ _ _ ⟨rfl, rfl⟩
  refine aS 1 rfl rfl ?_
  refine aN (aT (At.ret (At.thenRet ?_)))
  exact At.results (Γr := [_, psP [], _, apsP []]) (M := []) rfl (RVals.cons (RVal.cellS rfl t24 (RdS.loc (i := 1) rfl (m := 2) rfl) rfl) (RVals.cons (RVal.tmp rfl) RVals.nil)) (ix 6 rfl) (fun _ h => ⟨h.2.2.2.2.2.1, h.2.2.2.2.1, h.2.2.2.1, h.2.2.1, trivial⟩) (d_ (d_ (d_ r_))) ⟨⟨0, ⟨none, 0, []⟩⟩, ⟨none, 0, []⟩, rfl, rfl, rfl, by unfold runT; rw [if_neg (by rw [not_t hm]; simp)]; rfl, by unfold runT; rw [if_neg (by rw [not_t hm]; simp)]; rfl⟩
 ·
  have hmt : (mayT t.p).isSome = true := not_f hm
  obtain ⟨hk1, _, hk3, _⟩ := plain_keeps hmt
  refine At.skip (aT (aE (aR ?_)))
  refine At.freezeOwn 0 hw rfl ?_
  refine At.nilSeg ?_
  refine At.lenOf (hs := (ix 10 rfl)) fun hlen => ?_
  rw [List.length_map] at hlen
  refine aS 1 rfl rfl ?_
  refine aN (aT (aE (aE (aR ?_))))
  refine aS 1 rfl rfl ?_
  refine aQ (q_len Try.underlying72 rfl) rfl ?_
  refine aS 1 rfl rfl ?_
  refine aN (aT (At.block ?_))
  refine At.front 0 rfl ?_
  refine At.front 2 rfl ?_
  refine At.loopK (ι := Nat × Tr × List AnS × Option Addr × Nat × Seg) [9, 11, 12, 23, 24, 25, 26, 27, 28, 29, 30, 31, 32, 33, 34, 35, 36, 37, 38] (fun ⟨k, v, r, a, c, M⟩ => [(23, .int .i64 (k : Int)), (9, .slice a r.length c)]) (fun ⟨k, v, r, a, c, M⟩ => [ndsP v.ns, psP v.ns.l, apsP r]) (fun ⟨k, v, r, a, c, M⟩ => [[(b1, .cells #[.int .i64 v.root, v.ns.val] 24 (0, 0))], M]) _ (fun ⟨k, v, r, a, c, M⟩ => k ≤ l.l.length ∧ v.p = (run2 p (plainD t.p) (l.l.take k)).1 ∧ r.map AnS.a = (run2 p (plainD t.p) (l.l.take k)).2 ∧ Own 80 6 (r.map rowA) a c M ∧ r.length ≤ k) (fun ⟨k, v, r, a, c, M⟩ => l.l.length - k) (0, w, [], none, 0, []) ⟨Nat.zero_le _, by rw [hpw]; rfl, rfl, Own.nil _ _, Nat.le_refl _⟩ ⟨rfl, rfl, trivial⟩ (fun _ h => ⟨h.1, h.2.1, h.2.2.2.1, trivial⟩) (k_ (k_ r_)) ?_
  intro i0 hI0
  obtain ⟨k, v, r, a, c, M⟩ := i0
  obtain ⟨hkl, hv, hr, hO, hrk⟩ := hI0
  obtain ⟨f1, f2, f3⟩ := run_keeps (p := p) (l := l.l) hk1 k
  rw [hk3] at f2
  rw [← hv] at f1 f2
  have hvs : smallP v.ns.l := small_all f1 f2 (by omega)
  refine aE (aR ?_)
  refine aS 1 rfl rfl ?_
  refine aN (aT (aE ?_))
  refine At.if rfl (fun hk => ?_) (fun hk => ?_)
  ·
   obtain ⟨o, ho⟩ := get_of_lt (l := l.l) (i := k) (by omega)
   have hko := lt_of_get ho
   refine At.skip (aT (aE (At.block (aE (aR ?_)))))
   refine aQ (q_index Try.underlying72 t77 rfl (ix 13 rfl) (by simp) rfl rfl (lt_of_get ho)) rfl ?_
   refine aQ (q_loadS t77 rfl (RdS.sl0 (ix 13 rfl) (map_get ho)) rfl) rfl ?_
   refine At.loud (l_alloc t77) rfl ?_
   rintro _ _ _ ⟨b4, rfl, rfl, rfl⟩
   refine At.loudN (l_store t77 rfl rfl (i := 0) rfl rfl rfl rfl) ?_
   rintro _ _ _ ⟨rfl, rfl⟩
   refine aN (aT (aE (aR ?_)))
   refine At.loud (l_alloc t80) rfl ?_
   rintro _ _ _ ⟨b5, rfl, rfl, rfl⟩
   refine aN (aT (aE (aR ?_)))
   refine aQ (q_loadS t24 rfl (RdS.loc (i := 2) rfl (m := 2) rfl) rfl) rfl ?_
   refine aQ (q_loadS t64 rfl (RdS.blk (ix 5 rfl) (m := 5) rfl) rfl) rfl ?_
   refine aQ (q_loadS t77 rfl (RdS.loc (i := 1) rfl (m := 4) rfl) rfl) rfl ?_
   refine At.call en57 rfl (solo57 v hvs p o (by omega)) (fun _ h => ⟨h.1, h.2.1, trivial⟩) (List.Perm.refl _) rfl ?_
   rintro _ _ _ ⟨u, s2, rfl, rfl, rfl, hpu, hs2⟩
   refine aS 1 rfl rfl ?_
   refine aQ (q_extract rfl rfl) rfl ?_
   refine aQ (q_extract rfl rfl) rfl ?_
   refine At.loudN (l_store t24 rfl rfl (i := 2) rfl rfl rfl rfl) ?_
   rintro _ _ _ ⟨rfl, rfl⟩
   refine At.loudN (l_store t80 rfl rfl (i := 0) rfl rfl rfl rfl) ?_
   rintro _ _ _ ⟨rfl, rfl⟩
   refine aN (aT (aR ?_))
   refine aS 1 rfl rfl ?_
   refine aQ (q_loadS t80 rfl (RdS.loc (i := 0) rfl (m := 6) rfl) rfl) rfl ?_
   refine At.loud (l_buildSlice Try.underlying73 t80 rfl rfl rfl rfl rfl) rfl ?_
   rintro _ _ _ ⟨b6, rfl, rfl, rfl⟩
   refine At.loud (l_append rfl Try.underlying73 t80 rfl rfl hO (by simp) (i := 4) rfl rfl (news := [rowA (AnS.of (soloT v.p p o).2 s2)]) (by simp [rowA, AnS.of]) (RdS.loc (i := 0) rfl (m := 6) rfl) rfl rfl rfl (by omega) (by unfold maxLen; omega)) rfl ?_
   rintro _ _ _ ⟨a2, c2, M2, rfl, ow, rfl, rfl⟩
   refine aS 1 rfl rfl ?_
   refine aN (At.inNormal (aT (aR ?_)))
   refine At.know (apsP (r ++ [AnS.of (soloT v.p p o).2 s2])) (fun _ h => apsP_snoc (n := AnS.of (soloT v.p p o).2 s2) h.2.2.2.2.2.1 h.2.2.1) ?_
   refine aQ (q_add rfl rfl (by omega) (by omega)) rfl ?_
   refine aS 1 rfl rfl ?_
   refine aN ?_
   refine At.say 9 (.slice a2 (r ++ [AnS.of (soloT v.p p o).2 s2]).length c2) rfl (by simp) ?_
   refine At.front 4 rfl ?_
   refine At.front 4 rfl ?_
   refine aT ?_
   exact At.againK (k + 1, u, r ++ [AnS.of (soloT v.p p o).2 s2], a2, c2, M2) ⟨hko, by rw [hpu, run_step ho, ← hv], by rw [run_step ho, ← hr, ← hv, List.map_append]; simp [AnS.of_a hs2], by simpa using ow, by simp; omega⟩ (by (try dsimp only); omega) (Tells.end 22 ⟨rfl, rfl, trivial⟩ rfl rfl) (fun _ h => ⟨h.2.1, ⟨h.2.2.1, ⟨h.1, h.2.2.2.2.2.2.2⟩⟩⟩) (k_ (k_ (d_ (d_ (d_ r_)))))
  ·
   refine At.freezeOwn 1 hO rfl ?_
   have hrt : runT t.p p l.l = run2 p (plainD t.p) (l.l.take k) := by unfold runT; rw [if_pos hmt, List.take_of_length_le (by omega)]
   refine At.exit (At.thenExit (At.thenExit (At.inHere rfl (aT (aE (aR ?_))))))
   refine aQ (q_loadS t24 rfl (RdS.loc (i := 0) rfl (m := 2) rfl) rfl) rfl ?_
   refine aS 1 rfl rfl ?_
   refine At.loudN (l_store t24 rfl rfl (i := 1) rfl rfl rfl rfl) ?_
   rintro _ _ _ ⟨rfl, rfl⟩
   refine aS 1 rfl rfl ?_
   refine aN (aT (At.ret ?_))
   exact At.results (Γr := [_, _, ansP ⟨a, c, r⟩, apsP r]) (M := []) rfl (RVals.cons (RVal.cellS rfl t24 (RdS.loc (i := 1) rfl (m := 2) rfl) rfl) (RVals.cons (RVal.tmp rfl) RVals.nil)) (ix 11 rfl) (fun _ h => ⟨h.2.1, h.2.2.1, h.1, h.2.2.2.1, trivial⟩) (d_ (d_ r_)) ⟨v, ⟨a, c, r⟩, rfl, rfl, rfl, by rw [hrt]; exact hv, by rw [hrt]; exact hr⟩
end Go.Proofs.Ytmkodknmknfdkaa
set_option linter.unusedVariables false
set_option linter.unusedSimpArgs false
namespace Go.Proofs.Ytmkodknmknfdkaa
open E
def aw17o : List OpS := [⟨1, 1, 0, 0⟩, ⟨1, 2, 0, 3⟩, ⟨4, 2, 0, 0⟩]
theorem aw17_1 : (runT (oneT []) Pol.eager aw17o).1.ns.length = 3 ∧ (runT (oneT []) Pol.eager aw17o).2.length = 3 ∧ ((runT (oneT []) Pol.eager aw17o).2[2]?).map (fun a => a.p.v) = some 3 := by decide +kernel
theorem aw17_2 : (touchT (runT (oneT []) Pol.eager aw17o).1 ⟨5, 0, 9, 0⟩).length = 2 := by decide +kernel
theorem all_len2 {t : PT} {b : Nat} (h : pairsUpto t.ns t.ns.length ≤ b) : (allT t).length ≤ b := by
 cases hs : mayT t with
 | none => simp [allT, leavesT, hs]
 | some s => rw [all_pairs hs]; exact h
theorem same_self {t : PT} : sameT t t = (mayT t).isSome := by
 cases h : (mayT t).isSome
 ·unfold sameT; rw [h]; simp
 ·exact same_true h h rfl
end Go.Proofs.Ytmkodknmknfdkaa
set_option linter.unusedVariables false
set_option linter.unusedSimpArgs false
namespace Go.Proofs.Ytmkodknmknfdkaa
open E
set_option maxRecDepth 4000
theorem t78 : tRow Try.prog 78 = some (true, 1, 8, .int .i64 0) := by kernel_rfl
theorem en56 : Enters Try.prog 56 := Enters.mk' Try.func56 rfl rfl
theorem en65 : Enters Try.prog 65 := Enters.mk' Try.func65 rfl rfl
theorem same59 (A B : An) (s u : Sl Pr) : Con Try.prog 59 [A.val s, B.val u] [prsP s, prsP u] [] (fun v Γ M => v = .bool (decide (A.err = B.err ∧ A.ok = B.ok ∧ A.p = B.p ∧ A.n = B.n ∧ s.l = u.l)) ∧ Γ = [] ∧ M = []) := by
 refine Con.body 38 Try.func59 rfl Try.ntmps59 rfl fun X H₀ L₀ => ?_
 refine aE (aR ?_)
 refine At.loud (l_box rfl) rfl ?_
 rintro _ _ _ ⟨b1, rfl, rfl, rfl⟩
 refine At.freeze 0 (φ := blk b1 _) rfl (fun _ h => blk_def.2 ⟨_, _, h⟩) ?_
 refine At.loud (l_box rfl) rfl ?_
 rintro _ _ _ ⟨b2, rfl, rfl, rfl⟩
 refine At.freeze 0 (φ := blk b2 _) rfl (fun _ h => blk_def.2 ⟨_, _, h⟩) ?_
 refine aS 1 rfl rfl ?_
 refine aN (aT (aE (aR ?_)))
 refine aF s80 t78 rfl rfl rfl (Rd.blk (ix 1 rfl) rfl) rfl rfl ?_
 refine aF s80 t78 rfl rfl rfl (Rd.blk (.head _) rfl) rfl rfl ?_
 refine aS 2 rfl rfl ?_
 refine At.splitP (d := 10) rfl (fun h1 => ?_) (fun h1 => ?_)
 ·
  refine At.open rfl rfl ?_
  refine aQ (q_fieldAddr s80 rfl rfl rfl) rfl ?_
  refine At.open rfl rfl ?_
  refine aQ (q_load t4 rfl (Rd.blk (ix 1 rfl) rfl)) rfl ?_
  refine At.open rfl rfl ?_
  refine aQ (q_fieldAddr s80 rfl rfl rfl) rfl ?_
  refine At.open rfl rfl ?_
  refine aQ (q_load t4 rfl (Rd.blk (.head _) rfl)) rfl ?_
  refine At.open rfl rfl ?_
  refine aQ (q_eqBool Try.underlying4 rfl rfl) rfl ?_
  refine aS 2 rfl rfl ?_
  refine At.split (d := 17) rfl (fun h2 => ?_) (fun h2 => ?_)
  ·
   refine At.open rfl rfl ?_
   refine aQ (q_fieldAddr s80 rfl rfl rfl) rfl ?_
   refine At.open rfl rfl ?_
   refine aQ (q_loadS t50 rfl (RdS.blk (ix 1 rfl) (m := 2) rfl) rfl) rfl ?_
   refine At.open rfl rfl ?_
   refine aQ (q_fieldAddr s80 rfl rfl rfl) rfl ?_
   refine At.open rfl rfl ?_
   refine aQ (q_loadS t50 rfl (RdS.blk (.head _) (m := 2) rfl) rfl) rfl ?_
   refine At.open rfl rfl ?_
   refine aQ (q_eqStruct e50 rfl rfl rfl rfl rfl rfl) rfl ?_
   refine aS 2 rfl rfl ?_
   refine At.splitP (d := 24) rfl (fun h3 => ?_) (fun h3 => ?_)
   ·
    refine At.open rfl rfl ?_
    refine aQ (q_fieldAddr s80 rfl rfl rfl) rfl ?_
    refine At.open rfl rfl ?_
    refine aQ (q_load t3 rfl (Rd.blk (ix 1 rfl) rfl)) rfl ?_
    refine At.open rfl rfl ?_
    refine aQ (q_fieldAddr s80 rfl rfl rfl) rfl ?_
    refine At.open rfl rfl ?_
    refine aQ (q_load t3 rfl (Rd.blk (.head _) rfl)) rfl ?_
    refine aS 3 rfl rfl ?_
    refine At.splitP (d := 31) rfl (fun h4 => ?_) (fun h4 => ?_)
    ·
     refine At.open rfl rfl ?_
     refine aQ (q_fieldAddr s80 rfl rfl rfl) rfl ?_
     refine At.open rfl rfl ?_
     refine aQ (q_load t31 rfl (Rd.blk (ix 1 rfl) rfl)) rfl ?_
     refine At.open rfl rfl ?_
     refine aQ (q_fieldAddr s80 rfl rfl rfl) rfl ?_
     refine At.open rfl rfl ?_
     refine aQ (q_load t31 rfl (Rd.blk (.head _) rfl)) rfl ?_
     refine At.open rfl rfl ?_
     refine At.call en33 rfl (same33 _ _) (fun _ h => ⟨h.2.2.2.1, h.2.2.2.2.1, trivial⟩) (List.Perm.refl _) rfl ?_
     rintro _ _ _ ⟨rfl, rfl, rfl⟩
     refine aS 2 rfl rfl ?_
     refine aN (aT (At.ret ?_))
     exact At.results (Γr := []) (M := []) rfl (RVals.cons (RVal.tmp rfl) RVals.nil) (ix 2 rfl) (fun _ _ => trivial) r_ ⟨congrArg Value.bool (by simp_all [← Pr.eq_iff]), rfl, rfl⟩
    ·
     refine aS 7 rfl rfl ?_
     refine aN (aT (At.ret ?_))
     exact At.results (Γr := []) (M := []) rfl (RVals.cons (RVal.tmp rfl) RVals.nil) (ix 2 rfl) (fun _ _ => trivial) r_ ⟨congrArg Value.bool (by simp_all [← Pr.eq_iff]), rfl, rfl⟩
   ·
    refine aS 14 rfl rfl ?_
    refine aN (aT (At.ret ?_))
    exact At.results (Γr := []) (M := []) rfl (RVals.cons (RVal.tmp rfl) RVals.nil) (ix 2 rfl) (fun _ _ => trivial) r_ ⟨congrArg Value.bool (by simp_all [← Pr.eq_iff]), rfl, rfl⟩
  ·
   refine aS 21 rfl rfl ?_
   refine aN (aT (At.ret ?_))
   exact At.results (Γr := []) (M := []) rfl (RVals.cons (RVal.tmp rfl) RVals.nil) (ix 2 rfl) (fun _ _ => trivial) r_ ⟨congrArg Value.bool (by simp_all [← Pr.eq_iff]), rfl, rfl⟩
 ·
  refine aS 28 rfl rfl ?_
  refine aN (aT (At.ret ?_))
  exact At.results (Γr := []) (M := []) rfl (RVals.cons (RVal.tmp rfl) RVals.nil) (ix 2 rfl) (fun _ _ => trivial) r_ ⟨congrArg Value.bool (by simp_all [← Pr.eq_iff]), rfl, rfl⟩
theorem same60 (a b : Sl Int) : Con Try.prog 60 [a.val, b.val] [intsP a, intsP b] [] (fun v Γ M => v = .bool (decide (a.l = b.l)) ∧ Γ = [] ∧ M = []) := by
 refine Con.body 26 Try.func60 rfl Try.ntmps60 rfl fun X H₀ L₀ => ?_
 refine At.lenOf (hs := (ix 1 rfl)) fun ha => ?_
 rw [List.length_map] at ha
 refine At.lenOf (hs := (ix 2 rfl)) fun hb => ?_
 rw [List.length_map] at hb
 refine aE (aR ?_)
 refine aS 1 rfl rfl ?_
 refine aN (aT (aE (aE (aR ?_))))
 refine aS 1 rfl rfl ?_
 refine aQ (q_len Try.underlying37 rfl) rfl ?_
 refine aS 1 rfl rfl ?_
 refine aQ (q_len Try.underlying37 rfl) rfl ?_
 refine aS 1 rfl rfl ?_
 refine aN (aT ?_)
 refine At.if rfl (fun hn => ?_) (fun hn => ?_)
 ·
  refine aE (aR ?_)
  refine aS 1 rfl rfl ?_
  refine aN (aT (At.ret (At.thenRet ?_)))
  exact At.results (Γr := []) (M := []) rfl (RVals.cons (RVal.tmp rfl) RVals.nil) (.head _) (fun _ _ => trivial) r_ ⟨congrArg Value.bool ((decide_eq_false (len_ne (by simpa using hn))).symm), rfl, rfl⟩
 ·
  have hab : a.l.length = b.l.length := by omega
  refine At.skip (aT (aE (aE (aR ?_))))
  refine aS 1 rfl rfl ?_
  refine aQ (q_len Try.underlying37 rfl) rfl ?_
  refine aS 1 rfl rfl ?_
  refine aN (aT (At.block ?_))
  refine At.loopK (ι := Nat) [4, 5, 13, 14, 15, 16, 17, 18, 19, 20, 21, 22, 23, 24, 25] (fun k => [(13, .int .i64 (k : Int))]) (fun k => []) (fun k => []) _ (fun k => k ≤ a.l.length ∧ a.l.take k = b.l.take k) (fun k => a.l.length - k) 0 ⟨Nat.zero_le _, by simp⟩ ⟨rfl, trivial⟩ (fun _ _ => trivial) r_ ?_
  intro k hI
  refine aE (aR ?_)
  refine aS 1 rfl rfl ?_
  refine aN (aT (aE ?_))
  refine At.if rfl (fun hk => ?_) (fun hk => ?_)
  ·
   obtain ⟨x, hx⟩ := get_of_lt (l := a.l) (i := k) (by omega)
   obtain ⟨y, hy⟩ := get_of_lt (l := b.l) (i := k) (by omega)
   have hk1 := lt_of_get hx
   refine At.skip (aT (aE (At.block (aE (aR ?_)))))
   refine aS 2 rfl rfl ?_
   refine aN (aT (aE ?_))
   refine At.draw 8 (.q 0 (.q 1 (.q 2 (.q 3 (.q 4 (.q 5 (.q 6 (.q 7 (.e))))))))) _ (List.Sublist.refl _) mixed (by kernel_rfl) rfl ?_
   refine oQ rfl (q_move rfl) rfl (cT (cI (cT (cT (cI (cT cP)))))) ?_
   refine oQ rfl (q_move rfl) rfl (cT (cI (cT (cT (cI (cT cP)))))) ?_
   refine oQ rfl (q_index Try.underlying37 t3 rfl (ix 1 rfl) (by simp) rfl rfl (lt_of_get hx)) rfl (cT (cI (cT (cT (cI (cT cP)))))) ?_
   refine oQ rfl (q_load t3 rfl (Rd.sl0 (ix 1 rfl) (map_get hx) rfl)) rfl (cT (cI (cT (cT (cI (cT cP)))))) ?_
   refine oQ rfl (q_move rfl) rfl (cT (cI (cT (cT (cI (cT cP)))))) ?_
   refine oQ rfl (q_move rfl) rfl (cT (cI (cT (cT (cI (cT cP)))))) ?_
   refine oQ rfl (q_index Try.underlying37 t3 rfl (ix 2 rfl) (by simp) rfl rfl (lt_of_get hy)) rfl (cT (cI (cT (cT (cI (cT cP)))))) ?_
   refine oQ rfl (q_load t3 rfl (Rd.sl0 (ix 2 rfl) (map_get hy) rfl)) rfl (cT (cI (cT (cT (cI (cT cP)))))) ?_
   refine AtO.done ?_
   refine aS 1 rfl rfl ?_
   refine aN (aT ?_)
   refine At.if rfl (fun hxy => ?_) (fun hxy => ?_)
   ·
    refine aE (aR ?_)
    refine aS 1 rfl rfl ?_
    refine aN (aT (At.ret (At.inRet (At.thenRet (At.thenRet (At.inRet (At.thenRet ?_)))))))
    exact At.results (Γr := []) (M := []) rfl (RVals.cons (RVal.tmp rfl) RVals.nil) (.head _) (fun _ _ => trivial) r_ ⟨congrArg Value.bool ((decide_eq_false (ne_at hx hy hxy)).symm), rfl, rfl⟩
   ·
    refine At.skip (At.inNormal (aT (aR ?_)))
    refine aQ (q_add rfl rfl (by omega) (by omega)) rfl ?_
    refine aS 1 rfl rfl ?_
    refine aN (aT ?_)
    exact At.againK (k + 1) ⟨hk1, take_step hx ((show y = x by omega) ▸ hy) hI.2⟩ (by (try dsimp only); omega) (Tells.end 15 ⟨rfl, trivial⟩ rfl rfl) (fun _ h => h) r_
  ·
   refine At.exit (At.thenExit (At.thenExit (At.inHere rfl (aT (aE (aR ?_))))))
   refine aS 1 rfl rfl ?_
   refine aN (aT (At.ret ?_))
   exact At.results (Γr := []) (M := []) rfl (RVals.cons (RVal.tmp rfl) RVals.nil) (.head _) (fun _ _ => trivial) r_ ⟨congrArg Value.bool ((decide_eq_true (eq_of_takes hab (by omega) hI.2)).symm), rfl, rfl⟩
theorem eager65  : Con Try.prog 65 [] [] [] (fun v Γ M => v = Pol.eager.val ∧ Γ = [] ∧ M = []) := by
 refine Con.body 2 Try.func65 rfl Try.ntmps65 rfl fun X H₀ L₀ => ?_
 refine aE (aR ?_)
 refine At.loud (l_alloc t64) rfl ?_
 rintro _ _ _ ⟨b1, rfl, rfl, rfl⟩
 refine aN (aT (aE (aR ?_)))
 refine aQ (q_build t64 s64 rfl rfl) rfl ?_
 refine At.loudN (l_store t64 rfl rfl (i := 0) rfl rfl rfl rfl) ?_
 rintro _ _ _ ⟨rfl, rfl⟩
 refine aN (aT (At.ret ?_))
 exact At.results (Γr := []) (M := []) rfl (RVals.cons (RVal.cellS rfl t64 (RdS.loc (i := 0) rfl (m := 5) rfl) rfl) RVals.nil) (.head _) (fun _ _ => trivial) (d_ r_) ⟨rfl, rfl, rfl⟩
theorem awake55  : Con Try.prog 55 [] [] [] (fun v Γ M => v = .bool true ∧ Γ = [] ∧ M = []) := by
 refine Con.body 37 Try.func55 rfl Try.ntmps55 rfl fun X H₀ L₀ => ?_
 refine At.know (prsP ⟨none, 0, []⟩) (fun _ h => sl_nil _ _ _ (Nat.zero_le _)) ?_
 refine aE (aR ?_)
 refine aS 1 rfl rfl ?_
 refine aN (aT (aE (aR ?_)))
 refine At.call en31 rfl (one31 ⟨none, 0, []⟩ (by simp)) (fun _ h => ⟨h.1, trivial⟩) (List.Perm.refl _) rfl ?_
 rintro _ _ _ ⟨t, rfl, rfl, rfl, hpt⟩
 refine At.call en65 rfl (eager65) (fun _ _ => trivial) (List.Perm.refl _) rfl ?_
 rintro _ _ _ ⟨rfl, rfl, rfl⟩
 refine aQ (q_build t77 s77 rfl rfl) rfl ?_
 refine aQ (q_build t77 s77 rfl rfl) rfl ?_
 refine aQ (q_build t77 s77 rfl rfl) rfl ?_
 refine At.loud (l_buildSlice Try.underlying72 t77 rfl rfl rfl rfl rfl) rfl ?_
 rintro _ _ _ ⟨b1, rfl, rfl, rfl⟩
 refine At.freeze 0 (φ := opsP ⟨some ⟨b1, 0, none⟩, 3, aw17o⟩) rfl (fun _ h => sl_of_block h rfl (by simp [rowO, aw17o]) (by kernel_rfl) (show (3 : Nat) ≤ maxLen from by decide)) ?_
 have hta : t.p = oneT [] := hpt
 have htm : (mayT t.p).isSome = true := by rw [hta, one_may]; rfl
 have htl : (allT t.p).length = 0 := by rw [hta, one_all]; rfl
 have hts : smallP t.ns.l := small_all htm (Nat.le_of_eq htl) (by omega)
 refine At.call en56 rfl (run56 t hts Pol.eager ⟨_, 3, aw17o⟩ (by omega) (by simp [aw17o])) (fun _ h => ⟨h.2.1, h.2.2.1, h.1, trivial⟩) (List.Perm.refl _) rfl ?_
 rintro _ _ _ ⟨u, r, rfl, rfl, rfl, hpu, hr⟩
 refine aS 1 rfl rfl ?_
 refine aQ (q_extract rfl rfl) rfl ?_
 refine aQ (q_extract rfl rfl) rfl ?_
 refine At.loud (l_alloc t24) rfl ?_
 rintro _ _ _ ⟨b2, rfl, rfl, rfl⟩
 refine At.loudN (l_store t24 rfl rfl (i := 0) rfl rfl rfl rfl) ?_
 rintro _ _ _ ⟨rfl, rfl⟩
 refine aS 1 rfl rfl ?_
 refine aN (aT (aE (aR ?_)))
 rw [hta] at hpu hr
 obtain ⟨w1, w2, w3⟩ := aw17_1
 have hul : u.ns.l.length = 3 := by have h := p_len hpu; rw [h]; exact w1
 have hrl : r.l.length = 3 := by have h := congrArg List.length hr; rw [List.length_map] at h; rw [h]; exact w2
 obtain ⟨x, hx⟩ := get_of_lt (l := r.l) (i := 2) (by omega)
 have hxv : x.p.v = 3 := by rw [← hr, List.getElem?_map, hx] at w3; exact Option.some.inj w3
 refine aF s24 t22 rfl rfl rfl (Rd.loc (i := 0) rfl rfl) rfl rfl ?_
 refine aQ (q_len Try.underlying22 rfl) rfl ?_
 refine aS 2 rfl rfl ?_
 refine At.say 17 (.bool true) rfl (congrArg Value.bool (decide_eq_true (by rw [hul]; rfl))) ?_
 refine aS 1 rfl rfl ?_
 refine At.open rfl rfl ?_
 refine aQ (q_len Try.underlying73 rfl) rfl ?_
 refine aS 3 rfl rfl ?_
 refine At.say 22 (.bool true) rfl (congrArg Value.bool (decide_eq_true (by rw [hrl]; rfl))) ?_
 refine aS 1 rfl rfl ?_
 refine At.open rfl rfl ?_
 refine aQ (q_index Try.underlying73 t80 rfl (ix 2 rfl) (by simp) rfl rfl (lt_of_get hx)) rfl ?_
 refine At.open rfl rfl ?_
 refine aQ (q_fieldAddr s80 rfl rfl rfl) rfl ?_
 refine At.open rfl rfl ?_
 refine aQ (q_fieldAddr s50 rfl rfl rfl) rfl ?_
 refine At.have _ (fun _ hH => sl_spot (hH.mem (ix 2 rfl)) (map_get hx)) fun hsp => ?_
 refine At.say 26 (.pointer (some (((adr r.a).add (2 * 6)).add 3))) rfl (by rw [add_two hsp]) ?_
 refine At.open rfl rfl ?_
 refine aQ (q_load t3 rfl (Rd.sl (ix 2 rfl) (map_get hx) rfl)) rfl ?_
 refine aS 3 rfl rfl ?_
 refine At.say 30 (.bool true) rfl (congrArg Value.bool (decide_eq_true hxv)) ?_
 refine At.open rfl rfl ?_
 refine aQ (q_loadS t24 rfl (RdS.loc (i := 0) rfl (m := 2) rfl) rfl) rfl ?_
 refine At.open rfl rfl ?_
 refine aQ (q_build t77 s77 rfl rfl) rfl ?_
 refine At.open rfl rfl ?_
 refine At.call en61 rfl (touched61 u ⟨5, 0, 9, 0⟩) (fun _ h => ⟨h.1, h.2.1, trivial⟩) (List.Perm.refl _) rfl ?_
 rintro _ _ _ ⟨tl, rfl, rfl, rfl, htl2⟩
 refine At.open rfl rfl ?_
 refine aQ (q_len Try.underlying37 rfl) rfl ?_
 refine aS 3 rfl rfl ?_
 refine aN (aT (At.ret ?_))
 exact At.results (Γr := []) (M := []) rfl (RVals.cons (RVal.tmp rfl) RVals.nil) (ix 9 rfl) (fun _ _ => trivial) (d_ r_) ⟨congrArg Value.bool (decide_eq_true (by rw [htl2, toI_length, hpu, aw17_2]; rfl)), rfl, rfl⟩
end Go.Proofs.Ytmkodknmknfdkaa
