/- Texts of this seat, joined: part 3. -/
import Derived.WalkKit
import Derived.OrdersHeld
import Derived.Lib.MinMax
import Derived.Laws.AppendOwn
import Derived.ProofKit
import Derived.OpenShut
import Derived.ChangeOld
import Derived.Carry
import Derived.Deep.Slices
import Derived.Laws.MakeOwn
import Derived.Lib.SliceRun
import Derived.Test.YtmkodknmknfdkaaRows
import Derived.MapKept
import Derived.Lib.AppendZeros
import Derived.SizedLaws
import Derived.Test.YtmkodknmknfdkaaXD2
set_option linter.unusedVariables false
set_option linter.unusedSimpArgs false
namespace Go.Proofs.Ytmkodknmknfdkaa
open E
set_option maxRecDepth 4000
theorem en36 : Enters Try.prog 36 := Enters.mk' Try.func36 rfl rfl
theorem en38 : Enters Try.prog 38 := Enters.mk' Try.func38 rfl rfl
theorem en41 : Enters Try.prog 41 := Enters.mk' Try.func41 rfl rfl
theorem node77 (t : Tr) (hsm : smallP t.ns.l) : ∀ f, Node77 t f
 | 0 => fun _ _ _ _ _ _ _ _ _ _ _ _ _ h => absurd h (Nat.not_lt_zero _)
 | f + 1 => node77_step t hsm f (node77 t hsm f)
theorem plain38 (t : Tr) (hsm : smallP t.ns.l) : Con Try.prog 38 [t.val] [ndsP t.ns, psP t.ns.l] [] (PlainEnd t) := by
 refine Con.body 42 Try.func38 rfl Try.ntmps38 rfl fun X H₀ L₀ => ?_
 have hN : t.p.ns.length = t.ns.l.length := by simp [Tr.p]
 refine aE (aR ?_)
 refine At.loud (l_box rfl) rfl ?_
 rintro _ _ _ ⟨b1, rfl, rfl, rfl⟩
 refine At.freeze 0 (φ := blk b1 _) rfl (fun _ h => blk_def.2 ⟨_, _, h⟩) ?_
 refine At.loud (l_alloc t24) rfl ?_
 rintro _ _ _ ⟨b2, rfl, rfl, rfl⟩
 refine aS 1 rfl rfl ?_
 refine aN (aT (aE (aE (aR ?_))))
 refine aF s24 t22 rfl rfl rfl (Rd.blk (.head _) rfl) rfl rfl ?_
 refine aQ (q_len Try.underlying22 rfl) rfl ?_
 refine aS 1 rfl rfl ?_
 refine aN (aT ?_)
 refine At.if rfl (fun hbig => ?_) (fun hbig => ?_)
 ·
  refine At.nilSeg ?_
  refine At.know (psP []) (fun _ h => psP_nil) ?_
  refine aE (aR ?_)
  refine aQ (q_build t24 s24 rfl rfl) rfl ?_
  refine At.loudN (l_store t24 rfl rfl (i := 1) rfl rfl rfl rfl) ?_
  rintro _ _ _ ⟨rfl, rfl⟩
  refine aS 1 rfl rfl ?_
  refine aN (aT (At.ret (At.thenRet ?_)))
  exact At.results (Γr := [psP []]) (M := [[]]) rfl (RVals.cons (RVal.cellS rfl t24 (RdS.loc (i := 1) rfl (m := 2) rfl) rfl) (RVals.cons (RVal.tmp rfl) RVals.nil)) (ix 2 rfl) (fun _ h => ⟨h.1, trivial⟩) (k_ (d_ r_)) ⟨⟨0, ⟨none, 0, []⟩⟩, [], by rw [may_big (t := t.p) (by omega)]; rfl, rfl, rfl, Own.nil _ _, by rw [plainD, plainT, none_of (may_big (t := t.p) (by omega))]; rfl⟩
 ·
  refine At.skip (aT (aE ?_))
  refine At.draw 5 (.q 0 (.q 1 (.q 2 (.q 3 (.o 4 (.e)))))) _ (List.Sublist.refl _) mixed (by kernel_rfl) rfl ?_
  refine oQ rfl (q_loadS t24 rfl (RdS.blk (.head _) (m := 2) rfl) rfl) rfl (cT cP) ?_
  refine oQ rfl (q_fieldAddr s24 rfl rfl rfl) rfl (cT cP) ?_
  refine oQ rfl (q_load t22 rfl (Rd.blk (.head _) rfl)) rfl (cT cP) ?_
  refine oQ rfl (q_len Try.underlying22 rfl) rfl (cT cP) ?_
  refine AtO.loudA rfl (l_makeSlice (m := t.ns.l.length) Try.underlying38 t4 rfl rfl rfl rfl rfl (by omega) (by unfold maxLen; omega)) rfl (by rintro _ _ _ ⟨_, _, rfl, _, rfl, rfl⟩; exact ⟨fun _ h => h, d_ r_⟩) ?_
  rintro _ _ _ ⟨bm, m, rfl, hO, rfl, rfl⟩
  refine AtO.done ?_
  have hO2 : Own 4 1 ((bits t.ns.l.length []).map rowB) (some ⟨bm, 0, none⟩) t.ns.l.length m := by rw [bits_nil]; exact hO
  have hc0 := count_all (bits t.ns.l.length [])
  rw [bits_length] at hc0
  refine At.nilSeg ?_
  refine At.know (intsP ⟨none, 0, []⟩) (fun _ h => sl_nil _ _ _ (Nat.zero_le _)) ?_
  refine At.know (psP []) (fun _ h => psP_nil) ?_
  refine aQ (q_build t109 s109 rfl rfl) rfl ?_
  refine At.loud (l_box rfl) rfl ?_
  rintro _ _ _ ⟨b3, rfl, rfl, rfl⟩
  refine aS 1 rfl rfl ?_
  refine aN (aT (aE (aR ?_)))
  refine At.pieces (L' := planBox t b3 none 0 0 (some ⟨bm, 0, none⟩) t.ns.l.length false :: [] :: m :: _) rfl ?_
  have hcall := node77 t hsm (t.p.ns.length + 1) [] t.root Kb.all ⟨none, 0, []⟩ ⟨none, 0, []⟩ b3 [] none 0 [] (some ⟨bm, 0, none⟩) t.ns.l.length m (by omega) (Own.nil _ _) hO2 (by simp only [List.length_nil]; omega) rfl rfl
  refine aS 1 rfl rfl ?_
  refine aF s24 t3 rfl rfl rfl (Rd.blk (ix 2 rfl) rfl) rfl rfl ?_
  refine At.front 2 rfl ?_
  refine At.front 2 rfl ?_
  refine At.front 2 rfl ?_
  refine At.call en77 rfl (hcall) (fun _ h => ⟨h.2.2.2.2.1, h.2.2.2.2.2.1, h.2.1, h.2.1, h.1, trivial⟩) (List.Perm.refl _) rfl ?_
  rintro _ _ _ ⟨q, a5, c5, M5, M6, bad, v1, rfl, rfl, rfl, hO5, hb5, hs5, hn5⟩
  refine aN (aT (aE (aE ?_)))
  refine At.draw 13 (.q 0 (.q 1 (.q 2 (.q 3 (.q 4 (.q 5 (.q 6 (.q 7 (.q 8 (.q 9 (.q 10 (.q 11 (.q 12 (.e)))))))))))))) _ (List.Sublist.refl _) mixed (by kernel_rfl) rfl ?_
  refine oQ rfl (q_move rfl) rfl (cT (cT cP)) ?_
  refine oQ rfl (q_nilCheck rfl) rfl (cT (cT cP)) ?_
  refine oQ rfl (q_fieldAddr s109 rfl rfl rfl) rfl (cT (cT cP)) ?_
  refine oQ rfl (q_load t4 rfl (Rd.loc (i := 0) rfl rfl)) rfl (cT (cT cP)) ?_
  refine oQ rfl (q_move rfl) rfl (cT (cT cP)) ?_
  refine AtO.split (d := 25) rfl (fun hbad => ?_) (fun hbad => ?_)
  ·
   refine AtO.shut rfl rfl rfl rfl (cT (cT cP)) ?_
   refine AtO.shut rfl rfl rfl rfl (cT (cT cP)) ?_
   refine AtO.shut rfl rfl rfl rfl (cT (cT cP)) ?_
   refine AtO.shut rfl rfl rfl rfl (cT (cT cP)) ?_
   refine AtO.shut rfl rfl rfl rfl (cT (cT cP)) ?_
   refine AtO.shut rfl rfl rfl rfl (cT (cT cP)) ?_
   refine AtO.shut rfl rfl rfl rfl (cT (cT cP)) ?_
   refine AtO.shut rfl rfl rfl rfl (cT (cT cP)) ?_
   refine AtO.done ?_
   refine aS 2 rfl rfl ?_
   refine aN (aT ?_)
   refine At.condT rfl ?_
   refine aE (aR ?_)
   refine At.nilSeg ?_
   refine At.know (psP []) (fun _ h => psP_nil) ?_
   refine aQ (q_build t24 s24 rfl rfl) rfl ?_
   refine At.loudN (l_store t24 rfl rfl (i := 4) rfl rfl rfl rfl) ?_
   rintro _ _ _ ⟨rfl, rfl⟩
   refine aS 1 rfl rfl ?_
   refine aN (aT (At.ret (At.thenRet ?_)))
   exact At.results (Γr := [psP []]) (M := [[]]) rfl (RVals.cons (RVal.cellS rfl t24 (RdS.loc (i := 4) rfl (m := 2) rfl) rfl) (RVals.cons (RVal.tmp rfl) RVals.nil)) (ix 5 rfl) (fun _ h => ⟨h.1, trivial⟩) (k_ (d_ (d_ (d_ (d_ r_))))) ⟨⟨0, ⟨none, 0, []⟩⟩, [], by rw [plan_bad hs5 hbad]; rfl, rfl, rfl, Own.nil _ _, by rw [plainD, plainT, none_of (plan_bad hs5 hbad)]; rfl⟩
  ·
   obtain ⟨s, hs⟩ := plan_some hn5 hbad
   obtain ⟨_, _, hq, _, _⟩ := hs5 s hs
   have hql : (q.map Nd.p).length = q.length := List.length_map ..
   refine oG rfl rfl rfl (q_move rfl) rfl (cT (cT cP)) ?_
   refine oG rfl rfl rfl (q_nilCheck rfl) rfl (cT (cT cP)) ?_
   refine oG rfl rfl rfl (q_fieldAddr s109 rfl rfl rfl) rfl (cT (cT cP)) ?_
   refine oG rfl rfl rfl (q_load t22 rfl (Rd.loc (i := 0) rfl rfl)) rfl (cT (cT cP)) ?_
   refine oG rfl rfl rfl (q_len Try.underlying22 rfl) rfl (cT (cT cP)) ?_
   refine oG rfl rfl rfl (q_fieldAddr s24 rfl rfl rfl) rfl (cT (cT cP)) ?_
   refine oG rfl rfl rfl (q_load t22 rfl (Rd.blk (ix 3 rfl) rfl)) rfl (cT (cT cP)) ?_
   refine oG rfl rfl rfl (q_len Try.underlying22 rfl) rfl (cT (cT cP)) ?_
   refine AtO.done ?_
   refine aS 2 rfl rfl ?_
   refine aN (aT ?_)
   refine At.if rfl (fun hlen => ?_) (fun hlen => ?_)
   ·
    refine aE (aR ?_)
    refine At.nilSeg ?_
    refine At.know (psP []) (fun _ h => psP_nil) ?_
    refine aQ (q_build t24 s24 rfl rfl) rfl ?_
    refine At.loudN (l_store t24 rfl rfl (i := 4) rfl rfl rfl rfl) ?_
    rintro _ _ _ ⟨rfl, rfl⟩
    refine aS 1 rfl rfl ?_
    refine aN (aT (At.ret (At.thenRet ?_)))
    exact At.results (Γr := [psP []]) (M := [[]]) rfl (RVals.cons (RVal.cellS rfl t24 (RdS.loc (i := 4) rfl (m := 2) rfl) rfl) (RVals.cons (RVal.tmp rfl) RVals.nil)) (ix 5 rfl) (fun _ h => ⟨h.1, trivial⟩) (k_ (d_ (d_ (d_ (d_ r_))))) ⟨⟨0, ⟨none, 0, []⟩⟩, [], by rw [plan_len hs hq (by rw [hql]; intro he; apply hlen; rw [← hN, ← he]; rfl)]; rfl, rfl, rfl, Own.nil _ _, by rw [plainD, plainT, none_of (plan_len hs hq (by rw [hql]; intro he; apply hlen; rw [← hN, ← he]; rfl))]; rfl⟩
   ·
    have hmay := plan_ok (by omega) hs hq (by rw [hql, hN]; have h2 : (q.length : Int) = (t.ns.l.length : Int) := Classical.not_not.1 hlen; omega)
    refine At.skip (aT (aE (aR ?_)))
    refine aS 2 rfl rfl ?_
    refine aF s109 t22 rfl rfl rfl (Rd.loc (i := 0) rfl rfl) rfl rfl ?_
    refine aQ (q_build t24 s24 rfl rfl) rfl ?_
    refine At.loudN (l_store t24 rfl rfl (i := 3) rfl rfl rfl rfl) ?_
    rintro _ _ _ ⟨rfl, rfl⟩
    refine aS 1 rfl rfl ?_
    refine aN (aT (At.ret ?_))
    exact At.results (Γr := [_]) (M := [M5]) rfl (RVals.cons (RVal.cellS rfl t24 (RdS.loc (i := 3) rfl (m := 2) rfl) rfl) (RVals.cons (RVal.tmp rfl) RVals.nil)) (ix 4 rfl) (fun _ h => ⟨h.1, trivial⟩) (d_ (k_ (d_ (d_ r_)))) ⟨⟨0, ⟨a5, c5, [] ++ q⟩⟩, M5, by rw [hmay]; rfl, rfl, rfl, hO5, plain_some hmay hq⟩
theorem leaf78 (t : Tr) (hsm : smallP t.ns.l) (at_ : Int) : Con Try.prog 78 [t.val, .int .i64 at_] [ndsP t.ns, psP t.ns.l] [] (fun v Γ M => v = .bool (leafT t.p at_) ∧ Γ = [] ∧ M = []) := by
 refine Con.body 33 Try.func78 rfl Try.ntmps78 rfl fun X H₀ L₀ => ?_
 refine aE (aR ?_)
 refine At.loud (l_box rfl) rfl ?_
 rintro _ _ _ ⟨b1, rfl, rfl, rfl⟩
 refine At.freeze 0 (φ := blk b1 _) rfl (fun _ h => blk_def.2 ⟨_, _, h⟩) ?_
 refine aS 1 rfl rfl ?_
 refine aN (aT (aE (aR ?_)))
 refine aQ (q_loadS t24 rfl (RdS.blk (.head _) (m := 2) rfl) rfl) rfl ?_
 refine At.call en38 rfl (plain38 _ (by assumption)) (fun _ h => ⟨h.2.2.1, h.2.2.2.1, trivial⟩) (List.Perm.refl _) rfl ?_
 rintro _ _ _ ⟨u1, Mu1, rfl, rfl, rfl, hu1, hup1⟩
 refine aS 1 rfl rfl ?_
 refine aQ (q_extract rfl rfl) rfl ?_
 refine aQ (q_extract rfl rfl) rfl ?_
 refine At.loud (l_alloc t24) rfl ?_
 rintro _ _ _ ⟨b2, rfl, rfl, rfl⟩
 refine At.loudN (l_store t24 rfl rfl (i := 0) rfl rfl rfl rfl) ?_
 rintro _ _ _ ⟨rfl, rfl⟩
 refine aS 1 rfl rfl ?_
 refine aN (aT (aE (aR ?_)))
 refine aS 2 rfl rfl ?_
 refine At.split (d := 13) rfl (fun hm => ?_) (fun hm => ?_)
 ·
  refine aS 4 rfl rfl ?_
  refine At.splitP (d := 17) rfl (fun hge => ?_) (fun hge => ?_)
  ·
   obtain ⟨i, rfl⟩ := Int.eq_ofNat_of_zero_le (show 0 ≤ at_ by omega)
   refine aS 1 rfl rfl ?_
   refine At.open rfl rfl ?_
   refine aQ (q_fieldAddr s24 rfl rfl rfl) rfl ?_
   refine At.open rfl rfl ?_
   refine aQ (q_load t22 rfl (Rd.blk (ix 1 rfl) rfl)) rfl ?_
   refine At.open rfl rfl ?_
   refine aQ (q_len Try.underlying22 rfl) rfl ?_
   refine aS 3 rfl rfl ?_
   refine At.splitP (d := 24) rfl (fun hlt => ?_) (fun hlt => ?_)
   ·
    have hi : i < t.ns.l.length := by omega
    obtain ⟨x, hx⟩ := get_of_lt hi
    have hxp : t.p.ns[i]? = some x.p := map_get hx
    refine At.know (prsP x.ps) (fun _ h => psP_get h.2.2.2.2.1 hx) ?_
    refine At.open rfl rfl ?_
    refine aQ (q_fieldAddr s24 rfl rfl rfl) rfl ?_
    refine At.open rfl rfl ?_
    refine aQ (q_load t22 rfl (Rd.blk (ix 2 rfl) rfl)) rfl ?_
    refine aS 1 rfl rfl ?_
    refine At.open rfl rfl ?_
    refine aQ (q_index Try.underlying22 t33 rfl (ix 4 rfl) (by simp) rfl rfl (lt_of_get hx)) rfl ?_
    refine At.open rfl rfl ?_
    refine aQ (q_fieldAddr s33 rfl rfl rfl) rfl ?_
    refine At.open rfl rfl ?_
    refine aQ (q_load t4 rfl (Rd.sl (ix 4 rfl) (map_get hx) rfl)) rfl ?_
    refine aS 3 rfl rfl ?_
    refine aN (aT (At.ret ?_))
    exact At.results (Γr := []) (M := []) rfl (RVals.cons (RVal.tmp rfl) RVals.nil) (ix 3 rfl) (fun _ _ => trivial) (d_ (d_ r_)) ⟨congrArg Value.bool ((leaf_at hm hxp).symm), rfl, rfl⟩
   ·
    refine aS 9 rfl rfl ?_
    refine aN (aT (At.ret ?_))
    exact At.results (Γr := []) (M := []) rfl (RVals.cons (RVal.tmp rfl) RVals.nil) (ix 2 rfl) (fun _ _ => trivial) (d_ (d_ r_)) ⟨congrArg Value.bool ((leaf_out (by simp [Tr.p]; omega)).symm), rfl, rfl⟩
  ·
   refine aS 16 rfl rfl ?_
   refine aN (aT (At.ret ?_))
   exact At.results (Γr := []) (M := []) rfl (RVals.cons (RVal.tmp rfl) RVals.nil) (ix 2 rfl) (fun _ _ => trivial) (d_ (d_ r_)) ⟨congrArg Value.bool ((leaf_neg (by omega)).symm), rfl, rfl⟩
 ·
  refine aS 20 rfl rfl ?_
  refine aN (aT (At.ret ?_))
  exact At.results (Γr := []) (M := []) rfl (RVals.cons (RVal.tmp rfl) RVals.nil) (ix 2 rfl) (fun _ _ => trivial) (d_ (d_ r_)) ⟨congrArg Value.bool ((leaf_no hm).symm), rfl, rfl⟩
theorem same22 (t u : Tr) (hst : smallP t.ns.l) (hsu : smallP u.ns.l) : Con Try.prog 22 [t.val, u.val] [ndsP t.ns, psP t.ns.l, ndsP u.ns, psP u.ns.l] [] (fun v Γ M => v = .bool (sameT t.p u.p) ∧ Γ = [] ∧ M = []) := by
 refine Con.body 28 Try.func22 rfl Try.ntmps22 rfl fun X H₀ L₀ => ?_
 refine aE (aR ?_)
 refine At.loud (l_box rfl) rfl ?_
 rintro _ _ _ ⟨b1, rfl, rfl, rfl⟩
 refine At.freeze 0 (φ := blk b1 _) rfl (fun _ h => blk_def.2 ⟨_, _, h⟩) ?_
 refine At.loud (l_box rfl) rfl ?_
 rintro _ _ _ ⟨b2, rfl, rfl, rfl⟩
 refine At.freeze 0 (φ := blk b2 _) rfl (fun _ h => blk_def.2 ⟨_, _, h⟩) ?_
 refine aS 1 rfl rfl ?_
 refine aN (aT (aE (aR ?_)))
 refine aQ (q_loadS t24 rfl (RdS.blk (ix 1 rfl) (m := 2) rfl) rfl) rfl ?_
 refine At.call en38 rfl (plain38 _ (by assumption)) (fun _ h => ⟨h.2.2.2.1, h.2.2.2.2.1, trivial⟩) (List.Perm.refl _) rfl ?_
 rintro _ _ _ ⟨u1, Mu1, rfl, rfl, rfl, hu1, hup1⟩
 refine aS 1 rfl rfl ?_
 refine At.freezeOwn 0 hu1 rfl ?_
 refine aQ (q_extract rfl rfl) rfl ?_
 refine aQ (q_extract rfl rfl) rfl ?_
 refine At.loud (l_alloc t24) rfl ?_
 rintro _ _ _ ⟨b3, rfl, rfl, rfl⟩
 refine At.loudN (l_store t24 rfl rfl (i := 0) rfl rfl rfl rfl) ?_
 rintro _ _ _ ⟨rfl, rfl⟩
 refine aS 1 rfl rfl ?_
 refine aN (aT (aE (aR ?_)))
 refine aQ (q_loadS t24 rfl (RdS.blk (ix 2 rfl) (m := 2) rfl) rfl) rfl ?_
 refine At.call en38 rfl (plain38 _ (by assumption)) (fun _ h => ⟨h.2.2.2.2.2.2.2.1, h.2.2.2.2.2.2.2.2.1, trivial⟩) (List.Perm.refl _) rfl ?_
 rintro _ _ _ ⟨u2, Mu2, rfl, rfl, rfl, hu2, hup2⟩
 refine aS 1 rfl rfl ?_
 refine At.freezeOwn 0 hu2 rfl ?_
 refine aQ (q_extract rfl rfl) rfl ?_
 refine aQ (q_extract rfl rfl) rfl ?_
 refine At.loud (l_alloc t24) rfl ?_
 rintro _ _ _ ⟨b4, rfl, rfl, rfl⟩
 refine At.loudN (l_store t24 rfl rfl (i := 0) rfl rfl rfl rfl) ?_
 rintro _ _ _ ⟨rfl, rfl⟩
 refine aS 1 rfl rfl ?_
 refine aN (aT (aE (aR ?_)))
 refine aS 2 rfl rfl ?_
 refine At.split (d := 20) rfl (fun h3 => ?_) (fun h3 => ?_)
 ·
  refine aS 3 rfl rfl ?_
  refine At.split (d := 23) rfl (fun h4 => ?_) (fun h4 => ?_)
  ·
   refine At.open rfl rfl ?_
   refine aQ (q_loadS t24 rfl (RdS.loc (i := 1) rfl (m := 2) rfl) rfl) rfl ?_
   refine At.open rfl rfl ?_
   refine aQ (q_loadS t24 rfl (RdS.loc (i := 0) rfl (m := 2) rfl) rfl) rfl ?_
   refine At.open rfl rfl ?_
   refine At.call en36 rfl (same36 _ _) (fun _ h => ⟨h.2.2.1, h.2.2.2.1, h.1, h.2.1, trivial⟩) (List.Perm.refl _) rfl ?_
   rintro _ _ _ ⟨rfl, rfl, rfl⟩
   refine aS 2 rfl rfl ?_
   refine aN (aT (At.ret ?_))
   exact At.results (Γr := []) (M := []) rfl (RVals.cons (RVal.tmp rfl) RVals.nil) (ix 6 rfl) (fun _ _ => trivial) (d_ (d_ r_)) ⟨congrArg Value.bool (by simp [sameT, hup1, hup2, h3, h4]), rfl, rfl⟩
  ·
   refine aS 5 rfl rfl ?_
   refine aN (aT (At.ret ?_))
   exact At.results (Γr := []) (M := []) rfl (RVals.cons (RVal.tmp rfl) RVals.nil) (ix 6 rfl) (fun _ _ => trivial) (d_ (d_ r_)) ⟨congrArg Value.bool (by simp [sameT, hup1, hup2, h3, h4]), rfl, rfl⟩
 ·
  refine aS 8 rfl rfl ?_
  refine aN (aT (At.ret ?_))
  exact At.results (Γr := []) (M := []) rfl (RVals.cons (RVal.tmp rfl) RVals.nil) (ix 6 rfl) (fun _ _ => trivial) (d_ (d_ r_)) ⟨congrArg Value.bool (by simp [sameT, hup1, hup2, h3]), rfl, rfl⟩
theorem leaves41 (t : Tr) (hsm : smallP t.ns.l) : Con Try.prog 41 [t.val] [ndsP t.ns, psP t.ns.l] [] (IntsEnd (toI (leavesT t.p))) := by
 refine Con.body 16 Try.func41 rfl Try.ntmps41 rfl fun X H₀ L₀ => ?_
 refine aE (aR ?_)
 refine At.loud (l_box rfl) rfl ?_
 rintro _ _ _ ⟨b1, rfl, rfl, rfl⟩
 refine At.freeze 0 (φ := blk b1 _) rfl (fun _ h => blk_def.2 ⟨_, _, h⟩) ?_
 refine aS 1 rfl rfl ?_
 refine aN (aT (aE (aE (aR ?_))))
 refine aQ (q_loadS t24 rfl (RdS.blk (.head _) (m := 2) rfl) rfl) rfl ?_
 refine At.call en38 rfl (plain38 _ (by assumption)) (fun _ h => ⟨h.2.2.1, h.2.2.2.1, trivial⟩) (List.Perm.refl _) rfl ?_
 rintro _ _ _ ⟨u1, Mu1, rfl, rfl, rfl, hu1, hup1⟩
 refine aS 1 rfl rfl ?_
 refine aQ (q_extract rfl rfl) rfl ?_
 refine aQ (q_extract rfl rfl) rfl ?_
 refine At.loud (l_alloc t24) rfl ?_
 rintro _ _ _ ⟨b2, rfl, rfl, rfl⟩
 refine At.loudN (l_store t24 rfl rfl (i := 0) rfl rfl rfl rfl) ?_
 rintro _ _ _ ⟨rfl, rfl⟩
 refine aS 1 rfl rfl ?_
 refine aN (aT (aE (aR ?_)))
 refine aS 2 rfl rfl ?_
 refine aN (aT ?_)
 refine At.cond rfl (fun hm => ?_) (fun hm => ?_)
 ·
  refine At.nilSeg ?_
  refine aE (aR ?_)
  refine aS 1 rfl rfl ?_
  refine aN (aT (At.ret (At.thenRet ?_)))
  exact At.results (Γr := []) (M := [[]]) rfl (RVals.cons (RVal.tmp rfl) RVals.nil) (ix 2 rfl) (fun _ _ => trivial) (k_ (d_ (d_ r_))) ⟨⟨none, 0, []⟩, [], rfl, rfl, rfl, Own.nil _ _, by rw [leavesT, none_of (not_t hm)]; rfl⟩
 ·
  obtain ⟨s, hs⟩ := Option.isSome_iff_exists.1 (not_f hm)
  have hg := good_of hs
  have hsz : s.size ≤ 2000 := by have h1 := hg.size; have h2 := hg.few; omega
  refine At.nilSeg ?_
  refine At.skip (aT (aE (aR ?_)))
  refine aQ (q_loadS t24 rfl (RdS.blk (ix 1 rfl) (m := 2) rfl) rfl) rfl ?_
  refine aF s24 t3 rfl rfl rfl (Rd.blk (ix 1 rfl) rfl) rfl rfl ?_
  refine At.call en79 rfl (leaves79 t s t.root hg.hangs [] none 0 [] (Own.nil _ _) (by simp; omega)) (fun _ h => ⟨h.2.2.2.1, h.2.2.2.2.1, trivial⟩) (List.Perm.refl _) rfl ?_
  rintro _ _ _ ⟨a1, c1, M1, rfl, rfl, rfl, hO⟩
  refine aS 1 rfl rfl ?_
  refine aN (aT (At.ret ?_))
  exact At.results (Γr := []) (M := [M1]) rfl (RVals.cons (RVal.tmp rfl) RVals.nil) (ix 2 rfl) (fun _ _ => trivial) (k_ (d_ (d_ r_))) ⟨⟨a1, c1, toI s.leaves⟩, M1, by simp [Sl.val, resVal], rfl, rfl, by simpa using hO, by rw [leavesT, hs]⟩
theorem all42 (t : Tr) (hsm : smallP t.ns.l) : Con Try.prog 42 [t.val] [ndsP t.ns, psP t.ns.l] [] (PairsEnd (allT t.p)) := by
 refine Con.body 23 Try.func42 rfl Try.ntmps42 rfl fun X H₀ L₀ => ?_
 refine At.lenOf (hs := (ix 1 rfl)) fun hlen => ?_
 rw [List.length_map] at hlen
 refine aE (aR ?_)
 refine At.loud (l_box rfl) rfl ?_
 rintro _ _ _ ⟨b1, rfl, rfl, rfl⟩
 refine At.freeze 0 (φ := blk b1 _) rfl (fun _ h => blk_def.2 ⟨_, _, h⟩) ?_
 refine aS 1 rfl rfl ?_
 refine aN (aT (aE (aR ?_)))
 refine aS 1 rfl rfl ?_
 refine aN (aT (aE (aE (aR ?_))))
 refine aQ (q_loadS t24 rfl (RdS.blk (.head _) (m := 2) rfl) rfl) rfl ?_
 refine At.call en41 rfl (leaves41 _ (by assumption)) (fun _ h => ⟨h.2.2.1, h.2.2.2.1, trivial⟩) (List.Perm.refl _) rfl ?_
 rintro _ _ _ ⟨u, Mu, rfl, rfl, rfl, hu, hul⟩
 refine aQ (q_len Try.underlying37 rfl) rfl ?_
 refine At.freezeOwn 0 hu rfl ?_
 have hll := leavesT_len t.p
 have hul2 : u.l.length = (leavesT t.p).length := by rw [hul, toI_length]
 refine At.nilSeg ?_
 refine aS 1 rfl rfl ?_
 refine aN (aT (At.block ?_))
 refine At.loopK (ι := Nat × Option Addr × Nat × Seg) [3, 5, 9, 10, 11, 12, 13, 14, 15, 16, 17, 18, 19, 20, 21] (fun ⟨k, a, c, M⟩ => [(9, .int .i64 (k : Int)), (3, .slice a (outs t.p k).length c)]) (fun ⟨k, a, c, M⟩ => []) (fun ⟨k, a, c, M⟩ => [M]) _ (fun ⟨k, a, c, M⟩ => k ≤ u.l.length ∧ Own 50 2 ((outs t.p k).map rowP) a c M ∧ (outs t.p k).length ≤ k * 1000000) (fun ⟨k, a, c, M⟩ => u.l.length - k) (0, none, 0, []) ⟨Nat.zero_le _, Own.nil _ _, by simp [outs]⟩ ⟨rfl, rfl, trivial⟩ (fun _ _ => trivial) (k_ r_) ?_
 intro i0 hI0
 obtain ⟨k, a, c, M⟩ := i0
 obtain ⟨hkl, hO, hob⟩ := hI0
 refine aE (aR ?_)
 refine aS 1 rfl rfl ?_
 refine aN (aT (aE ?_))
 refine At.if rfl (fun hk => ?_) (fun hk => ?_)
 ·
  obtain ⟨i, hi⟩ := get_of_lt (l := leavesT t.p) (i := k) (by omega)
  have hui : u.l[k]? = some (i : Int) := by rw [hul]; exact toI_get hi
  obtain ⟨x, hx, _, hxg⟩ := Tr.get (leavesT_lt (List.mem_of_getElem? hi))
  have hxs := hsm x (List.mem_of_getElem? hx)
  have hst := outs_step hi hxg
  refine At.know (prsP x.ps) (fun _ h => psP_get h.2.2.2.2.1 hx) ?_
  refine At.skip (aT (aE (At.block (aE (aR ?_)))))
  refine aQ (q_index Try.underlying37 t3 rfl (ix 1 rfl) (by simp) rfl rfl (lt_of_get hui)) rfl ?_
  refine aQ (q_load t3 rfl (Rd.sl0 (ix 1 rfl) (map_get hui) rfl)) rfl ?_
  refine aS 1 rfl rfl ?_
  refine aN (aT (aR ?_))
  refine aS 1 rfl rfl ?_
  refine aF s24 t22 rfl rfl rfl (Rd.blk (ix 2 rfl) rfl) rfl rfl ?_
  refine aS 1 rfl rfl ?_
  refine aQ (q_index Try.underlying22 t33 rfl (ix 4 rfl) (by simp) rfl rfl (lt_of_get hx)) rfl ?_
  refine aF s33 t31 rfl rfl rfl (Rd.sl (ix 4 rfl) (map_get hx) rfl) rfl rfl ?_
  refine At.loud (l_appendSl rfl Try.underlying31 t50 rfl rfl hO (by simp) (i := 0) rfl (.head _) (by simp) (one_map (fun _ => rfl) _) rfl rfl (by omega) (by unfold maxLen; omega)) rfl ?_
  rintro _ _ _ ⟨a2, c2, M2, rfl, ow, rfl, rfl⟩
  refine aS 1 rfl rfl ?_
  refine aN (At.inNormal (aT (aR ?_)))
  refine aQ (q_add rfl rfl (by omega) (by omega)) rfl ?_
  refine aS 1 rfl rfl ?_
  refine aN ?_
  refine At.say 3 (.slice a2 (outs t.p (k + 1)).length c2) rfl (by rw [hst, List.length_append]; rfl) ?_
  refine aT ?_
  exact At.againK (k + 1, a2, c2, M2) ⟨by omega, by rw [hst, List.map_append]; exact ow, by rw [hst, List.length_append]; show _ + x.ps.l.length ≤ _; omega⟩ (by (try dsimp only); omega) (Tells.end 18 ⟨rfl, rfl, trivial⟩ rfl rfl) (fun _ h => h.2) (k_ r_)
 ·
  refine At.exit (At.thenExit (At.thenExit (At.inHere rfl (aT (aE (aR ?_))))))
  refine aS 2 rfl rfl ?_
  refine aN (aT (At.ret ?_))
  exact At.results (Γr := []) (M := [M]) rfl (RVals.cons (RVal.tmp rfl) RVals.nil) (ix 2 rfl) (fun _ _ => trivial) (k_ r_) ⟨⟨a, c, outs t.p k⟩, M, rfl, rfl, rfl, hO, outs_all (by omega)⟩
theorem path44 (t : Tr) (key : Int) (s : Sh) (hs : mayT t.p = some s) : Con Try.prog 44 [t.val, .int .i64 key] [ndsP t.ns, psP t.ns.l] [] (PathEnd t key) := by
 refine Con.body 46 Try.func44 rfl Try.ntmps44 rfl fun X H₀ L₀ => ?_
 refine At.lenOf (hs := (ix 1 rfl)) fun hlen => ?_
 rw [List.length_map] at hlen
 have hg := good_of hs
 have hsz : s.size ≤ 2000 := by have h1 := hg.size; have h2 := hg.few; omega
 refine At.nilSeg ?_
 refine At.nilSeg ?_
 refine aE (aR ?_)
 refine At.loud (l_box rfl) rfl ?_
 rintro _ _ _ ⟨b1, rfl, rfl, rfl⟩
 refine At.freeze 0 (φ := blk b1 _) rfl (fun _ h => blk_def.2 ⟨_, _, h⟩) ?_
 refine aS 3 rfl rfl ?_
 refine aN (aT (aE (aR ?_)))
 refine aF s24 t3 rfl rfl rfl (Rd.blk (.head _) rfl) rfl rfl ?_
 refine aS 1 rfl rfl ?_
 refine aN (aT (aE (aR ?_)))
 refine aS 1 rfl rfl ?_
 refine aN (aT (aE (aR ?_)))
 refine aS 1 rfl rfl ?_
 refine aN (aT (aE (At.block ?_)))
 refine At.front 1 rfl ?_
 refine At.front 1 rfl ?_
 refine At.loopK (ι := Sh × Int × (Nat × List Int × Option Addr × Nat × Seg) × (Nat × List Bool × Option Addr × Nat × Seg)) [7, 8, 9, 10, 13, 14, 15, 16, 17, 18, 19, 20, 21, 22, 23, 24, 25, 26, 27, 28, 29, 30, 31, 32, 33, 34, 35, 36, 37, 38, 39, 40, 41, 42] (fun ⟨s1, at_, ⟨n1, us, a1, c1, M1⟩, ⟨n2, rs, a2, c2, M2⟩⟩ => [(7, .int .i64 at_), (8, .slice a1 n1 c1), (9, .slice a2 n2 c2)]) (fun ⟨s1, at_, ⟨n1, us, a1, c1, M1⟩, ⟨n2, rs, a2, c2, M2⟩⟩ => []) (fun ⟨s1, at_, ⟨n1, us, a1, c1, M1⟩, ⟨n2, rs, a2, c2, M2⟩⟩ => [M1, M2]) _ (fun ⟨s1, at_, ⟨n1, us, a1, c1, M1⟩, ⟨n2, rs, a2, c2, M2⟩⟩ => Way t key s1 at_ us rs ∧ Own 3 1 (us.map rowI) a1 c1 M1 ∧ Own 4 1 (rs.map rowB) a2 c2 M2 ∧ us.length + s1.size ≤ 2000 ∧ rs.length = us.length ∧ n1 = us.length ∧ n2 = rs.length) (fun ⟨s1, at_, ⟨n1, us, a1, c1, M1⟩, ⟨n2, rs, a2, c2, M2⟩⟩ => s1.size) (s, t.root, (0, [], none, 0, []), (0, [], none, 0, [])) ⟨Way.start key hs, Own.nil _ _, Own.nil _ _, by simpa using hsz, rfl, rfl, rfl⟩ ⟨rfl, rfl, rfl, trivial⟩ (fun _ _ => trivial) (k_ (k_ r_)) ?_
 intro i0 hI0
 obtain ⟨s1, at_, ⟨n1, us, a1, c1, M1⟩, ⟨n2, rs, a2, c2, M2⟩⟩ := i0
 obtain ⟨hW, hO1, hO2, hsz1, hrl, hn1, hn2⟩ := hI0
 obtain ⟨i, x, rfl, hx, hxg, hc⟩ := hW.hangs.at
 refine At.know (prsP x.ps) (fun _ h => psP_get h.2.2.2.1 hx) ?_
 refine aE (aE (aR ?_))
 refine aF s24 t22 rfl rfl rfl (Rd.blk (ix 1 rfl) rfl) rfl rfl ?_
 refine aS 1 rfl rfl ?_
 refine aQ (q_index Try.underlying22 t33 rfl (ix 3 rfl) (by simp) rfl rfl (lt_of_get hx)) rfl ?_
 refine aF s33 t4 rfl rfl rfl (Rd.sl (ix 3 rfl) (map_get hx) rfl) rfl rfl ?_
 refine aN (aT ?_)
 refine At.cond rfl (fun hr => ?_) (fun hr => ?_)
 ·
  obtain ⟨l, r, rfl, hl, hr2⟩ : ∃ l r, s1 = .node i l r ∧ Hangs t.p.ns l x.left ∧ Hangs t.p.ns r x.right := by
   rcases hc with ⟨h, _⟩ | ⟨_, h⟩
   ·rw [show x.route = true from hr] at h; cases h
   ·exact h
  simp only [Sh.size] at hsz1
  have hst := hW.step hxg hl hr2
  refine At.skip (aT (At.block (aE (aR ?_))))
  refine aF s24 t22 rfl rfl rfl (Rd.blk (ix 1 rfl) rfl) rfl rfl ?_
  refine aS 1 rfl rfl ?_
  refine aQ (q_index Try.underlying22 t33 rfl (ix 3 rfl) (by simp) rfl rfl (lt_of_get hx)) rfl ?_
  refine aQ (q_loadS t33 rfl (RdS.sl0 (ix 3 rfl) (map_get hx)) rfl) rfl ?_
  refine At.loud (l_alloc t33) rfl ?_
  rintro _ _ _ ⟨b2, rfl, rfl, rfl⟩
  refine At.loudN (l_store t33 rfl rfl (i := 0) rfl rfl rfl rfl) ?_
  rintro _ _ _ ⟨rfl, rfl⟩
  refine aN (aT ?_)
  refine At.front 2 rfl ?_
  refine At.front 2 rfl ?_
  refine At.cutD (ι := (Option Addr × Nat × Seg) × (Option Addr × Nat × Seg)) (.s (.s .z)) [8, 9, 24, 25, 26, 27, 28, 29, 30, 31, 32, 33, 34] (fun ⟨⟨a3, c3, M3⟩, ⟨a4, c4, M4⟩⟩ => [(8, .slice a3 (n1 + 1) c3), (9, .slice a4 (n2 + 1) c4)]) (fun ⟨⟨a3, c3, M3⟩, ⟨a4, c4, M4⟩⟩ => []) (fun ⟨⟨a3, c3, M3⟩, ⟨a4, c4, M4⟩⟩ => [M3, M4]) (fun ⟨⟨a3, c3, M3⟩, ⟨a4, c4, M4⟩⟩ => Own 3 1 ((us ++ [(i : Int)]).map rowI) a3 c3 M3 ∧ Own 4 1 ((rs ++ [decide (x.key ≤ key)]).map rowB) a4 c4 M4) ?_ ?_
  ·
   refine At.draw 10 (.q 0 (.q 1 (.q 4 (.q 5 (.q 6 (.q 7 (.q 8 (.t 2 (.t 3 (.o 9 (.e)) 9 (.o 3 (.e))) 9 (.o 2 (.o 3 (.e))))))))))) (_ :: L₀) (d_ (d_ (k_ r_))) mixed (by kernel_rfl) rfl ?_
   refine oQ rfl (q_move rfl) rfl (cT (cI (cT (cI (cT cP))))) ?_
   refine oQ rfl (q_move rfl) rfl (cT (cI (cT (cI (cT cP))))) ?_
   refine oQ rfl (q_move rfl) rfl (cT (cI (cT (cI (cT cP))))) ?_
   refine oQ rfl (q_move rfl) rfl (cT (cI (cT (cI (cT cP))))) ?_
   refine oQ rfl (q_fieldAddr s33 rfl rfl rfl) rfl (cT (cI (cT (cI (cT cP))))) ?_
   refine oQ rfl (q_load t3 rfl (Rd.loc (i := 0) rfl rfl)) rfl (cT (cI (cT (cI (cT cP))))) ?_
   refine oQ rfl (q_geq rfl rfl) rfl (cT (cI (cT (cI (cT cP))))) ?_
   refine AtO.two ?_ ?_
   ·
    refine AtO.loud rfl (l_buildSlice Try.underlying37 t3 rfl rfl rfl rfl rfl) rfl (by rintro _ _ _ ⟨_, rfl, rfl, rfl⟩; exact ⟨fun _ h => h, d_ (d_ (d_ (k_ r_)))⟩) ?_
    rintro _ _ _ ⟨b3, rfl, rfl, rfl⟩
    refine AtO.two ?_ ?_
    ·
     refine AtO.loudA rfl (l_append rfl Try.underlying37 t3 rfl rfl hO1 (by simp; omega) (i := 1) rfl rfl (news := [rowI (i : Int)]) (by simp [rowI]) (RdS.loc (i := 0) rfl (m := 1) rfl) rfl rfl rfl (by omega) (by unfold maxLen; omega)) rfl (by rintro _ _ _ ⟨_, _, _, rfl, _, rfl, rfl⟩; exact ⟨fun _ h => h, (d_ (d_ (d_ (k_ r_))))⟩) ?_
     rintro _ _ _ ⟨a3, c3, M3, rfl, ow3, rfl, rfl⟩
     refine AtO.loudA rfl (l_buildSlice Try.underlying38 t4 rfl rfl rfl rfl rfl) rfl (by rintro _ _ _ ⟨_, rfl, rfl, rfl⟩; exact ⟨fun _ h => h, d_ r_⟩) ?_
     rintro _ _ _ ⟨b4, rfl, rfl, rfl⟩
     refine AtO.done ?_
     refine At.loud (l_append rfl Try.underlying38 t4 rfl rfl hO2 (by simp; omega) (i := 3) rfl rfl (news := [rowB (decide (x.key ≤ key))]) (by simp [rowB]) (RdS.loc (i := 0) rfl (m := 1) rfl) rfl rfl rfl (by omega) (by unfold maxLen; omega)) rfl ?_
     rintro _ _ _ ⟨a4, c4, M4, rfl, ow4, rfl, rfl⟩
     refine aS 2 rfl rfl ?_
     refine aN ?_
     refine At.front 3 rfl ?_
     refine At.front 3 rfl ?_
     refine aT ?_
     exact At.meetK (⟨a3, c3, M3⟩, ⟨a4, c4, M4⟩) ⟨by simpa using ow3, by simpa using ow4⟩ (Tells.meet 13 ⟨rfl, rfl, trivial⟩ rfl rfl) (fun _ h => h) (k_ (k_ (d_ (d_ r_))))
    ·
     refine AtO.loud rfl (l_buildSlice Try.underlying38 t4 rfl rfl rfl rfl rfl) rfl (by rintro _ _ _ ⟨_, rfl, rfl, rfl⟩; exact ⟨fun _ h => h, d_ (d_ (d_ (d_ (k_ r_))))⟩) ?_
     rintro _ _ _ ⟨b5, rfl, rfl, rfl⟩
     refine AtO.loudA rfl (l_append rfl Try.underlying37 t3 rfl rfl hO1 (by simp; omega) (i := 2) rfl rfl (news := [rowI (i : Int)]) (by simp [rowI]) (RdS.loc (i := 1) rfl (m := 1) rfl) rfl rfl rfl (by omega) (by unfold maxLen; omega)) rfl (by rintro _ _ _ ⟨_, _, _, rfl, _, rfl, rfl⟩; exact ⟨fun _ h => h, (d_ (d_ (d_ (d_ (k_ r_)))))⟩) ?_
     rintro _ _ _ ⟨a3, c3, M3, rfl, ow3, rfl, rfl⟩
     refine AtO.done ?_
     refine At.loud (l_append rfl Try.underlying38 t4 rfl rfl hO2 (by simp; omega) (i := 3) rfl rfl (news := [rowB (decide (x.key ≤ key))]) (by simp [rowB]) (RdS.loc (i := 0) rfl (m := 1) rfl) rfl rfl rfl (by omega) (by unfold maxLen; omega)) rfl ?_
     rintro _ _ _ ⟨a4, c4, M4, rfl, ow4, rfl, rfl⟩
     refine aS 2 rfl rfl ?_
     refine aN ?_
     refine At.front 3 rfl ?_
     refine At.front 3 rfl ?_
     refine aT ?_
     exact At.meetK (⟨a3, c3, M3⟩, ⟨a4, c4, M4⟩) ⟨by simpa using ow3, by simpa using ow4⟩ (Tells.meet 13 ⟨rfl, rfl, trivial⟩ rfl rfl) (fun _ h => h) (k_ (k_ (d_ (d_ r_))))
   ·
    refine AtO.loud rfl (l_buildSlice Try.underlying38 t4 rfl rfl rfl rfl rfl) rfl (by rintro _ _ _ ⟨_, rfl, rfl, rfl⟩; exact ⟨fun _ h => h, d_ (d_ (d_ (k_ r_)))⟩) ?_
    rintro _ _ _ ⟨b6, rfl, rfl, rfl⟩
    refine AtO.loud rfl (l_buildSlice Try.underlying37 t3 rfl rfl rfl rfl rfl) rfl (by rintro _ _ _ ⟨_, rfl, rfl, rfl⟩; exact ⟨fun _ h => h, d_ (d_ (d_ (d_ (k_ r_))))⟩) ?_
    rintro _ _ _ ⟨b7, rfl, rfl, rfl⟩
    refine AtO.loudA rfl (l_append rfl Try.underlying37 t3 rfl rfl hO1 (by simp; omega) (i := 2) rfl rfl (news := [rowI (i : Int)]) (by simp [rowI]) (RdS.loc (i := 0) rfl (m := 1) rfl) rfl rfl rfl (by omega) (by unfold maxLen; omega)) rfl (by rintro _ _ _ ⟨_, _, _, rfl, _, rfl, rfl⟩; exact ⟨fun _ h => h, (d_ (d_ (d_ (d_ (k_ r_)))))⟩) ?_
    rintro _ _ _ ⟨a3, c3, M3, rfl, ow3, rfl, rfl⟩
    refine AtO.done ?_
    refine At.loud (l_append rfl Try.underlying38 t4 rfl rfl hO2 (by simp; omega) (i := 3) rfl rfl (news := [rowB (decide (x.key ≤ key))]) (by simp [rowB]) (RdS.loc (i := 1) rfl (m := 1) rfl) rfl rfl rfl (by omega) (by unfold maxLen; omega)) rfl ?_
    rintro _ _ _ ⟨a4, c4, M4, rfl, ow4, rfl, rfl⟩
    refine aS 2 rfl rfl ?_
    refine aN ?_
    refine At.front 3 rfl ?_
    refine At.front 3 rfl ?_
    refine aT ?_
    exact At.meetK (⟨a3, c3, M3⟩, ⟨a4, c4, M4⟩) ⟨by simpa using ow3, by simpa using ow4⟩ (Tells.meet 13 ⟨rfl, rfl, trivial⟩ rfl rfl) (fun _ h => h) (k_ (k_ (d_ (d_ r_))))
  intro j0 hMt
  obtain ⟨⟨a3, c3, M3⟩, ⟨a4, c4, M4⟩⟩ := j0
  obtain ⟨hO3, hO4⟩ := hMt
  refine aE (aR ?_)
  refine aS 1 rfl rfl ?_
  refine aF s33 t3 rfl rfl rfl (Rd.loc (i := 2) rfl rfl) rfl rfl ?_
  refine aS 1 rfl rfl ?_
  refine aN (aT ?_)
  refine At.if rfl (fun hk => ?_) (fun hk => ?_)
  ·
   refine aR ?_
   refine aF s33 t3 rfl rfl rfl (Rd.loc (i := 2) rfl rfl) rfl rfl ?_
   refine aS 1 rfl rfl ?_
   refine aN (At.inNormal ?_)
   refine At.front 1 rfl ?_
   refine At.front 1 rfl ?_
   refine aT ?_
   exact At.againK (l, x.left, (n1 + 1, us ++ [(i : Int)], a3, c3, M3), (n2 + 1, rs ++ [false], a4, c4, M4)) ⟨hst.1 hk, hO3, by rw [decide_eq_false (by omega)] at hO4; exact hO4, by simp; omega, by simp [hrl], by simp [hn1], by simp [hn2]⟩ (by simp only [Sh.size]; omega) (Tells.end 22 ⟨rfl, rfl, rfl, trivial⟩ rfl rfl) (fun _ h => h.2) (k_ (k_ (d_ r_)))
  ·
   refine aR ?_
   refine aF s33 t3 rfl rfl rfl (Rd.loc (i := 2) rfl rfl) rfl rfl ?_
   refine aS 1 rfl rfl ?_
   refine aN (At.inNormal ?_)
   refine At.front 1 rfl ?_
   refine At.front 1 rfl ?_
   refine aT ?_
   exact At.againK (r, x.right, (n1 + 1, us ++ [(i : Int)], a3, c3, M3), (n2 + 1, rs ++ [true], a4, c4, M4)) ⟨hst.2 (by omega), hO3, by rw [decide_eq_true (by omega)] at hO4; exact hO4, by simp; omega, by simp [hrl], by simp [hn1], by simp [hn2]⟩ (by simp only [Sh.size]; omega) (Tells.end 22 ⟨rfl, rfl, rfl, trivial⟩ rfl rfl) (fun _ h => h.2) (k_ (k_ (d_ r_)))
 ·
  obtain rfl : s1 = .leaf i := by
   rcases hc with ⟨_, h⟩ | ⟨h, _⟩
   ·exact h
   ·rw [show x.route = false from hr] at h; cases h
  obtain ⟨hd1, hd2, hd3⟩ := hW.done
  subst hn1
  subst hn2
  refine At.freezeOwn 0 hO1 rfl ?_
  refine At.freezeOwn 0 hO2 rfl ?_
  refine At.exit (At.thenExit (At.thenExit (At.inHere rfl (aT (aE (aR ?_))))))
  refine aS 6 rfl rfl ?_
  refine aN (aT (At.ret ?_))
  exact At.results (Γr := [intsP ⟨a1, c1, us⟩, boolsP ⟨a2, c2, rs⟩]) (M := []) rfl (RVals.cons (RVal.tmp rfl) (RVals.cons (RVal.tmp rfl) (RVals.cons (RVal.tmp rfl) RVals.nil))) (ix 4 rfl) (fun _ h => ⟨h.2.1, h.1, trivial⟩) r_ ⟨⟨a1, c1, us⟩, ⟨a2, c2, rs⟩, by rw [hd1]; rfl, rfl, rfl, hd2, hd3⟩
end Go.Proofs.Ytmkodknmknfdkaa
set_option linter.unusedVariables false
set_option linter.unusedSimpArgs false
namespace Go.Proofs.Ytmkodknmknfdkaa
open E
def Sh.bd (ns : List Nod) : Sh → Kb → Nat → Kb
 | .leaf _, k, _ => k
 | .node j l r, k, i => if l.places.contains i then l.bd ns (k.lefts (ns.getD j default).key) i else r.bd ns (k.rights (ns.getD j default).key) i
theorem getD_of {ns : List Nod} {i : Nat} {n : Nod} (h : ns[i]? = some n) : ns.getD i default = n := by rw [List.getD_eq_getElem?_getD, h]; rfl
theorem nodup_node {j : Nat} {l r : Sh} (h : (Sh.node j l r).places.Nodup) : j ∉ l.places ∧ j ∉ r.places ∧ l.places.Nodup ∧ r.places.Nodup ∧ ∀ i ∈ l.places, i ∉ r.places := by
 simp only [Sh.places, List.nodup_cons, List.mem_append, List.nodup_append] at h
 obtain ⟨h1, h2, h3, h4⟩ := h
 exact ⟨fun h => h1 (.inl h), fun h => h1 (.inr h), h2, h3, fun i hi hj => h4 i hi i hj rfl⟩
theorem fits_leaf {ns : List Nod} {s : Sh} {a : Int} {k : Kb} {i : Nat} (h : Fits ns s a k) (hn : s.places.Nodup) (hi : i ∈ s.leaves) : ∃ n, ns[i]? = some n ∧ n.route = false ∧ leafOk n (s.bd ns k i) = true := by
 induction s generalizing a k with
 | leaf j =>
  obtain ⟨rfl, n, h1, h2, h3⟩ := h
  simp [Sh.leaves] at hi
  subst hi
  exact ⟨n, h1, h2, h3⟩
 | node j l r h1 h2 =>
  obtain ⟨rfl, n, hj, hr, hk, hl, hr'⟩ := h
  obtain ⟨_, _, d1, d2, d3⟩ := nodup_node hn
  simp only [Sh.bd, getD_of hj]
  rcases List.mem_append.1 hi with h' | h'
  ·rw [if_pos (by simpa using leaves_places i h')]
   exact h1 hl d1 h'
  ·rw [if_neg (by simpa using fun h3 => d3 i h3 (leaves_places i h'))]
   exact h2 hr' d2 h'
theorem bd_sub {ns : List Nod} {s : Sh} {a : Int} {k : Kb} {i : Nat} {x : Int} (h : Fits ns s a k) (hx : (s.bd ns k i).has x = true) : k.has x = true := by
 induction s generalizing a k with
 | leaf j => exact hx
 | node j l r h1 h2 =>
  obtain ⟨rfl, n, hj, hr, hk, hl, hr'⟩ := h
  obtain ⟨_, _, hh, _⟩ := routeOk_parts hk
  simp only [Sh.bd, getD_of hj] at hx
  split at hx
  ·exact ((has_lefts hh).1 (h1 hl hx)).1
  ·exact ((has_rights hh).1 (h2 hr' hx)).1
theorem find_leaf {ns : List Nod} {s : Sh} {key : Int} : (s.find ns key).leaf ∈ s.leaves := by
 induction s with
 | leaf j => simp [Sh.find, Sh.leaves]
 | node j l r h1 h2 =>
  simp only [Sh.find, Sh.leaves, List.mem_append]
  split
  ·exact .inl h1
  ·exact .inr h2
theorem find_iff {ns : List Nod} {s : Sh} {a : Int} {k : Kb} {i : Nat} {key : Int} (h : Fits ns s a k) (hn : s.places.Nodup) (hi : i ∈ s.leaves) (hk : k.has key = true) : (s.find ns key).leaf = i ↔ (s.bd ns k i).has key = true := by
 induction s generalizing a k with
 | leaf j =>
  simp [Sh.leaves] at hi
  subst hi
  simp [Sh.find, Sh.bd, hk]
 | node j l r h1 h2 =>
  obtain ⟨rfl, n, hj, hr, hok, hl, hr'⟩ := h
  obtain ⟨_, _, d1, d2, d3⟩ := nodup_node hn
  obtain ⟨_, _, hh, _⟩ := routeOk_parts hok
  simp only [Sh.bd, Sh.find, getD_of hj]
  by_cases hlt : key < n.key
  ·rw [if_pos hlt]
   rcases List.mem_append.1 hi with h' | h'
   ·rw [if_pos (by simpa using leaves_places i h')]
    exact h1 hl d1 h' ((has_lefts hh).2 ⟨hk, hlt⟩)
   ·rw [if_neg (by simpa using fun h3 => d3 i h3 (leaves_places i h'))]
    constructor
    ·intro e
     have e' : (l.find ns key).leaf = i := e
     exact absurd (leaves_places i h') (d3 i (e' ▸ leaves_places _ find_leaf))
    ·intro e
     have := ((has_rights hh).1 (bd_sub hr' e)).2
     omega
  ·rw [if_neg hlt]
   rcases List.mem_append.1 hi with h' | h'
   ·rw [if_pos (by simpa using leaves_places i h')]
    constructor
    ·intro e
     have e' : (r.find ns key).leaf = i := e
     exact absurd (e' ▸ leaves_places _ find_leaf) (d3 i (leaves_places i h'))
    ·intro e
     have := ((has_lefts hh).1 (bd_sub hl e)).2
     omega
   ·rw [if_neg (by simpa using fun h3 => d3 i h3 (leaves_places i h'))]
    exact h2 hr' d2 h' ((has_rights hh).2 ⟨hk, by omega⟩)
theorem findD_eq {t : PT} {s : Sh} (h : mayT t = some s) (key : Int) : findD t key = s.find t.ns key := by simp [findD, findT, h]
theorem leavesT_eq {t : PT} {s : Sh} (h : mayT t = some s) : leavesT t = s.leaves := by simp [leavesT, h]
/-- Each pair is in the leaf of its key. -/
theorem only_find {t : PT} {s : Sh} {i : Nat} {p : Pr} {n : Nod} (h : mayT t = some s) (hi : i ∈ leavesT t) (hn : t.ns[i]? = some n) (hp : p ∈ n.l) : (findD t p.k).leaf = i := by
 rw [leavesT_eq h] at hi
 rw [findD_eq h]
 obtain ⟨m, hm, _, hok⟩ := fits_leaf (may_fits h) (good_of h).nodup hi
 rw [hn] at hm
 cases hm
 exact (find_iff (may_fits h) (good_of h).nodup hi rfl).2 ((leafOk_parts.1 hok).2.2.2.2.2.2 p hp)
theorem hangs_set {ns : List Nod} {s s' : Sh} {a : Int} {i : Nat} {n n' : Nod} (hn : ns[i]? = some n) (hr : n.route = false) (hr' : n'.route = false) (h : Hangs ns s a) (h' : Hangs (ns.set i n') s' a) : s' = s := by
 have key : ∀ (j : Nat) (x : Nod), ns[j]? = some x → ∃ y, (ns.set i n')[j]? = some y ∧ y.route = x.route ∧ (x.route = true → y = x) := by
  intro j x hx
  by_cases hij : i = j
  ·subst hij
   rw [hn] at hx
   cases hx
   refine ⟨n', ?_, by rw [hr, hr'], fun h => by rw [hr] at h; cases h⟩
   rw [List.getElem?_set]
   simp [lt_of_get hn]
  ·exact ⟨x, by rw [List.getElem?_set_ne hij]; exact hx, rfl, fun _ => rfl⟩
 induction s generalizing a s' with
 | leaf j =>
  obtain ⟨rfl, x, hx, hxr⟩ := h
  obtain ⟨y, hy, hyr, _⟩ := key j x hx
  cases s' with
  | leaf j' => obtain ⟨e, _⟩ := h'; congr 1; omega
  | node j' l r =>
   obtain ⟨e, z, hz, hzr, _⟩ := h'
   obtain rfl : j = j' := by omega
   rw [hy] at hz; cases hz
   rw [hyr, hxr] at hzr; cases hzr
 | node j l r h1 h2 =>
  obtain ⟨rfl, x, hx, hxr, hl, hrr⟩ := h
  obtain ⟨y, hy, hyr, hyx⟩ := key j x hx
  have hyx := hyx hxr
  subst hyx
  cases s' with
  | leaf j' =>
   obtain ⟨e, z, hz, hzr⟩ := h'
   obtain rfl : j = j' := by omega
   rw [hy] at hz; cases hz
   rw [hxr] at hzr; cases hzr
  | node j' l' r' =>
   obtain ⟨e, z, hz, hzr, hl', hr''⟩ := h'
   obtain rfl : j = j' := by omega
   rw [hy] at hz; cases hz
   rw [h1 hl hl', h2 hrr hr'']
theorem fits_set {ns : List Nod} {s : Sh} {a : Int} {k : Kb} {i : Nat} {n' : Nod} (h : Fits ns s a k) (hn : s.places.Nodup) (hi : i ∈ s.leaves) (hr : n'.route = false) : Fits (ns.set i n') s a k ↔ leafOk n' (s.bd ns k i) = true := by
 have out : ∀ {s : Sh} {a : Int} {k : Kb}, i ∉ s.places → Fits ns s a k → Fits (ns.set i n') s a k := by
  intro s
  induction s with
  | leaf j =>
   rintro a k hi ⟨h0, x, hx, h1⟩
   exact ⟨h0, x, by rw [List.getElem?_set_ne (fun e => hi (by simp [Sh.places, e]))]; exact hx, h1⟩
  | node j l r h1 h2 =>
   rintro a k hi ⟨h0, x, hx, hxr, hk, hl, hrr⟩
   simp only [Sh.places, List.mem_cons, List.mem_append, not_or] at hi
   exact ⟨h0, x, by rw [List.getElem?_set_ne hi.1]; exact hx, hxr, hk, h1 hi.2.1 hl, h2 hi.2.2 hrr⟩
 induction s generalizing a k with
 | leaf j =>
  obtain ⟨rfl, x, hx, hxr, hk⟩ := h
  simp [Sh.leaves] at hi
  subst hi
  have e : (ns.set i n')[i]? = some n' := by rw [List.getElem?_set]; simp [lt_of_get hx]
  constructor
  ·rintro ⟨_, y, hy, _, hk'⟩
   rw [e] at hy; cases hy
   exact hk'
  ·intro h; exact ⟨rfl, n', e, hr, h⟩
 | node j l r h1 h2 =>
  obtain ⟨rfl, x, hx, hxr, hk, hl, hrr⟩ := h
  obtain ⟨c1, c2, d1, d2, d3⟩ := nodup_node hn
  simp only [Sh.bd, getD_of hx]
  have hij : i ≠ j := by
   rintro rfl
   rcases List.mem_append.1 hi with h' | h'
   ·exact c1 (leaves_places _ h')
   ·exact c2 (leaves_places _ h')
  have e : (ns.set i n')[j]? = some x := by rw [List.getElem?_set_ne hij]; exact hx
  rcases List.mem_append.1 hi with h' | h'
  ·have hp := leaves_places i h'
   rw [if_pos (by simpa using hp)]
   refine Iff.trans ?_ (h1 hl d1 h')
   constructor
   ·rintro ⟨_, y, hy, _, _, h3, _⟩
    rw [e] at hy; cases hy
    exact h3
   ·intro h3; exact ⟨rfl, x, e, hxr, hk, h3, out (d3 i hp) hrr⟩
  ·have hp := leaves_places i h'
   have hnl : i ∉ l.places := fun h3 => d3 i h3 hp
   rw [if_neg (by simpa using hnl)]
   refine Iff.trans ?_ (h2 hrr d2 h')
   constructor
   ·rintro ⟨_, y, hy, _, _, _, h3⟩
    rw [e] at hy; cases hy
    exact h3
   ·intro h3; exact ⟨rfl, x, e, hxr, hk, out hnl hl, h3⟩
theorem may_set {t : PT} {s : Sh} {i : Nat} {n' : Nod} (h : mayT t = some s) (hi : i ∈ leavesT t) (hr : n'.route = false) : mayT ⟨t.root, t.ns.set i n'⟩ = if leafOk n' (s.bd t.ns Kb.all i) then some s else none := by
 rw [leavesT_eq h] at hi
 have hg := good_of h
 have hf := fits_set (n' := n') (may_fits h) hg.nodup hi hr
 obtain ⟨n, hn, hnr, _⟩ := fits_leaf (may_fits h) hg.nodup hi
 cases hok : leafOk n' (s.bd t.ns Kb.all i)
 ·cases hm : mayT ⟨t.root, t.ns.set i n'⟩ with
  | none => rfl
  | some s' =>
   have hf' := may_fits hm
   have := hangs_set hn hnr hr hg.hangs hf'.hangs
   subst this
   rw [hf.1 hf'] at hok
   cases hok
 ·rw [if_pos rfl]
  exact may_of_fits (by simpa using hg.few) (hf.2 hok) hg.nodup (fun j hj => hg.all j (by simpa using hj))
theorem setT_leaf {t : PT} {s : Sh} {i : Nat} {n : Nod} {l : List Pr} {stat : Int} (h : mayT t = some s) (hi : i ∈ leavesT t) (hn : t.ns[i]? = some n) : setT t (i : Int) l stat = if leafOk { n with l := l, stat := stat } (s.bd t.ns Kb.all i) then some ⟨t.root, t.ns.set i { n with l := l, stat := stat }⟩ else none := by
 have hi' := hi
 rw [leavesT_eq h] at hi'
 obtain ⟨m, hm, hmr, _⟩ := fits_leaf (may_fits h) (good_of h).nodup hi'
 rw [hn] at hm
 cases hm
 have hs := may_set (n' := { n with l := l, stat := stat }) h hi hmr
 cases hok : leafOk { n with l := l, stat := stat } (s.bd t.ns Kb.all i)
 ·rw [hok] at hs
  exact set_no5 hn hmr (by rw [hs]; rfl)
 ·rw [hok] at hs
  exact set_ok h hn hmr (by rw [hs]; rfl)
theorem withGo_done (p : Pr) (l : List Pr) : withGo p l true = l.filter fun x => decide (x.k ≠ p.k) := by
 induction l with
 | nil => rfl
 | cons x l ih =>
  simp only [withGo, Bool.not_true, Bool.false_and, Bool.false_eq_true, if_false, List.nil_append, Bool.true_or, ih]
  by_cases h : x.k = p.k
  ·rw [if_pos h, List.filter_cons_of_neg (by simp [h])]; rfl
  ·rw [if_neg h, List.filter_cons_of_pos (by simp [h])]; rfl
theorem mem_with {p x : Pr} {l : List Pr} : x ∈ withT l p ↔ x = p ∨ (x ∈ l ∧ x.k ≠ p.k) := by
 unfold withT
 induction l with
 | nil => simp [withGo]
 | cons y l ih =>
  by_cases h1 : p.k ≤ y.k
  ·simp only [withGo, Bool.not_false, Bool.true_and, h1, decide_true, if_true, Bool.false_or, withGo_done, List.mem_append, List.mem_singleton, List.mem_filter, decide_eq_true_eq, List.mem_cons, List.not_mem_nil, or_false]
   by_cases h2 : y.k = p.k
   ·simp only [if_pos h2, List.not_mem_nil, false_or]
    constructor
    ·rintro (h | ⟨h, h'⟩)
     ·exact .inl h
     ·exact .inr ⟨.inr h, h'⟩
    ·rintro (h | ⟨rfl | h, h'⟩)
     ·exact .inl h
     ·exact absurd h2 h'
     ·exact .inr ⟨h, h'⟩
   ·simp only [if_neg h2, List.mem_singleton]
    constructor
    ·rintro (h | rfl | ⟨h, h'⟩)
     ·exact .inl h
     ·exact .inr ⟨.inl rfl, h2⟩
     ·exact .inr ⟨.inr h, h'⟩
    ·rintro (h | ⟨rfl | h, h'⟩)
     ·exact .inl h
     ·exact .inr (.inl rfl)
     ·exact .inr (.inr ⟨h, h'⟩)
  ·have h2 : y.k ≠ p.k := by omega
   simp only [withGo, Bool.not_false, Bool.true_and, h1, decide_false, Bool.false_eq_true, if_false, Bool.false_or, List.nil_append, if_neg h2, List.mem_append, List.mem_singleton, ih, List.mem_cons, List.not_mem_nil, or_false]
   constructor
   ·rintro (rfl | h | ⟨h, h'⟩)
    ·exact .inr ⟨.inl rfl, h2⟩
    ·exact .inl h
    ·exact .inr ⟨.inr h, h'⟩
   ·rintro (h | ⟨rfl | h, h'⟩)
    ·exact .inr (.inl h)
    ·exact .inl rfl
    ·exact .inr (.inr ⟨h, h'⟩)
theorem with_pw {p : Pr} {l : List Pr} (h : l.Pairwise fun a b => a.k < b.k) : (withT l p).Pairwise fun a b => a.k < b.k := by
 induction l with
 | nil => simp [withT, withGo]
 | cons y l ih =>
  obtain ⟨h1, h2⟩ := List.pairwise_cons.1 h
  have hin : ∀ x ∈ withGo p l false, x = p ∨ (x ∈ l ∧ x.k ≠ p.k) := fun x hx => mem_with.1 hx
  unfold withT
  by_cases h3 : p.k ≤ y.k
  ·simp only [withGo, Bool.not_false, Bool.true_and, h3, decide_true, if_true, Bool.false_or, withGo_done]
   have hf := List.Pairwise.filter (fun x : Pr => decide (x.k ≠ p.k)) h2
   by_cases h4 : y.k = p.k
   ·rw [if_pos h4]
    show List.Pairwise _ (p :: l.filter fun x : Pr => decide (x.k ≠ p.k))
    refine List.pairwise_cons.2 ⟨fun x hx => ?_, hf⟩
    have := h1 x (List.mem_filter.1 hx).1
    omega
   ·rw [if_neg h4]
    show List.Pairwise _ (p :: y :: l.filter fun x : Pr => decide (x.k ≠ p.k))
    refine List.pairwise_cons.2 ⟨fun x hx => ?_, List.pairwise_cons.2 ⟨fun x hx => h1 x (List.mem_filter.1 hx).1, hf⟩⟩
    rcases List.mem_cons.1 hx with rfl | hx
    ·omega
    ·have := h1 x (List.mem_filter.1 hx).1
     omega
  ·have h4 : y.k ≠ p.k := by omega
   simp only [withGo, Bool.not_false, Bool.true_and, h3, decide_false, Bool.false_eq_true, if_false, Bool.false_or, List.nil_append, if_neg h4]
   show List.Pairwise _ (y :: withGo p l false)
   refine List.pairwise_cons.2 ⟨fun x hx => ?_, ih h2⟩
   rcases hin x hx with rfl | ⟨hx, _⟩
   ·omega
   ·exact h1 x hx
theorem with_len (p : Pr) (l : List Pr) : (withT l p).length ≤ l.length + 1 := by
 unfold withT
 induction l with
 | nil => simp [withGo]
 | cons y l ih =>
  by_cases h1 : p.k ≤ y.k
  ·simp only [withGo, Bool.not_false, Bool.true_and, h1, decide_true, if_true, Bool.false_or, withGo_done]
   have := List.length_filter_le (fun x : Pr => decide (x.k ≠ p.k)) l
   split <;> simp only [List.length_append, List.length_cons, List.length_nil] <;> omega
  ·simp only [withGo, Bool.not_false, Bool.true_and, h1, decide_false, Bool.false_eq_true, if_false, Bool.false_or, List.nil_append]
   split <;> simp <;> omega
end Go.Proofs.Ytmkodknmknfdkaa
set_option linter.unusedVariables false
set_option linter.unusedSimpArgs false
namespace Go.Proofs.Ytmkodknmknfdkaa
open E
def Sh.straight : Sh → Nat → Sh
 | .leaf _, b => .leaf b
 | .node _ l r, b => .node b (l.straight (b + 1)) (r.straight (b + 1 + l.size))
theorem straight_size (s : Sh) (b : Nat) : (s.straight b).size = s.size := by
 induction s generalizing b with
 | leaf i => rfl
 | node i l r h1 h2 => simp [Sh.straight, Sh.size, h1, h2]
theorem straight_places (s : Sh) (b : Nat) : (s.straight b).places = List.range' b s.size := by
 induction s generalizing b with
 | leaf i => rfl
 | node i l r h1 h2 =>
  simp only [Sh.straight, Sh.places, Sh.size, h1, h2]
  rw [show 1 + l.size + r.size = (l.size + r.size) + 1 by omega, List.range'_succ, ← List.range'_append_1]
theorem fits_lay {ns : List Nod} {s : Sh} {a : Int} {k : Kb} (h : Fits ns s a k) : ∀ (b : Nat) (pre post : List Nod), pre.length = b → Fits (pre ++ s.lay ns b ++ post) (s.straight b) (b : Int) k := by
 induction s generalizing a k with
 | leaf i =>
  obtain ⟨rfl, n, hn, hr, hk⟩ := h
  rintro b pre post rfl
  refine ⟨rfl, n, ?_, hr, hk⟩
  simp only [Sh.lay, getD_of hn]
  simp
 | node i l r h1 h2 =>
  obtain ⟨rfl, n, hn, hr, hk, hl, hr'⟩ := h
  rintro b pre post rfl
  simp only [Sh.lay, getD_of hn, Sh.straight]
  refine ⟨rfl, { n with left := ((pre.length + 1 : Nat) : Int), right := ((pre.length + 1 + l.size : Nat) : Int) }, by simp, hr, hk, ?_, ?_⟩
  ·have := h1 hl (pre.length + 1) (pre ++ [{ n with left := ((pre.length + 1 : Nat) : Int), right := ((pre.length + 1 + l.size : Nat) : Int) }]) (r.lay ns (pre.length + 1 + l.size) ++ post) (by simp)
   simpa [List.append_assoc] using this
  ·have := h2 hr' (pre.length + 1 + l.size) (pre ++ { n with left := ((pre.length + 1 : Nat) : Int), right := ((pre.length + 1 + l.size : Nat) : Int) } :: l.lay ns (pre.length + 1)) post (by simp [Sh.lay_length]; omega)
   simpa [List.append_assoc] using this
theorem lay_lay {ns : List Nod} {s : Sh} {a : Int} {k : Kb} (h : Fits ns s a k) : ∀ (b : Nat) (pre post : List Nod), pre.length = b → (s.straight b).lay (pre ++ s.lay ns b ++ post) b = s.lay ns b := by
 induction s generalizing a k with
 | leaf i =>
  rintro b pre post rfl
  simp [Sh.straight, Sh.lay]
 | node i l r h1 h2 =>
  obtain ⟨rfl, n, hn, hr, hk, hl, hr'⟩ := h
  rintro b pre post rfl
  have e1 := h1 hl (pre.length + 1) (pre ++ [{ n with left := ((pre.length + 1 : Nat) : Int), right := ((pre.length + 1 + l.size : Nat) : Int) }]) (r.lay ns (pre.length + 1 + l.size) ++ post) (by simp)
  have e2 := h2 hr' (pre.length + 1 + l.size) (pre ++ { n with left := ((pre.length + 1 : Nat) : Int), right := ((pre.length + 1 + l.size : Nat) : Int) } :: l.lay ns (pre.length + 1)) post (by simp [Sh.lay_length]; omega)
  simp only [List.append_assoc, List.cons_append, List.nil_append] at e1 e2
  simp only [Sh.lay, getD_of hn, Sh.straight, straight_size, List.append_assoc, List.cons_append]
  rw [e1, e2]
  simp [List.getD_eq_getElem?_getD]
theorem plain_may {t : PT} {s : Sh} (h : mayT t = some s) : plainD t = ⟨0, s.lay t.ns 0⟩ ∧ mayT (plainD t) = some (s.straight 0) ∧ plainD (plainD t) = plainD t := by
 have hg := good_of h
 have hp : plainD t = ⟨0, s.lay t.ns 0⟩ := by simp [plainD, plainT, h]
 have hf := fits_lay (may_fits h) 0 [] [] rfl
 have hl := lay_lay (may_fits h) 0 [] [] rfl
 simp only [List.nil_append, List.append_nil] at hf hl
 have hm : mayT ⟨0, s.lay t.ns 0⟩ = some (s.straight 0) := by
  refine may_of_fits (by rw [Sh.lay_length, hg.size]; exact hg.few) hf ?_ fun i hi => ?_
  ·rw [straight_places]; exact List.nodup_range'
  ·rw [straight_places, List.mem_range'_1]
   rw [Sh.lay_length] at hi
   omega
 refine ⟨hp, by rw [hp]; exact hm, ?_⟩
 rw [hp]
 simp [plainD, plainT, hm, hl]
/-- All pairs, from the plain form. -/
theorem lay_pairs {ns : List Nod} {s : Sh} {a : Int} {k : Kb} (h : Fits ns s a k) (b : Nat) : (s.leaves.flatMap fun i => (ns.getD i default).l) = (s.lay ns b).flatMap (·.l) := by
 induction s generalizing a k b with
 | leaf i => simp [Sh.leaves, Sh.lay]
 | node i l r h1 h2 =>
  obtain ⟨rfl, n, hn, hr, hk, hl, hr'⟩ := h
  simp only [Sh.leaves, Sh.lay, List.flatMap_append, List.flatMap_cons, getD_of hn]
  rw [(route_pure hk).1, h1 hl (b + 1), h2 hr' (b + 1 + l.size)]
  simp
theorem all_plain (t : PT) : allT t = (plainD t).ns.flatMap (·.l) := by
 unfold allT leavesT
 cases h : mayT t with
 | none => simp [plainD, plainT, h]
 | some s => rw [(plain_may h).1]; exact lay_pairs (may_fits h) 0
def Sh.ren (σ : Nat → Nat) : Sh → Sh
 | .leaf i => .leaf (σ i)
 | .node i l r => .node (σ i) (l.ren σ) (r.ren σ)
def renN (σ : Nat → Nat) (n : Nod) : Nod := if n.route then { n with left := (σ n.left.toNat : Int), right := (σ n.right.toNat : Int) } else n
theorem ren_places (σ : Nat → Nat) (s : Sh) : (s.ren σ).places = s.places.map σ := by
 induction s with
 | leaf i => rfl
 | node i l r h1 h2 => simp [Sh.ren, Sh.places, h1, h2]
theorem ren_size (σ : Nat → Nat) (s : Sh) : (s.ren σ).size = s.size := by rw [← Sh.size_places, ren_places, List.length_map, Sh.size_places]
theorem Fits.at0 {ns : List Nod} {s : Sh} {a : Int} {k : Kb} (h : Fits ns s a k) : a = (s.at_ : Int) := by
 cases s with
 | leaf i => exact h.1
 | node i l r => exact h.1
theorem fits_ren {ns ns' : List Nod} {σ : Nat → Nat} {s : Sh} {a : Int} {k : Kb} (h : Fits ns s a k) (hns : ∀ (i : Nat) (n : Nod), ns[i]? = some n → ns'[σ i]? = some (renN σ n)) : Fits ns' (s.ren σ) (σ a.toNat : Int) k ∧ ∀ b, (s.ren σ).lay ns' b = s.lay ns b := by
 induction s generalizing a k with
 | leaf i =>
  obtain ⟨rfl, n, hn, hr, hk⟩ := h
  have hx := hns i n hn
  have e : renN σ n = n := by simp [renN, hr]
  rw [e] at hx
  exact ⟨⟨rfl, n, hx, hr, hk⟩, fun b => by simp only [Sh.ren, Sh.lay, getD_of hx, getD_of hn]⟩
 | node i l r h1 h2 =>
  obtain ⟨rfl, n, hn, hr, hk, hl, hr'⟩ := h
  have hx := hns i n hn
  have e : renN σ n = { n with left := (σ n.left.toNat : Int), right := (σ n.right.toNat : Int) } := by simp [renN, hr]
  rw [e] at hx
  obtain ⟨a1, a2⟩ := h1 hl
  obtain ⟨b1, b2⟩ := h2 hr'
  refine ⟨⟨rfl, _, hx, hr, hk, a1, b1⟩, fun b => ?_⟩
  simp only [Sh.ren, Sh.lay, getD_of hx, getD_of hn, ren_size, a2, b2]
theorem ren_may {t u : PT} {σ : Nat → Nat} {s : Sh} (h : mayT t = some s) (hN : u.ns.length = t.ns.length) (hroot : u.root = (σ t.root.toNat : Int)) (hns : ∀ (i : Nat) (n : Nod), t.ns[i]? = some n → u.ns[σ i]? = some (renN σ n))
  (hinj : ∀ i j, i < t.ns.length → j < t.ns.length → σ i = σ j → i = j) : mayT u = some (s.ren σ) ∧ plainD u = plainD t := by
 have hg := good_of h
 obtain ⟨hf, hl⟩ := fits_ren (may_fits h) hns
 have hnd : (s.ren σ).places.Nodup := by
  rw [ren_places]
  have : ∀ l : List Nat, l.Nodup → (∀ i ∈ l, i < t.ns.length) → (l.map σ).Nodup := by
   intro l
   induction l with
   | nil => simp
   | cons x l ih =>
    intro h1 h2
    obtain ⟨h3, h4⟩ := List.nodup_cons.1 h1
    rw [List.map_cons, List.nodup_cons]
    refine ⟨fun hm => ?_, ih h4 fun i hi => h2 i (List.mem_cons_of_mem _ hi)⟩
    obtain ⟨y, hy, e⟩ := List.mem_map.1 hm
    have := hinj y x (h2 y (List.mem_cons_of_mem _ hy)) (h2 x (by simp)) e
    subst this
    exact h3 hy
  exact this _ hg.nodup hg.lt
 have hm : mayT u = some (s.ren σ) := by
  refine may_of_fits (by rw [hN]; exact hg.few) (by rw [hroot]; exact hf) hnd fun i hi => ?_
  by_cases hi' : i ∈ (s.ren σ).places
  ·exact hi'
  ·have := nodup_len (N := u.ns.length) (l := i :: (s.ren σ).places) (List.nodup_cons.2 ⟨hi', hnd⟩) (fun j hj => by
    rcases List.mem_cons.1 hj with h | h
    ·subst h; exact hi
    ·exact hf.lt j h)
   rw [List.length_cons, Sh.size_places, ren_size, hg.size] at this
   omega
 refine ⟨hm, ?_⟩
 rw [(plain_may h).1]
 simp [plainD, plainT, hm, hl]
theorem turn_inj {n k i j : Nat} (hi : i < n) (hj : j < n) (h : (i + k) % n = (j + k) % n) : i = j := by
 have h1 := Nat.div_add_mod (i + k) n
 have h2 := Nat.div_add_mod (j + k) n
 rw [h] at h1
 rcases Nat.lt_trichotomy ((i + k) / n) ((j + k) / n) with h3 | h3 | h3
 ·have : n * ((i + k) / n) + n ≤ n * ((j + k) / n) := by rw [← Nat.mul_succ]; exact Nat.mul_le_mul_left n h3
  omega
 ·rw [h3] at h1; omega
 ·have : n * ((j + k) / n) + n ≤ n * ((i + k) / n) := by rw [← Nat.mul_succ]; exact Nat.mul_le_mul_left n h3
  omega
theorem fits_kids {ns : List Nod} {s : Sh} {a : Int} {k : Kb} (h : Fits ns s a k) : ∀ i ∈ s.places, ∀ n, ns[i]? = some n → n.route = true → 0 ≤ n.left ∧ n.left < (ns.length : Int) ∧ 0 ≤ n.right ∧ n.right < (ns.length : Int) := by
 induction s generalizing a k with
 | leaf j =>
  obtain ⟨rfl, m, hm, hr, _⟩ := h
  intro i hi n hn hr'
  simp [Sh.places] at hi
  subst hi
  rw [hn] at hm
  cases hm
  rw [hr] at hr'
  cases hr'
 | node j l r h1 h2 =>
  obtain ⟨rfl, m, hm, hr, hk, hl, hrr⟩ := h
  intro i hi n hn hr'
  simp only [Sh.places, List.mem_cons, List.mem_append] at hi
  rcases hi with rfl | hi | hi
  ·rw [hn] at hm
   cases hm
   have e1 := hl.at0
   have e2 := hrr.at0
   have l1 := hl.lt l.at_ (by cases l <;> simp [Sh.places, Sh.at_])
   have l2 := hrr.lt r.at_ (by cases r <;> simp [Sh.places, Sh.at_])
   omega
  ·exact h1 hl i hi n hn hr'
  ·exact h2 hrr i hi n hn hr'
def turnN (n k : Nat) (x : Nod) : Nod := if x.route then { x with left := (x.left + (k : Int)) % (n : Int), right := (x.right + (k : Int)) % (n : Int) } else x
theorem turn_cast {a : Int} (h : 0 ≤ a) {k n : Nat} : (a + (k : Int)) % (n : Int) = (((a.toNat + k) % n : Nat) : Int) := by
 obtain ⟨m, rfl⟩ := Int.eq_ofNat_of_zero_le h
 simp
/-- The plain tree, its nodes at other places. -/
theorem turned {t u : PT} {s : Sh} {k : Nat} (h : mayT t = some s) (hN : u.ns.length = (plainD t).ns.length) (hroot : u.root = ((k % (plainD t).ns.length : Nat) : Int))
  (hns : ∀ (i : Nat) (x : Nod), (plainD t).ns[i]? = some x → u.ns[(i + k) % (plainD t).ns.length]? = some (turnN (plainD t).ns.length k x)) : (mayT u).isSome = true ∧ plainD u = plainD t := by
 obtain ⟨hp, hm, hpp⟩ := plain_may h
 have hr0 : (plainD t).root = 0 := plainD_root t
 have key := ren_may (σ := fun i => (i + k) % (plainD t).ns.length) hm hN (by rw [hroot, hr0]; simp) (fun i x hx => by
  rw [hns i x hx]
  congr 1
  unfold turnN renN
  cases hr : x.route
  ·rfl
  ·have hi := (good_of hm).all i (lt_of_get hx)
   obtain ⟨k1, k2, k3, k4⟩ := fits_kids (may_fits hm) i hi x hx hr
   simp only [if_true]
   rw [turn_cast k1, turn_cast k3]) (fun i j hi hj h => turn_inj hi hj h)
 refine ⟨by rw [key.1]; rfl, ?_⟩
 rw [key.2, hpp]
end Go.Proofs.Ytmkodknmknfdkaa
set_option linter.unusedVariables false
set_option linter.unusedSimpArgs false
namespace Go.Proofs.Ytmkodknmknfdkaa
open E
set_option maxRecDepth 4000
theorem en24 : Enters Try.prog 24 := Enters.mk' Try.func24 rfl rfl
theorem en26 : Enters Try.prog 26 := Enters.mk' Try.func26 rfl rfl
theorem en27 : Enters Try.prog 27 := Enters.mk' Try.func27 rfl rfl
theorem en32 : Enters Try.prog 32 := Enters.mk' Try.func32 rfl rfl
theorem en78 : Enters Try.prog 78 := Enters.mk' Try.func78 rfl rfl
end Go.Proofs.Ytmkodknmknfdkaa
set_option linter.unusedVariables false
set_option linter.unusedSimpArgs false
namespace Go.Proofs.Ytmkodknmknfdkaa
open E Go
theorem E.Quiet.loud {P : Program} {op : Op} {ty : TypeId} {n : Nat} {env : E.Env} {Γ : List SProp} {L : E.Loc} {v : Value} (h : E.Quiet P op ty n env Γ L v) : E.Loud P op ty n env Γ L (fun v' Γ' L' => v' = v ∧ Γ' = Γ ∧ L' = L) :=
 E.Loud.ofRun fun X d pos aft g a w H h1 h2 h3 => ⟨v, w, H, Γ, L, h X d pos aft g a w H h1 h2 h3, ⟨rfl, rfl, rfl⟩, Hp.le_refl H, h2, h3⟩
theorem wrapU (n : Int) : IntKind.u64.wrap n = n % 18446744073709551616 := by simp [IntKind.wrap, IntKind.bits, IntKind.signed]
/-- One of so many places. -/
theorem pick {a : Int} {n : Nat} (h0 : 0 < n) (h1 : n ≤ 4611686018427387904) : ∃ i : Nat, i < n ∧ IntKind.i64.wrap (Int.tmod (IntKind.u64.wrap a) (IntKind.u64.wrap (n : Int))) = (i : Int) ∧ IntKind.u64.wrap (n : Int) ≠ 0 := by
 have e1 : IntKind.u64.wrap (n : Int) = (n : Int) := by rw [wrapU]; omega
 obtain ⟨A, hA⟩ := Int.eq_ofNat_of_zero_le (show 0 ≤ IntKind.u64.wrap a by rw [wrapU]; omega)
 have h2 : A % n < n := Nat.mod_lt _ h0
 refine ⟨A % n, h2, ?_, by rw [e1]; omega⟩
 rw [e1, hA]
 have e2 : Int.tmod (A : Int) (n : Int) = ((A % n : Nat) : Int) := rfl
 rw [e2]
 exact wrapI (by omega) (by omega)
theorem light_yes {b : Bool} (h : ¬ (0 : Int) < (if b then 0 else 1)) : b = true := by
 cases b
 ·exact absurd (by decide) h
 ·rfl
def zeroN : Nd := ⟨false, 0, 0, 0, ⟨none, 0, []⟩, 0⟩
theorem p_get {u : Tr} {t : PT} {i : Nat} {n : Nod} (h : u.p = t) (hn : t.ns[i]? = some n) : ∃ y, u.ns.l[i]? = some y ∧ y.p = n := by
 subst h
 have hn' : (u.ns.l.map Nd.p)[i]? = some n := hn
 rw [List.getElem?_map] at hn'
 cases hy : u.ns.l[i]? with
 | none => rw [hy] at hn'; cases hn'
 | some y => rw [hy] at hn'; exact ⟨y, rfl, Option.some.inj hn'⟩
theorem p_len {u : Tr} {t : PT} (h : u.p = t) : u.ns.l.length = t.ns.length := by subst h; simp [Tr.p]
theorem small_of_p {u t : Tr} (h : u.p = t.p) (hs : smallP t.ns.l) : smallP u.ns.l := small_p (congrArg PT.ns h) hs
theorem pairs_mono (l : List Nod) : ∀ k, pairsUpto l k ≤ pairsUpto l l.length := fun k => by
 unfold pairsUpto
 rw [List.take_of_length_le (Nat.le_refl _)]
 conv => rhs; rw [← List.take_append_drop k l]
 rw [List.map_append, List.sum_append]
 omega
theorem leaves_pos (s : Sh) : 0 < s.leaves.length := by
 induction s with
 | leaf i => simp [Sh.leaves]
 | node i l r h1 h2 => simp only [Sh.leaves, List.length_append]; omega
theorem find_mem {t : PT} {s : Sh} (h : mayT t = some s) (key : Int) : (findD t key).leaf ∈ leavesT t := by rw [findD_eq h, leavesT_eq h]; exact find_leaf
theorem find_lt {t : PT} {s : Sh} (h : mayT t = some s) (key : Int) : (findD t key).leaf < t.ns.length := leavesT_lt (find_mem h key)
def PairsEndF (l : List Pr) (v : Value) (Γ : List SProp) (M : E.Loc) : Prop := ∃ u : Sl Pr, v = u.val ∧ Γ = [prsP u] ∧ M = [] ∧ u.l = l
def IntsEndF (l : List Int) (v : Value) (Γ : List SProp) (M : E.Loc) : Prop := ∃ u : Sl Int, v = u.val ∧ Γ = [intsP u] ∧ M = [] ∧ u.l = l
/-- Where the turned tree's nodes lie, as far as they are laid. -/
def Turn (p : Tr) (k : Nat) (o : List Nd) (i : Nat) : Prop := o.length = p.ns.l.length ∧ ∀ (j : Nat) (y : Nd), j < i → p.ns.l[j]? = some y → (o.map Nd.p)[(j + k) % p.ns.l.length]? = some (turnN p.ns.l.length k y.p)
theorem Turn.step {p : Tr} {k i : Nat} {o : List Nd} {y m : Nd} (h : Turn p k o i) (hy : p.ns.l[i]? = some y) (hm : m.p = turnN p.ns.l.length k y.p) : Turn p k (o.set ((i + k) % p.ns.l.length) m) (i + 1) := by
 obtain ⟨h1, h2⟩ := h
 have hi := lt_of_get hy
 have hlt : (i + k) % p.ns.l.length < o.length := by rw [h1]; exact Nat.mod_lt _ (by omega)
 refine ⟨by simpa using h1, fun j z hj hz => ?_⟩
 rw [List.map_set]
 by_cases hji : j = i
 ·subst hji
  rw [hy] at hz
  cases hz
  rw [List.getElem?_set_self (by simpa using hlt), hm]
 ·rw [List.getElem?_set_ne (fun e => hji (turn_inj (lt_of_get hz) hi e.symm))]
  exact h2 j z (by omega) hz
theorem Turn.done {p u : Tr} {t : PT} {k : Nat} {s : Sh} (hs : mayT t = some s) (hp : p.p = plainD t) (h : Turn p k u.ns.l p.ns.l.length) (hr : u.root = ((k % p.ns.l.length : Nat) : Int)) : (mayT u.p).isSome = true ∧ plainD u.p = plainD t := by
 have hl : (plainD t).ns.length = p.ns.l.length := (p_len hp).symm
 refine turned hs (by rw [hl]; show (u.ns.l.map Nd.p).length = _; rw [List.length_map]; exact h.1) (by rw [hl]; exact hr) fun i x hx => ?_
 rw [hl]
 have hx' : p.p.ns[i]? = some x := by rw [hp]; exact hx
 have hx2 : (p.ns.l.map Nd.p)[i]? = some x := hx'
 rw [List.getElem?_map] at hx2
 cases hy : p.ns.l[i]? with
 | none => rw [hy] at hx2; cases hx2
 | some y =>
  rw [hy] at hx2
  cases hx2
  exact h.2 i y (lt_of_get hy) hy
theorem same_true {a b : PT} (h1 : (mayT a).isSome = true) (h2 : (mayT b).isSome = true) (h : plainD b = plainD a) : sameT a b = true := by
 unfold sameT
 rw [h1, h2, h]
 simp
end Go.Proofs.Ytmkodknmknfdkaa
set_option linter.unusedVariables false
set_option linter.unusedSimpArgs false
namespace Go.Proofs.Ytmkodknmknfdkaa
open E
set_option maxRecDepth 4000
theorem en20 : Enters Try.prog 20 := Enters.mk' Try.func20 rfl rfl
theorem en22 : Enters Try.prog 22 := Enters.mk' Try.func22 rfl rfl
theorem en29 : Enters Try.prog 29 := Enters.mk' Try.func29 rfl rfl
theorem en31 : Enters Try.prog 31 := Enters.mk' Try.func31 rfl rfl
theorem leaves28f (t : Tr) : Con Try.prog 28 [t.val] [ndsP t.ns, psP t.ns.l] [] (IntsEndF (toI (leavesT t.p))) := by
 refine Con.body 10 Try.func28 rfl Try.ntmps28 rfl fun X H₀ L₀ => ?_
 refine aE (aR ?_)
 refine At.loud (l_box rfl) rfl ?_
 rintro _ _ _ ⟨b1, rfl, rfl, rfl⟩
 refine At.freeze 0 (φ := blk b1 _) rfl (fun _ h => blk_def.2 ⟨_, _, h⟩) ?_
 refine aS 1 rfl rfl ?_
 refine aN (aT (aE (aE (aR ?_))))
 refine aQ (q_loadS t24 rfl (RdS.blk (.head _) (m := 2) rfl) rfl) rfl ?_
 refine At.call en21 rfl (may21 _) (fun _ h => ⟨h.2.2.1, h.2.2.2.1, trivial⟩) (List.Perm.refl _) rfl ?_
 rintro _ _ _ ⟨rfl, rfl, rfl⟩
 refine aS 1 rfl rfl ?_
 refine aN (aT ?_)
 refine At.cond rfl (fun hm => ?_) (fun hm => ?_)
 ·
  refine At.know (intsP ⟨none, 0, []⟩) (fun _ h => sl_nil _ _ _ (Nat.zero_le _)) ?_
  refine aE (aR ?_)
  refine aS 1 rfl rfl ?_
  refine aN (aT (At.ret (At.thenRet ?_)))
  exact At.results (Γr := [_]) (M := []) rfl (RVals.cons (RVal.tmp rfl) RVals.nil) (ix 2 rfl) (fun _ h => ⟨h.1, trivial⟩) r_ ⟨⟨none, 0, []⟩, rfl, rfl, rfl, by rw [leavesT, none_of (not_t hm)]; rfl⟩
 ·
  obtain ⟨s, hs⟩ := Option.isSome_iff_exists.1 (not_f hm)
  have hg := good_of hs
  have hsz : s.size ≤ 2000 := by have h1 := hg.size; have h2 := hg.few; omega
  refine At.nilSeg ?_
  refine At.skip (aT (aE (aR ?_)))
  refine aQ (q_loadS t24 rfl (RdS.blk (.head _) (m := 2) rfl) rfl) rfl ?_
  refine aF s24 t3 rfl rfl rfl (Rd.blk (.head _) rfl) rfl rfl ?_
  refine At.call en70 rfl (leaves70 t s t.root hg.hangs [] none 0 [] (Own.nil _ _) (by simp; omega)) (fun _ h => ⟨h.2.2.1, h.2.2.2.1, trivial⟩) (List.Perm.refl _) rfl ?_
  rintro _ _ _ ⟨a1, c1, M1, rfl, rfl, rfl, hO⟩
  refine At.freezeOwn 0 (show Own 3 1 ((toI s.leaves).map rowI) a1 c1 M1 by simpa using hO) rfl ?_
  refine aS 1 rfl rfl ?_
  refine aN (aT (At.ret ?_))
  exact At.results (Γr := [_]) (M := []) rfl (RVals.cons (RVal.tmp rfl) RVals.nil) (ix 2 rfl) (fun _ h => ⟨h.1, trivial⟩) r_ ⟨⟨a1, c1, toI s.leaves⟩, by simp [Sl.val, resVal], rfl, rfl, by rw [leavesT, hs]⟩
theorem all29f (t : Tr) (hsm : smallP t.ns.l) : Con Try.prog 29 [t.val] [ndsP t.ns, psP t.ns.l] [] (PairsEndF (allT t.p)) := by
 refine Con.body 23 Try.func29 rfl Try.ntmps29 rfl fun X H₀ L₀ => ?_
 refine At.lenOf (hs := (ix 1 rfl)) fun hlen => ?_
 rw [List.length_map] at hlen
 refine aE (aR ?_)
 refine At.loud (l_box rfl) rfl ?_
 rintro _ _ _ ⟨b1, rfl, rfl, rfl⟩
 refine At.freeze 0 (φ := blk b1 _) rfl (fun _ h => blk_def.2 ⟨_, _, h⟩) ?_
 refine aS 1 rfl rfl ?_
 refine aN (aT (aE (aR ?_)))
 refine aS 1 rfl rfl ?_
 refine aN (aT (aE (aE (aR ?_))))
 refine aQ (q_loadS t24 rfl (RdS.blk (.head _) (m := 2) rfl) rfl) rfl ?_
 refine At.call en28 rfl (leaves28f _) (fun _ h => ⟨h.2.2.1, h.2.2.2.1, trivial⟩) (List.Perm.refl _) rfl ?_
 rintro _ _ _ ⟨u, rfl, rfl, rfl, hul⟩
 refine aQ (q_len Try.underlying37 rfl) rfl ?_
 have hll := leavesT_len t.p
 have hul2 : u.l.length = (leavesT t.p).length := by rw [hul, toI_length]
 refine At.nilSeg ?_
 refine aS 1 rfl rfl ?_
 refine aN (aT (At.block ?_))
 refine At.loopK (ι := Nat × Option Addr × Nat × Seg) [3, 5, 9, 10, 11, 12, 13, 14, 15, 16, 17, 18, 19, 20, 21] (fun ⟨k, a, c, M⟩ => [(9, .int .i64 (k : Int)), (3, .slice a (outs t.p k).length c)]) (fun ⟨k, a, c, M⟩ => []) (fun ⟨k, a, c, M⟩ => [M]) _ (fun ⟨k, a, c, M⟩ => k ≤ u.l.length ∧ Own 50 2 ((outs t.p k).map rowP) a c M ∧ (outs t.p k).length ≤ k * 1000000) (fun ⟨k, a, c, M⟩ => u.l.length - k) (0, none, 0, []) ⟨Nat.zero_le _, Own.nil _ _, by simp [outs]⟩ ⟨rfl, rfl, trivial⟩ (fun _ _ => trivial) (k_ r_) ?_
 intro i0 hI0
 obtain ⟨k, a, c, M⟩ := i0
 obtain ⟨hkl, hO, hob⟩ := hI0
 refine aE (aR ?_)
 refine aS 1 rfl rfl ?_
 refine aN (aT (aE ?_))
 refine At.if rfl (fun hk => ?_) (fun hk => ?_)
 ·
  obtain ⟨i, hi⟩ := get_of_lt (l := leavesT t.p) (i := k) (by omega)
  have hui : u.l[k]? = some (i : Int) := by rw [hul]; exact toI_get hi
  obtain ⟨x, hx, _, hxg⟩ := Tr.get (leavesT_lt (List.mem_of_getElem? hi))
  have hxs := hsm x (List.mem_of_getElem? hx)
  have hst := outs_step hi hxg
  refine At.know (prsP x.ps) (fun _ h => psP_get h.2.2.2.2.1 hx) ?_
  refine At.skip (aT (aE (At.block (aE (aR ?_)))))
  refine aQ (q_index Try.underlying37 t3 rfl (ix 1 rfl) (by simp) rfl rfl (lt_of_get hui)) rfl ?_
  refine aQ (q_load t3 rfl (Rd.sl0 (ix 1 rfl) (map_get hui) rfl)) rfl ?_
  refine aS 1 rfl rfl ?_
  refine aN (aT (aR ?_))
  refine aS 1 rfl rfl ?_
  refine aF s24 t22 rfl rfl rfl (Rd.blk (ix 2 rfl) rfl) rfl rfl ?_
  refine aS 1 rfl rfl ?_
  refine aQ (q_index Try.underlying22 t33 rfl (ix 4 rfl) (by simp) rfl rfl (lt_of_get hx)) rfl ?_
  refine aF s33 t31 rfl rfl rfl (Rd.sl (ix 4 rfl) (map_get hx) rfl) rfl rfl ?_
  refine At.loud (l_appendSl rfl Try.underlying31 t50 rfl rfl hO (by simp) (i := 0) rfl (.head _) (by simp) (one_map (fun _ => rfl) _) rfl rfl (by omega) (by unfold maxLen; omega)) rfl ?_
  rintro _ _ _ ⟨a2, c2, M2, rfl, ow, rfl, rfl⟩
  refine aS 1 rfl rfl ?_
  refine aN (At.inNormal (aT (aR ?_)))
  refine aQ (q_add rfl rfl (by omega) (by omega)) rfl ?_
  refine aS 1 rfl rfl ?_
  refine aN ?_
  refine At.say 3 (.slice a2 (outs t.p (k + 1)).length c2) rfl (by rw [hst, List.length_append]; rfl) ?_
  refine aT ?_
  exact At.againK (k + 1, a2, c2, M2) ⟨by omega, by rw [hst, List.map_append]; exact ow, by rw [hst, List.length_append]; show _ + x.ps.l.length ≤ _; omega⟩ (by (try dsimp only); omega) (Tells.end 18 ⟨rfl, rfl, trivial⟩ rfl rfl) (fun _ h => h.2) (k_ r_)
 ·
  refine At.freezeOwn 0 hO rfl ?_
  refine At.exit (At.thenExit (At.thenExit (At.inHere rfl (aT (aE (aR ?_))))))
  refine aS 2 rfl rfl ?_
  refine aN (aT (At.ret ?_))
  exact At.results (Γr := [prsP ⟨a, c, outs t.p k⟩]) (M := []) rfl (RVals.cons (RVal.tmp rfl) RVals.nil) (ix 3 rfl) (fun _ h => ⟨h.1, trivial⟩) r_ ⟨⟨a, c, outs t.p k⟩, rfl, rfl, rfl, outs_all (by omega)⟩
theorem with35f (l : Sl Pr) (p : Pr) (hl : l.l.length ≤ 1000000) : Con Try.prog 35 [l.val, p.val] [prsP l] [] (PairsEndF (withT l.l p)) := by
 refine Con.body 45 Try.func35 rfl Try.ntmps35 rfl fun X H₀ L₀ => ?_
 refine At.nilSeg ?_
 refine aE (aR ?_)
 refine At.loud (l_box rfl) rfl ?_
 rintro _ _ _ ⟨b1, rfl, rfl, rfl⟩
 refine At.freeze 0 (φ := blk b1 _) rfl (fun _ h => blk_def.2 ⟨_, _, h⟩) ?_
 refine aS 1 rfl rfl ?_
 refine aN (aT (aE (aR ?_)))
 refine aS 1 rfl rfl ?_
 refine aN (aT (aE (aR ?_)))
 refine aS 1 rfl rfl ?_
 refine aN (aT (aE (aE (aR ?_))))
 refine aS 1 rfl rfl ?_
 refine aQ (q_len Try.underlying31 rfl) rfl ?_
 refine aS 1 rfl rfl ?_
 refine aN (aT (At.block ?_))
 refine At.loopK (ι := Nat × Bool × Nat × List Pr × Option Addr × Nat × Seg) [5, 6, 8, 11, 12, 13, 14, 15, 16, 17, 18, 19, 20, 21, 22, 23, 24, 25, 26, 27, 28, 29, 30, 31, 32, 33, 34, 35, 36, 37] (fun ⟨k, d, n0, o, a, c, M⟩ => [(11, .int .i64 (k : Int)), (6, .bool d), (5, .slice a n0 c)]) (fun ⟨k, d, n0, o, a, c, M⟩ => []) (fun ⟨k, d, n0, o, a, c, M⟩ => [M]) _ (fun ⟨k, d, n0, o, a, c, M⟩ => k ≤ l.l.length ∧ withT l.l p = o ++ withGo p (l.l.drop k) d ∧ Own 50 2 (o.map rowP) a c M ∧ n0 = o.length ∧ n0 ≤ 2 * k) (fun ⟨k, d, n0, o, a, c, M⟩ => l.l.length - k) (0, false, 0, [], none, 0, []) ⟨Nat.zero_le _, rfl, Own.nil _ _, rfl, Nat.le_refl _⟩ ⟨rfl, rfl, rfl, trivial⟩ (fun _ _ => trivial) (k_ r_) ?_
 intro i0 hI0
 obtain ⟨k, d, n0, o, a, c, M⟩ := i0
 obtain ⟨hkl, hW, hO, hn0, hnk⟩ := hI0
 refine aE (aR ?_)
 refine aS 1 rfl rfl ?_
 refine aN (aT (aE ?_))
 refine At.if rfl (fun hk => ?_) (fun hk => ?_)
 ·
  obtain ⟨x, hx⟩ := get_of_lt (l := l.l) (i := k) (by omega)
  have hk1 := lt_of_get hx
  refine At.skip (aT (aE (At.block (aE (aR ?_)))))
  refine aQ (q_index Try.underlying31 t50 rfl (ix 2 rfl) (by simp) rfl rfl (lt_of_get hx)) rfl ?_
  refine aQ (q_loadS t50 rfl (RdS.sl0 (ix 2 rfl) (map_get hx)) rfl) rfl ?_
  refine At.loud (l_alloc t50) rfl ?_
  rintro _ _ _ ⟨b2, rfl, rfl, rfl⟩
  refine At.loudN (l_store t50 rfl rfl (i := 0) rfl rfl rfl rfl) ?_
  rintro _ _ _ ⟨rfl, rfl⟩
  refine aN (aT (aE (aE (aR ?_))))
  refine aS 3 rfl rfl ?_
  refine At.split (d := 17) rfl (fun hd => ?_) (fun hd => ?_)
  ·
   have hd0 := not_t hd
   refine At.open rfl rfl ?_
   refine aQ (q_fieldAddr s50 rfl rfl rfl) rfl ?_
   refine At.open rfl rfl ?_
   refine aQ (q_load t3 rfl (Rd.loc (i := 0) rfl rfl)) rfl ?_
   refine At.open rfl rfl ?_
   refine aQ (q_fieldAddr s50 rfl rfl rfl) rfl ?_
   refine At.open rfl rfl ?_
   refine aQ (q_load t3 rfl (Rd.blk (.head _) rfl)) rfl ?_
   refine aS 2 rfl rfl ?_
   refine aN (aT ?_)
   refine At.if rfl (fun hc => ?_) (fun hc => ?_)
   ·
    refine aE (aR ?_)
    refine aS 1 rfl rfl ?_
    refine aQ (q_loadS t50 rfl (RdS.blk (.head _) (m := 2) rfl) rfl) rfl ?_
    refine At.loud (l_buildSlice Try.underlying31 t50 rfl rfl rfl rfl rfl) rfl ?_
    rintro _ _ _ ⟨b3, rfl, rfl, rfl⟩
    refine At.loud (l_append rfl Try.underlying31 t50 rfl rfl hO (by simp; omega) (i := 2) rfl rfl (news := [rowP p]) (by simp [rowP]) (RdS.loc (i := 0) rfl (m := 2) rfl) rfl rfl rfl (by omega) (by unfold maxLen; omega)) rfl ?_
    rintro _ _ _ ⟨a4, c4, M4, rfl, ow4, rfl, rfl⟩
    refine aS 1 rfl rfl ?_
    refine aN (aT (aR ?_))
    refine aS 1 rfl rfl ?_
    refine aN (aT (aE (aR ?_)))
    refine aF s50 t3 rfl rfl rfl (Rd.loc (i := 1) rfl rfl) rfl rfl ?_
    refine aF s50 t3 rfl rfl rfl (Rd.blk (.head _) rfl) rfl rfl ?_
    refine aS 1 rfl rfl ?_
    refine aN (aT ?_)
    refine At.if rfl (fun hn => ?_) (fun hn => ?_)
    ·
     refine aR ?_
     refine aS 1 rfl rfl ?_
     refine aQ (q_loadS t50 rfl (RdS.loc (i := 1) rfl (m := 2) rfl) rfl) rfl ?_
     refine At.loud (l_buildSlice Try.underlying31 t50 rfl rfl rfl rfl rfl) rfl ?_
     rintro _ _ _ ⟨b4, rfl, rfl, rfl⟩
     refine At.loud (l_append rfl Try.underlying31 t50 rfl rfl ow4 (by simp; omega) (i := 3) rfl rfl (news := [rowP x]) (by simp [rowP]) (RdS.loc (i := 0) rfl (m := 2) rfl) rfl rfl rfl (by omega) (by unfold maxLen; omega)) rfl ?_
     rintro _ _ _ ⟨a5, c5, M5, rfl, ow5, rfl, rfl⟩
     refine aS 1 rfl rfl ?_
     refine aN (At.inNormal (aT (aR ?_)))
     refine aQ (q_add rfl rfl (by omega) (by omega)) rfl ?_
     refine aS 1 rfl rfl ?_
     refine aN ?_
     refine At.front 3 rfl ?_
     refine aT ?_
     exact At.againK (k + 1, true, n0 + 1 + 1, o ++ ([p] ++ [x]), a5, c5, M5) ⟨hk1, with_step hx hW (by rw [hd0]; simp [hc]) (by rw [hd0]; simp [hc, hn]), by simpa using ow5, by (try simp); omega, by omega⟩ (by (try dsimp only); omega) (Tells.end 35 ⟨rfl, rfl, rfl, trivial⟩ rfl rfl) (fun _ h => h) (k_ (d_ (d_ (d_ r_))))
    ·
     refine At.skip (At.inNormal (aT (aR ?_)))
     refine aQ (q_add rfl rfl (by omega) (by omega)) rfl ?_
     refine aS 1 rfl rfl ?_
     refine aN ?_
     refine At.front 2 rfl ?_
     refine aT ?_
     exact At.againK (k + 1, true, n0 + 1, o ++ ([p] ++ []), a4, c4, M4) ⟨hk1, with_step hx hW (by rw [hd0]; simp [hc]) (by rw [hd0]; simp [hc, show x.k = p.k by omega]), by simpa using ow4, by (try simp); omega, by omega⟩ (by (try dsimp only); omega) (Tells.end 30 ⟨rfl, rfl, rfl, trivial⟩ rfl rfl) (fun _ h => h) (k_ (d_ (d_ r_)))
   ·
    refine At.skip (aT (aE (aR ?_)))
    refine aF s50 t3 rfl rfl rfl (Rd.loc (i := 0) rfl rfl) rfl rfl ?_
    refine aF s50 t3 rfl rfl rfl (Rd.blk (.head _) rfl) rfl rfl ?_
    refine aS 1 rfl rfl ?_
    refine aN (aT ?_)
    refine At.if rfl (fun hn => ?_) (fun hn => ?_)
    ·
     refine aR ?_
     refine aS 1 rfl rfl ?_
     refine aQ (q_loadS t50 rfl (RdS.loc (i := 0) rfl (m := 2) rfl) rfl) rfl ?_
     refine At.loud (l_buildSlice Try.underlying31 t50 rfl rfl rfl rfl rfl) rfl ?_
     rintro _ _ _ ⟨b5, rfl, rfl, rfl⟩
     refine At.loud (l_append rfl Try.underlying31 t50 rfl rfl hO (by simp; omega) (i := 2) rfl rfl (news := [rowP x]) (by simp [rowP]) (RdS.loc (i := 0) rfl (m := 2) rfl) rfl rfl rfl (by omega) (by unfold maxLen; omega)) rfl ?_
     rintro _ _ _ ⟨a5, c5, M5, rfl, ow5, rfl, rfl⟩
     refine aS 1 rfl rfl ?_
     refine aN (At.inNormal (aT (aR ?_)))
     refine aQ (q_add rfl rfl (by omega) (by omega)) rfl ?_
     refine aS 1 rfl rfl ?_
     refine aN ?_
     refine At.front 2 rfl ?_
     refine aT ?_
     exact At.againK (k + 1, d, n0 + 1, o ++ ([] ++ [x]), a5, c5, M5) ⟨hk1, with_step hx hW (by simp [hc]) (by simp [hc, hn]), by simpa using ow5, by (try simp); omega, by omega⟩ (by (try dsimp only); omega) (Tells.end 29 ⟨rfl, rfl, rfl, trivial⟩ rfl rfl) (fun _ h => h) (k_ (d_ (d_ r_)))
    ·
     exfalso; omega
  ·
   have hd0 := not_f hd
   refine aS 6 rfl rfl ?_
   refine aN (aT ?_)
   refine At.condF rfl ?_
   refine At.skip (aT (aE (aR ?_)))
   refine aF s50 t3 rfl rfl rfl (Rd.loc (i := 0) rfl rfl) rfl rfl ?_
   refine aF s50 t3 rfl rfl rfl (Rd.blk (.head _) rfl) rfl rfl ?_
   refine aS 1 rfl rfl ?_
   refine aN (aT ?_)
   refine At.if rfl (fun hn => ?_) (fun hn => ?_)
   ·
    refine aR ?_
    refine aS 1 rfl rfl ?_
    refine aQ (q_loadS t50 rfl (RdS.loc (i := 0) rfl (m := 2) rfl) rfl) rfl ?_
    refine At.loud (l_buildSlice Try.underlying31 t50 rfl rfl rfl rfl rfl) rfl ?_
    rintro _ _ _ ⟨b6, rfl, rfl, rfl⟩
    refine At.loud (l_append rfl Try.underlying31 t50 rfl rfl hO (by simp; omega) (i := 2) rfl rfl (news := [rowP x]) (by simp [rowP]) (RdS.loc (i := 0) rfl (m := 2) rfl) rfl rfl rfl (by omega) (by unfold maxLen; omega)) rfl ?_
    rintro _ _ _ ⟨a5, c5, M5, rfl, ow5, rfl, rfl⟩
    refine aS 1 rfl rfl ?_
    refine aN (At.inNormal (aT (aR ?_)))
    refine aQ (q_add rfl rfl (by omega) (by omega)) rfl ?_
    refine aS 1 rfl rfl ?_
    refine aN ?_
    refine At.front 2 rfl ?_
    refine aT ?_
    exact At.againK (k + 1, d, n0 + 1, o ++ ([] ++ [x]), a5, c5, M5) ⟨hk1, with_step hx hW (by rw [hd0]; simp) (by rw [hd0]; simp [hn]), by simpa using ow5, by (try simp); omega, by omega⟩ (by (try dsimp only); omega) (Tells.end 29 ⟨rfl, rfl, rfl, trivial⟩ rfl rfl) (fun _ h => h) (k_ (d_ (d_ r_)))
   ·
    refine At.skip (At.inNormal (aT (aR ?_)))
    refine aQ (q_add rfl rfl (by omega) (by omega)) rfl ?_
    refine aS 1 rfl rfl ?_
    refine aN ?_
    refine At.front 1 rfl ?_
    refine aT ?_
    exact At.againK (k + 1, d, n0, o ++ ([] ++ []), a, c, M) ⟨hk1, with_step hx hW (by rw [hd0]; simp) (by rw [hd0]; simp [show x.k = p.k by omega]), by simpa using hO, by (try simp); omega, by omega⟩ (by (try dsimp only); omega) (Tells.end 24 ⟨rfl, rfl, rfl, trivial⟩ rfl rfl) (fun _ h => h) (k_ (d_ r_))
 ·
  have hW2 := with_end (by omega) hW
  refine At.exit (At.thenExit (At.thenExit (At.inHere rfl (aT (aE (aE (aR ?_)))))))
  refine aS 2 rfl rfl ?_
  refine aN (aT ?_)
  refine At.cond rfl (fun hd => ?_) (fun hd => ?_)
  ·
   refine aR ?_
   refine aS 1 rfl rfl ?_
   refine aQ (q_loadS t50 rfl (RdS.blk (.head _) (m := 2) rfl) rfl) rfl ?_
   refine At.loud (l_buildSlice Try.underlying31 t50 rfl rfl rfl rfl rfl) rfl ?_
   rintro _ _ _ ⟨b7, rfl, rfl, rfl⟩
   refine At.loud (l_append rfl Try.underlying31 t50 rfl rfl hO (by simp; omega) (i := 1) rfl rfl (news := [rowP p]) (by simp [rowP]) (RdS.loc (i := 0) rfl (m := 2) rfl) rfl rfl rfl (by omega) (by unfold maxLen; omega)) rfl ?_
   rintro _ _ _ ⟨a4, c4, M4, rfl, ow4, rfl, rfl⟩
   refine aS 1 rfl rfl ?_
   refine aN (aT (aE (aR ?_)))
   refine At.freezeOwn 1 (show Own 50 2 ((o ++ [p]).map rowP) a4 c4 M4 by simpa using ow4) rfl ?_
   refine aS 2 rfl rfl ?_
   refine aN (aT (At.ret ?_))
   exact At.results (Γr := [_]) (M := []) rfl (RVals.cons (RVal.tmp rfl) RVals.nil) (ix 2 rfl) (fun _ h => ⟨h.1, trivial⟩) (d_ r_) ⟨⟨a4, c4, o ++ [p]⟩, by simp [Sl.val, resVal, hn0], rfl, rfl, by rw [hW2, not_t hd]; rfl⟩
  ·
   refine At.skip (aT (aE (aR ?_)))
   refine At.freezeOwn 0 hO rfl ?_
   refine aS 2 rfl rfl ?_
   refine aN (aT (At.ret ?_))
   exact At.results (Γr := [_]) (M := []) rfl (RVals.cons (RVal.tmp rfl) RVals.nil) (ix 2 rfl) (fun _ h => ⟨h.1, trivial⟩) r_ ⟨⟨a, c, o⟩, by simp [Sl.val, resVal, hn0], rfl, rfl, by rw [hW2, not_f hd]; simp⟩
end Go.Proofs.Ytmkodknmknfdkaa
set_option linter.unusedVariables false
set_option linter.unusedSimpArgs false
namespace Go.Proofs.Ytmkodknmknfdkaa
namespace E
open Go Go.MapKept
def tupd (a c : Int) : List (Int × Int) → List (Int × Int)
  | [] => [(a, c)]
  | p :: l => if p.1 = a then (a, c) :: l else p :: tupd a c l
def tget (x : Int) : List (Int × Int) → Option Int
  | [] => none
  | p :: l => if p.1 = x then some p.2 else tget x l
theorem tget_upd (a c x : Int) (l : List (Int × Int)) : tget x (tupd a c l) = if x = a then some c else tget x l := by
  induction l with
  | nil =>
    simp only [tupd, tget]
    by_cases h : x = a
    · subst h; simp
    · rw [if_neg (fun e => h e.symm), if_neg h]
  | cons p l ih =>
    simp only [tupd]
    by_cases hp : p.1 = a
    · rw [if_pos hp]
      simp only [tget]
      by_cases h : x = a
      · subst h; simp
      · rw [if_neg (fun e => h e.symm), if_neg h, if_neg (fun e => h (by rw [← hp, e]))]
    · rw [if_neg hp]
      simp only [tget, ih]
      by_cases h : x = a
      · subst h; rw [if_neg hp, if_pos rfl]; simp
      · rw [if_neg h]; simp [h]
def entOf (e : MapEntry) : Value × Value := (e.key, e.val)
def tabV (p : Int × Int) : Value × Value := (.int .i64 p.1, .int .i64 p.2)
theorem findNow_tab (a c : Int) : ∀ (es : List MapEntry) (tab : List (Int × Int)) (i : Nat), es.map entOf = tab.map tabV →
    (Instr.findNow (.int .i64) (.int .i64 a) es i = some none ∧ tupd a c tab = tab ++ [(a, c)] ∧ tget a tab = none) ∨
    ∃ j v, Instr.findNow (.int .i64) (.int .i64 a) es i = some (some (i + j, .int .i64 v)) ∧ tupd a c tab = tab.set j (a, c) ∧ tget a tab = some v ∧ j < tab.length ∧ (es[j]?).map (·.key) = some (.int .i64 a)
  | [], [], i, _ => .inl ⟨rfl, rfl, rfl⟩
  | [], _ :: _, _, h => by simp at h
  | _ :: _, [], _, h => by simp at h
  | e :: es, p :: tab, i, h => by
    simp only [List.map_cons, List.cons.injEq, entOf, tabV, Prod.mk.injEq] at h
    obtain ⟨⟨hk, hv⟩, ht⟩ := h
    by_cases hp : p.1 = a
    · refine .inr ⟨0, p.2, ?_, by simp [tupd, hp], by simp [tget, hp], by simp, by simp [hk, hp]⟩
      simp only [Instr.findNow, hk, Instr.sameNow, hp, beq_self_eq_true, if_true, hv, Nat.add_zero]
    · have hs : Instr.sameNow (.int .i64) (.int .i64 a) e.key = some false := by
        rw [hk]
        simp only [Instr.sameNow, if_true]
        congr 1
        simpa using fun e => hp e.symm
      rcases findNow_tab a c es tab (i + 1) ht with ⟨h1, h2, h3⟩ | ⟨j, v, h1, h2, h3, h4, h5⟩
      · exact .inl ⟨by simp only [Instr.findNow, hs, h1], by simp [tupd, hp, h2], by simp [tget, hp, h3]⟩
      · refine .inr ⟨j + 1, v, by simp only [Instr.findNow, hs, h1]; rw [show i + 1 + j = i + (j + 1) by omega], by simp [tupd, hp, h2], by simp [tget, hp, h3], by simpa using h4, by simpa using h5⟩
/-- A map of the call's own, by what it answers. -/
def OwnMap (f : Int → Option Int) (b : Nat) (M : Seg) : Prop := ∃ es clock tab, M = [(b, .map es clock)] ∧ es.toList.map entOf = tab.map tabV ∧ ∀ x, tget x tab = f x
def mupd (f : Int → Option Int) (a c : Int) : Int → Option Int := fun x => if x = a then some c else f x
section
variable {P : Program} {n : Nat} {env : Env} {Γ : List SProp} {L : Loc} {ty t k e : TypeId} {m x y : Operand} {f : Int → Option Int} {b i : Nat} {M : Seg} {a c : Int}
theorem l_makeMap : Loud P (.makeMap t none) ty n env Γ L (fun v Γ' L' => ∃ b M, v = .map (some b) ∧ OwnMap (fun _ => none) b M ∧ Γ' = Γ ∧ L' = M :: L) :=
  Loud.ofRun fun X d pos aft g ac w H h1 h2 h3 => by
    refine ⟨_, _, H, Γ, _, ?_, ⟨w.heap.size, _, rfl, ⟨#[], 0, [], rfl, rfl, fun _ => rfl⟩, rfl, rfl⟩, Hp.le_refl H, h2, h3.push (.map #[] 0)⟩
    simp [execOp, Instr.makeMap, newObj, Sem.run]
theorem q_lookup (ht : P.underlying t = some (.map k e)) (hk : P.underlying k = some (.int .i64)) {sc : Bool} {size bytes : Nat} (he : tRow P e = some (sc, size, bytes, .int .i64 0)) (hm : ev env m = some (.map (some b))) (hx : ev env x = some (.int .i64 a))
    (ho : OwnMap f b M) (hL : L[i]? = some M) : Quiet P (.lookup t m x false) ty n env Γ L (.int .i64 ((f a).getD 0)) :=
  fun X _ _ _ _ ac w H h1 h2 h3 => by
    obtain ⟨es, clock, tab, rfl, htab, hf⟩ := ho
    have hb : w.heap[b]? = some (.map es clock) := h3.mem (List.mem_of_getElem? hL) (List.mem_singleton.2 rfl)
    have hc := run_checkKey (P := P) (w := w) (k := .int .i64 a) hk (show IsKey (.int .i64) (.int .i64 a) from rfl) es.isEmpty 9999
    rcases findNow_tab a 0 es.toList tab 0 htab with ⟨h4, _, h5⟩ | ⟨j, v, h4, _, h5, _, _⟩
    · have hfk := run_findKey (P := P) (w := w) hk h4
      rw [hf] at h5
      simp [execOp, h1.ev hm, h1.ev hx, Instr.lookup, underlying, ht, Go.MapKept.run_getObj_map hb, hc, hfk, tRow_zero he, h5]
    · have hfk := run_findKey (P := P) (w := w) hk h4
      rw [hf] at h5
      simp [execOp, h1.ev hm, h1.ev hx, Instr.lookup, underlying, ht, Go.MapKept.run_getObj_map hb, hc, hfk, h5]
theorem l_mapUpdate (ht : P.underlying t = some (.map k e)) (hk : P.underlying k = some (.int .i64)) (hm : ev env m = some (.map (some b))) (hx : ev env x = some (.int .i64 a)) (hy : ev env y = some (.int .i64 c))
    (ho : OwnMap f b M) (hL : L[i]? = some M) : Loud P (.mapUpdate t m x y) ty n env Γ L (fun _ Γ' L' => ∃ M', OwnMap (mupd f a c) b M' ∧ Γ' = Γ ∧ L' = L.set i M') :=
  Loud.ofSkip fun X d pos aft g ac w H h1 h2 h3 => by
    obtain ⟨es, clock, tab, rfl, htab, hf⟩ := ho
    have hfr := h3.front hL
    have hb : w.heap[b]? = some (.map es clock) := hfr.loc (b, _) (List.mem_cons_self ..)
    have hc := run_checkKey (P := P) (w := w) (k := .int .i64 a) hk (show IsKey (.int .i64) (.int .i64 a) from rfl) false 9999
    have hgets : ∀ x, tget x (tupd a c tab) = mupd f a c x := fun x => by rw [tget_upd, hf]; rfl
    have hset : ∀ o' : Obj, ({ w with heap := w.heap.setIfInBounds b o' } : World).heap[b]? = some o' ∧ ∀ r, r ≠ b → ({ w with heap := w.heap.setIfInBounds b o' } : World).heap[r]? = w.heap[r]? := fun o' => heap_set hb
    rcases findNow_tab a c es.toList tab 0 htab with ⟨h4, h5, _⟩ | ⟨j, v, h4, h5, _, h6, h7⟩
    · have hfk := run_findKey (P := P) (w := w) hk h4
      refine ⟨_, H, Γ, _, ?_, ⟨[(b, .map (es.push { key := .int .i64 a, val := .int .i64 c, born := clock }) (clock + 1))], ⟨_, _, tupd a c tab, rfl, by rw [h5]; simp [htab, entOf, tabV], hgets⟩, rfl, rfl⟩, Hp.le_refl H, h2,
        St.back _ hL (hfr.set (w' := { w with heap := w.heap.setIfInBounds b (.map (es.push { key := .int .i64 a, val := .int .i64 c, born := clock }) (clock + 1)) }) rfl rfl rfl (hset _).1 (hset _).2)⟩
      simp [execOp, h1.ev hm, h1.ev hx, h1.ev hy, Instr.mapUpdate, underlying, ht, Go.MapKept.run_getObj_map hb, hc, hfk, Go.MapKept.run_setObj_map _ hb]
    · have hfk := run_findKey (P := P) (w := w) hk h4
      rw [Nat.zero_add] at hfk
      obtain ⟨e0, he0, hkey⟩ : ∃ e0, es.toList[j]? = some e0 ∧ e0.key = .int .i64 a := by
        cases hj : es.toList[j]? with
        | none => rw [hj] at h7; cases h7
        | some e0 => rw [hj] at h7; exact ⟨e0, rfl, Option.some.inj h7⟩
      have hj2 : es[j]? = some e0 := by simpa using he0
      have hkt := run_keyThatStays (P := P) (w := w) (k := .int .i64 a) (show IsKey (.int .i64) (.int .i64 a) from rfl)
      refine ⟨_, H, Γ, _, ?_, ⟨[(b, .map (es.modify j fun e => { e with key := .int .i64 a, val := .int .i64 c }) clock)], ⟨_, _, tupd a c tab, rfl, ?_, hgets⟩, rfl, rfl⟩, Hp.le_refl H, h2,
        St.back _ hL (hfr.set (w' := { w with heap := w.heap.setIfInBounds b (.map (es.modify j fun e => { e with key := .int .i64 a, val := .int .i64 c }) clock) }) rfl rfl rfl (hset _).1 (hset _).2)⟩
      · simp [execOp, h1.ev hm, h1.ev hx, h1.ev hy, Instr.mapUpdate, underlying, ht, Go.MapKept.run_getObj_map hb, hc, hfk, hj2, hkey, hkt, Go.MapKept.run_setObj_map _ hb]
      · rw [h5, List.map_set, ← htab]
        apply List.ext_getElem?
        intro q
        rw [List.getElem?_set, List.getElem?_map, List.getElem?_map, Array.toList_modify, List.getElem?_modify]
        by_cases hq : j = q
        · subst hq
          rw [he0]
          have hjs : j < es.size := (Array.getElem?_eq_some_iff.1 hj2).1
          simp [entOf, tabV, hjs]
        · simp [hq]
theorem q_cap {a : Option Addr} {len cap : Nat} (ht : P.underlying t = some (.slice e)) (hx : ev env x = some (.slice a len cap)) : Quiet P (.call ⟨.builtin .cap, #[x], #[t]⟩) ty n env Γ L (.int .i64 cap) :=
  fun _ _ _ _ _ ac w _ h1 _ _ => by simp [execOp, resolve, invoke, builtin, Builtin.cap_, h1.ev hx, underlying, ht, goInt]
theorem sub0 {b c k : Nat} : subA (some ⟨b, 0, none⟩) c k 0 = some ⟨b, 0, none⟩ := by
  unfold subA
  split
  · rfl
  · simp [Addr.add]
/-- Zeros laid behind nothing. -/
theorem l_appendZeros {tn : TypeId} {sc : Bool} {size bytes m : Nat} {zero : Value} {z : Int} {ats : Array TypeId} (hats : ats = #[t, tn]) (ht : P.underlying t = some (.slice e)) (htn : P.underlying tn = some (.int .i64)) (he : tRow P e = some (sc, size, bytes, zero))
    (hx : ev env x = some (.slice none 0 0)) (hy : ev env y = some (.int .i64 z)) (hz : z = (m : Int)) (h0 : 0 < m) (hzs : Nat.beq zero.cells.size size = true) (hpos : Nat.blt 0 size = true) (hb : m * bytes ≤ 140737488355328) (hm : m ≤ maxLen) :
    Loud P (.call ⟨.builtin .append, #[x, y], ats⟩) ty n env Γ L (fun v Γ' L' => ∃ b c M, v = .slice (some ⟨b, 0, none⟩) m c ∧ Own e size [] (some ⟨b, 0, none⟩) c M ∧ m ≤ c ∧ Γ' = Γ ∧ L' = M :: L) :=
  Loud.ofRun fun X d pos aft g ac w H k1 k2 k3 => by
    subst hats
    subst hz
    obtain ⟨td, inf, e1, e2, _, e3, e4, e5⟩ := tRow_parts he
    have hz' := Nat.eq_of_beq_eq_true hzs
    have hpos' : 0 < size := by simpa [Nat.blt_eq] using hpos
    subst e3
    subst e4
    have hr := Lib.run_append_nil_zeros (P := P) w t tn ty e inf zero .i64 .i64 ht htn e2 e5 m h0 hpos' (by simp only [maxLen] at hm; omega) (by omega)
    refine ⟨_, _, H, Γ, _, ?_, ⟨w.heap.size, grownCap w m 0 e, [(w.heap.size, .cells (Builtin.zeroCells zero.cells m ++ Builtin.zeroCells zero.cells (grownCap w m 0 e - m)) e (0, 0))], rfl,
      ⟨by simp, .inr ⟨_, _, rfl, rfl, by simp, grownCap_le_maxLen w m 0 e hm, ?_, by simp⟩⟩, grownCap_ge w m 0 e, rfl, rfl⟩, Hp.le_refl H, k2, (k3.drawn (w.drawn + 1)).push _⟩
    · simp [execOp, resolve, invoke, builtin, k1.ev hx, k1.ev hy, hr]
      rfl
    · have hge := grownCap_ge w m 0 e
      simp only [Array.size_append, size_zeroCells, hz', ← Nat.add_mul]
      congr 1
      omega
end
end E
end Go.Proofs.Ytmkodknmknfdkaa
set_option linter.unusedVariables false
set_option linter.unusedSimpArgs false
namespace Go.Proofs.Ytmkodknmknfdkaa
open E
def kidN (n : Nod) (side : Bool) : Int := if side then n.right else n.left
/-- Ways from the root. -/
inductive WayTo (ns : List Nod) (root : Int) : List Nat → List Bool → Int → Prop
 | nil : WayTo ns root [] [] root
 | step {u : List Nat} {b : List Bool} {q : Nat} {n : Nod} {side : Bool} : WayTo ns root u b (q : Int) → ns[q]? = some n → n.route = true → WayTo ns root (u ++ [q]) (b ++ [side]) (kidN n side)
theorem at_mem (s : Sh) : s.at_ ∈ s.places := by cases s <;> simp [Sh.at_, Sh.places]
theorem Hangs.at0 {ns : List Nod} {s : Sh} {a : Int} (h : Hangs ns s a) : a = (s.at_ : Int) := by
 cases s with
 | leaf i => exact h.1
 | node i l r => exact h.1
theorem Hangs.get {ns : List Nod} {s : Sh} {a : Int} (h : Hangs ns s a) : ∀ i ∈ s.places, ∃ n, ns[i]? = some n := by
 induction s generalizing a with
 | leaf j =>
  obtain ⟨_, n, hn, _⟩ := h
  intro i hi
  simp [Sh.places] at hi
  subst hi
  exact ⟨n, hn⟩
 | node j l r h1 h2 =>
  obtain ⟨_, n, hn, _, hl, hr⟩ := h
  intro i hi
  simp only [Sh.places, List.mem_cons, List.mem_append] at hi
  rcases hi with rfl | hi | hi
  ·exact ⟨n, hn⟩
  ·exact h1 hl i hi
  ·exact h2 hr i hi
theorem ways {ns : List Nod} {root : Int} {s : Sh} {a : Int} {u : List Nat} {b : List Bool} (h : Hangs ns s a) (hw : WayTo ns root u b a) : ∀ p ∈ s.places, ∃ u' b', WayTo ns root u' b' (p : Int) := by
 induction s generalizing a u b with
 | leaf i =>
  obtain ⟨rfl, _⟩ := h
  intro p hp
  simp [Sh.places] at hp
  subst hp
  exact ⟨u, b, hw⟩
 | node i l r h1 h2 =>
  obtain ⟨rfl, n, hn, hr, hl, hr'⟩ := h
  intro p hp
  simp only [Sh.places, List.mem_cons, List.mem_append] at hp
  rcases hp with rfl | hp | hp
  ·exact ⟨u, b, hw⟩
  ·exact h1 hl (WayTo.step (side := false) hw hn hr) p hp
  ·exact h2 hr' (WayTo.step (side := true) hw hn hr) p hp
/-- A node's children hang below it. -/
theorem kid_in {ns : List Nod} {s : Sh} {a : Int} (h : Hangs ns s a) (hn : s.places.Nodup) {q : Nat} {n : Nod} (hq : q ∈ s.places) (hns : ns[q]? = some n) (hr : n.route = true) (side : Bool) :
  ∃ p ∈ s.places, kidN n side = (p : Int) ∧ p ≠ s.at_ := by
 induction s generalizing a with
 | leaf i =>
  obtain ⟨rfl, m, hm, hmr⟩ := h
  simp [Sh.places] at hq
  subst hq
  rw [hns] at hm
  cases hm
  rw [hr] at hmr
  cases hmr
 | node i l r h1 h2 =>
  obtain ⟨rfl, m, hm, hmr, hl, hrr⟩ := h
  obtain ⟨c1, c2, d1, d2, d3⟩ := nodup_node hn
  simp only [Sh.places, List.mem_cons, List.mem_append] at hq
  rcases hq with rfl | hq | hq
  ·rw [hns] at hm
   cases hm
   cases side
   ·exact ⟨l.at_, by simp [Sh.places, at_mem], hl.at0, fun e => c1 (by show Sh.at_ (.node q l r) ∈ _; rw [← e]; exact at_mem l)⟩
   ·exact ⟨r.at_, by simp [Sh.places, at_mem], hrr.at0, fun e => c2 (by show Sh.at_ (.node q l r) ∈ _; rw [← e]; exact at_mem r)⟩
  ·obtain ⟨p, hp, e, _⟩ := h1 hl d1 hq
   exact ⟨p, by simp [Sh.places, hp], e, fun e' => c1 (by show Sh.at_ (.node i l r) ∈ _; rw [← e']; exact hp)⟩
  ·obtain ⟨p, hp, e, _⟩ := h2 hrr d2 hq
   exact ⟨p, by simp [Sh.places, hp], e, fun e' => c2 (by show Sh.at_ (.node i l r) ∈ _; rw [← e']; exact hp)⟩
/-- Each place has one parent. -/
theorem one_parent {ns : List Nod} {s : Sh} {a : Int} (h : Hangs ns s a) (hn : s.places.Nodup) {q q' : Nat} {n n' : Nod} {side side' : Bool} (hq : q ∈ s.places) (hns : ns[q]? = some n) (hr : n.route = true) (hq' : q' ∈ s.places) (hns' : ns[q']? = some n') (hr' : n'.route = true)
    (he : kidN n side = kidN n' side') : q = q' ∧ side = side' := by
  induction s generalizing a with
  | leaf i =>
    obtain ⟨rfl, m, hm, hmr⟩ := h
    simp [Sh.places] at hq
    subst hq
    rw [hns] at hm
    cases hm
    rw [hr] at hmr
    cases hmr
  | node i l r h1 h2 =>
    obtain ⟨rfl, m, hm, hmr, hl, hrr⟩ := h
    obtain ⟨c1, c2, d1, d2, d3⟩ := nodup_node hn
    -- a child of the route itself is no child of what hangs below
    have top : ∀ {sd sd' : Bool} {x : Nat} {k : Nod}, x ∈ l.places ∨ x ∈ r.places → ns[x]? = some k → k.route = true → kidN m sd = kidN k sd' → False := by
      intro sd sd' x k hx hk hkr e
      rcases hx with hx | hx
      · obtain ⟨p, hp, e1, e2⟩ := kid_in hl d1 hx hk hkr sd'
        cases sd
        · have e3 : m.left = (l.at_ : Int) := hl.at0
          have e4 : kidN m false = m.left := rfl
          rw [e4, e3, e1] at e
          exact e2 (by omega)
        · have e3 : m.right = (r.at_ : Int) := hrr.at0
          have e4 : kidN m true = m.right := rfl
          rw [e4, e3, e1] at e
          exact d3 p hp (by have : p = r.at_ := by omega
                            rw [this]; exact at_mem r)
      · obtain ⟨p, hp, e1, e2⟩ := kid_in hrr d2 hx hk hkr sd'
        cases sd
        · have e3 : m.left = (l.at_ : Int) := hl.at0
          have e4 : kidN m false = m.left := rfl
          rw [e4, e3, e1] at e
          exact d3 l.at_ (at_mem l) (by have : l.at_ = p := by omega
                                        rw [this]; exact hp)
        · have e3 : m.right = (r.at_ : Int) := hrr.at0
          have e4 : kidN m true = m.right := rfl
          rw [e4, e3, e1] at e
          exact e2 (by omega)
    have hdis : ∀ {sd sd' : Bool} {x y : Nat} {k k' : Nod}, x ∈ l.places → y ∈ r.places → ns[x]? = some k → k.route = true → ns[y]? = some k' → k'.route = true → kidN k sd = kidN k' sd' → False := by
      intro sd sd' x y k k' hx hy hk hkr hk' hkr' e
      obtain ⟨p, hp, e1, _⟩ := kid_in hl d1 hx hk hkr sd
      obtain ⟨p', hp', e1', _⟩ := kid_in hrr d2 hy hk' hkr' sd'
      rw [e1, e1'] at e
      exact d3 p hp (by have : p = p' := by omega
                        rw [this]; exact hp')
    simp only [Sh.places, List.mem_cons, List.mem_append] at hq hq'
    rcases hq with rfl | hq
    · rcases hq' with rfl | hq'
      · rw [hns] at hns'
        cases hns'
        rw [hns] at hm
        cases hm
        refine ⟨rfl, ?_⟩
        have e3 : n.left = (l.at_ : Int) := hl.at0
        have e4 : n.right = (r.at_ : Int) := hrr.at0
        have e5 : l.at_ ≠ r.at_ := fun e => d3 l.at_ (at_mem l) (by rw [e]; exact at_mem r)
        cases side <;> cases side'
        · rfl
        · exact absurd (show n.left = n.right from he) (by omega)
        · exact absurd (show n.right = n.left from he) (by omega)
        · rfl
      · rw [hns] at hm
        cases hm
        exact (top hq' hns' hr' he).elim
    · rcases hq' with rfl | hq'
      · rw [hns'] at hm
        cases hm
        exact (top hq hns hr he.symm).elim
      · rcases hq with hq | hq <;> rcases hq' with hq' | hq'
        · exact h1 hl d1 hq hq'
        · exact (hdis hq hq' hns hr hns' hr' he).elim
        · exact (hdis hq' hq hns' hr' hns hr he.symm).elim
        · exact h2 hrr d2 hq hq'
/-- Who is above: as far as one has looked. -/
def parUpto (ns : List Nod) (k : Nat) : Int → Option Int := fun x =>
 match k with
 | 0 => none
 | k + 1 => match ns[k]? with
  | none => parUpto ns k x
  | some n => if n.route then (if x = n.right then some (k : Int) else if x = n.left then some (k : Int) else parUpto ns k x) else parUpto ns k x
theorem par_route {ns : List Nod} {k : Nat} {n : Nod} (hn : ns[k]? = some n) (hr : n.route = true) : mupd (mupd (parUpto ns k) n.left k) n.right k = parUpto ns (k + 1) := by
 funext x
 simp only [mupd, parUpto, hn, hr, if_true]
theorem par_leaf {ns : List Nod} {k : Nat} {n : Nod} (hn : ns[k]? = some n) (hr : n.route = false) : parUpto ns k = parUpto ns (k + 1) := by
 funext x
 simp [parUpto, hn, hr]
theorem par_some {ns : List Nod} {x : Int} : ∀ {k : Nat} {q : Int}, parUpto ns k x = some q → ∃ (i : Nat) (n : Nod) (side : Bool), q = (i : Int) ∧ i < k ∧ ns[i]? = some n ∧ n.route = true ∧ kidN n side = x
 | 0, q, h => by simp [parUpto] at h
 | k + 1, q, h => by
  have more : parUpto ns k x = some q → ∃ (i : Nat) (n : Nod) (side : Bool), q = (i : Int) ∧ i < k + 1 ∧ ns[i]? = some n ∧ n.route = true ∧ kidN n side = x := fun h' => by
   obtain ⟨i, n, side, h1, h2, h3⟩ := par_some h'
   exact ⟨i, n, side, h1, by omega, h3⟩
  simp only [parUpto] at h
  split at h
  ·exact more h
  ·rename_i n hn
   split at h
   ·rename_i hr
    split at h
    ·rename_i e; cases h; exact ⟨k, n, true, rfl, by omega, hn, hr, e.symm⟩
    ·split at h
     ·rename_i e; cases h; exact ⟨k, n, false, rfl, by omega, hn, hr, e.symm⟩
     ·exact more h
   ·exact more h
theorem par_found {ns : List Nod} {x : Int} {i : Nat} {n : Nod} {side : Bool} (hn : ns[i]? = some n) (hr : n.route = true) (he : kidN n side = x) : ∀ {k : Nat}, i < k → ∃ q, parUpto ns k x = some q
 | 0, h => by omega
 | k + 1, h => by
  simp only [parUpto]
  by_cases hik : i = k
  ·subst hik
   rw [hn]
   simp only [hr, if_true]
   cases side
   ·by_cases e : x = n.right
    ·exact ⟨_, by rw [if_pos e]⟩
    ·exact ⟨_, by rw [if_neg e, if_pos (show x = n.left from he.symm)]⟩
   ·exact ⟨_, by rw [if_pos (show x = n.right from he.symm)]⟩
  ·obtain ⟨q, hq⟩ := par_found hn hr he (k := k) (by omega)
   split
   ·exact ⟨q, hq⟩
   ·split
    ·split
     ·exact ⟨_, rfl⟩
     ·split
      ·exact ⟨_, rfl⟩
      ·exact ⟨q, hq⟩
    ·exact ⟨q, hq⟩
/-- One step up a way. -/
theorem way_up {t : PT} {s : Sh} {p : Nat} {u : List Nat} {b : List Bool} (h : Good t s) (hw : WayTo t.ns t.root u b (p : Int)) (hne : (p : Int) ≠ t.root) :
  ∃ (u' : List Nat) (b' : List Bool) (q : Nat) (n : Nod), u = u' ++ [q] ∧ WayTo t.ns t.root u' b' (q : Int) ∧ t.ns[q]? = some n ∧ n.route = true ∧ b = b' ++ [decide (n.right = (p : Int))] ∧ parUpto t.ns t.ns.length p = some (q : Int) := by
 generalize hp : (p : Int) = x at hw
 cases hw with
 | nil => exact absurd hp hne
 | @step u' b' q n side hw' hn hr =>
  have hq : q ∈ s.places := h.all q (lt_of_get hn)
  obtain ⟨q2, hq2⟩ := par_found (x := (p : Int)) hn hr hp.symm (k := t.ns.length) (lt_of_get hn)
  obtain ⟨i, m, sd, rfl, hi, hm, hmr, he⟩ := par_some hq2
  have e1 := one_parent h.hangs h.nodup hq hn hr (h.all i hi) hm hmr (side := side) (side' := sd) (by rw [he, hp])
  obtain ⟨rfl, rfl⟩ := e1
  rw [← hp]
  refine ⟨u', b', q, n, rfl, hw', hn, hr, ?_, hq2⟩
  congr 1
  congr 1
  -- on which side
  obtain ⟨pl, _, e2, _⟩ := kid_in h.hangs h.nodup hq hn hr false
  obtain ⟨pr, _, e3, _⟩ := kid_in h.hangs h.nodup hq hn hr true
  have hne' : kidN n false ≠ kidN n true := fun e => by
   have := (one_parent h.hangs h.nodup hq hn hr hq hn hr e).2
   cases this
  cases side
  ·have : ¬ (n.right = (p : Int)) := fun e => hne' (by rw [← hp]; exact e.symm)
   rw [decide_eq_false this]
  ·rw [decide_eq_true (show n.right = (p : Int) from hp.symm)]
theorem way_root {t : PT} {s : Sh} {u : List Nat} {b : List Bool} (h : Good t s) (hw : WayTo t.ns t.root u b t.root) : u = [] ∧ b = [] := by
 generalize hx : t.root = x at hw
 have hx' : x = t.root := hx.symm
 cases hw with
 | nil => exact ⟨rfl, rfl⟩
 | @step u' b' q n side hw' hn hr =>
  obtain ⟨p, _, e, e2⟩ := kid_in h.hangs h.nodup (h.all q (lt_of_get hn)) hn hr side
  have := h.hangs.at0
  exact absurd (show p = s.at_ by omega) e2
def Sh.first : Sh → Nat
 | .leaf i => i
 | .node _ l _ => l.first
def Sh.last : Sh → Nat
 | .leaf i => i
 | .node _ _ r => r.last
/-- Of a leaf: its route, on which side of it it hangs, its neighbour. -/
def Sh.nb (i : Nat) : Sh → Option (Nat × Bool × Nat)
 | .leaf _ => none
 | .node j l r => if l = .leaf i then some (j, false, r.first) else if r = .leaf i then some (j, true, l.last) else match l.nb i with
  | some x => some x
  | none => r.nb i
theorem nb_mem {s : Sh} {i j : Nat} {sd : Bool} {n : Nat} (h : s.nb i = some (j, sd, n)) : i ∈ s.leaves := by
 induction s with
 | leaf k => cases h
 | node k l r h1 h2 =>
  simp only [Sh.nb] at h
  simp only [Sh.leaves, List.mem_append]
  split at h
  ·rename_i e; subst e; exact .inl (by simp [Sh.leaves])
  ·split at h
   ·rename_i e; subst e; exact .inr (by simp [Sh.leaves])
   ·split at h
    ·rename_i x hx; cases h; exact .inl (h1 hx)
    ·exact .inr (h2 h)
/-- What hangs at a leaf's place is the leaf. -/
theorem hangs_leaf {ns : List Nod} {s : Sh} {i : Nat} {n : Nod} (h : Hangs ns s (i : Int)) (hn : ns[i]? = some n) (hr : n.route = false) : s = .leaf i := by
 cases s with
 | leaf j => obtain ⟨e, _⟩ := h; congr 1; omega
 | node j l r =>
  obtain ⟨e, m, hm, hmr, _⟩ := h
  obtain rfl : i = j := by omega
  rw [hn] at hm
  cases hm
  rw [hr] at hmr
  cases hmr
theorem nb_spec {ns : List Nod} {s : Sh} {a : Int} (h : Hangs ns s a) (hn : s.places.Nodup) {q i : Nat} {n x : Nod} {side : Bool} (hq : q ∈ s.places) (hns : ns[q]? = some n) (hr : n.route = true) (he : kidN n side = (i : Int)) (hx : ns[i]? = some x) (hxr : x.route = false) :
  ∃ l r, Hangs ns l n.left ∧ Hangs ns r n.right ∧ s.nb i = some (q, side, if side then l.last else r.first) := by
 induction s generalizing a with
 | leaf j =>
  obtain ⟨rfl, m, hm, hmr⟩ := h
  simp [Sh.places] at hq
  subst hq
  rw [hns] at hm
  cases hm
  rw [hr] at hmr
  cases hmr
 | node j l r h1 h2 =>
  have hall : Hangs ns (.node j l r) a := h
  obtain ⟨rfl, m, hm, hmr, hl, hrr⟩ := h
  obtain ⟨c1, c2, d1, d2, d3⟩ := nodup_node hn
  have hj : j ∈ (Sh.node j l r).places := by simp [Sh.places]
  have noL : q ≠ j → l ≠ .leaf i := fun hne e => by
   subst e
   have e1 : kidN m false = (i : Int) := hl.1
   exact hne (one_parent hall hn hq hns hr hj hm hmr (he.trans e1.symm)).1
  have noR : q ≠ j → r ≠ .leaf i := fun hne e => by
   subst e
   have e1 : kidN m true = (i : Int) := hrr.1
   exact hne (one_parent hall hn hq hns hr hj hm hmr (he.trans e1.symm)).1
  have hq0 := hq
  simp only [Sh.places, List.mem_cons, List.mem_append] at hq
  rcases hq with rfl | hq | hq
  ·rw [hns] at hm
   cases hm
   refine ⟨l, r, hl, hrr, ?_⟩
   cases side
   ·have e : l = .leaf i := hangs_leaf (by have : n.left = (i : Int) := he; rw [← this]; exact hl) hx hxr
    simp [Sh.nb, e]
   ·have e : r = .leaf i := hangs_leaf (by have : n.right = (i : Int) := he; rw [← this]; exact hrr) hx hxr
    have e' : l ≠ .leaf i := fun e2 => d3 i (by rw [e2]; simp [Sh.places]) (by rw [e]; simp [Sh.places])
    simp only [Sh.nb, if_neg e', if_pos e, if_true]
  ·have hne : q ≠ j := fun e => c1 (e ▸ hq)
   obtain ⟨l', r', g1, g2, g3⟩ := h1 hl d1 hq
   refine ⟨l', r', g1, g2, ?_⟩
   simp only [Sh.nb, if_neg (noL hne), if_neg (noR hne), g3]
  ·have hne : q ≠ j := fun e => c2 (e ▸ hq)
   obtain ⟨l', r', g1, g2, g3⟩ := h2 hrr d2 hq
   refine ⟨l', r', g1, g2, ?_⟩
   have hno : l.nb i = none := by
    cases hl' : l.nb i with
    | none => rfl
    | some y =>
     obtain ⟨y1, y2, y3⟩ := y
     have m1 := leaves_places i (nb_mem hl')
     have m2 := leaves_places i (nb_mem g3)
     exact absurd m2 (d3 i m1)
   simp only [Sh.nb, if_neg (noL hne), if_neg (noR hne), hno, g3]
def nextT (t : PT) (a : Int) : Option Nat := if leafT t a then (match mayT t with
 | none => none
 | some s => (s.nb a.toNat).map (·.2.2)) else none
theorem next_no {t : PT} {a : Int} (h : leafT t a = false) : nextT t a = none := by simp [nextT, h]
theorem next_eq {t : PT} {s : Sh} {i : Nat} (hs : mayT t = some s) (h : leafT t (i : Int) = true) : nextT t (i : Int) = (s.nb i).map (·.2.2) := by simp [nextT, h, hs]
/-- A leaf's neighbour stands beside it. -/
theorem first_leaves (s : Sh) : ∃ l, s.leaves = s.first :: l := by
 induction s with
 | leaf i => exact ⟨[], rfl⟩
 | node i l r h1 h2 =>
  obtain ⟨x, hx⟩ := h1
  exact ⟨x ++ r.leaves, by simp [Sh.leaves, Sh.first, hx]⟩
theorem last_leaves (s : Sh) : ∃ l, s.leaves = l ++ [s.last] := by
 induction s with
 | leaf i => exact ⟨[], rfl⟩
 | node i l r h1 h2 =>
  obtain ⟨x, hx⟩ := h2
  exact ⟨l.leaves ++ x, by simp [Sh.leaves, Sh.last, hx]⟩
theorem nb_beside {s : Sh} {i j n : Nat} {sd : Bool} (h : s.nb i = some (j, sd, n)) : ∃ A B, s.leaves = A ++ (if sd then [n, i] else [i, n]) ++ B := by
 induction s with
 | leaf k => cases h
 | node k l r h1 h2 =>
  simp only [Sh.nb] at h
  simp only [Sh.leaves]
  split at h
  ·rename_i e
   cases h
   subst e
   obtain ⟨x, hx⟩ := first_leaves r
   exact ⟨[], x, by rw [hx]; simp [Sh.leaves]⟩
  ·split at h
   ·rename_i e
    cases h
    subst e
    obtain ⟨x, hx⟩ := last_leaves l
    exact ⟨x, [], by rw [hx]; simp [Sh.leaves]⟩
   ·split at h
    ·rename_i y hy
     cases h
     obtain ⟨A, B, e⟩ := h1 hy
     exact ⟨A, B ++ r.leaves, by rw [e]; simp⟩
    ·obtain ⟨A, B, e⟩ := h2 h
     exact ⟨l.leaves ++ A, B, by rw [e]; simp⟩
end Go.Proofs.Ytmkodknmknfdkaa
set_option linter.unusedVariables false
set_option linter.unusedSimpArgs false
namespace Go.Proofs.Ytmkodknmknfdkaa
open E
/-- Turned round from both ends, so far. -/
def RevAt {α : Type} (l l' : List α) (i : Nat) : Prop := l'.length = l.length ∧ ∀ j, j < l.length → l'[j]? = if j < i ∨ l.length ≤ j + i then l[l.length - 1 - j]? else l[j]?
theorem RevAt.start {α : Type} (l : List α) : RevAt l l 0 := ⟨rfl, fun j hj => by rw [if_neg (by omega)]⟩
theorem RevAt.mid {α : Type} {l l' : List α} {i j : Nat} (h : RevAt l l' i) (h1 : i ≤ j) (h2 : j + i < l.length) : l'[j]? = l[j]? := by
 rw [h.2 j (by omega), if_neg (by omega)]
theorem RevAt.step {α : Type} {l l' : List α} {i k : Nat} {x y : α} (h : RevAt l l' i) (hk : k + i + 1 = l.length) (hik : i < k) (hx : l'[i]? = some x) (hy : l'[k]? = some y) : RevAt l ((l'.set i y).set k x) (i + 1) := by
 have hx' : l[i]? = some x := by rw [← hx, h.mid (Nat.le_refl _) (by omega)]
 have hy' : l[k]? = some y := by rw [← hy, h.mid (by omega) (by omega)]
 refine ⟨by simp [h.1], fun j hj => ?_⟩
 by_cases hjk : j = k
 ·subst hjk
  rw [List.getElem?_set_self (by simp [h.1]; omega), if_pos (by omega), show l.length - 1 - j = i by omega, hx']
 ·rw [List.getElem?_set_ne (Ne.symm hjk)]
  by_cases hji : j = i
  ·subst hji
   rw [List.getElem?_set_self (by rw [h.1]; omega), if_pos (by omega), show l.length - 1 - j = k by omega, hy']
  ·rw [List.getElem?_set_ne (Ne.symm hji), h.2 j hj]
   by_cases hc : j < i ∨ l.length ≤ j + i
   ·rw [if_pos hc, if_pos (by omega)]
   ·rw [if_neg hc, if_neg (by omega)]
theorem RevAt.done {α : Type} {l l' : List α} {i : Nat} (h : RevAt l l' i) (hi : l.length ≤ i + i + 1) : l' = l.reverse := by
 apply List.ext_getElem?
 intro j
 by_cases hj : j < l.length
 ·rw [h.2 j hj, List.getElem?_reverse hj]
  by_cases hc : j < i ∨ l.length ≤ j + i
  ·rw [if_pos hc]
  ·rw [if_neg hc, show l.length - 1 - j = j by omega]
 ·rw [List.getElem?_eq_none (by rw [h.1]; omega), List.getElem?_eq_none (by simp; omega)]
def PathEndA (t : Tr) (i : Nat) (v : Value) (Γ : List SProp) (M : E.Loc) : Prop :=
 ∃ (us : Sl Int) (rs : Sl Bool) (u : List Nat) (b : List Bool), v = PathS.val ⟨(i : Int), us, rs⟩ ∧ Γ = [intsP us, boolsP rs] ∧ M = [] ∧ us.l = toI u ∧ rs.l = b ∧ WayTo t.p.ns t.p.root u b (i : Int)
theorem toI_snoc (u : List Nat) (q : Nat) : toI (u ++ [q]) = toI u ++ [(q : Int)] := by simp [toI]
theorem toI_rev (u : List Nat) : (toI u).reverse = toI u.reverse := by simp [toI]
theorem path_val (i : Int) (a a2 : Option Addr) (c c2 : Nat) (us : List Nat) (rs : List Bool) : PathS.val ⟨i, ⟨a, c, toI us.reverse⟩, ⟨a2, c2, rs.reverse⟩⟩ = .agg #[.int .i64 i, .slice a us.length c, .slice a2 rs.length c2] := by simp [PathS.val, Sl.val, toI]
/-- How long a way may be. -/
theorem way_len {ns : List Nod} {root : Int} {s : Sh} {a : Int} {u : List Nat} {b : List Bool} {c : Nat} (h : Hangs ns s a) (hw : WayTo ns root u b a) (hc : u.length + s.size ≤ c) (hl : b.length = u.length) : ∀ p ∈ s.places, ∃ u' b', WayTo ns root u' b' (p : Int) ∧ u'.length + 1 ≤ c ∧ b'.length = u'.length := by
 induction s generalizing a u b with
 | leaf i =>
  obtain ⟨rfl, _⟩ := h
  intro p hp
  simp [Sh.places] at hp
  subst hp
  exact ⟨u, b, hw, by simpa [Sh.size] using hc, hl⟩
 | node i l r h1 h2 =>
  obtain ⟨rfl, n, hn, hr, hg, hg'⟩ := h
  simp only [Sh.size] at hc
  intro p hp
  simp only [Sh.places, List.mem_cons, List.mem_append] at hp
  rcases hp with rfl | hp | hp
  ·exact ⟨u, b, hw, by omega, hl⟩
  ·exact h1 hg (WayTo.step (side := false) hw hn hr) (by simp; omega) (by simp [hl]) p hp
  ·exact h2 hg' (WayTo.step (side := true) hw hn hr) (by simp; omega) (by simp [hl]) p hp
theorem way_of {t : PT} {s : Sh} {i : Nat} (hs : mayT t = some s) (hi : i < t.ns.length) : ∃ u b, WayTo t.ns t.root u b (i : Int) ∧ u.length ≤ 2000 ∧ b.length = u.length := by
 have hg := good_of hs
 have h1 := hg.size
 have h2 := hg.few
 obtain ⟨u, b, h3, h4, h5⟩ := way_len (c := 2000) hg.hangs WayTo.nil (by simp; omega) rfl i (hg.all i hi)
 exact ⟨u, b, h3, by omega, h5⟩
/-- What a way's end tells of a leaf. -/
theorem way_nb {t : PT} {s : Sh} {i : Nat} {x : Nod} {u : List Nat} {b : List Bool} (hs : mayT t = some s) (hx : t.ns[i]? = some x) (hr : x.route = false) (hw : WayTo t.ns t.root u b (i : Int)) :
  (u = [] ∧ b = [] ∧ s.nb i = none) ∨ ∃ (u' : List Nat) (b' : List Bool) (q : Nat) (n : Nod) (side : Bool) (l r : Sh), u = u' ++ [q] ∧ b = b' ++ [side] ∧ t.ns[q]? = some n ∧ n.route = true ∧ kidN n side = (i : Int) ∧ Hangs t.ns l n.left ∧ Hangs t.ns r n.right ∧ s.nb i = some (q, side, if side then l.last else r.first) := by
 have hg := good_of hs
 by_cases he : (i : Int) = t.root
 ·rw [he] at hw
  obtain ⟨e1, e2⟩ := way_root hg hw
  have e3 : s = .leaf i := hangs_leaf (by rw [he]; exact hg.hangs) hx hr
  exact .inl ⟨e1, e2, by rw [e3]; rfl⟩
 ·generalize hp : (i : Int) = y at hw
  cases hw with
  | nil => exact absurd hp he
  | @step u' b' q n side hw' hn hnr =>
   obtain ⟨l, r, h1, h2, h3⟩ := nb_spec hg.hangs hg.nodup (hg.all q (lt_of_get hn)) hn hnr hp.symm hx hr
   rw [← hp]
   exact .inr ⟨u', b', q, n, side, l, r, rfl, rfl, hn, hnr, hp.symm, h1, h2, h3⟩
theorem end_next {t : PT} {i : Nat} {side : Bool} {l r : Sh} {rg : Bool} (h : nextT t (i : Int) = some (if side then l.last else r.first)) (hrg : rg = side) :
  Value.tuple #[.int .i64 ((if rg then (if side then l else r).last else (if side then l else r).first : Nat) : Int), .bool true] = .tuple #[.int .i64 ((nextT t (i : Int)).getD 0 : Nat), .bool (nextT t (i : Int)).isSome] := by
 subst hrg
 rw [h]
 cases rg <;> rfl
theorem last_snoc (b : List Bool) (x : Bool) : (b ++ [x]).getLast?.getD false = x := by simp
end Go.Proofs.Ytmkodknmknfdkaa
set_option linter.unusedVariables false
set_option linter.unusedSimpArgs false
namespace Go.Proofs.Ytmkodknmknfdkaa
open E
set_option maxRecDepth 4000
theorem en34 : Enters Try.prog 34 := Enters.mk' Try.func34 rfl rfl
theorem en35 : Enters Try.prog 35 := Enters.mk' Try.func35 rfl rfl
theorem en42 : Enters Try.prog 42 := Enters.mk' Try.func42 rfl rfl
theorem en44 : Enters Try.prog 44 := Enters.mk' Try.func44 rfl rfl
theorem en80 : Enters Try.prog 80 := Enters.mk' Try.func80 rfl rfl
theorem en81 : Enters Try.prog 81 := Enters.mk' Try.func81 rfl rfl
theorem en82 : Enters Try.prog 82 := Enters.mk' Try.func82 rfl rfl
theorem en83 : Enters Try.prog 83 := Enters.mk' Try.func83 rfl rfl
theorem en107 : Enters Try.prog 107 := Enters.mk' Try.func107 rfl rfl
theorem en108 : Enters Try.prog 108 := Enters.mk' Try.func108 rfl rfl
theorem leaf80 (t : Tr) (at_ : Int) : Con Try.prog 80 [t.val, .int .i64 at_] [ndsP t.ns, psP t.ns.l] [] (fun v Γ M => v = .bool (leafT t.p at_) ∧ Γ = [] ∧ M = []) := by
 refine Con.body 27 Try.func80 rfl Try.ntmps80 rfl fun X H₀ L₀ => ?_
 refine aE (aR ?_)
 refine At.loud (l_box rfl) rfl ?_
 rintro _ _ _ ⟨b1, rfl, rfl, rfl⟩
 refine At.freeze 0 (φ := blk b1 _) rfl (fun _ h => blk_def.2 ⟨_, _, h⟩) ?_
 refine aS 1 rfl rfl ?_
 refine aN (aT (aE (aR ?_)))
 refine aQ (q_loadS t24 rfl (RdS.blk (.head _) (m := 2) rfl) rfl) rfl ?_
 refine At.call en21 rfl (may21 _) (fun _ h => ⟨h.2.2.1, h.2.2.2.1, trivial⟩) (List.Perm.refl _) rfl ?_
 rintro _ _ _ ⟨rfl, rfl, rfl⟩
 refine aS 1 rfl rfl ?_
 refine At.split (d := 7) rfl (fun hm => ?_) (fun hm => ?_)
 ·
  refine aS 4 rfl rfl ?_
  refine At.splitP (d := 11) rfl (fun hge => ?_) (fun hge => ?_)
  ·
   obtain ⟨i, rfl⟩ := Int.eq_ofNat_of_zero_le (show 0 ≤ at_ by omega)
   refine aS 1 rfl rfl ?_
   refine At.open rfl rfl ?_
   refine aQ (q_fieldAddr s24 rfl rfl rfl) rfl ?_
   refine At.open rfl rfl ?_
   refine aQ (q_load t22 rfl (Rd.blk (.head _) rfl)) rfl ?_
   refine At.open rfl rfl ?_
   refine aQ (q_len Try.underlying22 rfl) rfl ?_
   refine aS 3 rfl rfl ?_
   refine At.splitP (d := 18) rfl (fun hlt => ?_) (fun hlt => ?_)
   ·
    have hi : i < t.ns.l.length := by omega
    obtain ⟨x, hx⟩ := get_of_lt hi
    have hxp : t.p.ns[i]? = some x.p := map_get hx
    refine At.know (prsP x.ps) (fun _ h => psP_get h.2.2.2.1 hx) ?_
    refine At.open rfl rfl ?_
    refine aQ (q_fieldAddr s24 rfl rfl rfl) rfl ?_
    refine At.open rfl rfl ?_
    refine aQ (q_load t22 rfl (Rd.blk (ix 1 rfl) rfl)) rfl ?_
    refine aS 1 rfl rfl ?_
    refine At.open rfl rfl ?_
    refine aQ (q_index Try.underlying22 t33 rfl (ix 3 rfl) (by simp) rfl rfl (lt_of_get hx)) rfl ?_
    refine At.open rfl rfl ?_
    refine aQ (q_fieldAddr s33 rfl rfl rfl) rfl ?_
    refine At.open rfl rfl ?_
    refine aQ (q_load t4 rfl (Rd.sl (ix 3 rfl) (map_get hx) rfl)) rfl ?_
    refine aS 3 rfl rfl ?_
    refine aN (aT (At.ret ?_))
    exact At.results (Γr := []) (M := []) rfl (RVals.cons (RVal.tmp rfl) RVals.nil) (ix 2 rfl) (fun _ _ => trivial) r_ ⟨congrArg Value.bool ((leaf_at hm hxp).symm), rfl, rfl⟩
   ·
    refine aS 9 rfl rfl ?_
    refine aN (aT (At.ret ?_))
    exact At.results (Γr := []) (M := []) rfl (RVals.cons (RVal.tmp rfl) RVals.nil) (ix 1 rfl) (fun _ _ => trivial) r_ ⟨congrArg Value.bool ((leaf_out (by simp [Tr.p]; omega)).symm), rfl, rfl⟩
  ·
   refine aS 16 rfl rfl ?_
   refine aN (aT (At.ret ?_))
   exact At.results (Γr := []) (M := []) rfl (RVals.cons (RVal.tmp rfl) RVals.nil) (ix 1 rfl) (fun _ _ => trivial) r_ ⟨congrArg Value.bool ((leaf_neg (by omega)).symm), rfl, rfl⟩
 ·
  refine aS 20 rfl rfl ?_
  refine aN (aT (At.ret ?_))
  exact At.results (Γr := []) (M := []) rfl (RVals.cons (RVal.tmp rfl) RVals.nil) (ix 1 rfl) (fun _ _ => trivial) r_ ⟨congrArg Value.bool ((leaf_no hm).symm), rfl, rfl⟩
theorem end82 (t : Tr) (s : Sh) (at_ : Int) (rg : Bool) (hH : Hangs t.p.ns s at_) : Con Try.prog 82 [t.val, .int .i64 at_, .bool rg] [ndsP t.ns, psP t.ns.l] [] (fun v Γ M => v = .int .i64 ((if rg then s.last else s.first : Nat) : Int) ∧ Γ = [] ∧ M = []) := by
 refine Con.body 25 Try.func82 rfl Try.ntmps82 rfl fun X H₀ L₀ => ?_
 refine aE (aR ?_)
 refine At.loud (l_box rfl) rfl ?_
 rintro _ _ _ ⟨b1, rfl, rfl, rfl⟩
 refine At.freeze 0 (φ := blk b1 _) rfl (fun _ h => blk_def.2 ⟨_, _, h⟩) ?_
 refine aS 1 rfl rfl ?_
 refine aN (aT (aE (At.block ?_)))
 refine At.loopK (ι := Sh × Int) [1, 7, 8, 9, 10, 11, 12, 13, 14, 15, 16, 17, 18, 19, 20, 21, 22, 23] (fun ⟨s1, at1⟩ => [(1, .int .i64 at1)]) (fun ⟨s1, at1⟩ => []) (fun ⟨s1, at1⟩ => []) _ (fun ⟨s1, at1⟩ => Hangs t.p.ns s1 at1 ∧ (if rg then s1.last else s1.first) = (if rg then s.last else s.first)) (fun ⟨s1, at1⟩ => s1.size) (s, at_) ⟨hH, rfl⟩ ⟨rfl, trivial⟩ (fun _ _ => trivial) r_ ?_
 intro i0 hI0
 obtain ⟨s1, at1⟩ := i0
 obtain ⟨hH1, he⟩ := hI0
 obtain ⟨i, x, rfl, hx, hxg, hc⟩ := hH1.at
 refine At.know (prsP x.ps) (fun _ h => psP_get h.2.2.2.1 hx) ?_
 refine aE (aE (aR ?_))
 refine aF s24 t22 rfl rfl rfl (Rd.blk (ix 1 rfl) rfl) rfl rfl ?_
 refine aS 1 rfl rfl ?_
 refine aQ (q_index Try.underlying22 t33 rfl (ix 3 rfl) (by simp) rfl rfl (lt_of_get hx)) rfl ?_
 refine aF s33 t4 rfl rfl rfl (Rd.sl (ix 3 rfl) (map_get hx) rfl) rfl rfl ?_
 refine aN (aT ?_)
 refine At.cond rfl (fun hr => ?_) (fun hr => ?_)
 ·
  obtain ⟨l, r, rfl, hl, hr2⟩ : ∃ l r, s1 = .node i l r ∧ Hangs t.p.ns l x.left ∧ Hangs t.p.ns r x.right := by
   rcases hc with ⟨h, _⟩ | ⟨_, h⟩
   ·rw [show x.route = true from hr] at h; cases h
   ·exact h
  refine At.skip (aT (At.block (aE (aR ?_))))
  refine aF s24 t22 rfl rfl rfl (Rd.blk (ix 1 rfl) rfl) rfl rfl ?_
  refine aS 1 rfl rfl ?_
  refine aQ (q_index Try.underlying22 t33 rfl (ix 3 rfl) (by simp) rfl rfl (lt_of_get hx)) rfl ?_
  refine aQ (q_loadS t33 rfl (RdS.sl0 (ix 3 rfl) (map_get hx)) rfl) rfl ?_
  refine At.loud (l_alloc t33) rfl ?_
  rintro _ _ _ ⟨b2, rfl, rfl, rfl⟩
  refine At.loudN (l_store t33 rfl rfl (i := 0) rfl rfl rfl rfl) ?_
  rintro _ _ _ ⟨rfl, rfl⟩
  refine aN (aT (aE (aR ?_)))
  refine aS 1 rfl rfl ?_
  refine aN (aT ?_)
  refine At.cond rfl (fun hg => ?_) (fun hg => ?_)
  ·
   refine aR ?_
   refine aF s33 t3 rfl rfl rfl (Rd.loc (i := 0) rfl rfl) rfl rfl ?_
   refine aS 1 rfl rfl ?_
   refine aN (At.inNormal (aT ?_))
   exact At.againK (r, x.right) ⟨hr2, by rw [← he, hg]; rfl⟩ (by simp only [Sh.size]; omega) (Tells.end 17 ⟨rfl, trivial⟩ rfl rfl) (fun _ h => h.2) (d_ r_)
  ·
   refine aR ?_
   refine aF s33 t3 rfl rfl rfl (Rd.loc (i := 0) rfl rfl) rfl rfl ?_
   refine aS 1 rfl rfl ?_
   refine aN (At.inNormal (aT ?_))
   exact At.againK (l, x.left) ⟨hl, by rw [← he, hg]; rfl⟩ (by simp only [Sh.size]; omega) (Tells.end 17 ⟨rfl, trivial⟩ rfl rfl) (fun _ h => h.2) (d_ r_)
 ·
  obtain rfl : s1 = .leaf i := by
   rcases hc with ⟨_, h⟩ | ⟨h, _⟩
   ·exact h
   ·rw [show x.route = false from hr] at h; cases h
  refine At.exit (At.thenExit (At.thenExit (At.inHere rfl (aT (aE (aR ?_))))))
  refine aS 2 rfl rfl ?_
  refine aN (aT (At.ret ?_))
  exact At.results (Γr := []) (M := []) rfl (RVals.cons (RVal.tmp rfl) RVals.nil) (ix 2 rfl) (fun _ _ => trivial) r_ ⟨congrArg (Value.int .i64) (congrArg Int.ofNat (by rw [← he]; cases rg <;> rfl)), rfl, rfl⟩
theorem other83 (t : Tr) (us : Sl Int) (rs : Sl Bool) (leaf : Int) (q : Nat) (u : List Nat) (x : Nd) (hu : us.l = toI (u ++ [q])) (hx : t.ns.l[q]? = some x) : Con Try.prog 83 [t.val, PathS.val ⟨leaf, us, rs⟩] [ndsP t.ns, psP t.ns.l, intsP us, boolsP rs] [] (fun v Γ M => v = .int .i64 (if rs.l.getLast?.getD false then x.left else x.right) ∧ Γ = [] ∧ M = []) := by
 refine Con.body 24 Try.func83 rfl Try.ntmps83 rfl fun X H₀ L₀ => ?_
 have hul : us.l.length = u.length + 1 := by rw [hu, toI_length]; simp
 have hlast : us.l[u.length]? = some (q : Int) := by rw [hu, toI_snoc]; simp [toI]
 refine At.lenOf (hs := (ix 3 rfl)) fun hlus => ?_
 rw [List.length_map] at hlus
 refine At.know (prsP x.ps) (fun _ h => psP_get h.2.2.1 hx) ?_
 refine aE (aR ?_)
 refine At.loud (l_box rfl) rfl ?_
 rintro _ _ _ ⟨b1, rfl, rfl, rfl⟩
 refine At.freeze 0 (φ := blk b1 _) rfl (fun _ h => blk_def.2 ⟨_, _, h⟩) ?_
 refine At.loud (l_box rfl) rfl ?_
 rintro _ _ _ ⟨b2, rfl, rfl, rfl⟩
 refine At.freeze 0 (φ := blk b2 _) rfl (fun _ h => blk_def.2 ⟨_, _, h⟩) ?_
 refine aS 1 rfl rfl ?_
 refine aN (aT (aE ?_))
 refine At.draw 13 (.q 0 (.q 1 (.q 2 (.q 3 (.q 4 (.q 5 (.q 6 (.q 7 (.q 8 (.q 9 (.q 10 (.q 11 (.o 12 (.e)))))))))))))) _ (List.Sublist.refl _) mixed (by kernel_rfl) rfl ?_
 refine oQ rfl (q_fieldAddr s24 rfl rfl rfl) rfl (cT cP) ?_
 refine oQ rfl (q_load t22 rfl (Rd.blk (ix 1 rfl) rfl)) rfl (cT cP) ?_
 refine oQ rfl (q_fieldAddr s40 rfl rfl rfl) rfl (cT cP) ?_
 refine oQ rfl (q_load t37 rfl (Rd.blk (.head _) rfl)) rfl (cT cP) ?_
 refine oQ rfl (q_fieldAddr s40 rfl rfl rfl) rfl (cT cP) ?_
 refine oQ rfl (q_load t37 rfl (Rd.blk (.head _) rfl)) rfl (cT cP) ?_
 refine oQ rfl (q_len Try.underlying37 rfl) rfl (cT cP) ?_
 refine oQ rfl (q_sub rfl rfl (by dsimp only; omega) (by dsimp only; omega)) rfl (cT cP) ?_
 refine oQ rfl (q_index Try.underlying37 t3 rfl (ix 6 rfl) (by simp) rfl (by dsimp only; omega) (lt_of_get hlast)) rfl (cT cP) ?_
 refine oQ rfl (q_load t3 rfl (Rd.sl0 (ix 6 rfl) (map_get hlast) rfl)) rfl (cT cP) ?_
 refine oQ rfl (q_index Try.underlying22 t33 rfl (ix 4 rfl) (by simp) rfl rfl (lt_of_get hx)) rfl (cT cP) ?_
 refine oQ rfl (q_loadS t33 rfl (RdS.sl0 (ix 4 rfl) (map_get hx)) rfl) rfl (cT cP) ?_
 refine AtO.loudA rfl (l_alloc t33) rfl (by rintro _ _ _ ⟨_, rfl, rfl, rfl⟩; exact ⟨fun _ h => h, d_ r_⟩) ?_
 rintro _ _ _ ⟨b3, rfl, rfl, rfl⟩
 refine AtO.done ?_
 refine At.loudN (l_store t33 rfl rfl (i := 0) rfl rfl rfl rfl) ?_
 rintro _ _ _ ⟨rfl, rfl⟩
 refine aN (aT (aE (aE (aR ?_))))
 refine aQ (q_loadS t40 rfl (RdS.blk (.head _) (m := 3) rfl) rfl) rfl ?_
 refine At.call en32 rfl (right32 ⟨leaf, us, rs⟩) (fun _ h => ⟨h.2.2.2.2.2.2.2.1, trivial⟩) (List.Perm.refl _) rfl ?_
 rintro _ _ _ ⟨rfl, rfl, rfl⟩
 refine aN (aT ?_)
 refine At.cond rfl (fun hr => ?_) (fun hr => ?_)
 ·
  refine aE (aR ?_)
  refine aF s33 t3 rfl rfl rfl (Rd.loc (i := 0) rfl rfl) rfl rfl ?_
  refine aS 1 rfl rfl ?_
  refine aN (aT (At.ret (At.thenRet ?_)))
  exact At.results (Γr := []) (M := []) rfl (RVals.cons (RVal.tmp rfl) RVals.nil) (ix 3 rfl) (fun _ _ => trivial) (d_ r_) ⟨congrArg (Value.int .i64) (by rw [show rs.l.getLast?.getD false = true from hr]; rfl), rfl, rfl⟩
 ·
  refine At.skip (aT (aE (aR ?_)))
  refine aF s33 t3 rfl rfl rfl (Rd.loc (i := 0) rfl rfl) rfl rfl ?_
  refine aS 1 rfl rfl ?_
  refine aN (aT (At.ret ?_))
  exact At.results (Γr := []) (M := []) rfl (RVals.cons (RVal.tmp rfl) RVals.nil) (ix 3 rfl) (fun _ _ => trivial) (d_ r_) ⟨congrArg (Value.int .i64) (by rw [show rs.l.getLast?.getD false = false from hr]; rfl), rfl, rfl⟩
theorem copied84 (t : Tr) (hsm : smallP t.ns.l) (hfew : t.ns.l.length ≤ 100000) : Con Try.prog 84 [t.val] [ndsP t.ns, psP t.ns.l] [] (CopyEnd t) := by
 refine Con.body 28 Try.func84 rfl Try.ntmps84 rfl fun X H₀ L₀ => ?_
 refine At.nilSeg ?_
 refine At.know (psP []) (fun _ h => psP_nil) ?_
 refine aE (aR ?_)
 refine At.loud (l_box rfl) rfl ?_
 rintro _ _ _ ⟨b1, rfl, rfl, rfl⟩
 refine At.freeze 0 (φ := blk b1 _) rfl (fun _ h => blk_def.2 ⟨_, _, h⟩) ?_
 refine At.loud (l_alloc t24) rfl ?_
 rintro _ _ _ ⟨b2, rfl, rfl, rfl⟩
 refine aN (aT (aE (aR ?_)))
 refine aF s24 t3 rfl rfl rfl (Rd.blk (.head _) rfl) rfl rfl ?_
 refine aQ (q_build t24 s24 rfl rfl) rfl ?_
 refine At.loud (l_alloc t24) rfl ?_
 rintro _ _ _ ⟨b3, rfl, rfl, rfl⟩
 refine At.loudN (l_store t24 rfl rfl (i := 0) rfl rfl rfl rfl) ?_
 rintro _ _ _ ⟨rfl, rfl⟩
 refine aN (aT (aE (aE (aR ?_))))
 refine aF s24 t22 rfl rfl rfl (Rd.blk (.head _) rfl) rfl rfl ?_
 refine aQ (q_len Try.underlying22 rfl) rfl ?_
 refine aS 1 rfl rfl ?_
 refine aN (aT (At.block ?_))
 refine At.front 2 rfl ?_
 refine At.front 1 rfl ?_
 refine At.loopK (ι := Nat × List Nd × Option Addr × Nat × Seg) [5, 12, 13, 14, 15, 16, 17, 18, 19, 20, 21, 22, 23, 24, 25, 26] (fun ⟨k, o, a, c, M⟩ => [(12, .int .i64 (k : Int))]) (fun ⟨k, o, a, c, M⟩ => [psP o]) (fun ⟨k, o, a, c, M⟩ => [[(b3, .cells #[.int .i64 t.root, .slice a k c] 24 (0, 0))], M]) _ (fun ⟨k, o, a, c, M⟩ => k ≤ t.ns.l.length ∧ Own 33 6 (o.map rowN) a c M ∧ o.length = k ∧ o.map Nd.p = t.p.ns.take k) (fun ⟨k, o, a, c, M⟩ => t.ns.l.length - k) (0, [], none, 0, []) ⟨Nat.zero_le _, Own.nil _ _, rfl, by simp⟩ ⟨rfl, trivial⟩ (fun _ _ => ⟨psP_nil, trivial⟩) (k_ (k_ r_)) ?_
 intro i0 hI0
 obtain ⟨k, o, a, c, M⟩ := i0
 obtain ⟨hkl, hO, hok, hoe⟩ := hI0
 refine aE (aR ?_)
 refine aS 1 rfl rfl ?_
 refine aN (aT (aE ?_))
 refine At.if rfl (fun hk => ?_) (fun hk => ?_)
 ·
  obtain ⟨y, hy⟩ := get_of_lt (l := t.ns.l) (i := k) (by omega)
  have hk1 := lt_of_get hy
  have hys := hsm y (List.mem_of_getElem? hy)
  refine At.know (prsP y.ps) (fun _ h => psP_get h.2.2.2.2.2.1 hy) ?_
  refine At.skip (aT (aE (At.block (aE (aR ?_)))))
  refine aQ (q_index Try.underlying22 t33 rfl (ix 5 rfl) (by simp) rfl rfl (lt_of_get hy)) rfl ?_
  refine aQ (q_loadS t33 rfl (RdS.sl0 (ix 5 rfl) (map_get hy)) rfl) rfl ?_
  refine At.loud (l_alloc t33) rfl ?_
  rintro _ _ _ ⟨b4, rfl, rfl, rfl⟩
  refine At.loudN (l_store t33 rfl rfl (i := 0) rfl rfl rfl rfl) ?_
  rintro _ _ _ ⟨rfl, rfl⟩
  refine aN (aT (aE (aR ?_)))
  refine aF s33 t31 rfl rfl rfl (Rd.loc (i := 0) rfl rfl) rfl rfl ?_
  refine At.call en72 rfl (clone72 y.ps hys) (fun _ h => ⟨h.1, trivial⟩) (List.Perm.refl _) rfl ?_
  rintro _ _ _ ⟨s0, rfl, hs0, rfl, rfl⟩
  refine aQ (q_fieldAddr s33 rfl rfl rfl) rfl ?_
  refine At.loudN (l_store t31 rfl rfl (i := 0) rfl rfl rfl rfl) ?_
  rintro _ _ _ ⟨rfl, rfl⟩
  refine aN (aT (aR ?_))
  refine aF s24 t22 rfl rfl rfl (Rd.loc (i := 1) rfl rfl) rfl rfl ?_
  refine aQ (q_loadS t33 rfl (RdS.loc (i := 0) rfl (m := 6) rfl) rfl) rfl ?_
  refine At.loud (l_buildSlice Try.underlying22 t33 rfl rfl rfl rfl rfl) rfl ?_
  rintro _ _ _ ⟨b5, rfl, rfl, rfl⟩
  refine At.loud (l_append rfl Try.underlying22 t33 rfl rfl hO (by simp; omega) (i := 3) rfl rfl (news := [rowN { y with ps := s0 }]) (by simp [rowN]) (RdS.loc (i := 0) rfl (m := 6) rfl) rfl rfl rfl (by omega) (by unfold maxLen; omega)) rfl ?_
  rintro _ _ _ ⟨a2, c2, M2, rfl, ow, rfl, rfl⟩
  refine aQ (q_fieldAddr s24 rfl rfl rfl) rfl ?_
  refine At.loudN (l_store t22 rfl rfl (i := 2) rfl rfl rfl rfl) ?_
  rintro _ _ _ ⟨rfl, rfl⟩
  refine aN (At.inNormal (aT (aR ?_)))
  refine At.know (psP (o ++ [{ y with ps := s0 }])) (fun _ h => psP_snoc (n := { y with ps := s0 }) h.2.2.1 h.1) ?_
  refine aQ (q_add rfl rfl (by omega) (by omega)) rfl ?_
  refine aS 1 rfl rfl ?_
  refine aN ?_
  refine At.front 3 rfl ?_
  refine At.front 3 rfl ?_
  refine aT ?_
  exact At.againK (k + 1, o ++ [{ y with ps := s0 }], a2, c2, M2) ⟨hk1, by simpa using ow, by simp; omega, copy_step (s0 := s0) hoe hs0 (map_get hy)⟩ (by (try dsimp only); omega) (Tells.end 17 ⟨rfl, trivial⟩ rfl rfl) (fun _ h => ⟨h.1, h.2.2.2.2⟩) (k_ (k_ (d_ (d_ r_))))
 ·
  have hoe2 : o.map Nd.p = t.p.ns := by rw [hoe, List.take_of_length_le (by simp [Tr.p]; omega)]
  subst hok
  refine At.exit (At.thenExit (At.thenExit (At.inHere rfl (aT (aE (aR ?_))))))
  refine aQ (q_loadS t24 rfl (RdS.loc (i := 0) rfl (m := 2) rfl) rfl) rfl ?_
  refine At.loudN (l_store t24 rfl rfl (i := 2) rfl rfl rfl rfl) ?_
  rintro _ _ _ ⟨rfl, rfl⟩
  refine aN (aT (At.ret ?_))
  exact At.results (Γr := [psP o]) (M := [M]) rfl (RVals.cons (RVal.cellS rfl t24 (RdS.loc (i := 2) rfl (m := 2) rfl) rfl) RVals.nil) (ix 3 rfl) (fun _ h => ⟨h.1, trivial⟩) (d_ (k_ (d_ r_))) ⟨⟨t.root, ⟨a, c, o⟩⟩, M, rfl, rfl, rfl, hO, by simp only [Tr.p]; exact congrArg (PT.mk t.root) hoe2⟩
theorem rev107 (l : List Int) (a : Option Addr) (c : Nat) (M0 : Seg) (hO0 : Own 3 1 (l.map rowI) a c M0) (hl : l.length ≤ 4000000) : Con Try.prog 107 [.slice a l.length c] [] [M0] (fun v Γ M => ∃ M1, Γ = [] ∧ M = [M1] ∧ Own 3 1 (l.reverse.map rowI) a c M1) := by
 refine Con.body 28 Try.func107 rfl Try.ntmps107 rfl fun X H₀ L₀ => ?_
 refine aE (aR ?_)
 refine aS 1 rfl rfl ?_
 refine aQ (q_len Try.underlying37 rfl) rfl ?_
 refine aQ (q_sub rfl rfl (by omega) (by omega)) rfl ?_
 refine aS 2 rfl rfl ?_
 refine aN (aT (At.block ?_))
 refine At.say 3 (.int .i64 ((l.length : Int) - 1 - ((0 : Nat) : Int))) rfl (congrArg (Value.int .i64) (by simp)) ?_
 refine At.loopK (ι := Nat × List Int × Seg) [2, 3, 7, 8, 9, 10, 11, 12, 13, 14, 15, 16, 17, 18, 19, 20, 21, 22, 23, 24, 25, 26, 27] (fun ⟨i, o, M⟩ => [(2, .int .i64 (i : Int)), (3, .int .i64 ((l.length : Int) - 1 - (i : Int)))]) (fun ⟨i, o, M⟩ => []) (fun ⟨i, o, M⟩ => [M]) _ (fun ⟨i, o, M⟩ => RevAt l o i ∧ Own 3 1 (o.map rowI) a c M ∧ i + i ≤ l.length + 1) (fun ⟨i, o, M⟩ => l.length + 1 - i - i) (0, l, M0) ⟨RevAt.start l, hO0, by omega⟩ ⟨rfl, rfl, trivial⟩ (fun _ _ => trivial) (k_ r_) ?_
 intro i0 hI0
 obtain ⟨i, o, M⟩ := i0
 obtain ⟨hR, hO, hi2⟩ := hI0
 refine aE (aE (aR ?_))
 refine aS 3 rfl rfl ?_
 refine aN (aT ?_)
 refine At.if rfl (fun hlt => ?_) (fun hlt => ?_)
 ·
  obtain ⟨k, hk⟩ : ∃ k : Nat, k + i + 1 = l.length := ⟨l.length - 1 - i, by omega⟩
  have hik : i < k := by omega
  have hol := hR.1
  obtain ⟨x, hx⟩ := get_of_lt (l := o) (i := i) (by omega)
  obtain ⟨y, hy⟩ := get_of_lt (l := o) (i := k) (by omega)
  have hi3 : i < l.length := by omega
  have hk3 : k < l.length := by omega
  refine At.skip (aT (aE (At.block ?_)))
  refine At.draw 14 (.q 0 (.q 1 (.q 2 (.q 3 (.q 4 (.q 5 (.q 6 (.q 8 (.q 9 (.q 10 (.t 7 (.o 11 (.q 12 (.o 13 (.e)))) 11 (.o 7 (.q 12 (.o 13 (.e))))))))))))))) (L₀) (d_ r_) mixed (by kernel_rfl) rfl ?_
  refine oQ rfl (q_move rfl) rfl (cI (cT (cT (cI cP)))) ?_
  refine oQ rfl (q_move rfl) rfl (cI (cT (cT (cI cP)))) ?_
  refine oQ rfl (q_move rfl) rfl (cI (cT (cT (cI cP)))) ?_
  refine oQ rfl (q_move rfl) rfl (cI (cT (cT (cI cP)))) ?_
  refine oQ rfl (q_move rfl) rfl (cI (cT (cT (cI cP)))) ?_
  refine oQ rfl (q_move rfl) rfl (cI (cT (cT (cI cP)))) ?_
  refine oQ rfl (q_indexOwn Try.underlying37 t3 rfl hO (by simp [hol]) rfl (by omega) hk3) rfl (cI (cT (cT (cI cP)))) ?_
  refine oQ rfl (q_move rfl) rfl (cI (cT (cT (cI cP)))) ?_
  refine oQ rfl (q_move rfl) rfl (cI (cT (cT (cI cP)))) ?_
  refine oQ rfl (q_indexOwn Try.underlying37 t3 rfl hO (by simp [hol]) rfl rfl hi3) rfl (cI (cT (cT (cI cP)))) ?_
  refine AtO.two ?_ ?_
  ·
   refine AtO.loud rfl (Quiet.loud (q_load t3 rfl (Rd.own0 hO (i := 0) rfl (map_get hy) rfl))) rfl (by rintro _ _ _ ⟨rfl, rfl, rfl⟩; exact ⟨fun _ h => h, (d_ r_)⟩) ?_
   rintro _ _ _ ⟨rfl, rfl, rfl⟩
   refine AtO.loud rfl (Quiet.loud (q_load t3 rfl (Rd.own0 hO (i := 0) rfl (map_get hx) rfl))) rfl (by rintro _ _ _ ⟨rfl, rfl, rfl⟩; exact ⟨fun _ h => h, (d_ r_)⟩) ?_
   rintro _ _ _ ⟨rfl, rfl, rfl⟩
   refine oQ rfl (q_indexOwn Try.underlying37 t3 rfl hO (by simp [hol]) rfl rfl hi3) rfl (cI (cT (cT (cI cP)))) ?_
   refine AtO.loudNA rfl (l_storeOwn0 t3 rfl rfl hO (i := 0) rfl (map_get hx) rfl rfl rfl) (by rintro _ _ _ ⟨_, _, rfl, rfl⟩; exact ⟨fun _ h => h, (d_ r_)⟩) ?_
   rintro _ _ _ ⟨Mow1, ow1, rfl, rfl⟩
   refine AtO.done ?_
   refine aQ (q_indexOwn Try.underlying37 t3 rfl hO (by simp [hol]) rfl (by omega) hk3) rfl ?_
   refine At.loudN (l_storeOwn0 t3 rfl rfl (show Own 3 1 ((o.set i y).map rowI) a c _ by rw [List.map_set]; exact ow1) (i := 0) rfl (map_get (show (o.set i y)[k]? = some y by rw [List.getElem?_set_ne (by omega)]; exact hy)) rfl rfl rfl) ?_
   rintro _ _ _ ⟨Mow2, ow2, rfl, rfl⟩
   refine aN (At.inNormal (aT (aR ?_)))
   have hO2 : Own 3 1 (((o.set i y).set k x).map rowI) a c Mow2 := by rw [List.map_set]; exact ow2
   refine aS 1 rfl rfl ?_
   refine aQ (q_add rfl rfl (by omega) (by omega)) rfl ?_
   refine aS 1 rfl rfl ?_
   refine aQ (q_sub rfl rfl (by omega) (by omega)) rfl ?_
   refine aS 2 rfl rfl ?_
   refine aN ?_
   refine At.say 3 (.int .i64 ((l.length : Int) - 1 - ((i + 1 : Nat) : Int))) rfl (congrArg (Value.int .i64) (by omega)) ?_
   refine aT ?_
   exact At.againK (i + 1, (o.set i y).set k x, _) ⟨hR.step hk hik hx hy, hO2, by omega⟩ (by (try dsimp only); omega) (Tells.end 26 ⟨rfl, rfl, trivial⟩ rfl rfl) (fun _ h => h) (k_ r_)
  ·
   refine AtO.loud rfl (Quiet.loud (q_load t3 rfl (Rd.own0 hO (i := 0) rfl (map_get hx) rfl))) rfl (by rintro _ _ _ ⟨rfl, rfl, rfl⟩; exact ⟨fun _ h => h, (d_ r_)⟩) ?_
   rintro _ _ _ ⟨rfl, rfl, rfl⟩
   refine AtO.loud rfl (Quiet.loud (q_load t3 rfl (Rd.own0 hO (i := 0) rfl (map_get hy) rfl))) rfl (by rintro _ _ _ ⟨rfl, rfl, rfl⟩; exact ⟨fun _ h => h, (d_ r_)⟩) ?_
   rintro _ _ _ ⟨rfl, rfl, rfl⟩
   refine oQ rfl (q_indexOwn Try.underlying37 t3 rfl hO (by simp [hol]) rfl rfl hi3) rfl (cI (cT (cT (cI cP)))) ?_
   refine AtO.loudNA rfl (l_storeOwn0 t3 rfl rfl hO (i := 0) rfl (map_get hx) rfl rfl rfl) (by rintro _ _ _ ⟨_, _, rfl, rfl⟩; exact ⟨fun _ h => h, (d_ r_)⟩) ?_
   rintro _ _ _ ⟨Mow3, ow3, rfl, rfl⟩
   refine AtO.done ?_
   refine aQ (q_indexOwn Try.underlying37 t3 rfl hO (by simp [hol]) rfl (by omega) hk3) rfl ?_
   refine At.loudN (l_storeOwn0 t3 rfl rfl (show Own 3 1 ((o.set i y).map rowI) a c _ by rw [List.map_set]; exact ow3) (i := 0) rfl (map_get (show (o.set i y)[k]? = some y by rw [List.getElem?_set_ne (by omega)]; exact hy)) rfl rfl rfl) ?_
   rintro _ _ _ ⟨Mow4, ow4, rfl, rfl⟩
   refine aN (At.inNormal (aT (aR ?_)))
   have hO2 : Own 3 1 (((o.set i y).set k x).map rowI) a c Mow4 := by rw [List.map_set]; exact ow4
   refine aS 1 rfl rfl ?_
   refine aQ (q_add rfl rfl (by omega) (by omega)) rfl ?_
   refine aS 1 rfl rfl ?_
   refine aQ (q_sub rfl rfl (by omega) (by omega)) rfl ?_
   refine aS 2 rfl rfl ?_
   refine aN ?_
   refine At.say 3 (.int .i64 ((l.length : Int) - 1 - ((i + 1 : Nat) : Int))) rfl (congrArg (Value.int .i64) (by omega)) ?_
   refine aT ?_
   exact At.againK (i + 1, (o.set i y).set k x, _) ⟨hR.step hk hik hx hy, hO2, by omega⟩ (by (try dsimp only); omega) (Tells.end 26 ⟨rfl, rfl, trivial⟩ rfl rfl) (fun _ h => h) (k_ r_)
 ·
  obtain rfl := hR.done (by omega)
  refine At.exit (At.thenExit (At.thenExit (At.inHere rfl ?_)))
  exact At.resultsN (Γr := []) (M := [M]) rfl RVals.nil (.head _) (fun _ _ => trivial) (k_ r_) ⟨M, rfl, rfl, hO⟩
theorem rev108 (l : List Bool) (a : Option Addr) (c : Nat) (M0 : Seg) (hO0 : Own 4 1 (l.map rowB) a c M0) (hl : l.length ≤ 4000000) : Con Try.prog 108 [.slice a l.length c] [] [M0] (fun v Γ M => ∃ M1, Γ = [] ∧ M = [M1] ∧ Own 4 1 (l.reverse.map rowB) a c M1) := by
 refine Con.body 28 Try.func108 rfl Try.ntmps108 rfl fun X H₀ L₀ => ?_
 refine aE (aR ?_)
 refine aS 1 rfl rfl ?_
 refine aQ (q_len Try.underlying38 rfl) rfl ?_
 refine aQ (q_sub rfl rfl (by omega) (by omega)) rfl ?_
 refine aS 2 rfl rfl ?_
 refine aN (aT (At.block ?_))
 refine At.say 3 (.int .i64 ((l.length : Int) - 1 - ((0 : Nat) : Int))) rfl (congrArg (Value.int .i64) (by simp)) ?_
 refine At.loopK (ι := Nat × List Bool × Seg) [2, 3, 7, 8, 9, 10, 11, 12, 13, 14, 15, 16, 17, 18, 19, 20, 21, 22, 23, 24, 25, 26, 27] (fun ⟨i, o, M⟩ => [(2, .int .i64 (i : Int)), (3, .int .i64 ((l.length : Int) - 1 - (i : Int)))]) (fun ⟨i, o, M⟩ => []) (fun ⟨i, o, M⟩ => [M]) _ (fun ⟨i, o, M⟩ => RevAt l o i ∧ Own 4 1 (o.map rowB) a c M ∧ i + i ≤ l.length + 1) (fun ⟨i, o, M⟩ => l.length + 1 - i - i) (0, l, M0) ⟨RevAt.start l, hO0, by omega⟩ ⟨rfl, rfl, trivial⟩ (fun _ _ => trivial) (k_ r_) ?_
 intro i0 hI0
 obtain ⟨i, o, M⟩ := i0
 obtain ⟨hR, hO, hi2⟩ := hI0
 refine aE (aE (aR ?_))
 refine aS 3 rfl rfl ?_
 refine aN (aT ?_)
 refine At.if rfl (fun hlt => ?_) (fun hlt => ?_)
 ·
  obtain ⟨k, hk⟩ : ∃ k : Nat, k + i + 1 = l.length := ⟨l.length - 1 - i, by omega⟩
  have hik : i < k := by omega
  have hol := hR.1
  obtain ⟨x, hx⟩ := get_of_lt (l := o) (i := i) (by omega)
  obtain ⟨y, hy⟩ := get_of_lt (l := o) (i := k) (by omega)
  have hi3 : i < l.length := by omega
  have hk3 : k < l.length := by omega
  refine At.skip (aT (aE (At.block ?_)))
  refine At.draw 14 (.q 0 (.q 1 (.q 2 (.q 3 (.q 4 (.q 5 (.q 6 (.q 8 (.q 9 (.q 10 (.t 7 (.o 11 (.q 12 (.o 13 (.e)))) 11 (.o 7 (.q 12 (.o 13 (.e))))))))))))))) (L₀) (d_ r_) mixed (by kernel_rfl) rfl ?_
  refine oQ rfl (q_move rfl) rfl (cI (cT (cT (cI cP)))) ?_
  refine oQ rfl (q_move rfl) rfl (cI (cT (cT (cI cP)))) ?_
  refine oQ rfl (q_move rfl) rfl (cI (cT (cT (cI cP)))) ?_
  refine oQ rfl (q_move rfl) rfl (cI (cT (cT (cI cP)))) ?_
  refine oQ rfl (q_move rfl) rfl (cI (cT (cT (cI cP)))) ?_
  refine oQ rfl (q_move rfl) rfl (cI (cT (cT (cI cP)))) ?_
  refine oQ rfl (q_indexOwn Try.underlying38 t4 rfl hO (by simp [hol]) rfl (by omega) hk3) rfl (cI (cT (cT (cI cP)))) ?_
  refine oQ rfl (q_move rfl) rfl (cI (cT (cT (cI cP)))) ?_
  refine oQ rfl (q_move rfl) rfl (cI (cT (cT (cI cP)))) ?_
  refine oQ rfl (q_indexOwn Try.underlying38 t4 rfl hO (by simp [hol]) rfl rfl hi3) rfl (cI (cT (cT (cI cP)))) ?_
  refine AtO.two ?_ ?_
  ·
   refine AtO.loud rfl (Quiet.loud (q_load t4 rfl (Rd.own0 hO (i := 0) rfl (map_get hy) rfl))) rfl (by rintro _ _ _ ⟨rfl, rfl, rfl⟩; exact ⟨fun _ h => h, (d_ r_)⟩) ?_
   rintro _ _ _ ⟨rfl, rfl, rfl⟩
   refine AtO.loud rfl (Quiet.loud (q_load t4 rfl (Rd.own0 hO (i := 0) rfl (map_get hx) rfl))) rfl (by rintro _ _ _ ⟨rfl, rfl, rfl⟩; exact ⟨fun _ h => h, (d_ r_)⟩) ?_
   rintro _ _ _ ⟨rfl, rfl, rfl⟩
   refine oQ rfl (q_indexOwn Try.underlying38 t4 rfl hO (by simp [hol]) rfl rfl hi3) rfl (cI (cT (cT (cI cP)))) ?_
   refine AtO.loudNA rfl (l_storeOwn0 t4 rfl rfl hO (i := 0) rfl (map_get hx) rfl rfl rfl) (by rintro _ _ _ ⟨_, _, rfl, rfl⟩; exact ⟨fun _ h => h, (d_ r_)⟩) ?_
   rintro _ _ _ ⟨Mow1, ow1, rfl, rfl⟩
   refine AtO.done ?_
   refine aQ (q_indexOwn Try.underlying38 t4 rfl hO (by simp [hol]) rfl (by omega) hk3) rfl ?_
   refine At.loudN (l_storeOwn0 t4 rfl rfl (show Own 4 1 ((o.set i y).map rowB) a c _ by rw [List.map_set]; exact ow1) (i := 0) rfl (map_get (show (o.set i y)[k]? = some y by rw [List.getElem?_set_ne (by omega)]; exact hy)) rfl rfl rfl) ?_
   rintro _ _ _ ⟨Mow2, ow2, rfl, rfl⟩
   refine aN (At.inNormal (aT (aR ?_)))
   have hO2 : Own 4 1 (((o.set i y).set k x).map rowB) a c Mow2 := by rw [List.map_set]; exact ow2
   refine aS 1 rfl rfl ?_
   refine aQ (q_add rfl rfl (by omega) (by omega)) rfl ?_
   refine aS 1 rfl rfl ?_
   refine aQ (q_sub rfl rfl (by omega) (by omega)) rfl ?_
   refine aS 2 rfl rfl ?_
   refine aN ?_
   refine At.say 3 (.int .i64 ((l.length : Int) - 1 - ((i + 1 : Nat) : Int))) rfl (congrArg (Value.int .i64) (by omega)) ?_
   refine aT ?_
   exact At.againK (i + 1, (o.set i y).set k x, _) ⟨hR.step hk hik hx hy, hO2, by omega⟩ (by (try dsimp only); omega) (Tells.end 26 ⟨rfl, rfl, trivial⟩ rfl rfl) (fun _ h => h) (k_ r_)
  ·
   refine AtO.loud rfl (Quiet.loud (q_load t4 rfl (Rd.own0 hO (i := 0) rfl (map_get hx) rfl))) rfl (by rintro _ _ _ ⟨rfl, rfl, rfl⟩; exact ⟨fun _ h => h, (d_ r_)⟩) ?_
   rintro _ _ _ ⟨rfl, rfl, rfl⟩
   refine AtO.loud rfl (Quiet.loud (q_load t4 rfl (Rd.own0 hO (i := 0) rfl (map_get hy) rfl))) rfl (by rintro _ _ _ ⟨rfl, rfl, rfl⟩; exact ⟨fun _ h => h, (d_ r_)⟩) ?_
   rintro _ _ _ ⟨rfl, rfl, rfl⟩
   refine oQ rfl (q_indexOwn Try.underlying38 t4 rfl hO (by simp [hol]) rfl rfl hi3) rfl (cI (cT (cT (cI cP)))) ?_
   refine AtO.loudNA rfl (l_storeOwn0 t4 rfl rfl hO (i := 0) rfl (map_get hx) rfl rfl rfl) (by rintro _ _ _ ⟨_, _, rfl, rfl⟩; exact ⟨fun _ h => h, (d_ r_)⟩) ?_
   rintro _ _ _ ⟨Mow3, ow3, rfl, rfl⟩
   refine AtO.done ?_
   refine aQ (q_indexOwn Try.underlying38 t4 rfl hO (by simp [hol]) rfl (by omega) hk3) rfl ?_
   refine At.loudN (l_storeOwn0 t4 rfl rfl (show Own 4 1 ((o.set i y).map rowB) a c _ by rw [List.map_set]; exact ow3) (i := 0) rfl (map_get (show (o.set i y)[k]? = some y by rw [List.getElem?_set_ne (by omega)]; exact hy)) rfl rfl rfl) ?_
   rintro _ _ _ ⟨Mow4, ow4, rfl, rfl⟩
   refine aN (At.inNormal (aT (aR ?_)))
   have hO2 : Own 4 1 (((o.set i y).set k x).map rowB) a c Mow4 := by rw [List.map_set]; exact ow4
   refine aS 1 rfl rfl ?_
   refine aQ (q_add rfl rfl (by omega) (by omega)) rfl ?_
   refine aS 1 rfl rfl ?_
   refine aQ (q_sub rfl rfl (by omega) (by omega)) rfl ?_
   refine aS 2 rfl rfl ?_
   refine aN ?_
   refine At.say 3 (.int .i64 ((l.length : Int) - 1 - ((i + 1 : Nat) : Int))) rfl (congrArg (Value.int .i64) (by omega)) ?_
   refine aT ?_
   exact At.againK (i + 1, (o.set i y).set k x, _) ⟨hR.step hk hik hx hy, hO2, by omega⟩ (by (try dsimp only); omega) (Tells.end 26 ⟨rfl, rfl, trivial⟩ rfl rfl) (fun _ h => h) (k_ r_)
 ·
  obtain rfl := hR.done (by omega)
  refine At.exit (At.thenExit (At.thenExit (At.inHere rfl ?_)))
  exact At.resultsN (Γr := []) (M := [M]) rfl RVals.nil (.head _) (fun _ _ => trivial) (k_ r_) ⟨M, rfl, rfl, hO⟩
theorem path81 (t : Tr) (s : Sh) (hs : mayT t.p = some s) (i : Nat) (hi : i < t.p.ns.length) : Con Try.prog 81 [t.val, .int .i64 (i : Int)] [ndsP t.ns, psP t.ns.l] [] (PathEndA t i) := by
 refine Con.body 66 Try.func81 rfl Try.ntmps81 rfl fun X H₀ L₀ => ?_
 refine At.lenOf (hs := (ix 1 rfl)) fun hlen => ?_
 rw [List.length_map] at hlen
 have hN : t.p.ns.length = t.ns.l.length := by simp [Tr.p]
 have hg := good_of hs
 obtain ⟨U, B, hW0, hUl, hBl⟩ := way_of hs hi
 refine aE (aR ?_)
 refine At.loud (l_box rfl) rfl ?_
 rintro _ _ _ ⟨b1, rfl, rfl, rfl⟩
 refine At.freeze 0 (φ := blk b1 _) rfl (fun _ h => blk_def.2 ⟨_, _, h⟩) ?_
 refine At.loud (l_alloc t40) rfl ?_
 rintro _ _ _ ⟨b2, rfl, rfl, rfl⟩
 refine aN (aT (aE (aR ?_)))
 refine At.loud (l_makeMap) rfl ?_
 rintro _ _ _ ⟨bm, mp, rfl, hM0, rfl, rfl⟩
 refine aS 1 rfl rfl ?_
 refine aN (aT (aE (aE (aR ?_))))
 refine aF s24 t22 rfl rfl rfl (Rd.blk (.head _) rfl) rfl rfl ?_
 refine aQ (q_len Try.underlying22 rfl) rfl ?_
 refine aS 1 rfl rfl ?_
 refine aN (aT (At.block ?_))
 refine At.loopK (ι := Nat × Seg) [6, 7, 14, 15, 16, 17, 18, 19, 20, 21, 22, 23, 24, 25, 26, 27, 28, 29] (fun ⟨k, M⟩ => [(14, .int .i64 (k : Int))]) (fun ⟨k, M⟩ => []) (fun ⟨k, M⟩ => [M]) _ (fun ⟨k, M⟩ => k ≤ t.ns.l.length ∧ OwnMap (parUpto t.p.ns k) bm M) (fun ⟨k, M⟩ => t.ns.l.length - k) (0, mp) ⟨Nat.zero_le _, hM0⟩ ⟨rfl, trivial⟩ (fun _ _ => trivial) (k_ r_) ?_
 intro i0 hI0
 obtain ⟨k, M⟩ := i0
 obtain ⟨hkN, hM⟩ := hI0
 refine aE (aR ?_)
 refine aS 1 rfl rfl ?_
 refine aN (aT (aE ?_))
 refine At.if rfl (fun hk => ?_) (fun hk => ?_)
 ·
  obtain ⟨x, hx⟩ := get_of_lt (l := t.ns.l) (i := k) (by omega)
  have hk1 := lt_of_get hx
  have hxp : t.p.ns[k]? = some x.p := map_get hx
  refine At.know (prsP x.ps) (fun _ h => psP_get h.2.2.2.1 hx) ?_
  refine At.skip (aT (aE (At.block (aE (aR ?_)))))
  refine aS 1 rfl rfl ?_
  refine aQ (q_index Try.underlying22 t33 rfl (ix 3 rfl) (by simp) rfl rfl (lt_of_get hx)) rfl ?_
  refine aQ (q_loadS t33 rfl (RdS.sl0 (ix 3 rfl) (map_get hx)) rfl) rfl ?_
  refine At.loud (l_alloc t33) rfl ?_
  rintro _ _ _ ⟨b3, rfl, rfl, rfl⟩
  refine aS 1 rfl rfl ?_
  refine At.loudN (l_store t33 rfl rfl (i := 0) rfl rfl rfl rfl) ?_
  rintro _ _ _ ⟨rfl, rfl⟩
  refine aN (aT (aE (aR ?_)))
  refine aF s33 t4 rfl rfl rfl (Rd.loc (i := 0) rfl rfl) rfl rfl ?_
  refine aN (aT ?_)
  refine At.cond rfl (fun hr => ?_) (fun hr => ?_)
  ·
   refine At.draw 9 (.q 0 (.q 1 (.q 2 (.q 3 (.q 4 (.q 5 (.q 6 (.q 7 (.o 8 (.e)))))))))) (_ :: _ :: L₀) (k_ (d_ (k_ r_))) mixed (by kernel_rfl) rfl ?_
   refine oQ rfl (q_move rfl) rfl (cI (cT (cT (cI (cT cP))))) ?_
   refine oQ rfl (q_fieldAddr s33 rfl rfl rfl) rfl (cI (cT (cT (cI (cT cP))))) ?_
   refine oQ rfl (q_load t3 rfl (Rd.loc (i := 0) rfl rfl)) rfl (cI (cT (cT (cI (cT cP))))) ?_
   refine oQ rfl (q_move rfl) rfl (cI (cT (cT (cI (cT cP))))) ?_
   refine oQ rfl (q_fieldAddr s33 rfl rfl rfl) rfl (cI (cT (cT (cI (cT cP))))) ?_
   refine oQ rfl (q_load t3 rfl (Rd.loc (i := 0) rfl rfl)) rfl (cI (cT (cT (cI (cT cP))))) ?_
   refine oQ rfl (q_move rfl) rfl (cI (cT (cT (cI (cT cP))))) ?_
   refine oQ rfl (q_move rfl) rfl (cI (cT (cT (cI (cT cP))))) ?_
   refine AtO.loudNA rfl (l_mapUpdate Try.underlying70 Try.underlying3 rfl rfl rfl hM (i := 1) rfl) (by rintro _ _ _ ⟨_, _, rfl, rfl⟩; exact ⟨fun _ h => h, (k_ (d_ (k_ r_)))⟩) ?_
   rintro _ _ _ ⟨Mmp1, mp1, rfl, rfl⟩
   refine AtO.done ?_
   refine At.loudN (l_mapUpdate Try.underlying70 Try.underlying3 rfl rfl rfl mp1 (i := 1) rfl) ?_
   rintro _ _ _ ⟨Mmp2, mp2, rfl, rfl⟩
   refine aN (At.inNormal (aT (aR ?_)))
   have hM2 : OwnMap (parUpto t.p.ns (k + 1)) bm Mmp2 := by rw [← par_route hxp hr]; exact mp2
   refine aQ (q_add rfl rfl (by omega) (by omega)) rfl ?_
   refine aS 1 rfl rfl ?_
   refine aN ?_
   refine At.front 1 rfl ?_
   refine aT ?_
   exact At.againK (k + 1, _) ⟨hk1, hM2⟩ (by (try dsimp only); omega) (Tells.end 19 ⟨rfl, trivial⟩ rfl rfl) (fun _ h => h.2) (k_ (d_ r_))
  ·
   refine At.skip (At.inNormal (aT (aR ?_)))
   refine aQ (q_add rfl rfl (by omega) (by omega)) rfl ?_
   refine aS 1 rfl rfl ?_
   refine aN ?_
   refine At.front 1 rfl ?_
   refine aT ?_
   exact At.againK (k + 1, M) ⟨hk1, by rw [← par_leaf hxp hr]; exact hM⟩ (by (try dsimp only); omega) (Tells.end 11 ⟨rfl, trivial⟩ rfl rfl) (fun _ h => h.2) (k_ (d_ r_))
 ·
  obtain rfl : k = t.ns.l.length := by omega
  have hMf : OwnMap (parUpto t.p.ns t.p.ns.length) bm M := by rw [hN]; exact hM
  refine At.nilSeg ?_
  refine At.nilSeg ?_
  refine At.exit (At.thenExit (At.thenExit (At.inHere rfl (aT (aE (aR ?_))))))
  refine aS 1 rfl rfl ?_
  refine aQ (q_build t40 s40 rfl rfl) rfl ?_
  refine At.loud (l_alloc t40) rfl ?_
  rintro _ _ _ ⟨b4, rfl, rfl, rfl⟩
  refine At.loudN (l_store t40 rfl rfl (i := 0) rfl rfl rfl rfl) ?_
  rintro _ _ _ ⟨rfl, rfl⟩
  refine aN (aT (aE (At.block ?_)))
  refine At.front 2 rfl ?_
  refine At.front 2 rfl ?_
  refine At.front 2 rfl ?_
  refine At.loopK (ι := (Nat × List Nat × List Bool) × (Nat × List Nat × Option Addr × Nat × Seg) × (Nat × List Bool × Option Addr × Nat × Seg)) [1, 9, 32, 33, 34, 35, 36, 37, 38, 39, 40, 41, 42, 43, 44, 45, 46, 47, 48, 49, 50, 51, 52, 53, 54, 55, 56, 57, 58] (fun ⟨⟨p, wu, wb⟩, ⟨n1, us, a1, c1, M1⟩, ⟨n2, rs, a2, c2, M2⟩⟩ => [(1, .int .i64 (p : Int))]) (fun ⟨⟨p, wu, wb⟩, ⟨n1, us, a1, c1, M1⟩, ⟨n2, rs, a2, c2, M2⟩⟩ => []) (fun ⟨⟨p, wu, wb⟩, ⟨n1, us, a1, c1, M1⟩, ⟨n2, rs, a2, c2, M2⟩⟩ => [[(b4, .cells #[.int .i64 (i : Int), .slice a1 n1 c1, .slice a2 n2 c2] 40 (0, 0))], M1, M2]) _ (fun ⟨⟨p, wu, wb⟩, ⟨n1, us, a1, c1, M1⟩, ⟨n2, rs, a2, c2, M2⟩⟩ => WayTo t.p.ns t.p.root wu wb (p : Int) ∧ U = wu ++ us.reverse ∧ B = wb ++ rs.reverse ∧ Own 3 1 ((toI us).map rowI) a1 c1 M1 ∧ Own 4 1 (rs.map rowB) a2 c2 M2 ∧ wu.length + us.length ≤ 2000 ∧ rs.length = us.length ∧ n1 = us.length ∧ n2 = rs.length) (fun ⟨⟨p, wu, wb⟩, ⟨n1, us, a1, c1, M1⟩, ⟨n2, rs, a2, c2, M2⟩⟩ => wu.length) ((i, U, B), (0, [], none, 0, []), (0, [], none, 0, [])) ⟨hW0, by simp, by simp, Own.nil _ _, Own.nil _ _, by simpa using hUl, rfl, rfl, rfl⟩ ⟨rfl, trivial⟩ (fun _ _ => trivial) (k_ (k_ (k_ r_))) ?_
  intro i1 hI1
  obtain ⟨⟨p, wu, wb⟩, ⟨n1, us, a1, c1, M1⟩, ⟨n2, rs, a2, c2, M2⟩⟩ := i1
  obtain ⟨hW, hU, hB, hO1, hO2, hsz, hrl, hn1, hn2⟩ := hI1
  refine aE (aE (aR ?_))
  refine aS 1 rfl rfl ?_
  refine aF s24 t3 rfl rfl rfl (Rd.blk (.head _) rfl) rfl rfl ?_
  refine aS 1 rfl rfl ?_
  refine aN (aT ?_)
  refine At.if rfl (fun hne => ?_) (fun hne => ?_)
  ·
   obtain ⟨wu2, wb2, q, n, rfl, hW2, hn, hnr, rfl, hpar⟩ := way_up hg hW hne
   obtain ⟨y, hy, hyp⟩ := p_get (u := t) rfl hn
   refine At.skip (aT (At.block (aE (aR ?_))))
   refine aS 2 rfl rfl ?_
   refine aQ (q_lookup Try.underlying70 Try.underlying3 t3 rfl rfl hMf (i := 3) rfl) rfl ?_
   refine At.say 38 (.int .i64 (q : Int)) rfl (congrArg (Value.int .i64) (by rw [hpar]; rfl)) ?_
   refine aS 1 rfl rfl ?_
   refine aN (aT ?_)
   refine At.front 2 rfl ?_
   refine At.front 2 rfl ?_
   refine At.front 2 rfl ?_
   refine At.cutD (ι := (Option Addr × Nat × Seg) × (Option Addr × Nat × Seg)) (.s (.s (.s .z))) [39, 40, 41, 42, 43, 44, 45, 46, 47, 48, 49, 50, 51, 52, 53, 54, 55, 56, 57] (fun ⟨⟨a3, c3, M3⟩, ⟨a4, c4, M4⟩⟩ => []) (fun ⟨⟨a3, c3, M3⟩, ⟨a4, c4, M4⟩⟩ => []) (fun ⟨⟨a3, c3, M3⟩, ⟨a4, c4, M4⟩⟩ => [[(b4, .cells #[.int .i64 (i : Int), .slice a3 (n1 + 1) c3, .slice a4 (n2 + 1) c4] 40 (0, 0))], M3, M4]) (fun ⟨⟨a3, c3, M3⟩, ⟨a4, c4, M4⟩⟩ => Own 3 1 ((toI (us ++ [q])).map rowI) a3 c3 M3 ∧ Own 4 1 ((rs ++ [decide (n.right = (p : Int))]).map rowB) a4 c4 M4) ?_ ?_
   ·
    have hyr : y.right = n.right := by rw [← hyp]; rfl
    refine At.know (prsP y.ps) (fun _ h => psP_get h.2.2.2.1 hy) ?_
    refine At.draw 18 (.q 0 (.q 1 (.q 2 (.q 5 (.q 6 (.q 7 (.q 8 (.q 9 (.q 10 (.q 11 (.q 12 (.q 13 (.q 14 (.t 3 (.t 4 (.q 17 (.o 15 (.o 16 (.e)))) 15 (.o 4 (.q 17 (.o 16 (.e))))) 15 (.o 3 (.o 4 (.q 17 (.o 16 (.e))))))))))))))))))) (_ :: _ :: L₀) (k_ (d_ (d_ (d_ (k_ r_))))) mixed (by kernel_rfl) rfl ?_
    refine oQ rfl (q_fieldAddr s40 rfl rfl rfl) rfl (cT (cI (cT (cI (cT cP))))) ?_
    refine oQ rfl (q_load t37 rfl (Rd.loc (i := 0) rfl rfl)) rfl (cT (cI (cT (cI (cT cP))))) ?_
    refine oQ rfl (q_move rfl) rfl (cT (cI (cT (cI (cT cP))))) ?_
    refine oQ rfl (q_fieldAddr s40 rfl rfl rfl) rfl (cT (cI (cT (cI (cT cP))))) ?_
    refine oQ rfl (q_load t38 rfl (Rd.loc (i := 0) rfl rfl)) rfl (cT (cI (cT (cI (cT cP))))) ?_
    refine oQ rfl (q_fieldAddr s24 rfl rfl rfl) rfl (cT (cI (cT (cI (cT cP))))) ?_
    refine oQ rfl (q_load t22 rfl (Rd.blk (ix 1 rfl) rfl)) rfl (cT (cI (cT (cI (cT cP))))) ?_
    refine oQ rfl (q_move rfl) rfl (cT (cI (cT (cI (cT cP))))) ?_
    refine oQ rfl (q_index Try.underlying22 t33 rfl (ix 3 rfl) (by simp) rfl rfl (lt_of_get hy)) rfl (cT (cI (cT (cI (cT cP))))) ?_
    refine oQ rfl (q_fieldAddr s33 rfl rfl rfl) rfl (cT (cI (cT (cI (cT cP))))) ?_
    refine oQ rfl (q_load t3 rfl (Rd.sl (ix 3 rfl) (map_get hy) rfl)) rfl (cT (cI (cT (cI (cT cP))))) ?_
    refine oQ rfl (q_move rfl) rfl (cT (cI (cT (cI (cT cP))))) ?_
    refine oQ rfl (q_eql rfl rfl) rfl (cT (cI (cT (cI (cT cP))))) ?_
    refine AtO.two ?_ ?_
    ·
     refine AtO.loud rfl (l_buildSlice Try.underlying37 t3 rfl rfl rfl rfl rfl) rfl (by rintro _ _ _ ⟨_, rfl, rfl, rfl⟩; exact ⟨fun _ h => h, d_ (k_ (d_ (d_ (d_ (k_ r_)))))⟩) ?_
     rintro _ _ _ ⟨b5, rfl, rfl, rfl⟩
     refine AtO.two ?_ ?_
     ·
      refine AtO.loud rfl (l_append rfl Try.underlying37 t3 rfl rfl hO1 (by simp [toI]; omega) (i := 2) rfl rfl (news := [rowI (q : Int)]) (by simp [rowI]) (RdS.loc (i := 0) rfl (m := 1) rfl) rfl rfl rfl (by omega) (by unfold maxLen; omega)) rfl (by rintro _ _ _ ⟨_, _, _, rfl, _, rfl, rfl⟩; exact ⟨fun _ h => h, (d_ (k_ (d_ (d_ (d_ (k_ r_))))))⟩) ?_
      rintro _ _ _ ⟨a3, c3, M3, rfl, ow3, rfl, rfl⟩
      refine oQ rfl (q_fieldAddr s40 rfl rfl rfl) rfl (cT (cI (cT (cI (cT cP))))) ?_
      refine AtO.loud rfl (l_buildSlice Try.underlying38 t4 rfl rfl rfl rfl rfl) rfl (by rintro _ _ _ ⟨_, rfl, rfl, rfl⟩; exact ⟨fun _ h => h, d_ (d_ (k_ (d_ (d_ (d_ (k_ r_))))))⟩) ?_
      rintro _ _ _ ⟨b6, rfl, rfl, rfl⟩
      refine AtO.loudA rfl (l_append rfl Try.underlying38 t4 rfl rfl hO2 (by simp; omega) (i := 4) rfl rfl (news := [rowB (decide (y.right = (p : Int)))]) (by simp [rowB]) (RdS.loc (i := 0) rfl (m := 1) rfl) rfl rfl rfl (by omega) (by unfold maxLen; omega)) rfl (by rintro _ _ _ ⟨_, _, _, rfl, _, rfl, rfl⟩; exact ⟨fun _ h => h, (d_ (d_ (k_ (d_ (d_ (d_ (k_ r_)))))))⟩) ?_
      rintro _ _ _ ⟨a4, c4, M4, rfl, ow4, rfl, rfl⟩
      refine AtO.done ?_
      refine At.loudN (l_store t37 rfl rfl (i := 2) rfl rfl rfl rfl) ?_
      rintro _ _ _ ⟨rfl, rfl⟩
      refine aQ (q_fieldAddr s40 rfl rfl rfl) rfl ?_
      refine At.loudN (l_store t38 rfl rfl (i := 2) rfl rfl rfl rfl) ?_
      rintro _ _ _ ⟨rfl, rfl⟩
      refine aN ?_
      refine At.front 4 rfl ?_
      refine At.front 4 rfl ?_
      refine At.front 4 rfl ?_
      refine aT ?_
      exact At.meetK (⟨a3, c3, M3⟩, ⟨a4, c4, M4⟩) ⟨by rw [toI_snoc]; simpa using ow3, by rw [← hyr]; simpa using ow4⟩ (Tells.meet 19 trivial rfl rfl) (fun _ h => h.2) (k_ (k_ (k_ (d_ (d_ r_)))))
     ·
      refine AtO.loud rfl (l_buildSlice Try.underlying38 t4 rfl rfl rfl rfl rfl) rfl (by rintro _ _ _ ⟨_, rfl, rfl, rfl⟩; exact ⟨fun _ h => h, d_ (d_ (k_ (d_ (d_ (d_ (k_ r_))))))⟩) ?_
      rintro _ _ _ ⟨b7, rfl, rfl, rfl⟩
      refine AtO.loud rfl (l_append rfl Try.underlying37 t3 rfl rfl hO1 (by simp [toI]; omega) (i := 3) rfl rfl (news := [rowI (q : Int)]) (by simp [rowI]) (RdS.loc (i := 1) rfl (m := 1) rfl) rfl rfl rfl (by omega) (by unfold maxLen; omega)) rfl (by rintro _ _ _ ⟨_, _, _, rfl, _, rfl, rfl⟩; exact ⟨fun _ h => h, (d_ (d_ (k_ (d_ (d_ (d_ (k_ r_)))))))⟩) ?_
      rintro _ _ _ ⟨a3, c3, M3, rfl, ow3, rfl, rfl⟩
      refine oQ rfl (q_fieldAddr s40 rfl rfl rfl) rfl (cT (cI (cT (cI (cT cP))))) ?_
      refine AtO.loudA rfl (l_append rfl Try.underlying38 t4 rfl rfl hO2 (by simp; omega) (i := 4) rfl rfl (news := [rowB (decide (y.right = (p : Int)))]) (by simp [rowB]) (RdS.loc (i := 0) rfl (m := 1) rfl) rfl rfl rfl (by omega) (by unfold maxLen; omega)) rfl (by rintro _ _ _ ⟨_, _, _, rfl, _, rfl, rfl⟩; exact ⟨fun _ h => h, (d_ (d_ (k_ (d_ (d_ (d_ (k_ r_)))))))⟩) ?_
      rintro _ _ _ ⟨a4, c4, M4, rfl, ow4, rfl, rfl⟩
      refine AtO.done ?_
      refine At.loudN (l_store t37 rfl rfl (i := 2) rfl rfl rfl rfl) ?_
      rintro _ _ _ ⟨rfl, rfl⟩
      refine aQ (q_fieldAddr s40 rfl rfl rfl) rfl ?_
      refine At.loudN (l_store t38 rfl rfl (i := 2) rfl rfl rfl rfl) ?_
      rintro _ _ _ ⟨rfl, rfl⟩
      refine aN ?_
      refine At.front 4 rfl ?_
      refine At.front 4 rfl ?_
      refine At.front 4 rfl ?_
      refine aT ?_
      exact At.meetK (⟨a3, c3, M3⟩, ⟨a4, c4, M4⟩) ⟨by rw [toI_snoc]; simpa using ow3, by rw [← hyr]; simpa using ow4⟩ (Tells.meet 19 trivial rfl rfl) (fun _ h => h.2) (k_ (k_ (k_ (d_ (d_ r_)))))
    ·
     refine AtO.loud rfl (l_buildSlice Try.underlying38 t4 rfl rfl rfl rfl rfl) rfl (by rintro _ _ _ ⟨_, rfl, rfl, rfl⟩; exact ⟨fun _ h => h, d_ (k_ (d_ (d_ (d_ (k_ r_)))))⟩) ?_
     rintro _ _ _ ⟨b8, rfl, rfl, rfl⟩
     refine AtO.loud rfl (l_buildSlice Try.underlying37 t3 rfl rfl rfl rfl rfl) rfl (by rintro _ _ _ ⟨_, rfl, rfl, rfl⟩; exact ⟨fun _ h => h, d_ (d_ (k_ (d_ (d_ (d_ (k_ r_))))))⟩) ?_
     rintro _ _ _ ⟨b9, rfl, rfl, rfl⟩
     refine AtO.loud rfl (l_append rfl Try.underlying37 t3 rfl rfl hO1 (by simp [toI]; omega) (i := 3) rfl rfl (news := [rowI (q : Int)]) (by simp [rowI]) (RdS.loc (i := 0) rfl (m := 1) rfl) rfl rfl rfl (by omega) (by unfold maxLen; omega)) rfl (by rintro _ _ _ ⟨_, _, _, rfl, _, rfl, rfl⟩; exact ⟨fun _ h => h, (d_ (d_ (k_ (d_ (d_ (d_ (k_ r_)))))))⟩) ?_
     rintro _ _ _ ⟨a3, c3, M3, rfl, ow3, rfl, rfl⟩
     refine oQ rfl (q_fieldAddr s40 rfl rfl rfl) rfl (cT (cI (cT (cI (cT cP))))) ?_
     refine AtO.loudA rfl (l_append rfl Try.underlying38 t4 rfl rfl hO2 (by simp; omega) (i := 4) rfl rfl (news := [rowB (decide (y.right = (p : Int)))]) (by simp [rowB]) (RdS.loc (i := 1) rfl (m := 1) rfl) rfl rfl rfl (by omega) (by unfold maxLen; omega)) rfl (by rintro _ _ _ ⟨_, _, _, rfl, _, rfl, rfl⟩; exact ⟨fun _ h => h, (d_ (d_ (k_ (d_ (d_ (d_ (k_ r_)))))))⟩) ?_
     rintro _ _ _ ⟨a4, c4, M4, rfl, ow4, rfl, rfl⟩
     refine AtO.done ?_
     refine At.loudN (l_store t37 rfl rfl (i := 2) rfl rfl rfl rfl) ?_
     rintro _ _ _ ⟨rfl, rfl⟩
     refine aQ (q_fieldAddr s40 rfl rfl rfl) rfl ?_
     refine At.loudN (l_store t38 rfl rfl (i := 2) rfl rfl rfl rfl) ?_
     rintro _ _ _ ⟨rfl, rfl⟩
     refine aN ?_
     refine At.front 4 rfl ?_
     refine At.front 4 rfl ?_
     refine At.front 4 rfl ?_
     refine aT ?_
     exact At.meetK (⟨a3, c3, M3⟩, ⟨a4, c4, M4⟩) ⟨by rw [toI_snoc]; simpa using ow3, by rw [← hyr]; simpa using ow4⟩ (Tells.meet 19 trivial rfl rfl) (fun _ h => h.2) (k_ (k_ (k_ (d_ (d_ r_)))))
   intro j0 hMt
   obtain ⟨⟨a3, c3, M3⟩, ⟨a4, c4, M4⟩⟩ := j0
   obtain ⟨hO3, hO4⟩ := hMt
   refine aR ?_
   refine aS 2 rfl rfl ?_
   refine aN (At.inNormal ?_)
   refine At.front 2 rfl ?_
   refine At.front 2 rfl ?_
   refine At.front 2 rfl ?_
   refine aT ?_
   exact At.againK ((q, wu2, wb2), (n1 + 1, us ++ [q], a3, c3, M3), (n2 + 1, rs ++ [decide (n.right = (p : Int))], a4, c4, M4)) ⟨hW2, by rw [hU]; simp, by rw [hB]; simp, hO3, hO4, by simp at hsz ⊢; omega, by simp [hrl], by simp [hn1], by simp [hn2]⟩ (by simp) (Tells.end 12 ⟨rfl, trivial⟩ rfl rfl) (fun _ h => h) (k_ (k_ (k_ r_)))
  ·
   have hpr : (p : Int) = t.p.root := Classical.not_not.1 hne
   rw [hpr] at hW
   obtain ⟨rfl, rfl⟩ := way_root hg hW
   subst hn1
   subst hn2
   have hlu : (toI us).length = us.length := toI_length us
   refine At.exit (At.thenExit (At.thenExit (At.inHere rfl (aT (aE (aR ?_))))))
   refine aF s40 t37 rfl rfl rfl (Rd.loc (i := 0) rfl rfl) rfl rfl ?_
   refine At.say 60 (.slice a1 (toI us).length c1) rfl (by rw [hlu]; rfl) ?_
   refine At.front 1 rfl ?_
   refine At.call en107 rfl (rev107 (toI us) a1 c1 M1 hO1 (by rw [hlu]; simp at hsz; omega)) (fun _ _ => trivial) (List.Perm.refl _) rfl ?_
   rintro _ _ _ ⟨M5, rfl, rfl, hO5⟩
   refine aN (aT (aE (aR ?_)))
   refine aF s40 t38 rfl rfl rfl (Rd.loc (i := 1) rfl rfl) rfl rfl ?_
   refine At.front 2 rfl ?_
   refine At.call en108 rfl (rev108 rs a2 c2 M2 hO2 (by simp at hsz; omega)) (fun _ _ => trivial) (List.Perm.refl _) rfl ?_
   rintro _ _ _ ⟨M6, rfl, rfl, hO6⟩
   refine aN (aT (aE (aR ?_)))
   rw [toI_rev] at hO5
   refine At.freezeOwn 1 hO5 rfl ?_
   refine At.freezeOwn 0 hO6 rfl ?_
   refine aQ (q_loadS t40 rfl (RdS.loc (i := 0) rfl (m := 3) rfl) rfl) rfl ?_
   refine At.loudN (l_store t40 rfl rfl (i := 2) rfl rfl rfl rfl) ?_
   rintro _ _ _ ⟨rfl, rfl⟩
   refine aN (aT (At.ret ?_))
   exact At.results (Γr := [intsP ⟨a1, c1, toI us.reverse⟩, boolsP ⟨a2, c2, rs.reverse⟩]) (M := []) rfl (RVals.cons (RVal.cellS rfl t40 (RdS.loc (i := 2) rfl (m := 3) rfl) rfl) RVals.nil) (ix 3 rfl) (fun _ h => ⟨h.2.1, h.1, trivial⟩) (d_ (d_ (d_ r_))) ⟨⟨a1, c1, toI us.reverse⟩, ⟨a2, c2, rs.reverse⟩, U, B, by rw [path_val]; rfl, rfl, rfl, by rw [hU]; rfl, by rw [hB]; rfl, hW0⟩
theorem next46 (t : Tr) (at_ : Int) : Con Try.prog 46 [t.val, .int .i64 at_] [ndsP t.ns, psP t.ns.l] [] (fun v Γ M => v = .tuple #[.int .i64 ((nextT t.p at_).getD 0 : Nat), .bool (nextT t.p at_).isSome] ∧ Γ = [] ∧ M = []) := by
 refine Con.body 23 Try.func46 rfl Try.ntmps46 rfl fun X H₀ L₀ => ?_
 refine aE (aR ?_)
 refine At.loud (l_box rfl) rfl ?_
 rintro _ _ _ ⟨b1, rfl, rfl, rfl⟩
 refine At.freeze 0 (φ := blk b1 _) rfl (fun _ h => blk_def.2 ⟨_, _, h⟩) ?_
 refine aS 2 rfl rfl ?_
 refine aN (aT (aE (aE (aR ?_))))
 refine aQ (q_loadS t24 rfl (RdS.blk (.head _) (m := 2) rfl) rfl) rfl ?_
 refine aS 1 rfl rfl ?_
 refine At.call en80 rfl (leaf80 _ _) (fun _ h => ⟨h.2.2.1, h.2.2.2.1, trivial⟩) (List.Perm.refl _) rfl ?_
 rintro _ _ _ ⟨rfl, rfl, rfl⟩
 refine aS 1 rfl rfl ?_
 refine aN (aT ?_)
 refine At.cond rfl (fun hlf => ?_) (fun hlf => ?_)
 ·
  refine aE (aR ?_)
  refine aS 2 rfl rfl ?_
  refine aN (aT (At.ret (At.thenRet ?_)))
  exact At.results (Γr := []) (M := []) rfl (RVals.cons (RVal.tmp rfl) (RVals.cons (RVal.tmp rfl) RVals.nil)) (ix 1 rfl) (fun _ _ => trivial) r_ ⟨by rw [next_no (not_t hlf)]; rfl, rfl, rfl⟩
 ·
  obtain ⟨s, i, n, hs, rfl, hn, hnr⟩ := leaf_yes (not_f hlf)
  have hil := lt_of_get hn
  have hnx := next_eq hs (not_f hlf)
  refine At.skip (aT (aE (aR ?_)))
  refine aQ (q_loadS t24 rfl (RdS.blk (.head _) (m := 2) rfl) rfl) rfl ?_
  refine aS 1 rfl rfl ?_
  refine At.call en81 rfl (path81 t s hs i hil) (fun _ h => ⟨h.2.2.1, h.2.2.2.1, trivial⟩) (List.Perm.refl _) rfl ?_
  rintro _ _ _ ⟨us, rs, u, b, rfl, rfl, rfl, hus, hrs, hW⟩
  refine At.loud (l_alloc t40) rfl ?_
  rintro _ _ _ ⟨b2, rfl, rfl, rfl⟩
  refine At.loudN (l_store t40 rfl rfl (i := 0) rfl rfl rfl rfl) ?_
  rintro _ _ _ ⟨rfl, rfl⟩
  refine aN (aT (aE (aE (aR ?_))))
  refine aQ (q_loadS t40 rfl (RdS.loc (i := 0) rfl (m := 3) rfl) rfl) rfl ?_
  refine At.call en27 rfl (top27 _) (fun _ _ => trivial) (List.Perm.refl _) rfl ?_
  rintro _ _ _ ⟨rfl, rfl, rfl⟩
  refine aN (aT ?_)
  refine At.cond rfl (fun htop => ?_) (fun htop => ?_)
  ·
   have hu0 : u = [] := by
    have h := of_decide_eq_true htop
    rw [show us.l = toI u from hus] at h
    exact List.map_eq_nil_iff.1 h
   have e3 : s.nb i = none := by
    rcases way_nb hs hn hnr hW with ⟨_, _, e3⟩ | ⟨u2, b2, q, m, side, l, r, e, _⟩
    ·exact e3
    ·rw [hu0] at e; simp at e
   rw [e3] at hnx
   refine aE (aR ?_)
   refine aS 2 rfl rfl ?_
   refine aN (aT (At.ret (At.thenRet ?_)))
   exact At.results (Γr := []) (M := []) rfl (RVals.cons (RVal.tmp rfl) (RVals.cons (RVal.tmp rfl) RVals.nil)) (ix 3 rfl) (fun _ _ => trivial) (d_ r_) ⟨by rw [hnx]; rfl, rfl, rfl⟩
  ·
   rcases way_nb hs hn hnr hW with ⟨e1, _, _⟩ | ⟨u2, b2, q, m, side, l, r, rfl, rfl, hm, hmr, he, hl, hr, hnb⟩
   ·exact absurd (show us.l = [] by rw [hus, e1]; rfl) (of_decide_eq_false htop)
   obtain ⟨y, hy, hyp⟩ := p_get (u := t) rfl hm
   have hsd : rs.l.getLast?.getD false = side := by rw [hrs]; exact last_snoc _ _
   have hH : Hangs t.p.ns (if side then l else r) (if rs.l.getLast?.getD false then y.left else y.right) := by
    rw [hsd]
    have e1 : y.left = m.left := by rw [← hyp]; rfl
    have e2 : y.right = m.right := by rw [← hyp]; rfl
    cases side
    ·simpa [e2] using hr
    ·simpa [e1] using hl
   rw [hnb] at hnx
   refine At.skip (aT (aE ?_))
   refine At.draw 6 (.q 0 (.q 1 (.q 2 (.q 4 (.o 3 (.o 5 (.e))))))) _ (List.Sublist.refl _) mixed (by kernel_rfl) rfl ?_
   refine oQ rfl (q_loadS t24 rfl (RdS.blk (ix 2 rfl) (m := 2) rfl) rfl) rfl (cT cP) ?_
   refine oQ rfl (q_loadS t24 rfl (RdS.blk (ix 2 rfl) (m := 2) rfl) rfl) rfl (cT cP) ?_
   refine oQ rfl (q_loadS t40 rfl (RdS.loc (i := 0) rfl (m := 3) rfl) rfl) rfl (cT cP) ?_
   refine oQ rfl (q_loadS t40 rfl (RdS.loc (i := 0) rfl (m := 3) rfl) rfl) rfl (cT cP) ?_
   refine AtO.callA rfl en83 rfl (other83 t us rs (i : Int) q u2 y hus hy) (fun _ h => ⟨h.2.2.2.2.1, h.2.2.2.2.2.1, h.1, h.2.1, trivial⟩) (List.Perm.refl _) rfl r_ ?_
   rintro _ _ _ ⟨rfl, rfl, rfl⟩
   refine AtO.callA rfl en32 rfl (right32 ⟨(i : Int), us, rs⟩) (fun _ h => ⟨h.2.1, trivial⟩) (List.Perm.refl _) rfl r_ ?_
   rintro _ _ _ ⟨rfl, rfl, rfl⟩
   refine AtO.done ?_
   refine At.call en82 rfl (end82 t (if side then l else r) _ _ hH) (fun _ h => ⟨h.2.2.2.2.1, h.2.2.2.2.2.1, trivial⟩) (List.Perm.refl _) rfl ?_
   rintro _ _ _ ⟨rfl, rfl, rfl⟩
   refine aS 2 rfl rfl ?_
   refine aN (aT (At.ret ?_))
   exact At.results (Γr := []) (M := []) rfl (RVals.cons (RVal.tmp rfl) (RVals.cons (RVal.tmp rfl) RVals.nil)) (ix 3 rfl) (fun _ _ => trivial) (d_ r_) ⟨end_next hnx hsd, rfl, rfl⟩
end Go.Proofs.Ytmkodknmknfdkaa
set_option linter.unusedVariables false
set_option linter.unusedSimpArgs false
namespace Go.Proofs.Ytmkodknmknfdkaa
open E
def splitRaw (t : PT) (i : Nat) (n : Nod) : PT :=
 ⟨t.root, t.ns.set i ⟨true, (n.l.getD (n.l.length / 2) default).k, (t.ns.length : Int), (t.ns.length : Int) + 1, [], 0⟩ ++ [⟨false, 0, 0, 0, n.l.take (n.l.length / 2), 0⟩, ⟨false, 0, 0, 0, n.l.drop (n.l.length / 2), 0⟩]⟩
def splitT (t : PT) (a : Int) : Option PT := if leafT t a then (match t.ns[a.toNat]? with
 | none => none
 | some n => if n.l.length < 2 then none else if 2000 < t.ns.length + 2 then none else plainT (splitRaw t a.toNat n)) else none
def optD (o : Option PT) : PT := o.getD ⟨0, []⟩
theorem split_no {t : PT} {a : Int} (h : leafT t a = false) : splitT t a = none := by simp [splitT, h]
theorem split_few {t : PT} {i : Nat} {n : Nod} (hn : t.ns[i]? = some n) (h : n.l.length < 2) : splitT t (i : Int) = none := by
 unfold splitT
 split
 ·simp only [Int.toNat_natCast, hn, if_pos h]
 ·rfl
theorem split_big {t : PT} {i : Nat} (h : 2000 < t.ns.length + 2) : splitT t (i : Int) = none := by
 unfold splitT
 split
 ·split
  ·rfl
  ·split
   ·rfl
   ·first | rfl | rw [if_pos h]
 ·rfl
theorem split_raw {t : PT} {i : Nat} {n : Nod} (hl : leafT t (i : Int) = true) (hn : t.ns[i]? = some n) (h1 : ¬ n.l.length < 2) (h2 : ¬ 2000 < t.ns.length + 2) : splitT t (i : Int) = plainT (splitRaw t i n) := by
 unfold splitT
 rw [if_pos hl]
 simp only [Int.toNat_natCast, hn, if_neg h1, if_neg h2]
def SplitEnd (o : Option PT) (v : Value) (Γ : List SProp) (M : E.Loc) : Prop := ∃ u : Tr, v = .tuple #[u.val, .bool o.isSome] ∧ Γ = [ndsP u.ns, psP u.ns.l] ∧ M = [] ∧ u.p = optD o
theorem plainT_some (t : PT) : (plainT t).isSome = (mayT t).isSome := by unfold plainT; cases mayT t <;> rfl
theorem prs_take {H : Hp} {s : Sl Pr} {m : Nat} (h : (prsP s).holds H) (hm : m ≤ s.l.length) : (prsP ⟨subA s.a s.c 2 0, s.c, s.l.take m⟩).holds H := by
 have h1 := sl_sub (l := 0) (h := m) h (Nat.zero_le _) (by simpa using hm)
 simpa [prsP, List.map_take] using h1
theorem prs_drop {H : Hp} {s : Sl Pr} {m : Nat} (h : (prsP s).holds H) (hm : m ≤ s.l.length) : (prsP ⟨subA s.a s.c 2 m, s.c - m, s.l.drop m⟩).holds H := by
 have h1 := sl_sub (l := m) (h := s.l.length) h hm (by simp)
 have e : ((s.l.map rowP).drop m).take (s.l.length - m) = (s.l.drop m).map rowP := by
  rw [← List.map_drop, List.take_of_length_le (by simp)]
 rw [e] at h1
 exact h1
theorem half_wrap (n : Nat) (h : n ≤ 1000000) : IntKind.i64.wrap (Int.tdiv (n : Int) 2) = ((n / 2 : Nat) : Int) := by
 have e : Int.tdiv (n : Int) 2 = ((n / 2 : Nat) : Int) := rfl
 rw [e]
 exact wrapI (by omega) (by omega)
theorem app2_val (r : Int) (a : Option Addr) (c : Nat) (l : List Nd) (i : Nat) (m x y : Nd) : Tr.val ⟨r, ⟨a, c, l.set i m ++ [x, y]⟩⟩ = .agg #[.int .i64 r, .slice a (l.length + 2) c] := by simp [Tr.val, Sl.val]
theorem take_val {s : Sl Pr} {m : Nat} (h : m ≤ s.l.length) : Sl.val (⟨subA s.a s.c 2 0, s.c, s.l.take m⟩ : Sl Pr) = .slice (subA s.a s.c 2 0) m s.c := by
 simp [Sl.val]; omega
theorem drop_val {s : Sl Pr} {m : Nat} : Sl.val (⟨subA s.a s.c 2 m, s.c - m, s.l.drop m⟩ : Sl Pr) = .slice (subA s.a s.c 2 m) (s.l.length - m) (s.c - m) := by simp [Sl.val]
theorem split_small {l : List Nd} {i : Nat} {y : Nd} {k : Int} {N1 N2 : Int} {a1 a2 : Option Addr} {c1 c2 m : Nat} (h : smallP l) (hy : y.ps.l.length ≤ 1000000) :
  smallP (l.set i (⟨true, k, N1, N2, ⟨none, 0, []⟩, 0⟩ : Nd) ++ [(⟨false, 0, 0, 0, ⟨a1, c1, y.ps.l.take m⟩, 0⟩ : Nd), (⟨false, 0, 0, 0, ⟨a2, c2, y.ps.l.drop m⟩, 0⟩ : Nd)]) := fun n hn => by
 rcases List.mem_append.1 hn with hn | hn
 ·exact small_set h (by simp) n hn
 ·rcases List.mem_cons.1 hn with rfl | hn
  ·simp; omega
  ·rw [List.mem_singleton.1 hn]; simp; omega
theorem split_p {u : Tr} {t : PT} {i : Nat} {n : Nod} {y : Nd} {a a1 a2 : Option Addr} {c c1 c2 : Nat} (h : u.p = t) (hy : y.ps.l = n.l) (hl : u.ns.l.length = t.ns.length) :
  (⟨u.root, ⟨a, c, u.ns.l.set i (⟨true, (y.ps.l.getD (y.ps.l.length / 2) default).k, (u.ns.l.length : Int), (u.ns.l.length : Int) + 1, ⟨none, 0, []⟩, 0⟩ : Nd) ++
   [(⟨false, 0, 0, 0, ⟨a1, c1, y.ps.l.take (y.ps.l.length / 2)⟩, 0⟩ : Nd), (⟨false, 0, 0, 0, ⟨a2, c2, y.ps.l.drop (y.ps.l.length / 2)⟩, 0⟩ : Nd)]⟩⟩ : Tr).p = splitRaw t i n := by
 subst h
 rw [hl, hy]
 simp [Tr.p, Nd.p, splitRaw, List.map_set]
def rowS (z : Sl Pr) : List Value := [z.val]
def slsP (s : Sl (Sl Pr)) : SProp := sl s.a s.c 1 (s.l.map rowS)
def allS (l : List (Sl Pr)) : SProp := ⟨fun H => ∀ z ∈ l, (prsP z).holds H, fun _ _ h k z hz => (prsP z).mono _ _ h (k z hz)⟩
theorem allS2 {H : Hp} {x y : Sl Pr} (hx : (prsP x).holds H) (hy : (prsP y).holds H) : (allS [x, y]).holds H := fun z hz => by
 rcases List.mem_cons.1 hz with rfl | hz
 ·exact hx
 ·rw [List.mem_singleton.1 hz]; exact hy
theorem allS_get {H : Hp} {l : List (Sl Pr)} {k : Nat} {z : Sl Pr} (h : (allS l).holds H) (hz : l[k]? = some z) : (prsP z).holds H := h z (List.mem_of_getElem? hz)
def catU (l : List (Sl Pr)) (k : Nat) : List Pr := (l.take k).flatMap (·.l)
theorem cat_step {l : List (Sl Pr)} {k : Nat} {z : Sl Pr} (h : l[k]? = some z) : catU l (k + 1) = catU l k ++ z.l := by
 rw [catU, catU, List.take_succ_eq_append_getElem (lt_of_get h), List.flatMap_append, (List.getElem?_eq_some_iff.1 h).2]
 simp
theorem cat_le {l : List (Sl Pr)} (h : ∀ z ∈ l, z.l.length ≤ 1000000) : ∀ k, k ≤ l.length → (catU l k).length ≤ k * 1000000
 | 0, _ => by simp [catU]
 | k + 1, hk => by
  obtain ⟨z, hz⟩ := get_of_lt (l := l) (i := k) (by omega)
  have h1 := cat_le h k (by omega)
  have h2 := h z (List.mem_of_getElem? hz)
  rw [cat_step hz, List.length_append, Nat.succ_mul]
  omega
theorem cat2 (x y : Sl Pr) : catU [x, y] 2 = x.l ++ y.l := by simp [catU]
def outBox (b : Nat) (a : Option Addr) (n c : Nat) : E.Seg := [(b, .cells #[.int .i64 0, .slice a n c] 24 (0, 0))]
def Lay110End (t : Tr) (s : Sh) (b : Nat) (o : List Nd) (v : Value) (Γ : List SProp) (M : E.Loc) : Prop :=
 ∃ (o' : List Nd) (a' : Option Addr) (c' : Nat) (M' : E.Seg), v = .int .i64 (o.length : Int) ∧ Γ = [psP o'] ∧ M = [outBox b a' (o ++ o').length c', M'] ∧ E.Own 33 6 ((o ++ o').map rowN) a' c' M' ∧ o'.map Nd.p = s.lay t.p.ns o.length
def Lay110 (t : Tr) (s : Sh) : Prop := ∀ (at_ : Int), Hangs t.p.ns s at_ → ∀ (b : Nat) (o : List Nd) (a : Option Addr) (c : Nat) (Mo : E.Seg), E.Own 33 6 (o.map rowN) a c Mo → o.length + s.size ≤ 1000000 →
 Con Try.prog 110 [t.val, .int .i64 at_, .pointer (some ⟨b, 0, none⟩)] [ndsP t.ns, psP t.ns.l] [outBox b a o.length c, Mo] (Lay110End t s b o)
theorem E.At.piece0 {X : Cx} {n : Nat} {K : Act → World → Prop} {env : E.Env} {Γ : List SProp} {L : E.Loc} {S : E.Seg} (S' : E.Seg) (h : S = S') (k : E.At X n K env Γ (S' :: L)) : E.At X n K env Γ (S :: L) := h ▸ k
theorem lay110_end {t : Tr} {i : Nat} {x n : Nd} {l r : Sh} {b : Nat} {o o1 o2 : List Nd} {a : Option Addr} {c : Nat} {M : E.Seg} {q : List Nd} {N : Nat} (hO : E.Own 33 6 (((o ++ n :: o1) ++ o2).map rowN) a c M) (hg : t.p.ns.getD i default = x.p) (hl1 : o1.length = l.size)
  (he1 : o1.map Nd.p = l.lay t.p.ns (o ++ q).length) (he2 : o2.map Nd.p = r.lay t.p.ns (o ++ n :: o1).length) (hq : q.length = 1) (hN : N = ((o ++ n :: o1) ++ o2).length)
  (hn : n = { x with left := ((o.length + 1 : Nat) : Int), right := ((o.length + 1 + o1.length : Nat) : Int) }) : Lay110End t (.node i l r) b o (.int .i64 (o.length : Int)) [psP (n :: (o1 ++ o2))] [outBox b a N c, M] := by
 subst hN
 refine ⟨n :: (o1 ++ o2), a, c, M, rfl, rfl, by simp, by simpa using hO, ?_⟩
 simp only [Sh.lay, hg, List.map_cons, List.map_append]
 rw [he1, he2, hn]
 simp only [Nd.p, List.length_append, List.length_cons, hq, hl1]
 rw [show o.length + (l.size + 1) = o.length + 1 + l.size by omega]
def LaidEnd (s : Sh) (ns : List Nod) (v : Value) (Γ : List SProp) (M : E.Loc) : Prop :=
 ∃ (u : Tr) (M' : E.Seg), v = u.val ∧ Γ = [psP u.ns.l] ∧ M = [M'] ∧ E.Own 33 6 (u.ns.l.map rowN) u.ns.a u.ns.c M' ∧ u.p = ⟨0, s.lay ns 0⟩
def Sh.cut (i : Nat) : Sh → Sh
 | .leaf j => .leaf j
 | .node j l r => if l = .leaf i then r else if r = .leaf i then l else .node j (l.cut i) (r.cut i)
def Sh.re (q : Nat) : Sh → Sh
 | .leaf _ => .leaf q
 | .node _ l r => .node q l r
def Sh.cutR (i : Nat) : Sh → Sh
 | .leaf j => .leaf j
 | .node j l r => if l = .leaf i then r.re j else if r = .leaf i then l.re j else .node j (l.cutR i) (r.cutR i)
def joinN (ns : List Nod) (i m : Nat) (side : Bool) : Nod := ⟨false, 0, 0, 0, if side then (ns.getD m default).l ++ (ns.getD i default).l else (ns.getD i default).l ++ (ns.getD m default).l, 0⟩
def joinT (t : PT) (a : Int) : Option PT := if leafT t a then (match mayT t with
 | none => none
 | some s => match s.nb a.toNat with
  | none => none
  | some (_, side, m) => some ⟨0, (s.cut a.toNat).lay (t.ns.set m (joinN t.ns a.toNat m side)) 0⟩) else none
theorem join_next {t : PT} {a : Int} : (joinT t a).isSome = (nextT t a).isSome := by
 unfold joinT nextT
 split
 ·cases mayT t with
  | none => rfl
  | some s =>
   simp only []
   cases s.nb a.toNat with
   | none => rfl
   | some x => rfl
 ·rfl
theorem join_no {t : PT} {a : Int} (h : (nextT t a).isSome = false) : joinT t a = none := none_of (by rw [join_next]; exact h)
theorem join_eq {t : PT} {s : Sh} {i q m : Nat} {side : Bool} (hs : mayT t = some s) (hl : leafT t (i : Int) = true) (h : s.nb i = some (q, side, m)) : joinT t (i : Int) = some ⟨0, (s.cut i).lay (t.ns.set m (joinN t.ns i m side)) 0⟩ := by
 simp [joinT, hl, hs, h]
theorem hangs_congr {ns ns' : List Nod} {s : Sh} {a : Int} (h : Hangs ns s a) (he : ∀ p ∈ s.places, ns'[p]? = ns[p]?) : Hangs ns' s a := by
 induction s generalizing a with
 | leaf i =>
  obtain ⟨rfl, n, hn, hr⟩ := h
  exact ⟨rfl, n, by rw [he i (by simp [Sh.places])]; exact hn, hr⟩
 | node i l r h1 h2 =>
  obtain ⟨rfl, n, hn, hr, hl, hr'⟩ := h
  exact ⟨rfl, n, by rw [he i (by simp [Sh.places])]; exact hn, hr, h1 hl fun p hp => he p (by simp [Sh.places, hp]), h2 hr' fun p hp => he p (by simp [Sh.places, hp])⟩
theorem lay_congr {ns ns' : List Nod} {s : Sh} (he : ∀ p ∈ s.places, ns'[p]? = ns[p]?) (b : Nat) : s.lay ns' b = s.lay ns b := by
 induction s generalizing b with
 | leaf i => simp only [Sh.lay, List.getD_eq_getElem?_getD, he i (by simp [Sh.places])]
 | node i l r h1 h2 =>
  simp only [Sh.lay, List.getD_eq_getElem?_getD, he i (by simp [Sh.places])]
  rw [h1 fun p hp => he p (by simp [Sh.places, hp]), h2 fun p hp => he p (by simp [Sh.places, hp])]
theorem hangs_leafset {ns : List Nod} {s : Sh} {a : Int} {m : Nat} {n n' : Nod} (h : Hangs ns s a) (hn : ns[m]? = some n) (hr : n.route = false) (hr' : n'.route = false) : Hangs (ns.set m n') s a := by
 have key : ∀ (j : Nat) (x : Nod), ns[j]? = some x → ∃ y, (ns.set m n')[j]? = some y ∧ y.route = x.route ∧ (x.route = true → y = x) := by
  intro j x hx
  by_cases hij : m = j
  ·subst hij
   rw [hn] at hx
   cases hx
   exact ⟨n', by rw [List.getElem?_set]; simp [lt_of_get hn], by rw [hr, hr'], fun h => by rw [hr] at h; cases h⟩
  ·exact ⟨x, by rw [List.getElem?_set_ne hij]; exact hx, rfl, fun _ => rfl⟩
 induction s generalizing a with
 | leaf j =>
  obtain ⟨rfl, x, hx, hxr⟩ := h
  obtain ⟨y, hy, hyr, _⟩ := key j x hx
  exact ⟨rfl, y, hy, by rw [hyr, hxr]⟩
 | node j l r h1 h2 =>
  obtain ⟨rfl, x, hx, hxr, hl, hrr⟩ := h
  obtain ⟨y, hy, hyr, hyx⟩ := key j x hx
  have hyx := hyx hxr
  subst hyx
  exact ⟨rfl, y, hy, hxr, h1 hl, h2 hrr⟩
/-- What hangs on the other side, put in its route's place. -/
theorem re_hangs {ns : List Nod} {r : Sh} {b : Int} {j : Nat} {z : Nod} (h : Hangs ns r b) (hj : j ∉ r.places) (hjl : j < ns.length) (hz : ns[r.at_]? = some z) : Hangs (ns.set j z) (r.re j) (j : Int) ∧ ∀ c, (r.re j).lay (ns.set j z) c = r.lay ns c := by
 have hset : (ns.set j z)[j]? = some z := by rw [List.getElem?_set]; simp [hjl]
 have hoff : ∀ p, p ∈ r.places → (ns.set j z)[p]? = ns[p]? := fun p hp => List.getElem?_set_ne (fun e => hj (by rw [e]; exact hp))
 cases r with
 | leaf i =>
  obtain ⟨_, n, hn, hr⟩ := h
  have hn' : ns[i]? = some z := hz
  rw [hn] at hn'
  obtain rfl := Option.some.inj hn'
  exact ⟨⟨rfl, _, hset, hr⟩, fun c => by simp only [Sh.re, Sh.lay, getD_of hset, getD_of hn]⟩
 | node i l r =>
  obtain ⟨_, n, hn, hr, hl, hr'⟩ := h
  have hn' : ns[i]? = some z := hz
  rw [hn] at hn'
  obtain rfl := Option.some.inj hn'
  have e1 : ∀ p ∈ l.places, (ns.set j n)[p]? = ns[p]? := fun p hp => hoff p (by simp [Sh.places, hp])
  have e2 : ∀ p ∈ r.places, (ns.set j n)[p]? = ns[p]? := fun p hp => hoff p (by simp [Sh.places, hp])
  refine ⟨⟨rfl, _, hset, hr, hangs_congr hl e1, hangs_congr hr' e2⟩, fun c => ?_⟩
  simp only [Sh.re, Sh.lay, getD_of hset, getD_of hn]
  rw [lay_congr e1, lay_congr e2]
/-- Without a leaf: its route holds what was on the other side. -/
theorem cutR_hangs {ns : List Nod} {s : Sh} {a : Int} {i q m : Nat} {side : Bool} {n z : Nod} (h : Hangs ns s a) (hnd : s.places.Nodup) (hnb : s.nb i = some (q, side, m)) (hq : ns[q]? = some n) (hz : ns[(kidN n (!side)).toNat]? = some z) :
  Hangs (ns.set q z) (s.cutR i) a ∧ ∀ c, (s.cutR i).lay (ns.set q z) c = (s.cut i).lay ns c := by
 induction s generalizing a with
 | leaf j => cases hnb
 | node j l r h1 h2 =>
  obtain ⟨rfl, x, hx, hxr, hl, hrr⟩ := h
  obtain ⟨c1, c2, d1, d2, d3⟩ := nodup_node hnd
  simp only [Sh.nb] at hnb
  simp only [Sh.cutR, Sh.cut]
  split at hnb
  ·rename_i e
   cases hnb
   obtain rfl : n = x := by rw [hq] at hx; exact Option.some.inj hx
   rw [if_pos e, if_pos e]
   have e2 : (kidN n (!false)).toNat = r.at_ := by
    have : kidN n true = n.right := rfl
    rw [Bool.not_false, this, hrr.at0]; simp
   rw [e2] at hz
   exact re_hangs hrr c2 (lt_of_get hq) hz
  ·rename_i e
   split at hnb
   ·rename_i e'
    cases hnb
    obtain rfl : n = x := by rw [hq] at hx; exact Option.some.inj hx
    rw [if_neg e, if_pos e', if_neg e, if_pos e']
    have e2 : (kidN n (!true)).toNat = l.at_ := by
     have : kidN n false = n.left := rfl
     rw [Bool.not_true, this, hl.at0]; simp
    rw [e2] at hz
    exact re_hangs hl c1 (lt_of_get hq) hz
   ·rename_i e'
    rw [if_neg e, if_neg e', if_neg e, if_neg e']
    have qin : ∀ {s' : Sh}, s'.nb i = some (q, side, m) → q ∈ s'.places := by
     intro s'
     induction s' with
     | leaf k => intro h; cases h
     | node k l' r' g1 g2 =>
      intro h
      simp only [Sh.nb] at h
      simp only [Sh.places, List.mem_cons, List.mem_append]
      split at h
      ·cases h; exact .inl rfl
      ·split at h
       ·cases h; exact .inl rfl
       ·split at h
        ·rename_i y hy; cases h; exact .inr (.inl (g1 hy))
        ·exact .inr (.inr (g2 h))
    -- the side on which the leaf does not hang stays as it is
    have cutNo : ∀ {s' : Sh}, i ∉ s'.places → s'.cutR i = s' ∧ s'.cut i = s' := by
     intro s'
     induction s' with
     | leaf k => intro _; exact ⟨rfl, rfl⟩
     | node k l' r' g1 g2 =>
      intro hi
      simp only [Sh.places, List.mem_cons, List.mem_append, not_or] at hi
      have n1 : l' ≠ .leaf i := fun e => hi.2.1 (by rw [e]; simp [Sh.places])
      have n2 : r' ≠ .leaf i := fun e => hi.2.2 (by rw [e]; simp [Sh.places])
      obtain ⟨a1, a2⟩ := g1 hi.2.1
      obtain ⟨b1, b2⟩ := g2 hi.2.2
      simp only [Sh.cutR, Sh.cut, if_neg n1, if_neg n2, a1, a2, b1, b2, and_self]
    split at hnb
    ·rename_i y hy
     cases hnb
     have hqj : q ≠ j := fun e3 => c1 (e3 ▸ qin hy)
     have hqr : q ∉ r.places := d3 q (qin hy)
     obtain ⟨g1, g2⟩ := h1 hl d1 hy
     have hir : i ∉ r.places := d3 i (leaves_places i (nb_mem hy))
     obtain ⟨k1, k2⟩ := cutNo hir
     have er : ∀ p ∈ r.places, (ns.set q z)[p]? = ns[p]? := fun p hp => List.getElem?_set_ne (fun e3 => hqr (by rw [e3]; exact hp))
     have ej : (ns.set q z)[j]? = some x := by rw [List.getElem?_set_ne hqj]; exact hx
     have hsz : (l.cutR i).size = (l.cut i).size := by rw [← Sh.lay_length (ns.set q z) (l.cutR i) 0, g2 0, Sh.lay_length]
     rw [k1, k2]
     refine ⟨⟨rfl, x, ej, hxr, g1, hangs_congr hrr er⟩, fun c => ?_⟩
     simp only [Sh.lay, getD_of ej, getD_of hx, hsz]
     rw [g2, lay_congr er]
    ·rename_i hno
     have hqj : q ≠ j := fun e3 => c2 (e3 ▸ qin hnb)
     have hql : q ∉ l.places := fun h3 => d3 q h3 (qin hnb)
     obtain ⟨g1, g2⟩ := h2 hrr d2 hnb
     have hil : i ∉ l.places := fun h3 => d3 i h3 (leaves_places i (nb_mem hnb))
     obtain ⟨k1, k2⟩ := cutNo hil
     have el : ∀ p ∈ l.places, (ns.set q z)[p]? = ns[p]? := fun p hp => List.getElem?_set_ne (fun e3 => hql (by rw [e3]; exact hp))
     have ej : (ns.set q z)[j]? = some x := by rw [List.getElem?_set_ne hqj]; exact hx
     rw [k1, k2]
     refine ⟨⟨rfl, x, ej, hxr, hangs_congr hl el, g1⟩, fun c => ?_⟩
     simp only [Sh.lay, getD_of ej, getD_of hx]
     rw [g2, lay_congr el]
theorem nb_leafs {s : Sh} {i q m : Nat} {side : Bool} (h : s.nb i = some (q, side, m)) : m ∈ s.leaves := by
 obtain ⟨A, B, e⟩ := nb_beside h
 rw [e]
 cases side <;> simp
theorem re_size (j : Nat) (s : Sh) : (s.re j).size = s.size := by cases s <;> rfl
theorem cutR_size (i : Nat) (s : Sh) : (s.cutR i).size ≤ s.size := by
 induction s with
 | leaf j => exact Nat.le_refl _
 | node j l r h1 h2 =>
  simp only [Sh.cutR]
  split
  ·rw [re_size]; simp only [Sh.size]; omega
  ·split
   ·rw [re_size]; simp only [Sh.size]; omega
   ·simp only [Sh.size]; omega
end Go.Proofs.Ytmkodknmknfdkaa
set_option linter.unusedVariables false
set_option linter.unusedSimpArgs false
namespace Go.Proofs.Ytmkodknmknfdkaa
open E
set_option maxRecDepth 4000
theorem en84 : Enters Try.prog 84 := Enters.mk' Try.func84 rfl rfl
theorem en109 : Enters Try.prog 109 := Enters.mk' Try.func109 rfl rfl
set_option maxHeartbeats 1000000 in
theorem split47 (t : Tr) (hsm : smallP t.ns.l) (at_ : Int) : Con Try.prog 47 [t.val, .int .i64 at_] [ndsP t.ns, psP t.ns.l] [] (SplitEnd (splitT t.p at_)) := by
 refine Con.body 76 Try.func47 rfl Try.ntmps47 rfl fun X H₀ L₀ => ?_
 have hN : t.p.ns.length = t.ns.l.length := by simp [Tr.p]
 refine At.lenOf (hs := (ix 1 rfl)) fun hlen => ?_
 rw [List.length_map] at hlen
 refine aE (aR ?_)
 refine At.loud (l_box rfl) rfl ?_
 rintro _ _ _ ⟨b1, rfl, rfl, rfl⟩
 refine At.freeze 0 (φ := blk b1 _) rfl (fun _ h => blk_def.2 ⟨_, _, h⟩) ?_
 refine At.loud (l_alloc t24) rfl ?_
 rintro _ _ _ ⟨b2, rfl, rfl, rfl⟩
 refine aS 1 rfl rfl ?_
 refine aN (aT (aE (aE (aR ?_))))
 refine aQ (q_loadS t24 rfl (RdS.blk (.head _) (m := 2) rfl) rfl) rfl ?_
 refine aS 1 rfl rfl ?_
 refine At.call en80 rfl (leaf80 _ _) (fun _ h => ⟨h.2.2.1, h.2.2.2.1, trivial⟩) (List.Perm.refl _) rfl ?_
 rintro _ _ _ ⟨rfl, rfl, rfl⟩
 refine aS 2 rfl rfl ?_
 refine At.split (d := 14) rfl (fun hlf => ?_) (fun hlf => ?_)
 ·
  refine aS 16 rfl rfl ?_
  refine aN (aT ?_)
  refine At.condT rfl ?_
  refine aE (aR ?_)
  refine At.know (ndsP ⟨none, 0, []⟩) (fun _ h => sl_nil _ _ _ (Nat.zero_le _)) ?_
  refine At.know (psP []) (fun _ h => psP_nil) ?_
  refine aQ (q_build t24 s24 rfl rfl) rfl ?_
  refine At.loudN (l_store t24 rfl rfl (i := 0) rfl rfl rfl rfl) ?_
  rintro _ _ _ ⟨rfl, rfl⟩
  refine aS 1 rfl rfl ?_
  refine aN (aT (At.ret (At.thenRet ?_)))
  exact At.results (Γr := [_, _]) (M := []) rfl (RVals.cons (RVal.cellS rfl t24 (RdS.loc (i := 0) rfl (m := 2) rfl) rfl) (RVals.cons (RVal.tmp rfl) RVals.nil)) (ix 3 rfl) (fun _ h => ⟨h.2.1, h.1, trivial⟩) (d_ r_) ⟨⟨0, ⟨none, 0, []⟩⟩, by rw [split_no (not_t hlf)]; rfl, rfl, rfl, by rw [split_no (not_t hlf)]; rfl⟩
 ·
  obtain ⟨s, i, n, hs, rfl, hn, hnr⟩ := leaf_yes (not_f hlf)
  have hil := lt_of_get hn
  obtain ⟨x, hx, hxn⟩ := p_get (u := t) rfl hn
  have hxl : x.ps.l = n.l := by rw [← hxn]; rfl
  have hxs := hsm x (List.mem_of_getElem? hx)
  have hfew := (good_of hs).few
  refine At.know (prsP x.ps) (fun _ h => psP_get h.2.2.2.1 hx) ?_
  refine At.open rfl rfl ?_
  refine aQ (q_fieldAddr s24 rfl rfl rfl) rfl ?_
  refine At.open rfl rfl ?_
  refine aQ (q_load t22 rfl (Rd.blk (ix 1 rfl) rfl)) rfl ?_
  refine aS 1 rfl rfl ?_
  refine At.open rfl rfl ?_
  refine aQ (q_index Try.underlying22 t33 rfl (ix 3 rfl) (by simp) rfl rfl (lt_of_get hx)) rfl ?_
  refine At.open rfl rfl ?_
  refine aQ (q_fieldAddr s33 rfl rfl rfl) rfl ?_
  refine At.open rfl rfl ?_
  refine aQ (q_load t31 rfl (Rd.sl (ix 3 rfl) (map_get hx) rfl)) rfl ?_
  refine At.open rfl rfl ?_
  refine aQ (q_len Try.underlying31 rfl) rfl ?_
  refine aS 3 rfl rfl ?_
  refine At.splitP (d := 24) rfl (fun hfew2 => ?_) (fun hfew2 => ?_)
  ·
   refine aS 6 rfl rfl ?_
   refine aN (aT ?_)
   refine At.condT rfl ?_
   refine aE (aR ?_)
   refine At.know (ndsP ⟨none, 0, []⟩) (fun _ h => sl_nil _ _ _ (Nat.zero_le _)) ?_
   refine At.know (psP []) (fun _ h => psP_nil) ?_
   refine aQ (q_build t24 s24 rfl rfl) rfl ?_
   refine At.loudN (l_store t24 rfl rfl (i := 0) rfl rfl rfl rfl) ?_
   rintro _ _ _ ⟨rfl, rfl⟩
   refine aS 1 rfl rfl ?_
   refine aN (aT (At.ret (At.thenRet ?_)))
   exact At.results (Γr := [_, _]) (M := []) rfl (RVals.cons (RVal.cellS rfl t24 (RdS.loc (i := 0) rfl (m := 2) rfl) rfl) (RVals.cons (RVal.tmp rfl) RVals.nil)) (ix 4 rfl) (fun _ h => ⟨h.2.1, h.1, trivial⟩) (d_ r_) ⟨⟨0, ⟨none, 0, []⟩⟩, by rw [split_few hn (by rw [← hxl]; omega)]; rfl, rfl, rfl, by rw [split_few hn (by rw [← hxl]; omega)]; rfl⟩
  ·
   refine At.open rfl rfl ?_
   refine aQ (q_fieldAddr s24 rfl rfl rfl) rfl ?_
   refine At.open rfl rfl ?_
   refine aQ (q_load t22 rfl (Rd.blk (ix 1 rfl) rfl)) rfl ?_
   refine At.open rfl rfl ?_
   refine aQ (q_len Try.underlying22 rfl) rfl ?_
   refine At.open rfl rfl ?_
   refine aQ (q_add rfl rfl (by omega) (by omega)) rfl ?_
   refine aS 2 rfl rfl ?_
   refine aN (aT ?_)
   refine At.if rfl (fun hbig => ?_) (fun hbig => ?_)
   ·
    refine aE (aR ?_)
    refine At.know (ndsP ⟨none, 0, []⟩) (fun _ h => sl_nil _ _ _ (Nat.zero_le _)) ?_
    refine At.know (psP []) (fun _ h => psP_nil) ?_
    refine aQ (q_build t24 s24 rfl rfl) rfl ?_
    refine At.loudN (l_store t24 rfl rfl (i := 0) rfl rfl rfl rfl) ?_
    rintro _ _ _ ⟨rfl, rfl⟩
    refine aS 1 rfl rfl ?_
    refine aN (aT (At.ret (At.thenRet ?_)))
    exact At.results (Γr := [_, _]) (M := []) rfl (RVals.cons (RVal.cellS rfl t24 (RdS.loc (i := 0) rfl (m := 2) rfl) rfl) (RVals.cons (RVal.tmp rfl) RVals.nil)) (ix 4 rfl) (fun _ h => ⟨h.2.1, h.1, trivial⟩) (d_ r_) ⟨⟨0, ⟨none, 0, []⟩⟩, by rw [split_big (by omega)]; rfl, rfl, rfl, by rw [split_big (by omega)]; rfl⟩
   ·
    refine At.skip (aT (aE (aR ?_)))
    refine aQ (q_loadS t24 rfl (RdS.blk (ix 1 rfl) (m := 2) rfl) rfl) rfl ?_
    refine At.call en84 rfl (copied84 _ (by assumption) (by omega)) (fun _ h => ⟨h.2.2.2.1, h.2.2.2.2.1, trivial⟩) (List.Perm.refl _) rfl ?_
    rintro _ _ _ ⟨u, Mu, rfl, rfl, rfl, hu, hpu⟩
    refine At.loud (l_alloc t24) rfl ?_
    rintro _ _ _ ⟨b3, rfl, rfl, rfl⟩
    refine At.loudN (l_store t24 rfl rfl (i := 0) rfl rfl rfl rfl) ?_
    rintro _ _ _ ⟨rfl, rfl⟩
    refine aN (aT (aE (aR ?_)))
    have hul := p_len hpu
    obtain ⟨y, hy, hyn⟩ := p_get hpu hn
    have hyl : y.ps.l = n.l := by rw [← hyn]; rfl
    have hys : y.ps.l.length ≤ 1000000 := by rw [hyl, ← hxl]; exact hxs
    have hy2 : 2 ≤ y.ps.l.length := by rw [hyl, ← hxl]; omega
    refine At.know (prsP y.ps) (fun _ h => psP_get h.1 hy) ?_
    refine aF s24 t22 rfl rfl rfl (Rd.loc (i := 0) rfl rfl) rfl rfl ?_
    refine aS 1 rfl rfl ?_
    refine aQ (q_indexOwn Try.underlying22 t33 rfl hu (by simp) rfl rfl (lt_of_get hy)) rfl ?_
    refine aF s33 t31 rfl rfl rfl (Rd.own hu (i := 1) rfl (map_get hy) rfl) rfl rfl ?_
    refine aS 1 rfl rfl ?_
    refine aN (aT (aE (aR ?_)))
    refine aS 1 rfl rfl ?_
    refine aQ (q_len Try.underlying31 rfl) rfl ?_
    refine aQ (q_quo rfl rfl (by omega)) rfl ?_
    refine At.say 42 (.int .i64 ((y.ps.l.length / 2 : Nat) : Int)) rfl (congrArg (Value.int .i64) (half_wrap _ hys)) ?_
    refine aS 1 rfl rfl ?_
    refine aN (aT (aE (aR ?_)))
    refine aF s24 t22 rfl rfl rfl (Rd.loc (i := 0) rfl rfl) rfl rfl ?_
    refine aQ (q_len Try.underlying22 rfl) rfl ?_
    refine aS 1 rfl rfl ?_
    refine aN (aT (aE ?_))
    obtain ⟨z, hz⟩ := get_of_lt (l := y.ps.l) (i := y.ps.l.length / 2) (by omega)
    have hzk : (y.ps.l.getD (y.ps.l.length / 2) default).k = z.k := by rw [List.getD_eq_getElem?_getD, hz]; rfl
    refine At.draw 12 (.q 0 (.q 1 (.q 2 (.q 3 (.q 4 (.q 5 (.q 6 (.q 7 (.q 8 (.q 9 (.q 10 (.q 11 (.e))))))))))))) _ (List.Sublist.refl _) mixed (by kernel_rfl) rfl ?_
    refine oQ rfl (q_fieldAddr s24 rfl rfl rfl) rfl (cT cP) ?_
    refine oQ rfl (q_load t22 rfl (Rd.loc (i := 0) rfl rfl)) rfl (cT cP) ?_
    refine oQ rfl (q_move rfl) rfl (cT cP) ?_
    refine oQ rfl (q_move rfl) rfl (cT cP) ?_
    refine oQ rfl (q_move rfl) rfl (cT cP) ?_
    refine oQ rfl (q_index Try.underlying31 t50 rfl (.head _) (by simp) rfl rfl (lt_of_get hz)) rfl (cT cP) ?_
    refine oQ rfl (q_fieldAddr s50 rfl rfl rfl) rfl (cT cP) ?_
    refine oQ rfl (q_load t3 rfl (Rd.sl (.head _) (map_get hz) rfl)) rfl (cT cP) ?_
    refine oQ rfl (q_move rfl) rfl (cT cP) ?_
    refine oQ rfl (q_move rfl) rfl (cT cP) ?_
    refine oQ rfl (q_add rfl rfl (by omega) (by omega)) rfl (cT cP) ?_
    refine oQ rfl (q_build t33 s33 rfl rfl) rfl (cT cP) ?_
    refine AtO.done ?_
    refine aQ (q_indexOwn Try.underlying22 t33 rfl hu (by simp) rfl rfl (lt_of_get hy)) rfl ?_
    refine At.loudN (l_storeOwn0 t33 rfl rfl hu (i := 1) rfl (map_get hy) rfl rfl rfl) ?_
    rintro _ _ _ ⟨Mow1, ow1, rfl, rfl⟩
    refine aN (aT (aE ?_))
    have hO2 : Own 33 6 ((u.ns.l.set i (⟨true, (y.ps.l.getD (y.ps.l.length / 2) default).k, (u.ns.l.length : Int), (u.ns.l.length : Int) + 1, ⟨none, 0, []⟩, 0⟩ : Nd)).map rowN) u.ns.a u.ns.c Mow1 := by rw [row_set, hzk]; exact ow1
    refine At.capOf (hs := (.head _)) fun hcap => ?_
    rw [List.length_map] at hcap
    refine At.know (prsP (⟨false, 0, 0, 0, ⟨subA y.ps.a y.ps.c 2 0, y.ps.c, y.ps.l.take (y.ps.l.length / 2)⟩, 0⟩ : Nd).ps) (fun _ h => prs_take h.1 (by omega)) ?_
    refine At.know (prsP (⟨false, 0, 0, 0, ⟨subA y.ps.a y.ps.c 2 (y.ps.l.length / 2), y.ps.c - y.ps.l.length / 2, y.ps.l.drop (y.ps.l.length / 2)⟩, 0⟩ : Nd).ps) (fun _ h => prs_drop h.2.1 (by omega)) ?_
    refine At.draw 11 (.q 0 (.q 1 (.q 2 (.q 3 (.q 4 (.q 5 (.q 6 (.q 7 (.q 8 (.q 9 (.o 10 (.e)))))))))))) _ (List.Sublist.refl _) mixed (by kernel_rfl) rfl ?_
    refine oQ rfl (q_fieldAddr s24 rfl rfl rfl) rfl (cT cP) ?_
    refine oQ rfl (q_load t22 rfl (Rd.loc (i := 0) rfl rfl)) rfl (cT cP) ?_
    refine oQ rfl (q_move rfl) rfl (cT cP) ?_
    refine oQ rfl (q_move rfl) rfl (cT cP) ?_
    refine oQ rfl (q_sliceHi Try.underlying31 t50 rfl rfl rfl (by omega)) rfl (cT cP) ?_
    refine AtO.say 63 (Sl.val (⟨false, 0, 0, 0, ⟨subA y.ps.a y.ps.c 2 0, y.ps.c, y.ps.l.take (y.ps.l.length / 2)⟩, 0⟩ : Nd).ps) rfl ((take_val (by omega)).symm) ?_
    refine oQ rfl (q_build t33 s33 rfl rfl) rfl (cT cP) ?_
    refine oQ rfl (q_move rfl) rfl (cT cP) ?_
    refine oQ rfl (q_move rfl) rfl (cT cP) ?_
    refine oQ rfl (q_sliceLo Try.underlying31 t50 rfl rfl rfl (by omega)) rfl (cT cP) ?_
    refine AtO.say 67 (Sl.val (⟨false, 0, 0, 0, ⟨subA y.ps.a y.ps.c 2 (y.ps.l.length / 2), y.ps.c - y.ps.l.length / 2, y.ps.l.drop (y.ps.l.length / 2)⟩, 0⟩ : Nd).ps) rfl (drop_val.symm) ?_
    refine oQ rfl (q_build t33 s33 rfl rfl) rfl (cT cP) ?_
    refine AtO.loudA rfl (l_buildSlice Try.underlying22 t33 rfl rfl rfl rfl rfl) rfl (by rintro _ _ _ ⟨_, rfl, rfl, rfl⟩; exact ⟨fun _ h => h, d_ r_⟩) ?_
    rintro _ _ _ ⟨b4, rfl, rfl, rfl⟩
    refine AtO.done ?_
    refine At.loud (l_append rfl Try.underlying22 t33 rfl rfl hO2 (by simp) (i := 2) rfl rfl (news := [rowN (⟨false, 0, 0, 0, ⟨subA y.ps.a y.ps.c 2 0, y.ps.c, y.ps.l.take (y.ps.l.length / 2)⟩, 0⟩ : Nd), rowN (⟨false, 0, 0, 0, ⟨subA y.ps.a y.ps.c 2 (y.ps.l.length / 2), y.ps.c - y.ps.l.length / 2, y.ps.l.drop (y.ps.l.length / 2)⟩, 0⟩ : Nd)]) (by simp [rowN]) (RdS.loc (i := 0) rfl (m := 12) rfl) rfl rfl rfl (by omega) (by unfold maxLen; omega)) rfl ?_
    rintro _ _ _ ⟨a2, c2, M2, rfl, ow2, rfl, rfl⟩
    refine aQ (q_fieldAddr s24 rfl rfl rfl) rfl ?_
    refine At.loudN (l_store t22 rfl rfl (i := 1) rfl rfl rfl rfl) ?_
    rintro _ _ _ ⟨rfl, rfl⟩
    refine aN (aT (aE (aR ?_)))
    have hO3 : Own 33 6 ((u.ns.l.set i (⟨true, (y.ps.l.getD (y.ps.l.length / 2) default).k, (u.ns.l.length : Int), (u.ns.l.length : Int) + 1, ⟨none, 0, []⟩, 0⟩ : Nd) ++ [(⟨false, 0, 0, 0, ⟨subA y.ps.a y.ps.c 2 0, y.ps.c, y.ps.l.take (y.ps.l.length / 2)⟩, 0⟩ : Nd), (⟨false, 0, 0, 0, ⟨subA y.ps.a y.ps.c 2 (y.ps.l.length / 2), y.ps.c - y.ps.l.length / 2, y.ps.l.drop (y.ps.l.length / 2)⟩, 0⟩ : Nd)]).map rowN) a2 c2 M2 := by simpa using ow2
    refine At.know (prsP ⟨none, 0, []⟩) (fun _ h => sl_nil _ _ _ (Nat.zero_le _)) ?_
    refine At.know (psP (u.ns.l.set i (⟨true, (y.ps.l.getD (y.ps.l.length / 2) default).k, (u.ns.l.length : Int), (u.ns.l.length : Int) + 1, ⟨none, 0, []⟩, 0⟩ : Nd) ++ [(⟨false, 0, 0, 0, ⟨subA y.ps.a y.ps.c 2 0, y.ps.c, y.ps.l.take (y.ps.l.length / 2)⟩, 0⟩ : Nd), (⟨false, 0, 0, 0, ⟨subA y.ps.a y.ps.c 2 (y.ps.l.length / 2), y.ps.c - y.ps.l.length / 2, y.ps.l.drop (y.ps.l.length / 2)⟩, 0⟩ : Nd)])) (fun _ h => psP_app (psP_set (n := (⟨true, (y.ps.l.getD (y.ps.l.length / 2) default).k, (u.ns.l.length : Int), (u.ns.l.length : Int) + 1, ⟨none, 0, []⟩, 0⟩ : Nd)) h.2.2.2.2.1 h.1) (psP_cons (n := (⟨false, 0, 0, 0, ⟨subA y.ps.a y.ps.c 2 0, y.ps.c, y.ps.l.take (y.ps.l.length / 2)⟩, 0⟩ : Nd)) h.2.2.1 (psP_cons (n := (⟨false, 0, 0, 0, ⟨subA y.ps.a y.ps.c 2 (y.ps.l.length / 2), y.ps.c - y.ps.l.length / 2, y.ps.l.drop (y.ps.l.length / 2)⟩, 0⟩ : Nd)) h.2.1 psP_nil))) ?_
    have hsn : smallP (u.ns.l.set i (⟨true, (y.ps.l.getD (y.ps.l.length / 2) default).k, (u.ns.l.length : Int), (u.ns.l.length : Int) + 1, ⟨none, 0, []⟩, 0⟩ : Nd) ++ [(⟨false, 0, 0, 0, ⟨subA y.ps.a y.ps.c 2 0, y.ps.c, y.ps.l.take (y.ps.l.length / 2)⟩, 0⟩ : Nd), (⟨false, 0, 0, 0, ⟨subA y.ps.a y.ps.c 2 (y.ps.l.length / 2), y.ps.c - y.ps.l.length / 2, y.ps.l.drop (y.ps.l.length / 2)⟩, 0⟩ : Nd)]) := split_small (small_of_p hpu hsm) hys
    have hpn : (⟨u.root, ⟨a2, c2, (u.ns.l.set i (⟨true, (y.ps.l.getD (y.ps.l.length / 2) default).k, (u.ns.l.length : Int), (u.ns.l.length : Int) + 1, ⟨none, 0, []⟩, 0⟩ : Nd) ++ [(⟨false, 0, 0, 0, ⟨subA y.ps.a y.ps.c 2 0, y.ps.c, y.ps.l.take (y.ps.l.length / 2)⟩, 0⟩ : Nd), (⟨false, 0, 0, 0, ⟨subA y.ps.a y.ps.c 2 (y.ps.l.length / 2), y.ps.c - y.ps.l.length / 2, y.ps.l.drop (y.ps.l.length / 2)⟩, 0⟩ : Nd)])⟩⟩ : Tr).p = splitRaw t.p i n := split_p hpu hyl hul
    refine At.freezeOwn 2 hO3 rfl ?_
    refine aQ (q_loadS t24 rfl (RdS.loc (i := 1) rfl (m := 2) rfl) rfl) rfl ?_
    refine At.say 72 (Tr.val ⟨u.root, ⟨a2, c2, (u.ns.l.set i (⟨true, (y.ps.l.getD (y.ps.l.length / 2) default).k, (u.ns.l.length : Int), (u.ns.l.length : Int) + 1, ⟨none, 0, []⟩, 0⟩ : Nd) ++ [(⟨false, 0, 0, 0, ⟨subA y.ps.a y.ps.c 2 0, y.ps.c, y.ps.l.take (y.ps.l.length / 2)⟩, 0⟩ : Nd), (⟨false, 0, 0, 0, ⟨subA y.ps.a y.ps.c 2 (y.ps.l.length / 2), y.ps.c - y.ps.l.length / 2, y.ps.l.drop (y.ps.l.length / 2)⟩, 0⟩ : Nd)])⟩⟩) rfl (by rw [app2_val]; rfl) ?_
    refine At.call en25 rfl (plain25 ⟨u.root, ⟨a2, c2, (u.ns.l.set i (⟨true, (y.ps.l.getD (y.ps.l.length / 2) default).k, (u.ns.l.length : Int), (u.ns.l.length : Int) + 1, ⟨none, 0, []⟩, 0⟩ : Nd) ++ [(⟨false, 0, 0, 0, ⟨subA y.ps.a y.ps.c 2 0, y.ps.c, y.ps.l.take (y.ps.l.length / 2)⟩, 0⟩ : Nd), (⟨false, 0, 0, 0, ⟨subA y.ps.a y.ps.c 2 (y.ps.l.length / 2), y.ps.c - y.ps.l.length / 2, y.ps.l.drop (y.ps.l.length / 2)⟩, 0⟩ : Nd)])⟩⟩ (by assumption)) (fun _ h => ⟨h.1, h.2.1, trivial⟩) (List.Perm.refl _) rfl ?_
    rintro _ _ _ ⟨w, Mw, rfl, rfl, rfl, hw, hpw⟩
    refine aQ (q_extract rfl rfl) rfl ?_
    refine aQ (q_extract rfl rfl) rfl ?_
    refine At.loudN (l_store t24 rfl rfl (i := 3) rfl rfl rfl rfl) ?_
    rintro _ _ _ ⟨rfl, rfl⟩
    rw [hpn] at hpw
    have hsr := split_raw (not_f hlf) hn (by rw [← hxl]; omega) (by omega)
    refine At.freezeOwn 0 hw rfl ?_
    refine aS 1 rfl rfl ?_
    refine aN (aT (At.ret ?_))
    exact At.results (Γr := [_, _]) (M := []) rfl (RVals.cons (RVal.cellS rfl t24 (RdS.loc (i := 2) rfl (m := 2) rfl) rfl) (RVals.cons (RVal.tmp rfl) RVals.nil)) (ix 11 rfl) (fun _ h => ⟨h.1, h.2.1, trivial⟩) (d_ (d_ (d_ r_))) ⟨w, by rw [hsr, plainT_some, ← hpn]; rfl, rfl, rfl, by rw [hsr]; exact hpw⟩
theorem grow109 (m : Nat) (hm : m ≤ 4000000) : Con Try.prog 109 [.slice none 0 0, .int .i64 (m : Int)] [] [] (fun v Γ M => ∃ (a : Option Addr) (c : Nat) (M1 : Seg), v = .slice a 0 c ∧ Γ = [] ∧ M = [M1] ∧ Own 50 2 [] a c M1) := by
 refine Con.body 27 Try.func109 rfl Try.ntmps109 rfl fun X H₀ L₀ => ?_
 refine aE (aR ?_)
 refine aS 1 rfl rfl ?_
 refine aN (aT (aE (aE (aR ?_))))
 refine aS 2 rfl rfl ?_
 refine aN (aT ?_)
 refine At.say 6 (.bool false) rfl (congrArg Value.bool (decide_eq_false (by omega))) ?_
 refine At.condF rfl ?_
 refine At.skip (aT (aE (aE (aR ?_))))
 refine aS 2 rfl rfl ?_
 refine aQ (q_cap Try.underlying31 rfl) rfl ?_
 refine aS 1 rfl rfl ?_
 refine aQ (q_len Try.underlying31 rfl) rfl ?_
 refine aQ (q_sub rfl rfl (by omega) (by omega)) rfl ?_
 refine aQ (q_sub rfl rfl (by omega) (by omega)) rfl ?_
 refine aS 1 rfl rfl ?_
 refine aN (aT (aE (aR ?_)))
 refine aS 2 rfl rfl ?_
 refine aN (aT ?_)
 refine At.if rfl (fun hpos => ?_) (fun hpos => ?_)
 ·
  refine aR ?_
  refine aS 2 rfl rfl ?_
  refine aQ (q_cap Try.underlying31 rfl) rfl ?_
  refine aQ (q_sliceHi Try.underlying31 t50 rfl rfl (h := 0) rfl (Nat.le_refl 0)) rfl ?_
  refine aS 1 rfl rfl ?_
  refine At.loud (l_appendZeros (m := m) rfl Try.underlying31 Try.underlying3 t50 rfl rfl (by omega) (by omega) rfl rfl (by omega) (by unfold maxLen; omega)) rfl ?_
  rintro _ _ _ ⟨bz, cz, gz, rfl, hOz, hmc, rfl, rfl⟩
  refine aS 1 rfl rfl ?_
  refine aQ (q_len Try.underlying31 rfl) rfl ?_
  refine aQ (q_sliceHi Try.underlying31 t50 rfl rfl (h := 0) rfl (Nat.zero_le _)) rfl ?_
  refine At.say 25 (.slice (some ⟨bz, 0, none⟩) 0 cz) rfl (by rw [sub0]) ?_
  refine aS 1 rfl rfl ?_
  refine aN (aT (aE (aR ?_)))
  refine aS 2 rfl rfl ?_
  refine aN (aT (At.ret ?_))
  exact At.results (Γr := []) (M := [gz]) rfl (RVals.cons (RVal.tmp rfl) RVals.nil) (.head _) (fun _ _ => trivial) (k_ r_) ⟨some ⟨bz, 0, none⟩, cz, gz, rfl, rfl, rfl, hOz⟩
 ·
  refine At.nilSeg ?_
  refine At.skip (aT (aE (aR ?_)))
  refine aS 2 rfl rfl ?_
  refine aN (aT (At.ret ?_))
  exact At.results (Γr := []) (M := [[]]) rfl (RVals.cons (RVal.tmp rfl) RVals.nil) (.head _) (fun _ _ => trivial) (k_ r_) ⟨none, 0, [], rfl, rfl, rfl, Own.nil _ _⟩
theorem concat85 (x y : Sl Pr) (b : Nat) (hx1 : x.l.length ≤ 1000000) (hy1 : y.l.length ≤ 1000000) : Con Try.prog 85 [.slice (some ⟨b, 0, none⟩) 2 2] [prsP x, prsP y] [[(b, .cells #[x.val, y.val] 31 (0, 0))]] (PairsEndF (x.l ++ y.l)) := by
 refine Con.body 36 Try.func85 rfl Try.ntmps85 rfl fun X H₀ L₀ => ?_
 refine At.freeze 0 (φ := slsP (⟨some ⟨b, 0, none⟩, 2, [x, y]⟩ : Sl (Sl Pr))) rfl (fun _ h => sl_of_block h rfl (by simp [rowS]) rfl (show (2 : Nat) ≤ maxLen from by decide)) ?_
 refine At.know (allS [x, y]) (fun _ h => allS2 h.2.2.1 h.2.2.2.1) ?_
 have hb : ∀ z ∈ [x, y], z.l.length ≤ 1000000 := fun z hz => by
  rcases List.mem_cons.1 hz with rfl | hz
  ·exact hx1
  ·rw [List.mem_singleton.1 hz]; exact hy1
 have hle := cat_le hb
 have hl2 : [x, y].length = 2 := rfl
 have hc2 := cat2 x y
 refine aE (aR ?_)
 refine aS 1 rfl rfl ?_
 refine aN (aT (aE (aR ?_)))
 refine aS 1 rfl rfl ?_
 refine aN (aT (aE (aE (aR ?_))))
 refine aS 1 rfl rfl ?_
 refine aQ (q_len Try.underlying134 rfl) rfl ?_
 refine aS 1 rfl rfl ?_
 refine aN (aT (At.block ?_))
 refine At.loopK (ι := Nat) [3, 5, 11, 12, 13, 14, 15, 16, 17, 18, 19, 20, 21, 22] (fun k => [(11, .int .i64 (k : Int)), (3, .int .i64 ((catU [x, y] k).length : Nat))]) (fun k => []) (fun k => []) _ (fun k => k ≤ 2) (fun k => 2 - k) 0 (Nat.zero_le _) ⟨rfl, rfl, trivial⟩ (fun _ _ => trivial) r_ ?_
 intro k hk0
 refine aE (aR ?_)
 refine aS 1 rfl rfl ?_
 refine aN (aT (aE ?_))
 refine At.if rfl (fun hk => ?_) (fun hk => ?_)
 ·
  obtain ⟨z, hz⟩ := get_of_lt (l := [x, y]) (i := k) (by omega)
  have hst := cat_step hz
  have hlk := hle (k + 1) (by omega)
  rw [hst, List.length_append] at hlk
  have hk1 : k + 1 ≤ 2 := by omega
  refine At.know (prsP z) (fun _ h => allS_get h.1 hz) ?_
  refine At.skip (aT (aE (At.block (aE (aR ?_)))))
  refine aQ (q_index Try.underlying134 t31 rfl (ix 2 rfl) (by simp) rfl rfl (lt_of_get hz)) rfl ?_
  refine aQ (q_load t31 rfl (Rd.sl0 (ix 2 rfl) (map_get hz) rfl)) rfl ?_
  refine aS 1 rfl rfl ?_
  refine aN (aT (aE (aR ?_)))
  refine aS 2 rfl rfl ?_
  refine aQ (q_len Try.underlying31 rfl) rfl ?_
  refine aQ (q_add rfl rfl (by omega) (by omega)) rfl ?_
  refine aS 1 rfl rfl ?_
  refine aN (aT (aE (aR ?_)))
  refine aS 2 rfl rfl ?_
  refine aN (aT ?_)
  refine At.say 20 (.bool false) rfl (congrArg Value.bool (decide_eq_false (by omega))) ?_
  refine At.condF rfl ?_
  refine At.skip (At.inNormal (aT (aR ?_)))
  refine aQ (q_add rfl rfl (by omega) (by omega)) rfl ?_
  refine aS 1 rfl rfl ?_
  refine aN ?_
  refine At.say 3 (.int .i64 ((catU [x, y] (k + 1)).length : Nat)) rfl (congrArg (Value.int .i64) (by rw [hst, List.length_append]; simp)) ?_
  refine aT ?_
  exact At.againK (k + 1) hk1 (by (try dsimp only); omega) (Tells.end 17 ⟨rfl, rfl, trivial⟩ rfl rfl) (fun _ h => h.2) r_
 ·
  obtain rfl : k = 2 := by omega
  have hl3 := hle 2 (by omega)
  refine At.exit (At.thenExit (At.thenExit (At.inHere rfl (aT (aE (aR ?_))))))
  refine aS 1 rfl rfl ?_
  refine At.call en109 rfl (grow109 _ (by omega)) (fun _ _ => trivial) (List.Perm.refl _) rfl ?_
  rintro _ _ _ ⟨a0, c0, M0, rfl, rfl, rfl, hO0⟩
  refine aS 1 rfl rfl ?_
  refine aN (aT (aE (aE (aR ?_))))
  refine aS 1 rfl rfl ?_
  refine aQ (q_len Try.underlying134 rfl) rfl ?_
  refine aS 1 rfl rfl ?_
  refine aN (aT (At.block ?_))
  refine At.loopK (ι := Nat × Option Addr × Nat × Seg) [6, 8, 27, 28, 29, 30, 31, 32, 33, 34] (fun ⟨j, a, c, M⟩ => [(27, .int .i64 (j : Int)), (6, .slice a (catU [x, y] j).length c)]) (fun ⟨j, a, c, M⟩ => []) (fun ⟨j, a, c, M⟩ => [M]) _ (fun ⟨j, a, c, M⟩ => j ≤ 2 ∧ Own 50 2 ((catU [x, y] j).map rowP) a c M) (fun ⟨j, a, c, M⟩ => 2 - j) (0, a0, c0, M0) ⟨Nat.zero_le _, hO0⟩ ⟨rfl, rfl, trivial⟩ (fun _ _ => trivial) (k_ r_) ?_
  intro i0 hI0
  obtain ⟨j, a, c, M⟩ := i0
  obtain ⟨hj2, hO⟩ := hI0
  refine aE (aR ?_)
  refine aS 1 rfl rfl ?_
  refine aN (aT (aE ?_))
  refine At.if rfl (fun hjk => ?_) (fun hjk => ?_)
  ·
   obtain ⟨z, hz⟩ := get_of_lt (l := [x, y]) (i := j) (by omega)
   have hst := cat_step hz
   have hlk := hle (j + 1) (by omega)
   rw [hst, List.length_append] at hlk
   have hj1 : j + 1 ≤ 2 := by omega
   refine At.know (prsP z) (fun _ h => allS_get h.1 hz) ?_
   refine At.skip (aT (aE (At.block (aE (aR ?_)))))
   refine aQ (q_index Try.underlying134 t31 rfl (ix 2 rfl) (by simp) rfl rfl (lt_of_get hz)) rfl ?_
   refine aQ (q_load t31 rfl (Rd.sl0 (ix 2 rfl) (map_get hz) rfl)) rfl ?_
   refine aS 1 rfl rfl ?_
   refine aN (aT (aR ?_))
   refine aS 2 rfl rfl ?_
   refine At.loud (l_appendSl rfl Try.underlying31 t50 rfl rfl hO (by simp) (i := 0) rfl (.head _) (by simp) (one_map (fun _ => rfl) _) rfl rfl (by omega) (by unfold maxLen; omega)) rfl ?_
   rintro _ _ _ ⟨a2, c2, M2, rfl, ow, rfl, rfl⟩
   refine aS 1 rfl rfl ?_
   refine aN (At.inNormal (aT (aR ?_)))
   refine aQ (q_add rfl rfl (by omega) (by omega)) rfl ?_
   refine aS 1 rfl rfl ?_
   refine aN ?_
   refine At.say 6 (.slice a2 (catU [x, y] (j + 1)).length c2) rfl (by rw [hst, List.length_append]) ?_
   refine aT ?_
   exact At.againK (j + 1, a2, c2, M2) ⟨hj1, by rw [hst, List.map_append]; exact ow⟩ (by (try dsimp only); omega) (Tells.end 13 ⟨rfl, rfl, trivial⟩ rfl rfl) (fun _ h => h.2) (k_ r_)
  ·
   obtain rfl : j = 2 := by omega
   refine At.freezeOwn 0 hO rfl ?_
   refine At.exit (At.thenExit (At.thenExit (At.inHere rfl (aT (aE (aR ?_))))))
   refine aS 2 rfl rfl ?_
   refine aN (aT (At.ret ?_))
   exact At.results (Γr := [prsP ⟨a, c, catU [x, y] 2⟩]) (M := []) rfl (RVals.cons (RVal.tmp rfl) RVals.nil) (ix 3 rfl) (fun _ h => ⟨h.1, trivial⟩) r_ ⟨⟨a, c, catU [x, y] 2⟩, rfl, rfl, rfl, hc2⟩
end Go.Proofs.Ytmkodknmknfdkaa
set_option linter.unusedVariables false
set_option linter.unusedSimpArgs false
namespace Go.Proofs.Ytmkodknmknfdkaa
open E
theorem next_yes {t : PT} {a : Int} (h : (nextT t a).isSome = true) : ∃ (s : Sh) (i : Nat) (n : Nod) (q : Nat) (side : Bool) (m : Nat), mayT t = some s ∧ a = (i : Int) ∧ leafT t (i : Int) = true ∧ t.ns[i]? = some n ∧ n.route = false ∧ s.nb i = some (q, side, m) ∧ nextT t (i : Int) = some m := by
 cases hl : leafT t a
 ·rw [next_no hl] at h; cases h
 ·obtain ⟨s, i, n, hs, rfl, hn, hr⟩ := leaf_yes hl
  have e := next_eq hs hl
  cases hnb : s.nb i with
  | none => rw [e, hnb] at h; cases h
  | some x =>
   obtain ⟨q, side, m⟩ := x
   exact ⟨s, i, n, q, side, m, hs, rfl, hl, hn, hr, hnb, by rw [e, hnb]; rfl⟩
/-- The way's end and the neighbour, together. -/
theorem way_join {t : PT} {s : Sh} {i q m : Nat} {side : Bool} {x : Nod} {u : List Nat} {b : List Bool} (hs : mayT t = some s) (hx : t.ns[i]? = some x) (hr : x.route = false) (hnb : s.nb i = some (q, side, m)) (hw : WayTo t.ns t.root u b (i : Int)) :
  ∃ (u' : List Nat) (b' : List Bool) (n nm : Nod) (oo : Nat), u = u' ++ [q] ∧ b = b' ++ [side] ∧ t.ns[q]? = some n ∧ n.route = true ∧ kidN n side = (i : Int) ∧ t.ns[m]? = some nm ∧ nm.route = false ∧ m ≠ q ∧ kidN n (!side) = (oo : Int) ∧ oo < t.ns.length ∧ i ≠ m := by
 have hg := good_of hs
 rcases way_nb hs hx hr hw with ⟨_, _, e3⟩ | ⟨u', b', q2, n, side2, l, r, e1, e2, hn, hnr, he, hl, hrr, hnb2⟩
 ·rw [hnb] at e3; cases e3
 ·rw [hnb] at hnb2
  have h3 := Option.some.inj hnb2
  obtain ⟨f1, f2⟩ := Prod.mk.inj h3
  obtain ⟨f3, f4⟩ := Prod.mk.inj f2
  subst f1
  subst f3
  obtain ⟨nm, hm, hmr, _⟩ := fits_leaf (may_fits hs) hg.nodup (nb_leafs hnb)
  obtain ⟨oo, hoo, e4, _⟩ := kid_in hg.hangs hg.nodup (hg.all q (lt_of_get hn)) hn hnr (!side)
  refine ⟨u', b', n, nm, oo, e1, e2, hn, hnr, he, hm, hmr, fun e => ?_, e4, hg.lt oo hoo, fun e => ?_⟩
  ·subst e; rw [hn] at hm; cases hm; rw [hnr] at hmr; cases hmr
  ·subst e
   obtain ⟨A, B, e5⟩ := nb_beside hnb
   have hnd : s.leaves.Nodup := by
    have : ∀ {s : Sh}, s.places.Nodup → s.leaves.Nodup := by
     intro s
     induction s with
     | leaf j => intro _; simp [Sh.leaves]
     | node j l r g1 g2 =>
      intro h
      obtain ⟨c1, c2, d1, d2, d3⟩ := nodup_node h
      simp only [Sh.leaves, List.nodup_append]
      exact ⟨g1 d1, g2 d2, fun a ha b hb e => d3 a (leaves_places a ha) (by rw [e]; exact leaves_places b hb)⟩
    exact this hg.nodup
   rw [e5] at hnd
   have e6 : (if side then [i, i] else [i, i]) = [i, i] := by cases side <;> rfl
   rw [e6] at hnd
   simp [List.nodup_append] at hnd
theorem join_hang {t : PT} {s : Sh} {i q m oo : Nat} {side : Bool} {n nm z cn : Nod} (hs : mayT t = some s) (hnb : s.nb i = some (q, side, m)) (hq : t.ns[q]? = some n) (hm : t.ns[m]? = some nm) (hmr : nm.route = false) (hne : m ≠ q) (hcr : cn.route = false) (hoo : kidN n (!side) = (oo : Int)) (hz : (t.ns.set m cn)[oo]? = some z) :
  Hangs ((t.ns.set m cn).set q z) (s.cutR i) t.root ∧ ∀ c, (s.cutR i).lay ((t.ns.set m cn).set q z) c = (s.cut i).lay (t.ns.set m cn) c :=
 cutR_hangs (hangs_leafset (good_of hs).hangs hm hmr hcr) (good_of hs).nodup hnb (by rw [List.getElem?_set_ne hne]; exact hq) (by rw [hoo]; exact hz)
theorem p_set2 {u : Tr} {t : PT} {a : Option Addr} {c : Nat} {i j : Nat} {m k : Nd} (h : u.p = t) : (⟨u.root, ⟨a, c, (u.ns.l.set i m).set j k⟩⟩ : Tr).p = ⟨t.root, (t.ns.set i m.p).set j k.p⟩ := by
 subst h
 simp [Tr.p, List.map_set]
theorem set_get {u : Tr} {t : PT} {i j : Nat} {m k : Nd} (h : u.p = t) (hk : (u.ns.l.set i m)[j]? = some k) : (t.ns.set i m.p)[j]? = some k.p := by
 subst h
 show ((u.ns.l.map Nd.p).set i m.p)[j]? = _
 rw [← List.map_set]
 exact map_get hk
theorem joinN_eq {ns : List Nod} {i m : Nat} {side : Bool} {x nm : Nod} (hx : ns[i]? = some x) (hm : ns[m]? = some nm) : joinN ns i m side = ⟨false, 0, 0, 0, if side then nm.l ++ x.l else x.l ++ nm.l, 0⟩ := by
 simp only [joinN, getD_of hx, getD_of hm]
theorem join_size {t : PT} {s : Sh} (i : Nat) (hs : mayT t = some s) : (s.cutR i).size ≤ 1000000 := by
 have h1 := cutR_size i s
 have h2 := (good_of hs).size
 have h3 := (good_of hs).few
 omega
/-- The tree that adapt's awake knows. -/
def aw15 : PT := oneT [⟨1, 0⟩, ⟨2, 0⟩, ⟨3, 0⟩]
def aw15s : PT := optD (splitT aw15 0)
def aw15j : PT := optD (joinT aw15s 2)
theorem map_some {α β : Type} {o : Option α} {f : α → β} {c : β} (h : o.map f = some c) : ∃ n, o = some n ∧ f n = c := by
 cases o with
 | none => cases h
 | some n => exact ⟨n, rfl, Option.some.inj h⟩
theorem leaf_of_leaves {t : PT} {i : Nat} (h : i ∈ leavesT t) : leafT t (i : Int) = true := by
 unfold leavesT at h
 cases hs : mayT t with
 | none => rw [hs] at h; simp at h
 | some s =>
  rw [hs] at h
  obtain ⟨n, hn, hr, _⟩ := fits_leaf (may_fits hs) (good_of hs).nodup h
  rw [leaf_at (by rw [hs]; rfl) hn, hr]
  rfl
theorem leaves_nodup {s : Sh} (h : s.places.Nodup) : s.leaves.Nodup := by
 induction s with
 | leaf j => simp [Sh.leaves]
 | node j l r g1 g2 =>
  obtain ⟨c1, c2, d1, d2, d3⟩ := nodup_node h
  simp only [Sh.leaves, List.nodup_append]
  exact ⟨g1 d1, g2 d2, fun a ha b hb e => d3 a (leaves_places a ha) (by rw [e]; exact leaves_places b hb)⟩
end Go.Proofs.Ytmkodknmknfdkaa
set_option linter.unusedVariables false
set_option linter.unusedSimpArgs false
namespace Go.Proofs.Ytmkodknmknfdkaa
open E
set_option maxRecDepth 4000
theorem en46 : Enters Try.prog 46 := Enters.mk' Try.func46 rfl rfl
theorem en85 : Enters Try.prog 85 := Enters.mk' Try.func85 rfl rfl
theorem en86 : Enters Try.prog 86 := Enters.mk' Try.func86 rfl rfl
theorem en110 : Enters Try.prog 110 := Enters.mk' Try.func110 rfl rfl
theorem lay110_step (t : Tr) (s : Sh) (ih : ∀ i l r, s = .node i l r → Lay110 t l ∧ Lay110 t r) : Lay110 t s := by
 intro at_ hH b o a c Mo hO hb
 refine Con.body 60 Try.func110 rfl Try.ntmps110 rfl fun X H₀ L₀ => ?_
 obtain ⟨i, x, rfl, hx, hg, hc⟩ := hH.at
 refine At.know (prsP x.ps) (fun _ h => psP_get h.2.2.1 hx) ?_
 refine aE (aR ?_)
 refine At.loud (l_box rfl) rfl ?_
 rintro _ _ _ ⟨b1, rfl, rfl, rfl⟩
 refine At.freeze 0 (φ := blk b1 _) rfl (fun _ h => blk_def.2 ⟨_, _, h⟩) ?_
 refine aS 1 rfl rfl ?_
 refine aN (aT (aE (aR ?_)))
 refine aS 2 rfl rfl ?_
 refine aF s24 t22 rfl rfl rfl (Rd.loc (i := 0) rfl rfl) rfl rfl ?_
 refine aQ (q_len Try.underlying22 rfl) rfl ?_
 refine aS 1 rfl rfl ?_
 refine aN (aT (aE (aR ?_)))
 refine aF s24 t22 rfl rfl rfl (Rd.blk (.head _) rfl) rfl rfl ?_
 refine aS 1 rfl rfl ?_
 refine aQ (q_index Try.underlying22 t33 rfl (ix 3 rfl) (by simp) rfl rfl (lt_of_get hx)) rfl ?_
 refine aQ (q_loadS t33 rfl (RdS.sl0 (ix 3 rfl) (map_get hx)) rfl) rfl ?_
 refine At.loud (l_alloc t33) rfl ?_
 rintro _ _ _ ⟨b2, rfl, rfl, rfl⟩
 refine At.loudN (l_store t33 rfl rfl (i := 0) rfl rfl rfl rfl) ?_
 rintro _ _ _ ⟨rfl, rfl⟩
 refine aN (aT (aE ?_))
 refine At.draw 8 (.q 0 (.q 1 (.q 2 (.q 3 (.q 4 (.q 5 (.o 6 (.o 7 (.e))))))))) (_ :: _ :: L₀) (k_ (k_ (d_ r_))) mixed (by kernel_rfl) rfl ?_
 refine oQ rfl (q_move rfl) rfl (cT cP) ?_
 refine oQ rfl (q_move rfl) rfl (cT cP) ?_
 refine oQ rfl (q_nilCheck rfl) rfl (cT cP) ?_
 refine oQ rfl (q_fieldAddr s24 rfl rfl rfl) rfl (cT cP) ?_
 refine oQ rfl (q_load t22 rfl (Rd.loc (i := 1) rfl rfl)) rfl (cT cP) ?_
 refine oQ rfl (q_loadS t33 rfl (RdS.loc (i := 0) rfl (m := 6) rfl) rfl) rfl (cT cP) ?_
 refine AtO.loud rfl (l_buildSlice Try.underlying22 t33 rfl rfl rfl rfl rfl) rfl (by rintro _ _ _ ⟨_, rfl, rfl, rfl⟩; exact ⟨fun _ h => h, d_ (k_ (k_ (d_ r_)))⟩) ?_
 rintro _ _ _ ⟨b3, rfl, rfl, rfl⟩
 refine AtO.loudA rfl (l_append rfl Try.underlying22 t33 rfl rfl hO (by simp) (i := 3) rfl rfl (news := [rowN x]) (by simp [rowN]) (RdS.loc (i := 0) rfl (m := 6) rfl) rfl rfl rfl (by omega) (by unfold maxLen; omega)) rfl (by rintro _ _ _ ⟨_, _, _, rfl, _, rfl, rfl⟩; exact ⟨fun _ h => h, (d_ (k_ (k_ (d_ r_))))⟩) ?_
 rintro _ _ _ ⟨a1, c1, M1, rfl, ow1, rfl, rfl⟩
 refine AtO.done ?_
 refine aS 1 rfl rfl ?_
 refine aQ (q_fieldAddr s24 rfl rfl rfl) rfl ?_
 refine At.say 28 (.slice a1 (o ++ [x]).length c1) rfl (by simp) ?_
 refine At.loudN (l_store t22 rfl rfl (i := 2) rfl rfl rfl rfl) ?_
 rintro _ _ _ ⟨rfl, rfl⟩
 refine aN (aT (aE (aE (aR ?_))))
 have hO1 : Own 33 6 ((o ++ [x]).map rowN) a1 c1 M1 := by simpa using ow1
 refine aF s33 t4 rfl rfl rfl (Rd.loc (i := 1) rfl rfl) rfl rfl ?_
 refine aN (aT ?_)
 refine At.cond rfl (fun hroute => ?_) (fun hroute => ?_)
 ·
  rcases hc with ⟨hc, _⟩ | ⟨hc, l, r, rfl, hl, hr⟩
  ·exact absurd hroute (by simp [hc])
  obtain ⟨ih1, ih2⟩ := ih i l r rfl
  simp only [Sh.size] at hb
  refine aE (aR ?_)
  refine aQ (q_loadS t24 rfl (RdS.blk (.head _) (m := 2) rfl) rfl) rfl ?_
  refine aF s33 t3 rfl rfl rfl (Rd.loc (i := 1) rfl rfl) rfl rfl ?_
  refine aS 1 rfl rfl ?_
  refine At.front 3 rfl ?_
  refine At.front 3 rfl ?_
  refine At.call en110 rfl (ih1 x.left hl b (o ++ [x]) a1 c1 _ hO1 (by simp; omega)) (fun _ h => ⟨h.2.2.2.1, h.2.2.2.2.1, trivial⟩) (List.Perm.refl _) rfl ?_
  rintro _ _ _ ⟨o1, a2, c2, M2, rfl, rfl, rfl, hO3, he1⟩
  refine aS 1 rfl rfl ?_
  refine aN (aT (aE (aR ?_)))
  have hl1 : o1.length = l.size := by have := congrArg List.length he1; rwa [List.length_map, Sh.lay_length] at this
  have hO4 : Own 33 6 ((o ++ x :: o1).map rowN) a2 c2 M2 := by simpa using hO3
  refine aS 2 rfl rfl ?_
  refine aF s24 t22 rfl rfl rfl (Rd.loc (i := 0) rfl rfl) rfl rfl ?_
  refine aS 2 rfl rfl ?_
  refine aQ (q_indexOwn Try.underlying22 t33 rfl hO4 (by simp) rfl rfl (by simp)) rfl ?_
  refine aQ (q_fieldAddr s33 rfl rfl rfl) rfl ?_
  refine At.loudN (l_storeOwn t3 rfl rfl hO4 (i := 1) rfl (get_mid o o1 x) rfl rfl rfl) ?_
  rintro _ _ _ ⟨Mow1, ow1, rfl, rfl⟩
  refine aN (aT (aE (aR ?_)))
  have hO5 : Own 33 6 ((o ++ { x with left := (((o ++ [x]).length : Nat) : Int) } :: o1).map rowN) a2 c2 Mow1 := by rw [← set_mid o o1 x]; exact ow1
  refine At.front 1 rfl ?_
  refine At.front 1 rfl ?_
  refine At.piece0 (outBox b a2 (o ++ { x with left := (((o ++ [x]).length : Nat) : Int) } :: o1).length c2) (by simp [outBox]) ?_
  refine aQ (q_loadS t24 rfl (RdS.blk (ix 1 rfl) (m := 2) rfl) rfl) rfl ?_
  refine aF s33 t3 rfl rfl rfl (Rd.loc (i := 3) rfl rfl) rfl rfl ?_
  refine aS 1 rfl rfl ?_
  refine At.front 1 rfl ?_
  refine At.front 1 rfl ?_
  refine At.call en110 rfl (ih2 x.right hr b (o ++ { x with left := (((o ++ [x]).length : Nat) : Int) } :: o1) a2 c2 _ hO5 (by simp; omega)) (fun _ h => ⟨h.2.2.2.2.1, h.2.2.2.2.2.1, trivial⟩) (List.Perm.refl _) rfl ?_
  rintro _ _ _ ⟨o2, a3, c3, M3, rfl, rfl, rfl, hO6, he2⟩
  refine aS 1 rfl rfl ?_
  refine aN (aT (aR ?_))
  have hO7 : Own 33 6 ((o ++ { x with left := (((o ++ [x]).length : Nat) : Int) } :: (o1 ++ o2)).map rowN) a3 c3 M3 := by simpa using hO6
  refine aS 2 rfl rfl ?_
  refine aF s24 t22 rfl rfl rfl (Rd.loc (i := 0) rfl rfl) rfl rfl ?_
  refine aS 2 rfl rfl ?_
  refine aQ (q_indexOwn Try.underlying22 t33 rfl hO7 (by simp) rfl rfl (by simp)) rfl ?_
  refine aQ (q_fieldAddr s33 rfl rfl rfl) rfl ?_
  refine At.loudN (l_storeOwn t3 rfl rfl hO7 (i := 1) rfl (get_mid o (o1 ++ o2) _) rfl rfl rfl) ?_
  rintro _ _ _ ⟨Mow2, ow2, rfl, rfl⟩
  refine aN (aT (aE (aR ?_)))
  have hO8 : Own 33 6 ((o ++ { x with left := (((o ++ [x]).length : Nat) : Int), right := (((o ++ { x with left := (((o ++ [x]).length : Nat) : Int) } :: o1).length : Nat) : Int) } :: (o1 ++ o2)).map rowN) a3 c3 Mow2 := by rw [← set_mid o (o1 ++ o2) { x with left := (((o ++ [x]).length : Nat) : Int) }]; exact ow2
  refine At.know (psP ({ x with left := (((o ++ [x]).length : Nat) : Int), right := (((o ++ { x with left := (((o ++ [x]).length : Nat) : Int) } :: o1).length : Nat) : Int) } :: (o1 ++ o2))) (fun _ h => psP_cons (n := { x with left := (((o ++ [x]).length : Nat) : Int), right := (((o ++ { x with left := (((o ++ [x]).length : Nat) : Int) } :: o1).length : Nat) : Int) }) h.2.2.2.1 (psP_app h.2.1 h.1)) ?_
  refine aS 2 rfl rfl ?_
  refine aN (aT (At.ret ?_))
  exact At.results (Γr := [_]) (M := [outBox b a3 ((o ++ { x with left := (((o ++ [x]).length : Nat) : Int) } :: o1) ++ o2).length c3, _]) rfl (RVals.cons (RVal.tmp rfl) RVals.nil) (ix 5 rfl) (fun _ h => ⟨h.1, trivial⟩) (k_ (k_ (d_ (d_ r_)))) (lay110_end (n := { x with left := (((o ++ [x]).length : Nat) : Int), right := (((o ++ { x with left := (((o ++ [x]).length : Nat) : Int) } :: o1).length : Nat) : Int) }) (q := [x]) (by simpa using hO8) hg hl1 he1 (by simpa using he2) rfl (by simp) (by simp [Nat.add_comm, Nat.add_left_comm]))
 ·
  obtain rfl : s = .leaf i := by
   rcases hc with ⟨_, h⟩ | ⟨h, _⟩
   ·exact h
   ·rw [show x.route = false from hroute] at h; cases h
  refine At.know (psP [x]) (fun _ h => psP_cons h.2.1 psP_nil) ?_
  refine At.skip (aT (aE (aR ?_)))
  refine aS 2 rfl rfl ?_
  refine aN (aT (At.ret ?_))
  exact At.results (Γr := [_]) (M := [outBox b a1 (o ++ [x]).length c1, M1]) rfl (RVals.cons (RVal.tmp rfl) RVals.nil) (ix 3 rfl) (fun _ h => ⟨h.1, trivial⟩) (d_ (d_ (k_ (k_ r_)))) ⟨[x], a1, c1, M1, rfl, rfl, rfl, hO1, by rw [Sh.lay, hg]; rfl⟩
theorem lay110 (t : Tr) (s : Sh) : Lay110 t s := by
 induction s with
 | leaf i => exact lay110_step t _ fun _ _ _ h => by cases h
 | node i l r h1 h2 => exact lay110_step t _ fun _ _ _ h => by cases h; exact ⟨h1, h2⟩
theorem laid86 (t : Tr) (s : Sh) (hH : Hangs t.p.ns s t.root) (hb : s.size ≤ 1000000) : Con Try.prog 86 [t.val] [ndsP t.ns, psP t.ns.l] [] (LaidEnd s t.p.ns) := by
 refine Con.body 9 Try.func86 rfl Try.ntmps86 rfl fun X H₀ L₀ => ?_
 refine At.nilSeg ?_
 refine aE (aR ?_)
 refine At.loud (l_box rfl) rfl ?_
 rintro _ _ _ ⟨b1, rfl, rfl, rfl⟩
 refine At.freeze 0 (φ := blk b1 _) rfl (fun _ h => blk_def.2 ⟨_, _, h⟩) ?_
 refine At.loud (l_alloc t24) rfl ?_
 rintro _ _ _ ⟨b2, rfl, rfl, rfl⟩
 refine aN (aT (aE (aR ?_)))
 refine At.loud (l_alloc t24) rfl ?_
 rintro _ _ _ ⟨b3, rfl, rfl, rfl⟩
 refine aN (aT (aE (aR ?_)))
 refine aQ (q_loadS t24 rfl (RdS.blk (.head _) (m := 2) rfl) rfl) rfl ?_
 refine aF s24 t3 rfl rfl rfl (Rd.blk (.head _) rfl) rfl rfl ?_
 refine At.front 2 rfl ?_
 refine At.front 1 rfl ?_
 refine At.call en110 rfl (lay110 t s t.root hH b3 [] none 0 [] (Own.nil _ _) (by simpa using hb)) (fun _ h => ⟨h.2.2.1, h.2.2.2.1, trivial⟩) (List.Perm.refl _) rfl ?_
 rintro _ _ _ ⟨o1, a1, c1, M1, rfl, rfl, rfl, hO, he⟩
 refine aN (aT (aE (aR ?_)))
 refine aQ (q_loadS t24 rfl (RdS.loc (i := 0) rfl (m := 2) rfl) rfl) rfl ?_
 refine At.loudN (l_store t24 rfl rfl (i := 2) rfl rfl rfl rfl) ?_
 rintro _ _ _ ⟨rfl, rfl⟩
 refine aN (aT (At.ret ?_))
 exact At.results (Γr := [_]) (M := [M1]) rfl (RVals.cons (RVal.cellS rfl t24 (RdS.loc (i := 2) rfl (m := 2) rfl) rfl) RVals.nil) (ix 2 rfl) (fun _ h => ⟨h.1, trivial⟩) (d_ (k_ (d_ r_))) ⟨⟨0, ⟨a1, c1, [] ++ o1⟩⟩, M1, rfl, rfl, rfl, hO, congrArg (PT.mk 0) he⟩
set_option maxHeartbeats 2000000 in
theorem join48 (t : Tr) (hsm : smallP t.ns.l) (at_ : Int) : Con Try.prog 48 [t.val, .int .i64 at_] [ndsP t.ns, psP t.ns.l] [] (SplitEnd (joinT t.p at_)) := by
 refine Con.body 73 Try.func48 rfl Try.ntmps48 rfl fun X H₀ L₀ => ?_
 have hN : t.p.ns.length = t.ns.l.length := by simp [Tr.p]
 refine At.lenOf (hs := (ix 1 rfl)) fun hlen => ?_
 rw [List.length_map] at hlen
 refine aE (aR ?_)
 refine At.loud (l_box rfl) rfl ?_
 rintro _ _ _ ⟨b1, rfl, rfl, rfl⟩
 refine At.freeze 0 (φ := blk b1 _) rfl (fun _ h => blk_def.2 ⟨_, _, h⟩) ?_
 refine At.loud (l_alloc t24) rfl ?_
 rintro _ _ _ ⟨b2, rfl, rfl, rfl⟩
 refine aS 1 rfl rfl ?_
 refine aN (aT (aE (aR ?_)))
 refine aQ (q_loadS t24 rfl (RdS.blk (.head _) (m := 2) rfl) rfl) rfl ?_
 refine aS 1 rfl rfl ?_
 refine At.call en46 rfl (next46 _ _) (fun _ h => ⟨h.2.2.1, h.2.2.2.1, trivial⟩) (List.Perm.refl _) rfl ?_
 rintro _ _ _ ⟨rfl, rfl, rfl⟩
 refine aS 1 rfl rfl ?_
 refine aQ (q_extract rfl rfl) rfl ?_
 refine aQ (q_extract rfl rfl) rfl ?_
 refine aS 2 rfl rfl ?_
 refine aN (aT (aE (aE (aR ?_))))
 refine aS 2 rfl rfl ?_
 refine aN (aT ?_)
 refine At.cond rfl (fun hnx0 => ?_) (fun hnx0 => ?_)
 ·
  refine aE (aR ?_)
  refine At.know (ndsP ⟨none, 0, []⟩) (fun _ h => sl_nil _ _ _ (Nat.zero_le _)) ?_
  refine At.know (psP []) (fun _ h => psP_nil) ?_
  refine aQ (q_build t24 s24 rfl rfl) rfl ?_
  refine At.loudN (l_store t24 rfl rfl (i := 0) rfl rfl rfl rfl) ?_
  rintro _ _ _ ⟨rfl, rfl⟩
  refine aS 1 rfl rfl ?_
  refine aN (aT (At.ret (At.thenRet ?_)))
  exact At.results (Γr := [_, _]) (M := []) rfl (RVals.cons (RVal.cellS rfl t24 (RdS.loc (i := 0) rfl (m := 2) rfl) rfl) (RVals.cons (RVal.tmp rfl) RVals.nil)) (ix 3 rfl) (fun _ h => ⟨h.2.1, h.1, trivial⟩) (d_ r_) ⟨⟨0, ⟨none, 0, []⟩⟩, by rw [join_no (not_t hnx0)]; rfl, rfl, rfl, by rw [join_no (not_t hnx0)]; rfl⟩
 ·
  obtain ⟨s, i, n, q, side, m, hs, rfl, hlf, hn, hnr, hnb, hnxt⟩ := next_yes (not_f hnx0)
  have hil := lt_of_get hn
  have hfew := (good_of hs).few
  refine At.say 6 (.int .i64 (m : Int)) rfl (congrArg (Value.int .i64) (by rw [hnxt]; rfl)) ?_
  refine At.skip (aT (aE (aR ?_)))
  refine aQ (q_loadS t24 rfl (RdS.blk (.head _) (m := 2) rfl) rfl) rfl ?_
  refine aS 1 rfl rfl ?_
  refine At.call en81 rfl (path81 t s hs i hil) (fun _ h => ⟨h.2.2.1, h.2.2.2.1, trivial⟩) (List.Perm.refl _) rfl ?_
  rintro _ _ _ ⟨us, rs, u, b, rfl, rfl, rfl, hus, hrs, hW⟩
  refine At.loud (l_alloc t40) rfl ?_
  rintro _ _ _ ⟨b3, rfl, rfl, rfl⟩
  refine At.loudN (l_store t40 rfl rfl (i := 0) rfl rfl rfl rfl) ?_
  rintro _ _ _ ⟨rfl, rfl⟩
  refine aN (aT (aE (aR ?_)))
  obtain ⟨u2, b2, nq, nm, oo, rfl, rfl, hq, hqr, hkid, hnm, hnmr, hmq, hoo, hool, him⟩ := way_join hs hn hnr hnb hW
  obtain ⟨y, hy, hyp⟩ := p_get (u := t) rfl hq
  obtain ⟨x, hx, hxn⟩ := p_get (u := t) rfl hn
  obtain ⟨xm, hxm, hxmn⟩ := p_get (u := t) rfl hnm
  have hsd0 : rs.l.getLast?.getD false = side := by rw [hrs]; exact last_snoc _ _
  have hul2 : us.l.length = u2.length + 1 := by rw [hus, toI_length]; simp
  have hlast : us.l[u2.length]? = some (q : Int) := by rw [hus, toI_snoc]; simp [toI]
  have hov : (if rs.l.getLast?.getD false then y.left else y.right) = (oo : Int) := by
   rw [hsd0, ← hoo, ← hyp]
   cases side <;> rfl
  have hql := lt_of_get hq
  have hml := lt_of_get hnm
  refine At.lenOf (hs := (.head _)) fun hlus => ?_
  rw [List.length_map] at hlus
  refine aQ (q_loadS t24 rfl (RdS.blk (ix 2 rfl) (m := 2) rfl) rfl) rfl ?_
  refine At.call en84 rfl (copied84 _ (by assumption) (by omega)) (fun _ h => ⟨h.2.2.2.2.1, h.2.2.2.2.2.1, trivial⟩) (List.Perm.refl _) rfl ?_
  rintro _ _ _ ⟨u, Mu, rfl, rfl, rfl, hu, hpu⟩
  refine At.loud (l_alloc t24) rfl ?_
  rintro _ _ _ ⟨b4, rfl, rfl, rfl⟩
  refine At.loudN (l_store t24 rfl rfl (i := 0) rfl rfl rfl rfl) ?_
  rintro _ _ _ ⟨rfl, rfl⟩
  refine aN (aT (aE (aR ?_)))
  have hul := p_len hpu
  obtain ⟨ym, hym, hymn⟩ := p_get hpu hnm
  refine At.know (prsP ⟨none, 0, []⟩) (fun _ h => sl_nil _ _ _ (Nat.zero_le _)) ?_
  refine aS 4 rfl rfl ?_
  refine aN (aT (aE (aE (aR ?_))))
  refine aQ (q_loadS t40 rfl (RdS.loc (i := 2) rfl (m := 3) rfl) rfl) rfl ?_
  refine At.call en32 rfl (right32 _) (fun _ h => ⟨h.2.2.2.1, trivial⟩) (List.Perm.refl _) rfl ?_
  rintro _ _ _ ⟨rfl, rfl, rfl⟩
  refine aN (aT ?_)
  refine At.cond rfl (fun hrg => ?_) (fun hrg => ?_)
  ·
   have hsd : side = true := by rw [← hsd0]; exact hrg
   refine At.know (prsP xm.ps) (fun _ h => psP_get h.2.2.2.2.2.2.2.1 hxm) ?_
   refine At.know (prsP x.ps) (fun _ h => psP_get h.2.2.2.2.2.2.2.2.1 hx) ?_
   refine aR ?_
   refine aS 4 rfl rfl ?_
   refine aN (aT (aE ?_))
   refine At.draw 18 (.q 0 (.q 1 (.q 2 (.q 3 (.q 4 (.q 5 (.q 6 (.q 7 (.q 8 (.q 9 (.q 10 (.q 11 (.q 12 (.q 13 (.q 14 (.o 15 (.o 16 (.q 17 (.e))))))))))))))))))) _ (List.Sublist.refl _) mixed (by kernel_rfl) rfl ?_
   refine oQ rfl (q_fieldAddr s24 rfl rfl rfl) rfl (cT cP) ?_
   refine oQ rfl (q_load t22 rfl (Rd.loc (i := 0) rfl rfl)) rfl (cT cP) ?_
   refine oQ rfl (q_move rfl) rfl (cT cP) ?_
   refine oQ rfl (q_fieldAddr s24 rfl rfl rfl) rfl (cT cP) ?_
   refine oQ rfl (q_load t22 rfl (Rd.blk (ix 6 rfl) rfl)) rfl (cT cP) ?_
   refine oQ rfl (q_move rfl) rfl (cT cP) ?_
   refine oQ rfl (q_index Try.underlying22 t33 rfl (ix 8 rfl) (by simp) rfl rfl (lt_of_get hxm)) rfl (cT cP) ?_
   refine oQ rfl (q_fieldAddr s33 rfl rfl rfl) rfl (cT cP) ?_
   refine oQ rfl (q_load t31 rfl (Rd.sl (ix 8 rfl) (map_get hxm) rfl)) rfl (cT cP) ?_
   refine oQ rfl (q_fieldAddr s24 rfl rfl rfl) rfl (cT cP) ?_
   refine oQ rfl (q_load t22 rfl (Rd.blk (ix 6 rfl) rfl)) rfl (cT cP) ?_
   refine oQ rfl (q_move rfl) rfl (cT cP) ?_
   refine oQ rfl (q_index Try.underlying22 t33 rfl (ix 8 rfl) (by simp) rfl rfl (lt_of_get hx)) rfl (cT cP) ?_
   refine oQ rfl (q_fieldAddr s33 rfl rfl rfl) rfl (cT cP) ?_
   refine oQ rfl (q_load t31 rfl (Rd.sl (ix 8 rfl) (map_get hx) rfl)) rfl (cT cP) ?_
   refine AtO.loud rfl (l_buildSlice Try.underlying134 t31 rfl rfl rfl rfl rfl) rfl (by rintro _ _ _ ⟨_, rfl, rfl, rfl⟩; exact ⟨fun _ h => h, d_ r_⟩) ?_
   rintro _ _ _ ⟨b5, rfl, rfl, rfl⟩
   refine AtO.front 0 rfl ?_
   refine AtO.callA rfl en85 rfl (concat85 xm.ps x.ps _ (hsm xm (List.mem_of_getElem? hxm)) (hsm x (List.mem_of_getElem? hx))) (fun _ h => ⟨h.2.1, h.1, trivial⟩) (List.Perm.refl _) rfl r_ ?_
   rintro _ _ _ ⟨cat, rfl, rfl, rfl, hcat⟩
   refine oQ rfl (q_build t33 s33 rfl rfl) rfl (cT cP) ?_
   refine AtO.done ?_
   refine aQ (q_indexOwn Try.underlying22 t33 rfl hu (by simp) rfl rfl (lt_of_get hym)) rfl ?_
   refine At.loudN (l_storeOwn0 t33 rfl rfl hu (i := 1) rfl (map_get hym) rfl rfl rfl) ?_
   rintro _ _ _ ⟨Mow1, ow1, rfl, rfl⟩
   refine aN (aT (aE (aR ?_)))
   have hO2 : Own 33 6 ((u.ns.l.set m (⟨false, 0, 0, 0, cat, 0⟩ : Nd)).map rowN) u.ns.a u.ns.c Mow1 := by rw [row_set]; exact ow1
   obtain ⟨z, hz⟩ := get_of_lt (l := u.ns.l.set m (⟨false, 0, 0, 0, cat, 0⟩ : Nd)) (i := oo) (by rw [List.length_set]; omega)
   obtain ⟨yq, hyq⟩ := get_of_lt (l := u.ns.l.set m (⟨false, 0, 0, 0, cat, 0⟩ : Nd)) (i := q) (by rw [List.length_set]; omega)
   have hzl := lt_of_get hz
   have hyql := lt_of_get hyq
   rw [List.length_set] at hzl hyql
   refine At.know (psP (u.ns.l.set m (⟨false, 0, 0, 0, cat, 0⟩ : Nd))) (fun _ h => psP_set (n := (⟨false, 0, 0, 0, cat, 0⟩ : Nd)) h.2.2.2.2.1 h.1) ?_
   refine At.know (prsP z.ps) (fun _ h => psP_get h.1 hz) ?_
   refine At.know (psP ((u.ns.l.set m (⟨false, 0, 0, 0, cat, 0⟩ : Nd)).set q z)) (fun _ h => psP_set (n := z) h.2.1 h.1) ?_
   refine aF s40 t37 rfl rfl rfl (Rd.loc (i := 2) rfl rfl) rfl rfl ?_
   refine aF s40 t37 rfl rfl rfl (Rd.loc (i := 2) rfl rfl) rfl rfl ?_
   refine aQ (q_len Try.underlying37 rfl) rfl ?_
   refine aQ (q_sub rfl rfl (by dsimp only; omega) (by dsimp only; omega)) rfl ?_
   refine aQ (q_index Try.underlying37 t3 rfl (ix 8 rfl) (by simp) rfl (by dsimp only; omega) (lt_of_get hlast)) rfl ?_
   refine aQ (q_load t3 rfl (Rd.sl0 (ix 8 rfl) (map_get hlast) rfl)) rfl ?_
   refine aS 1 rfl rfl ?_
   refine aN (aT (aE ?_))
   refine At.draw 10 (.q 0 (.q 1 (.q 2 (.q 3 (.q 4 (.q 5 (.q 6 (.o 7 (.q 8 (.q 9 (.e))))))))))) _ (List.Sublist.refl _) mixed (by kernel_rfl) rfl ?_
   refine oQ rfl (q_fieldAddr s24 rfl rfl rfl) rfl (cT cP) ?_
   refine oQ rfl (q_load t22 rfl (Rd.loc (i := 0) rfl rfl)) rfl (cT cP) ?_
   refine oQ rfl (q_move rfl) rfl (cT cP) ?_
   refine oQ rfl (q_fieldAddr s24 rfl rfl rfl) rfl (cT cP) ?_
   refine oQ rfl (q_load t22 rfl (Rd.loc (i := 0) rfl rfl)) rfl (cT cP) ?_
   refine oQ rfl (q_loadS t24 rfl (RdS.blk (ix 10 rfl) (m := 2) rfl) rfl) rfl (cT cP) ?_
   refine oQ rfl (q_loadS t40 rfl (RdS.loc (i := 2) rfl (m := 3) rfl) rfl) rfl (cT cP) ?_
   refine AtO.callA rfl en83 rfl (other83 t us rs (i : Int) q u2 y hus hy) (fun _ h => ⟨h.2.2.2.2.2.2.2.2.2.2.2.2.1, h.2.2.2.2.2.2.2.2.2.2.2.2.2.1, h.2.2.2.2.2.2.2.2.1, h.2.2.2.2.2.2.2.2.2.1, trivial⟩) (List.Perm.refl _) rfl r_ ?_
   rintro _ _ _ ⟨rfl, rfl, rfl⟩
   refine AtO.say 67 (.int .i64 (oo : Int)) rfl (congrArg (Value.int .i64) hov) ?_
   refine oQ rfl (q_indexOwn Try.underlying22 t33 rfl hO2 (by simp) rfl rfl hzl) rfl (cT cP) ?_
   refine oQ rfl (q_loadS t33 rfl (RdS.own0 hO2 (i := 1) rfl (map_get hz)) rfl) rfl (cT cP) ?_
   refine AtO.done ?_
   refine aQ (q_indexOwn Try.underlying22 t33 rfl hO2 (by simp) rfl rfl hyql) rfl ?_
   refine At.loudN (l_storeOwn0 t33 rfl rfl hO2 (i := 1) rfl (map_get hyq) rfl rfl rfl) ?_
   rintro _ _ _ ⟨Mow2, ow2, rfl, rfl⟩
   refine aN (aT (aE (aR ?_)))
   have hO3 : Own 33 6 (((u.ns.l.set m (⟨false, 0, 0, 0, cat, 0⟩ : Nd)).set q z).map rowN) u.ns.a u.ns.c Mow2 := by rw [row_set]; exact ow2
   have hcn : ((⟨false, 0, 0, 0, cat, 0⟩ : Nd) : Nd).p = joinN t.p.ns i m side := by
    rw [joinN_eq hn hnm, hsd]
    simp only [Nd.p]
    rw [hcat, ← hxn, ← hxmn]
    rfl
   have hp3 := p_set2 (a := u.ns.a) (c := u.ns.c) (i := m) (j := q) (m := (⟨false, 0, 0, 0, cat, 0⟩ : Nd)) (k := z) hpu
   obtain ⟨hHc, hlay⟩ := join_hang (cn := ((⟨false, 0, 0, 0, cat, 0⟩ : Nd) : Nd).p) (z := z.p) hs hnb hq hnm hnmr hmq rfl hoo (set_get hpu hz)
   have hHc2 : Hangs (⟨u.root, ⟨u.ns.a, u.ns.c, ((u.ns.l.set m (⟨false, 0, 0, 0, cat, 0⟩ : Nd)).set q z)⟩⟩ : Tr).p.ns (s.cutR i) (⟨u.root, ⟨u.ns.a, u.ns.c, ((u.ns.l.set m (⟨false, 0, 0, 0, cat, 0⟩ : Nd)).set q z)⟩⟩ : Tr).root := by
    rw [hp3]
    have hr : u.root = t.p.root := congrArg PT.root hpu
    show Hangs _ _ u.root
    rw [hr]
    exact hHc
   refine At.freezeOwn 1 hO3 rfl ?_
   refine aQ (q_loadS t24 rfl (RdS.loc (i := 0) rfl (m := 2) rfl) rfl) rfl ?_
   refine At.say 71 (Tr.val ⟨u.root, ⟨u.ns.a, u.ns.c, ((u.ns.l.set m (⟨false, 0, 0, 0, cat, 0⟩ : Nd)).set q z)⟩⟩) rfl (by rw [set_val, List.length_set]; rfl) ?_
   refine At.call en86 rfl (laid86 ⟨u.root, ⟨u.ns.a, u.ns.c, ((u.ns.l.set m (⟨false, 0, 0, 0, cat, 0⟩ : Nd)).set q z)⟩⟩ (s.cutR i) hHc2 (join_size i hs)) (fun _ h => ⟨h.1, h.2.1, trivial⟩) (List.Perm.refl _) rfl ?_
   rintro _ _ _ ⟨w, Mw, rfl, rfl, rfl, hw, hpw⟩
   refine At.loudN (l_store t24 rfl rfl (i := 3) rfl rfl rfl rfl) ?_
   rintro _ _ _ ⟨rfl, rfl⟩
   have hje := join_eq hs hlf hnb
   have hpw2 : w.p = ⟨0, (s.cut i).lay (t.p.ns.set m (joinN t.p.ns i m side)) 0⟩ := by rw [hpw, hp3, hlay, hcn]
   refine At.freezeOwn 0 hw rfl ?_
   refine aS 1 rfl rfl ?_
   refine aN (aT (At.ret ?_))
   exact At.results (Γr := [_, _]) (M := []) rfl (RVals.cons (RVal.cellS rfl t24 (RdS.loc (i := 2) rfl (m := 2) rfl) rfl) (RVals.cons (RVal.tmp rfl) RVals.nil)) (ix 14 rfl) (fun _ h => ⟨h.1, h.2.1, trivial⟩) (d_ (d_ (d_ r_))) ⟨w, by rw [hje]; rfl, rfl, rfl, by rw [hje]; exact hpw2⟩
  ·
   have hsd : side = false := by rw [← hsd0]; exact hrg
   refine At.know (prsP x.ps) (fun _ h => psP_get h.2.2.2.2.2.2.2.1 hx) ?_
   refine At.know (prsP xm.ps) (fun _ h => psP_get h.2.2.2.2.2.2.2.2.1 hxm) ?_
   refine At.skip (aT (aE ?_))
   refine At.draw 18 (.q 0 (.q 1 (.q 2 (.q 3 (.q 4 (.q 5 (.q 6 (.q 7 (.q 8 (.q 9 (.q 10 (.q 11 (.q 12 (.q 13 (.q 14 (.o 15 (.o 16 (.q 17 (.e))))))))))))))))))) _ (List.Sublist.refl _) mixed (by kernel_rfl) rfl ?_
   refine oQ rfl (q_fieldAddr s24 rfl rfl rfl) rfl (cT cP) ?_
   refine oQ rfl (q_load t22 rfl (Rd.loc (i := 0) rfl rfl)) rfl (cT cP) ?_
   refine oQ rfl (q_move rfl) rfl (cT cP) ?_
   refine oQ rfl (q_fieldAddr s24 rfl rfl rfl) rfl (cT cP) ?_
   refine oQ rfl (q_load t22 rfl (Rd.blk (ix 6 rfl) rfl)) rfl (cT cP) ?_
   refine oQ rfl (q_move rfl) rfl (cT cP) ?_
   refine oQ rfl (q_index Try.underlying22 t33 rfl (ix 8 rfl) (by simp) rfl rfl (lt_of_get hx)) rfl (cT cP) ?_
   refine oQ rfl (q_fieldAddr s33 rfl rfl rfl) rfl (cT cP) ?_
   refine oQ rfl (q_load t31 rfl (Rd.sl (ix 8 rfl) (map_get hx) rfl)) rfl (cT cP) ?_
   refine oQ rfl (q_fieldAddr s24 rfl rfl rfl) rfl (cT cP) ?_
   refine oQ rfl (q_load t22 rfl (Rd.blk (ix 6 rfl) rfl)) rfl (cT cP) ?_
   refine oQ rfl (q_move rfl) rfl (cT cP) ?_
   refine oQ rfl (q_index Try.underlying22 t33 rfl (ix 8 rfl) (by simp) rfl rfl (lt_of_get hxm)) rfl (cT cP) ?_
   refine oQ rfl (q_fieldAddr s33 rfl rfl rfl) rfl (cT cP) ?_
   refine oQ rfl (q_load t31 rfl (Rd.sl (ix 8 rfl) (map_get hxm) rfl)) rfl (cT cP) ?_
   refine AtO.loud rfl (l_buildSlice Try.underlying134 t31 rfl rfl rfl rfl rfl) rfl (by rintro _ _ _ ⟨_, rfl, rfl, rfl⟩; exact ⟨fun _ h => h, d_ r_⟩) ?_
   rintro _ _ _ ⟨b6, rfl, rfl, rfl⟩
   refine AtO.front 0 rfl ?_
   refine AtO.callA rfl en85 rfl (concat85 x.ps xm.ps _ (hsm x (List.mem_of_getElem? hx)) (hsm xm (List.mem_of_getElem? hxm))) (fun _ h => ⟨h.2.1, h.1, trivial⟩) (List.Perm.refl _) rfl r_ ?_
   rintro _ _ _ ⟨cat, rfl, rfl, rfl, hcat⟩
   refine oQ rfl (q_build t33 s33 rfl rfl) rfl (cT cP) ?_
   refine AtO.done ?_
   refine aQ (q_indexOwn Try.underlying22 t33 rfl hu (by simp) rfl rfl (lt_of_get hym)) rfl ?_
   refine At.loudN (l_storeOwn0 t33 rfl rfl hu (i := 1) rfl (map_get hym) rfl rfl rfl) ?_
   rintro _ _ _ ⟨Mow3, ow3, rfl, rfl⟩
   refine aN (aT (aE (aR ?_)))
   have hO2 : Own 33 6 ((u.ns.l.set m (⟨false, 0, 0, 0, cat, 0⟩ : Nd)).map rowN) u.ns.a u.ns.c Mow3 := by rw [row_set]; exact ow3
   obtain ⟨z, hz⟩ := get_of_lt (l := u.ns.l.set m (⟨false, 0, 0, 0, cat, 0⟩ : Nd)) (i := oo) (by rw [List.length_set]; omega)
   obtain ⟨yq, hyq⟩ := get_of_lt (l := u.ns.l.set m (⟨false, 0, 0, 0, cat, 0⟩ : Nd)) (i := q) (by rw [List.length_set]; omega)
   have hzl := lt_of_get hz
   have hyql := lt_of_get hyq
   rw [List.length_set] at hzl hyql
   refine At.know (psP (u.ns.l.set m (⟨false, 0, 0, 0, cat, 0⟩ : Nd))) (fun _ h => psP_set (n := (⟨false, 0, 0, 0, cat, 0⟩ : Nd)) h.2.2.2.2.1 h.1) ?_
   refine At.know (prsP z.ps) (fun _ h => psP_get h.1 hz) ?_
   refine At.know (psP ((u.ns.l.set m (⟨false, 0, 0, 0, cat, 0⟩ : Nd)).set q z)) (fun _ h => psP_set (n := z) h.2.1 h.1) ?_
   refine aF s40 t37 rfl rfl rfl (Rd.loc (i := 2) rfl rfl) rfl rfl ?_
   refine aF s40 t37 rfl rfl rfl (Rd.loc (i := 2) rfl rfl) rfl rfl ?_
   refine aQ (q_len Try.underlying37 rfl) rfl ?_
   refine aQ (q_sub rfl rfl (by dsimp only; omega) (by dsimp only; omega)) rfl ?_
   refine aQ (q_index Try.underlying37 t3 rfl (ix 8 rfl) (by simp) rfl (by dsimp only; omega) (lt_of_get hlast)) rfl ?_
   refine aQ (q_load t3 rfl (Rd.sl0 (ix 8 rfl) (map_get hlast) rfl)) rfl ?_
   refine aS 1 rfl rfl ?_
   refine aN (aT (aE ?_))
   refine At.draw 10 (.q 0 (.q 1 (.q 2 (.q 3 (.q 4 (.q 5 (.q 6 (.o 7 (.q 8 (.q 9 (.e))))))))))) _ (List.Sublist.refl _) mixed (by kernel_rfl) rfl ?_
   refine oQ rfl (q_fieldAddr s24 rfl rfl rfl) rfl (cT cP) ?_
   refine oQ rfl (q_load t22 rfl (Rd.loc (i := 0) rfl rfl)) rfl (cT cP) ?_
   refine oQ rfl (q_move rfl) rfl (cT cP) ?_
   refine oQ rfl (q_fieldAddr s24 rfl rfl rfl) rfl (cT cP) ?_
   refine oQ rfl (q_load t22 rfl (Rd.loc (i := 0) rfl rfl)) rfl (cT cP) ?_
   refine oQ rfl (q_loadS t24 rfl (RdS.blk (ix 10 rfl) (m := 2) rfl) rfl) rfl (cT cP) ?_
   refine oQ rfl (q_loadS t40 rfl (RdS.loc (i := 2) rfl (m := 3) rfl) rfl) rfl (cT cP) ?_
   refine AtO.callA rfl en83 rfl (other83 t us rs (i : Int) q u2 y hus hy) (fun _ h => ⟨h.2.2.2.2.2.2.2.2.2.2.2.2.1, h.2.2.2.2.2.2.2.2.2.2.2.2.2.1, h.2.2.2.2.2.2.2.2.1, h.2.2.2.2.2.2.2.2.2.1, trivial⟩) (List.Perm.refl _) rfl r_ ?_
   rintro _ _ _ ⟨rfl, rfl, rfl⟩
   refine AtO.say 67 (.int .i64 (oo : Int)) rfl (congrArg (Value.int .i64) hov) ?_
   refine oQ rfl (q_indexOwn Try.underlying22 t33 rfl hO2 (by simp) rfl rfl hzl) rfl (cT cP) ?_
   refine oQ rfl (q_loadS t33 rfl (RdS.own0 hO2 (i := 1) rfl (map_get hz)) rfl) rfl (cT cP) ?_
   refine AtO.done ?_
   refine aQ (q_indexOwn Try.underlying22 t33 rfl hO2 (by simp) rfl rfl hyql) rfl ?_
   refine At.loudN (l_storeOwn0 t33 rfl rfl hO2 (i := 1) rfl (map_get hyq) rfl rfl rfl) ?_
   rintro _ _ _ ⟨Mow4, ow4, rfl, rfl⟩
   refine aN (aT (aE (aR ?_)))
   have hO3 : Own 33 6 (((u.ns.l.set m (⟨false, 0, 0, 0, cat, 0⟩ : Nd)).set q z).map rowN) u.ns.a u.ns.c Mow4 := by rw [row_set]; exact ow4
   have hcn : ((⟨false, 0, 0, 0, cat, 0⟩ : Nd) : Nd).p = joinN t.p.ns i m side := by
    rw [joinN_eq hn hnm, hsd]
    simp only [Nd.p]
    rw [hcat, ← hxn, ← hxmn]
    rfl
   have hp3 := p_set2 (a := u.ns.a) (c := u.ns.c) (i := m) (j := q) (m := (⟨false, 0, 0, 0, cat, 0⟩ : Nd)) (k := z) hpu
   obtain ⟨hHc, hlay⟩ := join_hang (cn := ((⟨false, 0, 0, 0, cat, 0⟩ : Nd) : Nd).p) (z := z.p) hs hnb hq hnm hnmr hmq rfl hoo (set_get hpu hz)
   have hHc2 : Hangs (⟨u.root, ⟨u.ns.a, u.ns.c, ((u.ns.l.set m (⟨false, 0, 0, 0, cat, 0⟩ : Nd)).set q z)⟩⟩ : Tr).p.ns (s.cutR i) (⟨u.root, ⟨u.ns.a, u.ns.c, ((u.ns.l.set m (⟨false, 0, 0, 0, cat, 0⟩ : Nd)).set q z)⟩⟩ : Tr).root := by
    rw [hp3]
    have hr : u.root = t.p.root := congrArg PT.root hpu
    show Hangs _ _ u.root
    rw [hr]
    exact hHc
   refine At.freezeOwn 1 hO3 rfl ?_
   refine aQ (q_loadS t24 rfl (RdS.loc (i := 0) rfl (m := 2) rfl) rfl) rfl ?_
   refine At.say 71 (Tr.val ⟨u.root, ⟨u.ns.a, u.ns.c, ((u.ns.l.set m (⟨false, 0, 0, 0, cat, 0⟩ : Nd)).set q z)⟩⟩) rfl (by rw [set_val, List.length_set]; rfl) ?_
   refine At.call en86 rfl (laid86 ⟨u.root, ⟨u.ns.a, u.ns.c, ((u.ns.l.set m (⟨false, 0, 0, 0, cat, 0⟩ : Nd)).set q z)⟩⟩ (s.cutR i) hHc2 (join_size i hs)) (fun _ h => ⟨h.1, h.2.1, trivial⟩) (List.Perm.refl _) rfl ?_
   rintro _ _ _ ⟨w, Mw, rfl, rfl, rfl, hw, hpw⟩
   refine At.loudN (l_store t24 rfl rfl (i := 3) rfl rfl rfl rfl) ?_
   rintro _ _ _ ⟨rfl, rfl⟩
   have hje := join_eq hs hlf hnb
   have hpw2 : w.p = ⟨0, (s.cut i).lay (t.p.ns.set m (joinN t.p.ns i m side)) 0⟩ := by rw [hpw, hp3, hlay, hcn]
   refine At.freezeOwn 0 hw rfl ?_
   refine aS 1 rfl rfl ?_
   refine aN (aT (At.ret ?_))
   exact At.results (Γr := [_, _]) (M := []) rfl (RVals.cons (RVal.cellS rfl t24 (RdS.loc (i := 2) rfl (m := 2) rfl) rfl) (RVals.cons (RVal.tmp rfl) RVals.nil)) (ix 14 rfl) (fun _ h => ⟨h.1, h.2.1, trivial⟩) (d_ (d_ (d_ r_))) ⟨w, by rw [hje]; rfl, rfl, rfl, by rw [hje]; exact hpw2⟩
end Go.Proofs.Ytmkodknmknfdkaa
set_option linter.unusedVariables false
set_option linter.unusedSimpArgs false
namespace Go.Proofs.Ytmkodknmknfdkaa
open E
set_option maxRecDepth 4000
theorem en47 : Enters Try.prog 47 := Enters.mk' Try.func47 rfl rfl
theorem en48 : Enters Try.prog 48 := Enters.mk' Try.func48 rfl rfl
end Go.Proofs.Ytmkodknmknfdkaa
set_option linter.unusedVariables false
set_option linter.unusedSimpArgs false
namespace Go.Proofs.Ytmkodknmknfdkaa
open E
def Fit2 (ns : List Nod) : Sh → Kb → Prop
 | .leaf i, k => ∃ n, ns[i]? = some n ∧ n.route = false ∧ leafOk n k = true
 | .node i l r, k => ∃ n, ns[i]? = some n ∧ n.route = true ∧ routeOk n k = true ∧ Fit2 ns l (k.lefts n.key) ∧ Fit2 ns r (k.rights n.key)
theorem fit2_of {ns : List Nod} {s : Sh} {a : Int} {k : Kb} (h : Fits ns s a k) : Fit2 ns s k := by
 induction s generalizing a k with
 | leaf i => obtain ⟨_, n, h1⟩ := h; exact ⟨n, h1⟩
 | node i l r h1 h2 => obtain ⟨_, n, hn, hr, hk, hl, hr'⟩ := h; exact ⟨n, hn, hr, hk, h1 hl, h2 hr'⟩
theorem fit2_congr {ns ns' : List Nod} {s : Sh} {k : Kb} (h : Fit2 ns s k) (he : ∀ p ∈ s.places, ns'[p]? = ns[p]?) : Fit2 ns' s k := by
 induction s generalizing k with
 | leaf i => obtain ⟨n, hn, h1⟩ := h; exact ⟨n, by rw [he i (by simp [Sh.places])]; exact hn, h1⟩
 | node i l r h1 h2 =>
  obtain ⟨n, hn, hr, hk, hl, hr'⟩ := h
  exact ⟨n, by rw [he i (by simp [Sh.places])]; exact hn, hr, hk, h1 hl fun p hp => he p (by simp [Sh.places, hp]), h2 hr' fun p hp => he p (by simp [Sh.places, hp])⟩
theorem fits_congr {ns ns' : List Nod} {s : Sh} {a : Int} {k : Kb} (h : Fits ns s a k) (he : ∀ p ∈ s.places, ns'[p]? = ns[p]?) : Fits ns' s a k := by
 induction s generalizing a k with
 | leaf i => obtain ⟨h0, n, hn, h1⟩ := h; exact ⟨h0, n, by rw [he i (by simp [Sh.places])]; exact hn, h1⟩
 | node i l r h1 h2 =>
  obtain ⟨h0, n, hn, hr, hk, hl, hr'⟩ := h
  exact ⟨h0, n, by rw [he i (by simp [Sh.places])]; exact hn, hr, hk, h1 hl fun p hp => he p (by simp [Sh.places, hp]), h2 hr' fun p hp => he p (by simp [Sh.places, hp])⟩
theorem fit2_lay {ns : List Nod} {s : Sh} {k : Kb} (h : Fit2 ns s k) : ∀ (b : Nat) (pre post : List Nod), pre.length = b → Fits (pre ++ s.lay ns b ++ post) (s.straight b) (b : Int) k := by
 induction s generalizing k with
 | leaf i =>
  obtain ⟨n, hn, hr, hk⟩ := h
  rintro b pre post rfl
  refine ⟨rfl, n, ?_, hr, hk⟩
  simp only [Sh.lay, getD_of hn]
  simp
 | node i l r h1 h2 =>
  obtain ⟨n, hn, hr, hk, hl, hr'⟩ := h
  rintro b pre post rfl
  simp only [Sh.lay, getD_of hn, Sh.straight]
  refine ⟨rfl, { n with left := ((pre.length + 1 : Nat) : Int), right := ((pre.length + 1 + l.size : Nat) : Int) }, by simp, hr, hk, ?_, ?_⟩
  ·have := h1 hl (pre.length + 1) (pre ++ [{ n with left := ((pre.length + 1 : Nat) : Int), right := ((pre.length + 1 + l.size : Nat) : Int) }]) (r.lay ns (pre.length + 1 + l.size) ++ post) (by simp)
   simpa [List.append_assoc] using this
  ·have := h2 hr' (pre.length + 1 + l.size) (pre ++ { n with left := ((pre.length + 1 : Nat) : Int), right := ((pre.length + 1 + l.size : Nat) : Int) } :: l.lay ns (pre.length + 1)) post (by simp [Sh.lay_length]; omega)
   simpa [List.append_assoc] using this
theorem straight_leaves (s : Sh) (b : Nat) : (s.straight b).leaves.length = s.leaves.length := by
 induction s generalizing b with
 | leaf i => rfl
 | node i l r h1 h2 => simp only [Sh.straight, Sh.leaves, List.length_append, h1, h2]
theorem fit2_pairs {ns : List Nod} {s : Sh} {k : Kb} (h : Fit2 ns s k) (b : Nat) : (s.lay ns b).flatMap (·.l) = s.leaves.flatMap fun i => (ns.getD i default).l := by
 induction s generalizing k b with
 | leaf i => simp [Sh.leaves, Sh.lay]
 | node i l r h1 h2 =>
  obtain ⟨n, hn, hr, hk, hl, hr'⟩ := h
  simp only [Sh.leaves, Sh.lay, List.flatMap_append, List.flatMap_cons, getD_of hn]
  rw [(route_pure hk).1, h1 hl (b + 1), h2 hr' (b + 1 + l.size)]
  simp
/-- A shape that fits, laid, may be. -/
theorem laid_may {ns : List Nod} {s : Sh} (h : Fit2 ns s Kb.all) (hz : s.size ≤ 2000) : mayT ⟨0, s.lay ns 0⟩ = some (s.straight 0) := by
 have hf := fit2_lay h 0 [] [] rfl
 simp only [List.nil_append, List.append_nil] at hf
 refine may_of_fits (by rw [Sh.lay_length]; exact hz) hf ?_ fun i hi => ?_
 ·rw [straight_places]; exact List.nodup_range'
 ·rw [straight_places, List.mem_range'_1]
  rw [Sh.lay_length] at hi
  omega
theorem fit2_lay_lay {ns : List Nod} {s : Sh} {k : Kb} (h : Fit2 ns s k) : ∀ (b : Nat) (pre post : List Nod), pre.length = b → (s.straight b).lay (pre ++ s.lay ns b ++ post) b = s.lay ns b := by
 induction s generalizing k with
 | leaf i =>
  rintro b pre post rfl
  simp [Sh.straight, Sh.lay]
 | node i l r h1 h2 =>
  obtain ⟨n, hn, hr, hk, hl, hr'⟩ := h
  rintro b pre post rfl
  have e1 := h1 hl (pre.length + 1) (pre ++ [{ n with left := ((pre.length + 1 : Nat) : Int), right := ((pre.length + 1 + l.size : Nat) : Int) }]) (r.lay ns (pre.length + 1 + l.size) ++ post) (by simp)
  have e2 := h2 hr' (pre.length + 1 + l.size) (pre ++ { n with left := ((pre.length + 1 : Nat) : Int), right := ((pre.length + 1 + l.size : Nat) : Int) } :: l.lay ns (pre.length + 1)) post (by simp [Sh.lay_length]; omega)
  simp only [List.append_assoc, List.cons_append, List.nil_append] at e1 e2
  simp only [Sh.lay, getD_of hn, Sh.straight, straight_size, List.append_assoc, List.cons_append]
  rw [e1, e2]
  simp [List.getD_eq_getElem?_getD]
theorem laid_plain {ns : List Nod} {s : Sh} (h : Fit2 ns s Kb.all) (hz : s.size ≤ 2000) : plainD ⟨0, s.lay ns 0⟩ = ⟨0, s.lay ns 0⟩ := by
 have hl := fit2_lay_lay h 0 [] [] rfl
 simp only [List.nil_append, List.append_nil] at hl
 simp [plainD, plainT, laid_may h hz, hl]
theorem laid_all {ns : List Nod} {s : Sh} (h : Fit2 ns s Kb.all) (hz : s.size ≤ 2000) : allT ⟨0, s.lay ns 0⟩ = s.leaves.flatMap fun i => (ns.getD i default).l := by
 rw [all_plain, laid_plain h hz]
 exact fit2_pairs h 0
theorem laid_leaves {ns : List Nod} {s : Sh} (h : Fit2 ns s Kb.all) (hz : s.size ≤ 2000) : (leavesT ⟨0, s.lay ns 0⟩).length = s.leaves.length := by
 rw [leavesT_eq (laid_may h hz), straight_leaves]
def Kb.sub (k k' : Kb) : Prop := (∀ x, k.has x = true → k'.has x = true) ∧ (∀ x, k.has x = true → (k'.isLeast = true → x = k'.least → k.isLeast = true ∧ x = k.least))
theorem leafOk_mono {n : Nod} {k k' : Kb} (h : leafOk n k = true) (hs : k.sub k') : leafOk n k' = true := by
 rw [leafOk_parts] at h ⊢
 exact ⟨h.1, h.2.1, h.2.2.1, h.2.2.2.1, h.2.2.2.2.1, h.2.2.2.2.2.1, fun p hp => hs.1 _ (h.2.2.2.2.2.2 p hp)⟩
theorem routeOk_mk {n : Nod} {k : Kb} (h1 : n.l = []) (h2 : n.stat = 0) (h3 : k.has n.key = true) (h4 : ¬ (k.isLeast = true ∧ n.key = k.least)) : routeOk n k = true := by
 simp only [routeOk, h1, h2, h3, List.isEmpty_nil, Bool.true_and, decide_true, Bool.not_eq_true', Bool.and_eq_false_iff, decide_eq_false_iff_not]
 by_cases hL : k.isLeast = true
 ·exact .inr fun e => h4 ⟨hL, e⟩
 ·left; simpa using hL
theorem routeOk_mono {n : Nod} {k k' : Kb} (h : routeOk n k = true) (hs : k.sub k') : routeOk n k' = true := by
 obtain ⟨h1, h2, h3, h4⟩ := routeOk_parts h
 exact routeOk_mk h1 h2 (hs.1 _ h3) fun ⟨a, b⟩ => h4 (hs.2 _ h3 a b)
theorem sub_lefts {k k' : Kb} {key : Int} (hk : k.has key = true) (hs : k.sub k') : (k.lefts key).sub (k'.lefts key) :=
  ⟨fun x hx => by
    obtain ⟨h1, h2⟩ := (has_lefts hk).1 hx
    exact (has_lefts (hs.1 _ hk)).2 ⟨hs.1 _ h1, h2⟩,
   fun x hx a b => hs.2 x ((has_lefts hk).1 hx).1 a b⟩
theorem sub_rights {k k' : Kb} {key : Int} (hk : k.has key = true) (hs : k.sub k') : (k.rights key).sub (k'.rights key) :=
  ⟨fun x hx => by
    obtain ⟨h1, h2⟩ := (has_rights hk).1 hx
    exact (has_rights (hs.1 _ hk)).2 ⟨hs.1 _ h1, h2⟩,
   fun x hx a b => ⟨rfl, b⟩⟩
theorem fits_mono {ns : List Nod} {s : Sh} {a : Int} {k k' : Kb} (h : Fits ns s a k) (hs : k.sub k') : Fits ns s a k' := by
 induction s generalizing a k k' with
 | leaf i => obtain ⟨h0, n, hn, hr, hk⟩ := h; exact ⟨h0, n, hn, hr, leafOk_mono hk hs⟩
 | node i l r h1 h2 =>
  obtain ⟨h0, n, hn, hr, hk, hl, hr'⟩ := h
  have hh := (routeOk_parts hk).2.2.1
  exact ⟨h0, n, hn, hr, routeOk_mono hk hs, h1 hl (sub_lefts hh hs), h2 hr' (sub_rights hh hs)⟩
theorem rights_sub {k : Kb} {key : Int} (hk : k.has key = true) (hne : ¬ (k.isLeast = true ∧ key = k.least)) : (k.rights key).sub k :=
 ⟨fun x hx => ((has_rights hk).1 hx).1, fun x hx a b => by
  have h1 := ((has_rights hk).1 hx).2
  have h2 := (has_iff.1 hk).1 a
  exact absurd ⟨a, by omega⟩ hne⟩
theorem lefts_sub {k : Kb} {key : Int} (hk : k.has key = true) : (k.lefts key).sub k :=
 ⟨fun x hx => ((has_lefts hk).1 hx).1, fun x hx a b => ⟨a, b⟩⟩
theorem find_first {ns : List Nod} {s : Sh} {a : Int} {k : Kb} {x : Int} (h : Fits ns s a k) (hx : ∀ y, k.has y = true → x < y) : (s.find ns x).leaf = s.first := by
 induction s generalizing a k with
 | leaf i => rfl
 | node i l r h1 h2 =>
  obtain ⟨_, n, hn, _, hk, hl, _⟩ := h
  have hh := (routeOk_parts hk).2.2.1
  simp only [Sh.find, Sh.first, getD_of hn, if_pos (hx _ hh)]
  exact h1 hl fun y hy => hx y ((has_lefts hh).1 hy).1
theorem find_last {ns : List Nod} {s : Sh} {a : Int} {k : Kb} {x : Int} (h : Fits ns s a k) (hx : ∀ y, k.has y = true → y ≤ x) : (s.find ns x).leaf = s.last := by
 induction s generalizing a k with
 | leaf i => rfl
 | node i l r h1 h2 =>
  obtain ⟨_, n, hn, _, hk, _, hr⟩ := h
  have hh := (routeOk_parts hk).2.2.1
  have := hx _ hh
  simp only [Sh.find, Sh.last, getD_of hn, if_neg (show ¬ x < n.key by omega)]
  exact h2 hr fun y hy => hx y ((has_rights hh).1 hy).1
theorem first_mem (s : Sh) : s.first ∈ s.leaves := by obtain ⟨l, h⟩ := first_leaves s; rw [h]; simp
theorem last_mem (s : Sh) : s.last ∈ s.leaves := by obtain ⟨l, h⟩ := last_leaves s; rw [h]; simp
theorem leaf_join {xl nl : Nod} {cn : Nod} {k1 k2 k : Kb} (h1 : leafOk xl k1 = true) (h2 : leafOk nl k2 = true) (hc : cn = ⟨false, 0, 0, 0, xl.l ++ nl.l, 0⟩) (hlt : ∀ p ∈ xl.l, ∀ q ∈ nl.l, p.k < q.k) (ha : ∀ p ∈ xl.l, k.has p.k = true) (hb : ∀ p ∈ nl.l, k.has p.k = true) : leafOk cn k = true := by
 subst hc
 rw [leafOk_parts] at h1 h2 ⊢
 refine ⟨rfl, rfl, rfl, rises_pw.2 (List.pairwise_append.2 ⟨rises_pw.1 h1.2.2.2.1, rises_pw.1 h2.2.2.2.1, hlt⟩), by show (-1000000 : Int) ≤ 0; decide, by show (0 : Int) ≤ 1000000; decide, fun p hp => ?_⟩
 rcases List.mem_append.1 hp with h | h
 ·exact ha p h
 ·exact hb p h
theorem flat_set {ns : List Nod} {l : List Nat} {m : Nat} {cn : Nod} (h : m ∉ l) : (l.flatMap fun i => ((ns.set m cn).getD i default).l) = l.flatMap fun i => (ns.getD i default).l := by
 induction l with
 | nil => rfl
 | cons x l ih =>
  simp only [List.mem_cons, not_or] at h
  simp only [List.flatMap_cons, ih h.2]
  rw [List.getD_eq_getElem?_getD, List.getD_eq_getElem?_getD, List.getElem?_set_ne h.1]
/-- A leaf joined to its neighbour. -/
theorem cut_fit {ns : List Nod} {s : Sh} {a : Int} {k : Kb} {i q m : Nat} {side : Bool} (h : Fits ns s a k) (hnd : s.places.Nodup) (hnb : s.nb i = some (q, side, m)) :
  Fit2 (ns.set m (joinN ns i m side)) (s.cut i) k ∧ ((s.cut i).leaves.flatMap fun j => ((ns.set m (joinN ns i m side)).getD j default).l) = (s.leaves.flatMap fun j => (ns.getD j default).l) ∧ (s.cut i).leaves.length + 1 = s.leaves.length ∧ (s.cut i).size + 2 = s.size := by
 induction s generalizing a k with
 | leaf j => cases hnb
 | node j l r h1 h2 =>
  obtain ⟨rfl, n, hn, hr, hk, hl, hrr⟩ := h
  obtain ⟨c1, c2, d1, d2, d3⟩ := nodup_node hnd
  obtain ⟨_, _, hh, hne⟩ := routeOk_parts hk
  simp only [Sh.nb] at hnb
  simp only [Sh.cut, Sh.leaves, List.flatMap_append, List.length_append]
  split at hnb
  ·rename_i e
   cases hnb
   subst e
   rw [if_pos rfl]
   obtain ⟨_, x, hx, hxr, hxk⟩ := hl
   have hmem := first_mem r
   obtain ⟨nm, hm, hmr, hmk⟩ := fits_leaf hrr d2 hmem
   have hlen := lt_of_get hm
   have hjn : joinN ns i r.first false = ⟨false, 0, 0, 0, x.l ++ nm.l, 0⟩ := by rw [joinN_eq hx hm]; rfl
   have hrk := fits_mono hrr (rights_sub hh hne)
   have hxp := (leafOk_parts.1 hxk).2.2.2.2.2.2
   have hmp := (leafOk_parts.1 hmk).2.2.2.2.2.2
   obtain ⟨nm2, hm2, _, hmk2⟩ := fits_leaf hrk d2 hmem
   rw [hm] at hm2
   cases hm2
   have hok : leafOk (joinN ns i r.first false) (r.bd ns k r.first) = true := by
    refine leaf_join hxk hmk hjn (fun p hp q hq => ?_) (fun p hp => ?_) (leafOk_parts.1 hmk2).2.2.2.2.2.2
    ·have a1 := ((has_lefts hh).1 (hxp p hp)).2
     have a2 := ((has_rights hh).1 (bd_sub hrr (hmp q hq))).2
     omega
    ·have a1 := (has_lefts hh).1 (hxp p hp)
     refine (find_iff hrk d2 hmem a1.1).1 (find_first hrr fun y hy => ?_)
     have := ((has_rights hh).1 hy).2
     omega
   refine ⟨fit2_of ((fits_set hrk d2 hmem (by rw [hjn])).2 hok), ?_, by simp [Sh.leaves]; omega, by simp only [Sh.size]; omega⟩
   obtain ⟨rest, hrest⟩ := first_leaves r
   have hnr : r.first ∉ rest := by
    have := leaves_nodup d2
    rw [hrest] at this
    exact (List.nodup_cons.1 this).1
   rw [hrest]
   simp only [show (Sh.leaf i).leaves = [i] from rfl, List.flatMap_cons, List.flatMap_nil, List.append_nil, flat_set hnr]
   have e1 : (ns.set r.first (joinN ns i r.first false)).getD r.first default = joinN ns i r.first false := by
    rw [List.getD_eq_getElem?_getD, List.getElem?_set_self hlen]; rfl
   rw [e1, hjn, getD_of hx, getD_of hm]
   simp
  ·rename_i e
   split at hnb
   ·rename_i e'
    cases hnb
    subst e'
    rw [if_neg e, if_pos rfl]
    obtain ⟨_, x, hx, hxr, hxk⟩ := hrr
    have hmem := last_mem l
    obtain ⟨nm, hm, hmr, hmk⟩ := fits_leaf hl d1 hmem
    have hlen := lt_of_get hm
    have hjn : joinN ns i l.last true = ⟨false, 0, 0, 0, nm.l ++ x.l, 0⟩ := by rw [joinN_eq hx hm]; rfl
    have hlk := fits_mono hl (lefts_sub hh)
    have hxp := (leafOk_parts.1 hxk).2.2.2.2.2.2
    have hmp := (leafOk_parts.1 hmk).2.2.2.2.2.2
    obtain ⟨nm2, hm2, _, hmk2⟩ := fits_leaf hlk d1 hmem
    rw [hm] at hm2
    cases hm2
    have hok : leafOk (joinN ns i l.last true) (l.bd ns k l.last) = true := by
     refine leaf_join hmk hxk hjn (fun p hp q hq => ?_) (leafOk_parts.1 hmk2).2.2.2.2.2.2 (fun p hp => ?_)
     ·have a1 := ((has_lefts hh).1 (bd_sub hl (hmp p hp))).2
      have a2 := ((has_rights hh).1 (hxp q hq)).2
      omega
     ·have a1 := (has_rights hh).1 (hxp p hp)
      refine (find_iff hlk d1 hmem a1.1).1 (find_last hl fun y hy => ?_)
      have := ((has_lefts hh).1 hy).2
      omega
    refine ⟨fit2_of ((fits_set hlk d1 hmem (by rw [hjn])).2 hok), ?_, by simp [Sh.leaves], by simp only [Sh.size]; omega⟩
    obtain ⟨rest, hrest⟩ := last_leaves l
    have hnr : l.last ∉ rest := by
     have := leaves_nodup d1
     rw [hrest] at this
     intro hc
     exact (List.nodup_append.1 this).2.2 _ hc _ (by simp) rfl
    rw [hrest]
    simp only [show (Sh.leaf i).leaves = [i] from rfl, List.flatMap_append, List.flatMap_cons, List.flatMap_nil, List.append_nil, flat_set hnr]
    have e1 : (ns.set l.last (joinN ns i l.last true)).getD l.last default = joinN ns i l.last true := by
     rw [List.getD_eq_getElem?_getD, List.getElem?_set_self hlen]; rfl
    rw [e1, hjn, getD_of hx, getD_of hm]
    simp
   ·rename_i e'
    rw [if_neg e, if_neg e']
    have cutNo : ∀ {s' : Sh}, i ∉ s'.places → s'.cut i = s' := by
     intro s'
     induction s' with
     | leaf k => intro _; rfl
     | node k l' r' g1 g2 =>
      intro hi
      simp only [Sh.places, List.mem_cons, List.mem_append, not_or] at hi
      have n1 : l' ≠ .leaf i := fun e => hi.2.1 (by rw [e]; simp [Sh.places])
      have n2 : r' ≠ .leaf i := fun e => hi.2.2 (by rw [e]; simp [Sh.places])
      simp only [Sh.cut, if_neg n1, if_neg n2, g1 hi.2.1, g2 hi.2.2]
    split at hnb
    ·rename_i y hy
     cases hnb
     obtain ⟨g1, g2, g3, g4⟩ := h1 hl d1 hy
     have him := leaves_places m (nb_leafs hy)
     have hir : i ∉ r.places := d3 i (leaves_places i (nb_mem hy))
     have hmr : m ∉ r.places := d3 m him
     have hmj : m ≠ j := fun e => c1 (e ▸ him)
     rw [cutNo hir]
     refine ⟨⟨n, by rw [List.getElem?_set_ne hmj]; exact hn, hr, hk, g1, fit2_congr (fit2_of hrr) fun p hp => List.getElem?_set_ne (fun e => hmr (by rw [e]; exact hp))⟩, ?_, ?_, ?_⟩
     ·simp only [Sh.leaves, List.flatMap_append, g2]
      rw [flat_set fun hc => hmr (leaves_places m hc)]
     ·simp only [Sh.leaves, List.length_append]; omega
     ·simp only [Sh.size]; omega
    ·rename_i hno
     obtain ⟨g1, g2, g3, g4⟩ := h2 hrr d2 hnb
     have him := leaves_places m (nb_leafs hnb)
     have hil : i ∉ l.places := fun h3 => d3 i h3 (leaves_places i (nb_mem hnb))
     have hml : m ∉ l.places := fun h3 => d3 m h3 him
     have hmj : m ≠ j := fun e => c2 (e ▸ him)
     rw [cutNo hil]
     refine ⟨⟨n, by rw [List.getElem?_set_ne hmj]; exact hn, hr, hk, fit2_congr (fit2_of hl) fun p hp => List.getElem?_set_ne (fun e => hml (by rw [e]; exact hp)), g1⟩, ?_, ?_, ?_⟩
     ·simp only [Sh.leaves, List.flatMap_append, g2]
      rw [flat_set fun hc => hml (leaves_places m hc)]
     ·simp only [Sh.leaves, List.length_append]; omega
     ·simp only [Sh.size]; omega
/-- Joined: it may be; a leaf less; all pairs as they were. -/
theorem join_keeps {t u : PT} {a : Int} (h : joinT t a = some u) : (mayT u).isSome = true ∧ (leavesT u).length + 1 = (leavesT t).length ∧ allT u = allT t ∧ plainD u = u := by
 unfold joinT at h
 split at h
 ·cases hs : mayT t with
  | none => rw [hs] at h; cases h
  | some s =>
   rw [hs] at h
   simp only [] at h
   cases hnb : s.nb a.toNat with
   | none => rw [hnb] at h; cases h
   | some x =>
    obtain ⟨q, side, m⟩ := x
    rw [hnb] at h
    cases h
    obtain ⟨g1, g2, g3, g4⟩ := cut_fit (may_fits hs) (good_of hs).nodup hnb
    have hz : (s.cut a.toNat).size ≤ 2000 := by
     have h1 := (good_of hs).size
     have h2 := (good_of hs).few
     omega
    refine ⟨by rw [laid_may g1 hz]; rfl, ?_, ?_, laid_plain g1 hz⟩
    ·rw [laid_leaves g1 hz, leavesT_eq hs]; exact g3
    ·rw [laid_all g1 hz, g2, allT, leavesT_eq hs]
 ·cases h
end Go.Proofs.Ytmkodknmknfdkaa
